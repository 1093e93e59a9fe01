/- Part10: ShardR, Exec2, ShardL4, Exec3, Exec4, Exec5, LayN, Num, LayP, Num2, one behind the other. -/
import Derived.Test.YtpghckiochjogaaGreatDoorPart9
import Derived.Test.YtpghckiochjogaaGreatDoorPart3
import Derived.Test.YtpghckiochjogaaGreatDoorPart4
import Derived.Shelf.Strconv.Itoa2
import Derived.Shelf.Strings.Prefix
import Derived.Ground.NamesProg
import Derived.Shelf.Abstract
import Derived.Test.YtpghckiochjogaaGreatDoorProg
import Derived.Shelf.Strconv.Itoa3
import Derived.Lib.AppendIntMem
import Derived.Shelf.Pu.ParseUintPublic10
import Derived.Ground.MpProg
import Derived.Lib.ConvBytes
/- Layer 11: a shard in a law's run: M calls at most were made of it. -/
namespace Go.Proofs.YtpghckiochjogaaGreatDoor.Shard
open Go Go.RowKit Go.Proofs.YtpghckiochjogaaGreatDoor.Mem Go.Proofs.YtpghckiochjogaaGreatDoor.App
def nn (M : Nat) : Nat := M * M + 4 * M
theorem nn_succ (M : Nat) : nn M + M + 4 ≤ nn (M + 1) := by
  have h : (M + 1) * (M + 1) = M * M + M + M + 1 := by rw [Nat.add_mul, Nat.mul_add]; omega
  unfold nn; omega
theorem nn_le {M m : Nat} (h : M ≤ m) : nn M ≤ nn m := by
  have := Nat.mul_le_mul h h
  unfold nn; omega
theorem nn_max {M : Nat} (h : M ≤ 1050000) : nn M ≤ 1102504200000 := by have := nn_le h; have : nn 1050000 = 1102504200000 := rfl; omega
structure Run (W w : World) (M b : Nat) (col : Col) (seed : Int) (s : St) : Prop where
  at_ : At W w M b col seed s
  inv : Inv M (nn M) s
def RunTurn (W w : World) (M b : Nat) (col : Col) (seed : Int) (s : St) (w' : World) : Prop := ∃ col', Run W w' M b col' seed s ∧ Fr col col' w w'
section
variable {W w w' : World} {M b : Nat} {col : Col} {seed : Int} {s : St}
theorem Run.step (h : Run W w M b col seed s) (hb : Below w.heap.size w w') : Run W w' M b col seed s := ⟨h.at_.step hb, h.inv⟩
theorem Run.below (h : Run W w M b col seed s) : Below W.heap.size W w := by
  obtain ⟨ad, vd, vv, e, h⟩ := h.at_
  exact h.below
theorem Run.low (h : Run W w M b col seed s) : ∀ k, col k ≠ none → W.heap.size ≤ k ∧ k < w.heap.size := by
  obtain ⟨ad, vd, vv, e, h⟩ := h.at_
  intro k hk
  rcases hc : col k with _ | p
  · exact absurd hc hk
  · exact h.lt k p hc
theorem RunTurn.of {M' : Nat} {t : St} (h : Turn W w M' b col seed t w') (hm : M' ≤ M) (hM : M ≤ 1050000) (hi : Inv M (nn M) t) : RunTurn W w M b col seed t w' := by
  obtain ⟨c, a, f⟩ := h
  exact ⟨c, ⟨a.more hm (by omega), hi⟩, f⟩
theorem Run.vals (h : Run W w M b col seed s) : ∀ p ∈ s.tab.L, (s.ent p.2).it.val.length ≤ 100000000 := fun p hp => by
  have h1 := (h.inv.ents p hp).2.2.1
  unfold Item.size at h1
  omega
theorem Run.olen (h : Run W w M b col seed s) : s.order.all.length ≤ M := by have := h.inv.olen; have := h.inv.len; omega
def Apart (col : Col) (v : Value) (xs : List UInt8) : Prop := xs ≠ [] → ∀ g, v.ownBlock = some g → col g = none
theorem store_run (h : Run W w M b col seed s) (hM : M + 1 ≤ 1050000) (it : Item) (a : Option Addr) (c : Nat) (env : Env) (hks : it.key.size ≤ 2000000) (hvs : it.val.length ≤ 2000000) (hsrc : SrcB w (.slice a it.val.length c) it.val) (hsc : Apart col (.slice a it.val.length c) it.val) :
    Calls Tryz.prog 76 #[.pointer (some ⟨b, 0, none⟩), .agg (it.arr (.slice a it.val.length c)), .agg env.arr] w fun e w' => ∃ fresh, (∀ p ∈ s.tab.L, p.2 ≠ fresh) ∧ e = .returned (.int .i64 (s.store fresh it env).1) ∧ RunTurn W w (M + 1) b col seed (s.store fresh it env).2 w' := by
  have hn := nn_max (M := M) (by omega)
  refine (store_any h.at_ (by omega) h.inv it a c env hks hvs hsrc hsc (by omega) (by omega)).mono ?_
  rintro e w' ⟨fresh, h1, h2, h3⟩
  exact ⟨fresh, h1, h2, RunTurn.of h3 (Nat.le_refl _) hM ((h.inv.store hks h1).mono (Nat.le_refl _) (nn_succ M))⟩
theorem look_run (h : Run W w M b col seed s) (hM : M + 1 ≤ 1050000) (k : ByteArray) (env : Env) (hk : k.size ≤ maxLen) :
    Calls Tryz.prog 33 #[.pointer (some ⟨b, 0, none⟩), .string k, .agg env.arr] w fun e w' => RunTurn W w (M + 1) b col seed (s.find k env).2 w' ∧ (match (s.find k env).1 with
      | some x => ∃ v, e = .returned (.tuple #[.agg ((s.ent x).it.arr v), .bool true]) ∧ OwnB w' w.heap.size v (s.ent x).it.val
      | none => e = .returned (.tuple #[.agg zeroI, .bool false])) := by
  have hn := nn_max (M := M) (by omega)
  have hol := h.olen
  have hns := nn_succ M
  refine (look_any h.at_ k env hk (by omega) h.inv.smallN (by omega) (by rw [remove_drops]; have := h.inv.dl; show s.drops.length ≤ _; omega) (fun x hx => h.vals _ ((Tab.get_mem h.inv.rise.nodup).1 hx))).mono ?_
  rintro e w' ⟨h1, h2⟩
  exact ⟨RunTurn.of h1 (by omega) hM ((h.inv.find k env).mono (by omega) (by omega)), h2⟩
theorem use_run (h : Run W w M b col seed s) (hM : M ≤ 1050000) (k : ByteArray) (hk : k.size ≤ maxLen) :
    Calls Tryz.prog 34 #[.pointer (some ⟨b, 0, none⟩), .string k] w fun e w' => e = .returned (.tuple #[]) ∧ RunTurn W w M b col seed { s with judge := s.judge.touch k.data.toList, order := (s.order.hit k).2 } w' := by
  have hol := h.olen
  refine (use_any h.at_ k hk (by omega)).mono ?_
  rintro e w' ⟨h1, h2⟩
  refine ⟨h1, RunTurn.of h2 (Nat.le_refl _) hM ?_⟩
  have hall : (s.order.hit k).2.all.Perm s.order.all := by
    unfold Slru.St.hit
    by_cases hm : k ∈ s.order.all
    · rw [if_pos hm]
      have hp : (Slru.without s.order.trial k ++ (Slru.without s.order.safe k ++ [k])).Perm s.order.all := by
        rw [← List.append_assoc, ← without_app]
        refine (List.perm_append_singleton k _).trans ?_
        refine (List.perm_ext_iff_of_nodup (List.nodup_cons.2 ⟨fun e => (mem_without.1 e).2 rfl, h.inv.ond.sublist List.filter_sublist⟩) h.inv.ond).2 fun x => ?_
        rw [List.mem_cons, mem_without]
        constructor
        · rintro (rfl | hx)
          · exact hm
          · exact hx.1
        · intro hx
          by_cases e : x = k
          · exact .inl e
          · exact .inr ⟨hx, e⟩
      unfold Slru.St.moved
      split
      · refine List.Perm.trans ?_ hp
        show ((Slru.without s.order.trial k ++ (Slru.without s.order.safe k ++ [k]).take 1) ++ (Slru.without s.order.safe k ++ [k]).drop 1).Perm _
        rw [List.append_assoc, List.take_append_drop]
      · exact hp
    · rw [if_neg hm]
  exact ⟨h.inv.slab, h.inv.rise, fun j => by show j ∈ (s.order.hit k).2.all ↔ _; rw [hall.mem_iff]; exact h.inv.keys j, hall.nodup_iff.2 h.inv.ond, h.inv.ents, h.inv.mem, h.inv.len, h.inv.dl⟩
theorem update_run (h : Run W w M b col seed s) (hM : M ≤ 1050000) (it : Item) (a : Option Addr) (c : Nat) (hks : it.key.size ≤ 2000000) (hvs : it.val.length ≤ 2000000) (hsrc : SrcB w (.slice a it.val.length c) it.val) (hsc : Apart col (.slice a it.val.length c) it.val) :
    Calls Tryz.prog 78 #[.pointer (some ⟨b, 0, none⟩), .agg (it.arr (.slice a it.val.length c))] w fun e w' => e = .returned (.int .i64 (s.update it).1) ∧ RunTurn W w M b col seed (s.update it).2 w' := by
  refine (update_any h.at_ (by omega) h.inv it a c hks hvs hsrc hsc).mono ?_
  rintro e w' ⟨h1, h2⟩
  exact ⟨h1, RunTurn.of h2 (Nat.le_refl _) hM (h.inv.update it)⟩
theorem remove_run (h : Run W w M b col seed s) (hM : M + 1 ≤ 1050000) (k : ByteArray) (hk : k.size ≤ maxLen) :
    Calls Tryz.prog 60 #[.pointer (some ⟨b, 0, none⟩), .string k] w fun e w' => e = .returned (.bool (s.remove k).1) ∧ RunTurn W w (M + 1) b col seed (s.remove k).2 w' := by
  have hn := nn_max (M := M) (by omega)
  have hol := h.olen
  have hns := nn_succ M
  refine (remove_any h.at_ k hk (by omega) h.inv.smallN (by omega)).mono ?_
  rintro e w' ⟨h1, h2⟩
  exact ⟨h1, RunTurn.of h2 (by omega) hM ((h.inv.remove k).mono (by omega) (by omega))⟩
theorem Run.more {m : Nat} (h : Run W w M b col seed s) (hm : M ≤ m) (hM : m ≤ 1050000) : Run W w m b col seed s := ⟨h.at_.more hm (by omega), h.inv.mono hm (nn_le hm)⟩
theorem new_run (hb : Below W.heap.size W w) (seed budget protect : Int) (h0 : 0 ≤ seed) (h1 : seed < 18446744073709551616) (hbud : -9223372036854775808 ≤ budget ∧ budget ≤ 9223372036854775807) :
    Calls Tryz.prog 18 #[.int .u64 seed, .int .i64 budget, .int .i64 protect] w fun e w' => ∃ b col, e = .returned (.pointer (some ⟨b, 0, none⟩)) ∧ Run W w' 0 b col seed (St.new seed budget protect) ∧ (∀ k, col k ≠ none → w.heap.size ≤ k) ∧ Below w.heap.size w w' :=
  (new_any hb seed budget protect h0 h1).mono fun _ _ ⟨b, col, he, ha, hl, hw⟩ => ⟨b, col, he, ⟨ha, Inv.new seed budget protect hbud⟩, hl, hw⟩
end
end Go.Proofs.YtpghckiochjogaaGreatDoor.Shard

/- Layer 12: view, fresh, store. -/
namespace Go.Proofs.YtpghckiochjogaaGreatDoor.Exec
set_option maxRecDepth 100000
open Go Go.RowKit Go.Proofs.YtpghckiochjogaaGreatDoor.Mem Go.Proofs.YtpghckiochjogaaGreatDoor.App Go.Proofs.YtpghckiochjogaaGreatDoor.Shard
theorem set9 (w : World) (b : Nat) (v0 v1 v2 v3 v4 v5 v6 v7 v8 : Value) {k : Nat} (hk : k ≠ b) : (((((((((w.setCell ⟨b, 0, none⟩ v0).setCell ⟨b, 1, none⟩ v1).setCell ⟨b, 2, none⟩ v2).setCell ⟨b, 3, none⟩ v3).setCell ⟨b, 4, none⟩ v4).setCell ⟨b, 5, none⟩ v5).setCell ⟨b, 6, none⟩ v6).setCell ⟨b, 7, none⟩ v7).setCell ⟨b, 8, none⟩ v8).heap[k]? = w.heap[k]? := by
  repeat rw [Below.heap_setCell _ _ _ _ hk]
theorem set9_row {w : World} {b : Nat} {T : TypeId} (h : w.heap[b]? = some (.cells zeroR T (0, 0))) (v0 v1 v2 v3 v4 v5 v6 v7 v8 : Value) : (((((((((w.setCell ⟨b, 0, none⟩ v0).setCell ⟨b, 1, none⟩ v1).setCell ⟨b, 2, none⟩ v2).setCell ⟨b, 3, none⟩ v3).setCell ⟨b, 4, none⟩ v4).setCell ⟨b, 5, none⟩ v5).setCell ⟨b, 6, none⟩ v6).setCell ⟨b, 7, none⟩ v7).setCell ⟨b, 8, none⟩ v8).heap[b]? = some (.cells #[v0, v1, v2, v3, v4, v5, v6, v7, v8] T (0, 0)) := by
  have h9 := Mem.row_set (Mem.row_set (Mem.row_set (Mem.row_set (Mem.row_set (Mem.row_set (Mem.row_set (Mem.row_set (Mem.row_set h 0 v0) 1 v1) 2 v2) 3 v3) 4 v4) 5 v5) 6 v6) 7 v7) 8 v8
  rw [h9]
  simp [zeroR]
theorem set9_below {w0 w : World} {B b : Nat} (h : Below B w0 w) (hb : B ≤ b) (v0 v1 v2 v3 v4 v5 v6 v7 v8 : Value) : Below B w0 (((((((((w.setCell ⟨b, 0, none⟩ v0).setCell ⟨b, 1, none⟩ v1).setCell ⟨b, 2, none⟩ v2).setCell ⟨b, 3, none⟩ v3).setCell ⟨b, 4, none⟩ v4).setCell ⟨b, 5, none⟩ v5).setCell ⟨b, 6, none⟩ v6).setCell ⟨b, 7, none⟩ v7).setCell ⟨b, 8, none⟩ v8) :=
  ((((((((h.setCell (p := ⟨b, 0, none⟩) hb v0).setCell (p := ⟨b, 1, none⟩) hb v1).setCell (p := ⟨b, 2, none⟩) hb v2).setCell (p := ⟨b, 3, none⟩) hb v3).setCell (p := ⟨b, 4, none⟩) hb v4).setCell (p := ⟨b, 5, none⟩) hb v5).setCell (p := ⟨b, 6, none⟩) hb v6).setCell (p := ⟨b, 7, none⟩) hb v7).setCell (p := ⟨b, 8, none⟩) hb v8
set_option maxHeartbeats 4000000 in
theorem view_any (b : Nat) (c : Cmd) (cv : Value) (env : Env) (it : Shard.Item) (a : Option Addr) (k : Nat) (w : World) : Calls Tryz.prog 79 #[.agg (rarr b c cv env), .agg (it.arr (.slice a it.val.length k))] w fun e w' => e = .returned (.agg ((view it env).arr (.slice a it.val.length k))) ∧ Below w.heap.size w w' := by
  obtain ⟨n, hn⟩ : ∃ n, it.val.length = n := ⟨_, rfl⟩
  rw [hn]
  clear hn
  have ht := fun w' => ttl_any it (.slice a n k) env.now w'
  obtain ⟨tt, htt⟩ : ∃ t, ttlS it env.now = t := ⟨_, rfl⟩
  rw [htt] at ht
  have hvw : view it env = ⟨0, it.val, it.flags, it.cas, tt, 0, it.stale, false, false⟩ := by unfold view; rw [htt]
  rw [hvw]
  have hb2 : Below w.heap.size w ((w.alloc (.cells (rarr b c cv env) 86)).alloc (.cells (it.arr (.slice a n k)) 51)) := Mem.al (Mem.al (Below.refl _ _) _) _
  have n1 : ((w.alloc (.cells (rarr b c cv env) 86)).alloc (.cells (it.arr (.slice a n k)) 51)).heap[w.heap.size]? = some (.cells (rarr b c cv env) 86 (0, 0)) := Mem.new_later (Mem.new_block w _) _
  have n2 : ((w.alloc (.cells (rarr b c cv env) 86)).alloc (.cells (it.arr (.slice a n k)) 51)).heap[w.heap.size + 1]? = some (.cells (it.arr (.slice a n k)) 51 (0, 0)) := Mem.new_block2 w _ _
  have hz : ((w.alloc (.cells (rarr b c cv env) 86)).alloc (.cells (it.arr (.slice a n k)) 51)).heap.size = w.heap.size + 1 + 1 := by simp
  obtain ⟨w0, hw0⟩ : ∃ w0, (w.alloc (.cells (rarr b c cv env) 86)).alloc (.cells (it.arr (.slice a n k)) 51) = w0 := ⟨_, rfl⟩
  rw [hw0] at hb2 n1 n2 hz
  have hb3 := Mem.al (Below.refl w0.heap.size w0) (.cells zeroR 37)
  have n3 := Mem.new_block w0 (.cells zeroR 37)
  have n1' := (hb3.block _ (by omega)).trans n1
  have n2' := (hb3.block _ (by omega)).trans n2
  have hz3 : (w0.alloc (.cells zeroR 37)).heap.size = w.heap.size + 3 := by simp [hz]
  obtain ⟨w1, hw1⟩ : ∃ w1, w0.alloc (.cells zeroR 37) = w1 := ⟨_, rfl⟩
  rw [hw1] at hb3 n3 n1' n2' hz3
  have HB := Lib.hid (And.intro (Mem.tr hb2 (hb3.mono (by omega))) (And.intro n1' (And.intro n2' (And.intro n3 (And.intro hz3 hz)))))
  have h0 := Mem.row_cell n2' 0
  have h1 := Mem.row_cell n2' 1
  have h2 := Mem.row_cell n2' 2
  have h3 := Mem.row_cell n2' 3
  have h4 := Mem.row_cell n2' 4
  have h5 := Mem.row_cell n2' 5
  have h6 := Mem.row_cell n2' 6
  have h7 := Mem.row_cell n2' 7
  have h8 := Mem.row_cell n2' 8
  have h9 := Mem.row_cell n2' 9
  have h11 := Mem.row_cell n1' 11
  simp only [rarr, Item.arr, List.getElem?_toArray, List.getElem?_cons_zero, List.getElem?_cons_succ] at h0 h1 h2 h3 h4 h5 h6 h7 h8 h9 h11
  clear hb2 htt n1 n2 n1' n2' n3 hb3 hvw hz hz3
  unfold rarr Item.arr at *
  unfold zeroR at hw1
  go_enter Tryz.func79, Tryz.ntmps79
  go_wp2_with fail
  go_region_held3 (fun W' : World => W'.cell? ⟨w.heap.size + 1, 0, none⟩ = some (.string it.key) ∧ W'.cell? ⟨w.heap.size + 1, 1, none⟩ = some (.slice a n k) ∧ W'.cell? ⟨w.heap.size + 1, 2, none⟩ = some (.int .u32 it.flags) ∧ W'.cell? ⟨w.heap.size + 1, 3, none⟩ = some (.int .i64 it.exp) ∧ W'.cell? ⟨w.heap.size + 1, 4, none⟩ = some (.int .u64 it.cas) ∧ W'.cell? ⟨w.heap.size + 1, 5, none⟩ = some (.int .i64 it.sec) ∧ W'.cell? ⟨w.heap.size + 1, 6, none⟩ = some (.int .u64 it.seq) ∧ W'.cell? ⟨w.heap.size + 1, 7, none⟩ = some (.bool it.stale) ∧ W'.cell? ⟨w.heap.size + 1, 8, none⟩ = some (.bool it.won) ∧ W'.cell? ⟨w.heap.size + 1, 9, none⟩ = some (.bool it.seen) ∧ W'.cell? ⟨w.heap.size, 11, none⟩ = some (.int .i64 env.now))
      (first
        | (have hk9 := fun (B i : Nat) (hB : B < w1.heap.size) => World.cell?_of_block (a := ⟨B, i, none⟩) (HT.out.block B hB); have hz9 := HB.out.2.2.2.2.1; have hz8 := HB.out.2.2.2.2.2; have hs9 := fun (v0 v1 v2 v3 v4 v5 v6 v7 v8 : Value) (B i : Nat) (hB : B ≠ w0.heap.size) => World.cell?_of_block (a := ⟨B, i, none⟩) (set9 wT w0.heap.size v0 v1 v2 v3 v4 v5 v6 v7 v8 hB); with_reducible exact ⟨(hs9 _ _ _ _ _ _ _ _ _ _ 0 (by omega)).trans ((hk9 _ 0 (by omega)).trans h0), (hs9 _ _ _ _ _ _ _ _ _ _ 1 (by omega)).trans ((hk9 _ 1 (by omega)).trans h1), (hs9 _ _ _ _ _ _ _ _ _ _ 2 (by omega)).trans ((hk9 _ 2 (by omega)).trans h2), (hs9 _ _ _ _ _ _ _ _ _ _ 3 (by omega)).trans ((hk9 _ 3 (by omega)).trans h3), (hs9 _ _ _ _ _ _ _ _ _ _ 4 (by omega)).trans ((hk9 _ 4 (by omega)).trans h4), (hs9 _ _ _ _ _ _ _ _ _ _ 5 (by omega)).trans ((hk9 _ 5 (by omega)).trans h5), (hs9 _ _ _ _ _ _ _ _ _ _ 6 (by omega)).trans ((hk9 _ 6 (by omega)).trans h6), (hs9 _ _ _ _ _ _ _ _ _ _ 7 (by omega)).trans ((hk9 _ 7 (by omega)).trans h7), (hs9 _ _ _ _ _ _ _ _ _ _ 8 (by omega)).trans ((hk9 _ 8 (by omega)).trans h8), (hs9 _ _ _ _ _ _ _ _ _ _ 9 (by omega)).trans ((hk9 _ 9 (by omega)).trans h9), (hs9 _ _ _ _ _ _ _ _ _ _ 11 (by omega)).trans ((hk9 _ 11 (by omega)).trans h11)⟩)
        | (have hk9 := fun (B i : Nat) (hB : B < w1.heap.size) => World.cell?_of_block (a := ⟨B, i, none⟩) (HT.out.block B hB); have hz9 := HB.out.2.2.2.2.1; have hz8 := HB.out.2.2.2.2.2; with_reducible exact ⟨(hk9 _ 0 (by omega)).trans h0, (hk9 _ 1 (by omega)).trans h1, (hk9 _ 2 (by omega)).trans h2, (hk9 _ 3 (by omega)).trans h3, (hk9 _ 4 (by omega)).trans h4, (hk9 _ 5 (by omega)).trans h5, (hk9 _ 6 (by omega)).trans h6, (hk9 _ 7 (by omega)).trans h7, (hk9 _ 8 (by omega)).trans h8, (hk9 _ 9 (by omega)).trans h9, (hk9 _ 11 (by omega)).trans h11⟩)
        | exact ⟨h0, h1, h2, h3, h4, h5, h6, h7, h8, h9, h11⟩)
      (first
        | (go_at_call 115; refine (ht _).mono ?_; rintro en wT ⟨rfl, hT⟩; replace hT := Mem.tr (Below.drew (Below.refl w1.heap.size w1)) hT; have HT := Lib.hid hT; have e3 := (hT.block w0.heap.size (by have := HB.out.2.2.2.2; omega)).trans HB.out.2.2.2.1; have c0 := Mem.row_cell e3 0; have c1 := Mem.row_cell e3 1; have c2 := Mem.row_cell e3 2; have c3 := Mem.row_cell e3 3; have c4 := Mem.row_cell e3 4; have c5 := Mem.row_cell e3 5; have c6 := Mem.row_cell e3 6; have c7 := Mem.row_cell e3 7; have c8 := Mem.row_cell e3 8; have f0 := Mem.row_free e3 0; have f1 := Mem.row_free e3 1; have f2 := Mem.row_free e3 2; have f3 := Mem.row_free e3 3; have f4 := Mem.row_free e3 4; have f5 := Mem.row_free e3 5; have f6 := Mem.row_free e3 6; have f7 := Mem.row_free e3 7; have f8 := Mem.row_free e3 8; simp only [zeroR, List.getElem?_toArray, List.getElem?_cons_zero, List.getElem?_cons_succ] at c0 c1 c2 c3 c4 c5 c6 c7 c8; clear hT))
  go_wp2_with fail
  have hrow := set9_row e3 (.int .i64 0) (.slice a n k) (.int .u32 it.flags) (.int .u64 it.cas) (.int .i64 tt) (.int .u64 0) (.bool it.stale) (.bool false) (.bool false)
  refine bodyPost_ret (results_cell_row Tryz.results79 _ _ w0.heap.size _ _ _ _ rfl hrow Tryz.underlying37 rfl (res_size ⟨0, it.val, it.flags, it.cas, tt, 0, it.stale, false, false⟩ (.slice a n k))) rfl ?_
  exact ⟨rfl, set9_below (HB.out.1.trans (HT.out.mono (by have := HB.out.2.2.2.2.1; omega))) (by have := HB.out.2.2.2.2.2; omega) _ _ _ _ _ _ _ _ _⟩
theorem item_one' (it : Shard.Item) (a : Option Addr) (n k : Nat) : (it.arr (.slice a n k)).all (·.oneCell') = true := by
  unfold Item.arr
  rw [List.all_toArray]
  simp [Value.oneCell']
set_option maxHeartbeats 2000000 in
theorem fresh_any (b : Nat) (c : Cmd) (cv : Value) (env : Env) (xs : List UInt8) (a : Option Addr) (n k : Nat) (flags exp : Int) (w : World) : Calls Tryz.prog 52 #[.agg (rarr b c cv env), .slice a n k, .int .u32 flags, .int .i64 exp] w fun e w' => e = .returned (.agg ((freshI c env xs flags exp).arr (.slice a n k))) ∧ Below w.heap.size w w' := by
  have hb2 : Below w.heap.size w ((w.alloc (.cells (rarr b c cv env) 86)).alloc (.cells Shard.zeroI 51)) := Mem.al (Mem.al (Below.refl _ _) _) _
  have n1 : ((w.alloc (.cells (rarr b c cv env) 86)).alloc (.cells Shard.zeroI 51)).heap[w.heap.size]? = some (.cells (rarr b c cv env) 86 (0, 0)) := Mem.new_later (Mem.new_block w _) _
  have n2 : ((w.alloc (.cells (rarr b c cv env) 86)).alloc (.cells Shard.zeroI 51)).heap[w.heap.size + 1]? = some (.cells Shard.zeroI 51 (0, 0)) := Mem.new_block2 w _ _
  have h2 := Mem.row_cell n1 2
  have h11 := Mem.row_cell n1 11
  have h12 := Mem.row_cell n1 12
  obtain ⟨w1, hw1⟩ : ∃ w1, (w.alloc (.cells (rarr b c cv env) 86)).alloc (.cells Shard.zeroI 51) = w1 := ⟨_, rfl⟩
  rw [hw1] at hb2 n1 n2 h2 h11 h12
  simp only [rarr, List.getElem?_toArray, List.getElem?_cons_zero, List.getElem?_cons_succ] at h2 h11 h12
  have HB := Lib.hid (And.intro hb2 n2)
  clear hb2 n1 n2
  unfold rarr Shard.zeroI at hw1
  unfold rarr
  go_enter Tryz.func52, Tryz.ntmps52
  go_wp2_with (first
    | (refine wpList_store_row rfl 51 _ _ rfl (w.heap.size + 1) ((freshI c env xs flags exp).arr (.slice a n k)) rfl rfl 51 Shard.zeroI HB.out.2 (Shard.item_size _ _) rfl (item_one' _ _ _ _) ?_)
    | fail)
  have hrow := setRow_heap _ _ _ ((freshI c env xs flags exp).arr (.slice a n k)) _ _ HB.out.2
  refine bodyPost_ret (results_cell_row Tryz.results52 _ _ (w.heap.size + 1) _ _ _ _ rfl hrow Tryz.underlying51 rfl (Shard.item_size _ _)) rfl ?_
  exact ⟨rfl, below_setRow HB.out.1 (by omega) _⟩
end Go.Proofs.YtpghckiochjogaaGreatDoor.Exec

/- Layer 11, the laws' own functions: awake. -/
namespace Go.Proofs.YtpghckiochjogaaGreatDoor.Shard
set_option maxRecDepth 100000
open Go Go.RowKit Go.Proofs.YtpghckiochjogaaGreatDoor.Mem Go.Proofs.YtpghckiochjogaaGreatDoor.App
theorem Fr.own {col col' : Col} {w w' : World} (f : Fr col col' w w') {k : Nat} (hk : k < w.heap.size) (hc : col k = none) : w'.heap[k]? = w.heap[k]? ∧ col' k = none ∧ k < w'.heap.size :=
  ⟨f.keep hk hc, Classical.byContradiction fun e => (f.2 k e).elim (fun e1 => e1 hc) (fun e1 => by omega), Nat.lt_of_lt_of_le hk f.1.size⟩
theorem Run.none {W w : World} {M b : Nat} {col : Col} {seed : Int} {s : St} (h : Run W w M b col seed s) {k : Nat} (hk : w.heap.size ≤ k) : col k = .none := Classical.byContradiction fun e => by have := (h.low k e).2; omega
theorem src_nil (w : World) : SrcB w (.slice none 0 0) [] := .inr (.inl ⟨rfl, rfl, rfl⟩)
theorem apart_nil (col : Col) (v : Value) : Apart col v [] := fun h => absurd rfl h
end Go.Proofs.YtpghckiochjogaaGreatDoor.Shard

/- Layer 12: what a function of exec leaves; store. -/
namespace Go.Proofs.YtpghckiochjogaaGreatDoor.Exec
set_option maxRecDepth 100000
open Go Go.RowKit Go.Proofs.YtpghckiochjogaaGreatDoor.Mem Go.Proofs.YtpghckiochjogaaGreatDoor.App Go.Proofs.YtpghckiochjogaaGreatDoor.Shard
structure Val (w : World) (col : Col) (v : Value) (xs : List UInt8) : Prop where
  src : SrcB w v xs
  own : Apart col v xs
def ExecP (W w : World) (M b : Nat) (col : Col) (seed : Int) (L : Tab.Pairs Nat) (g : Nat → Res × St) (e : Ending) (w' : World) : Prop :=
  ∃ f v col', (∀ p ∈ L, p.2 ≠ f) ∧ e = .returned (.agg ((g f).1.arr v)) ∧ Run W w' M b col' seed (g f).2 ∧ Fr col col' w w' ∧ Val w' col' v (g f).1.val
structure In (W w0 w : World) (M b : Nat) (col0 col : Col) (seed : Int) (s : St) (B1 B2 : Nat) : Prop where
  run : Run W w M b col seed s
  fr : Fr col0 col w0 w
  low : w0.heap.size ≤ B1
  mine : ∀ k, B1 ≤ k → k < B2 → col k = none
  hi : B2 ≤ w.heap.size
  wl : W.heap.size ≤ w0.heap.size
theorem Box.turn {w w' : World} {col col' : Col} (f : Fr col col' w w') {k : Nat} {o : Obj} (h : w.heap[k]? = some o) (hc : col k = none) : w'.heap[k]? = some o ∧ col' k = none :=
  have hk := (Array.getElem?_eq_some_iff.1 h).1
  ⟨(Shard.Fr.own f hk hc).1.trans h, (Shard.Fr.own f hk hc).2.1⟩
theorem Val.turn {w w' : World} {col col' : Col} {v : Value} {xs : List UInt8} (f : Fr col col' w w') (h : Val w col v xs) : Val w' col' v xs :=
  ⟨h.src.same (fun hx g e hg => (Shard.Fr.own f hg (h.own hx g e)).1) f.1.size, fun hx g e => Classical.byContradiction fun hn => by
    rcases h.src with ⟨e1, _⟩ | h1
    · exact hx e1
    · exact hn (Shard.Fr.own f (h1.lt g e) (h.own hx g e)).2.1⟩
theorem Val.below {w w' : World} {col : Col} {v : Value} {xs : List UInt8} (h : Val w col v xs) (hb : Below w.heap.size w w') : Val w' col v xs := ⟨h.src.below hb, h.own⟩
theorem Val.nil (w : World) (col : Col) : Val w col (.slice none 0 0) [] := ⟨src_nil w, apart_nil col _⟩
theorem Val.shape {w : World} {col : Col} {v : Value} {xs : List UInt8} (h : Val w col v xs) : ∃ a k, v = .slice a xs.length k := h.src.shape
theorem storeR_val (it : Shard.Item) (z : Int) : (storeR it z).val = [] := by
  unfold storeR Exec.only
  by_cases h0 : z = 0
  · rw [if_pos h0]
  · rw [if_neg h0]
    by_cases h8 : z = 8
    · rw [if_pos h8]
    · rw [if_neg h8]
theorem new_block3 (w : World) (o o' o2 : Obj) : (((w.alloc o).alloc o').alloc o2).heap[w.heap.size + 1 + 1]? = some o2 := by
  have := Mem.new_block ((w.alloc o).alloc o') o2
  rwa [World.size_alloc, World.size_alloc] at this
section
variable {W w0 w w' : World} {M b B1 B2 : Nat} {col0 col : Col} {seed : Int} {s t : St}
theorem In.start (h : Run W w M b col seed s) (hb : Below w.heap.size w w') : In W w w' M b col col seed s w.heap.size w'.heap.size :=
  ⟨h.step hb, Fr.below hb, Nat.le_refl _, fun _ hk _ => Run.none h hk, Nat.le_refl _, h.below.size⟩
theorem In.below (h : In W w0 w M b col0 col seed s B1 B2) (hb : Below w.heap.size w w') : In W w0 w' M b col0 col seed s B1 B2 :=
  ⟨h.run.step hb, h.fr.trans (Fr.below hb), h.low, h.mine, Nat.le_trans h.hi hb.size, h.wl⟩
theorem In.more (h : In W w0 w M b col0 col seed s B1 B2) (hb : Below w.heap.size w w') (hs : B2 = w.heap.size) : In W w0 w' M b col0 col seed s B1 w'.heap.size :=
  ⟨h.run.step hb, h.fr.trans (Fr.below hb), h.low, fun k h1 h2 => if hk : k < B2 then h.mine k h1 hk else Run.none h.run (by omega), Nat.le_refl _, h.wl⟩
theorem In.turn {M' : Nat} (h : In W w0 w M b col0 col seed s B1 B2) (ht : RunTurn W w M' b col seed t w') : ∃ col', In W w0 w' M' b col0 col' seed t B1 B2 ∧ Fr col col' w w' := by
  obtain ⟨col', hr, hf⟩ := ht
  exact ⟨col', ⟨hr, h.fr.trans hf, h.low, fun k h1 h2 => (Shard.Fr.own hf (Nat.lt_of_lt_of_le h2 h.hi) (h.mine k h1 h2)).2.1, Nat.le_trans h.hi hf.1.size, h.wl⟩, hf⟩
theorem In.setRow (h : In W w0 w M b col0 col seed s B1 B2) {k : Nat} (h1 : B1 ≤ k) (h2 : k < B2) (cs : Array Value) : In W w0 (w.setRow k cs) M b col0 col seed s B1 B2 :=
  ⟨⟨h.run.at_.aside (F := fun j => j = k) (Only.setRow (.inl rfl) (Only.refl _ _)) (fun j e => by subst e; exact ⟨h.mine j h1 h2, by have := h.wl; have := h.low; omega⟩), h.run.inv⟩, h.fr.setRow (.inr (by have := h.low; omega)), h.low, h.mine, by simpa using h.hi, h.wl⟩
theorem In.setCell (h : In W w0 w M b col0 col seed s B1 B2) {k : Nat} (h1 : B1 ≤ k) (h2 : k < B2) (i : Nat) (u : Value) : In W w0 (w.setCell ⟨k, i, none⟩ u) M b col0 col seed s B1 B2 :=
  ⟨⟨h.run.at_.aside (F := fun j => j = k) (Only.setCell (F := fun j => j = k) (p := ⟨k, i, none⟩) (Only.refl _ _) (.inl rfl) u) (fun j e => by subst e; exact ⟨h.mine j h1 h2, by have := h.wl; have := h.low; omega⟩), h.run.inv⟩, ⟨Only.setCell (p := ⟨k, i, none⟩) h.fr.1 (.inr (by have := h.low; show w0.heap.size ≤ k; omega)) u, h.fr.2⟩, h.low, h.mine, by simpa [World.setCell] using h.hi, h.wl⟩
theorem In.row {o : Obj} (h : In W w0 w M b col0 col seed s B1 B2) {k : Nat} (h1 : B1 ≤ k) (h2 : k < B2) {col' : Col} (f : Fr col col' w w') (hr : w.heap[k]? = some o) : w'.heap[k]? = some o := (Box.turn f hr (h.mine k h1 h2)).1
theorem In.val (h : In W w0 w M b col0 col seed s B1 B2) {v : Value} {xs : List UInt8} (hv : Val w0 col0 v xs) : Val w col v xs := hv.turn h.fr
theorem In.more_n {M' : Nat} (h : In W w0 w M b col0 col seed s B1 B2) (hm : M ≤ M') (hM : M' ≤ 1050000) : In W w0 w M' b col0 col seed s B1 B2 := ⟨h.run.more hm hM, h.fr, h.low, h.mine, h.hi, h.wl⟩
theorem In.done {L : Tab.Pairs Nat} {g : Nat → Res × St} {f : Nat} {r : Res} {v : Value} (h : In W w0 w M b col0 col seed t B1 B2) (hf : ∀ p ∈ L, p.2 ≠ f) (hg : g f = (r, t)) (hv : Val w0 col0 v r.val) : ExecP W w0 M b col0 seed L g (.returned (.agg (r.arr v))) w := by
  refine ⟨f, v, col, hf, by rw [hg], by rw [hg]; exact h.run, h.fr, by rw [hg]; exact h.val hv⟩
end
section
variable {W w : World} {M b : Nat} {col : Col} {seed : Int} {s : St} {c : Cmd} {env : Env}
set_option maxHeartbeats 4000000 in
theorem store_any (h : Run W w M b col seed s) (hM : M + 1 ≤ 1050000) (cv : Value) (it : Shard.Item) {a : Option Addr} {k : Nat} (hks : it.key.size ≤ 2000000) (hvs : it.val.length ≤ 2000000) (hv : Val w col (.slice a it.val.length k) it.val) :
    Calls Tryz.prog 51 #[.agg (rarr b c cv env), .agg (it.arr (.slice a it.val.length k))] w (ExecP W w (M + 1) b col seed s.tab.L fun f => doStore env it f s) := by
  have hb2 : Below w.heap.size w (((w.alloc (.cells (rarr b c cv env) 86)).alloc (.cells (it.arr (.slice a it.val.length k)) 51)).alloc (.cells zeroR 37)) := Mem.al (Mem.al (Mem.al (Below.refl _ _) _) _) _
  have n1 : (((w.alloc (.cells (rarr b c cv env) 86)).alloc (.cells (it.arr (.slice a it.val.length k)) 51)).alloc (.cells zeroR 37)).heap[w.heap.size]? = some (.cells (rarr b c cv env) 86 (0, 0)) := Mem.new_later (Mem.new_later (Mem.new_block w _) _) _
  have n2 : (((w.alloc (.cells (rarr b c cv env) 86)).alloc (.cells (it.arr (.slice a it.val.length k)) 51)).alloc (.cells zeroR 37)).heap[w.heap.size + 1]? = some (.cells (it.arr (.slice a it.val.length k)) 51 (0, 0)) := Mem.new_later (Mem.new_block2 w _ _) _
  have n3 : (((w.alloc (.cells (rarr b c cv env) 86)).alloc (.cells (it.arr (.slice a it.val.length k)) 51)).alloc (.cells zeroR 37)).heap[w.heap.size + 1 + 1]? = some (.cells zeroR 37 (0, 0)) := new_block3 w _ _ _
  obtain ⟨n, hn⟩ : ∃ n, it.val.length = n := ⟨_, rfl⟩
  obtain ⟨w1, hw1⟩ : ∃ w1, (((w.alloc (.cells (rarr b c cv env) 86)).alloc (.cells (it.arr (.slice a it.val.length k)) 51)).alloc (.cells zeroR 37)) = w1 := ⟨_, rfl⟩
  rw [hw1] at hb2 n1 n2 n3
  have hin := In.start h hb2
  have hst := store_run hin.run hM it a k env hks hvs (hin.val hv).src hv.own
  have hz : w1.heap.size = w.heap.size + 3 := by rw [← hw1]; simp
  rw [hz] at hin
  rw [hn] at n2 hw1 hst ⊢
  have r0 := Mem.row_cell n1 0
  have r11 := Mem.row_cell n1 11
  have r12 := Mem.row_cell n1 12
  have r13 := Mem.row_cell n1 13
  have r14 := Mem.row_cell n1 14
  have h0 := Mem.row_cell n2 0
  have h1 := Mem.row_cell n2 1
  have h2 := Mem.row_cell n2 2
  have h3 := Mem.row_cell n2 3
  have h4 := Mem.row_cell n2 4
  have h5 := Mem.row_cell n2 5
  have h6 := Mem.row_cell n2 6
  have h7 := Mem.row_cell n2 7
  have h8 := Mem.row_cell n2 8
  have h9 := Mem.row_cell n2 9
  simp only [rarr, Item.arr, List.getElem?_toArray, List.getElem?_cons_zero, List.getElem?_cons_succ] at r0 r11 r12 r13 r14 h0 h1 h2 h3 h4 h5 h6 h7 h8 h9
  have HB := Lib.hid (And.intro hin (And.intro n2 n3))
  clear hb2 n1 n2 n3 hin h hv hn hM hks hvs hz
  unfold rarr Item.arr zeroR at hw1
  unfold Item.arr Shard.Env.arr at hst
  unfold rarr Item.arr
  go_enter Tryz.func51, Tryz.ntmps51
  go_wp2_with fail
  refine hst.mono ?_
  rintro e w2 ⟨f, hf, rfl, ht⟩
  obtain ⟨col2, hin2, hfr⟩ := HB.out.1.turn ht
  obtain ⟨z, hz⟩ : ∃ z, (s.store f it env).1 = z := ⟨_, rfl⟩
  have n2 := HB.out.1.row (by omega) (by omega) hfr HB.out.2.1
  have n3 := HB.out.1.row (by omega) (by omega) hfr HB.out.2.2
  have hd : doStore env it f s = (storeR it z, (s.store f it env).2) := by unfold doStore; rw [hz]
  have i4 := Mem.row_cell n2 4
  simp only [Item.arr, List.getElem?_toArray, List.getElem?_cons_zero, List.getElem?_cons_succ] at i4
  have H2 := Lib.hid (And.intro hf (And.intro hin2 (And.intro hd n3)))
  rw [hz]
  clear hst hf ht hin2 hfr hz n2 n3 hd r0 r11 r12 r13 r14 h0 h1 h2 h3 h4 h5 h6 h7 h8 h9 hw1 HB
  by_cases z0 : z = 0
  · subst z0
    go_wp2_with (first
      | (refine wpList_store_row rfl 37 _ _ rfl (w.heap.size + 1 + 1) (({ only 2 with cas := it.cas } : Res).arr (.slice none 0 0)) rfl rfl 37 zeroR H2.out.2.2.2 (res_size _ _) rfl (res_one _ _ _ _) ?_)
      | fail)
    obtain ⟨hf, hin, hd, n3⟩ := H2.out
    refine bodyPost_ret (results_cell_row Tryz.results51 _ _ (w.heap.size + 1 + 1) _ _ _ _ rfl (setRow_heap _ _ _ (({ only 2 with cas := it.cas } : Res).arr (.slice none 0 0)) _ _ n3) Tryz.underlying37 rfl (res_size _ _)) rfl ?_
    exact (hin.setRow (by omega) (by omega) _).done hf (hd.trans (by unfold storeR; rw [if_pos rfl])) (Val.nil _ _)
  have z0b : (z == 0) = false := by simpa using z0
  by_cases z8 : z = 8
  · subst z8
    go_wp2_with fail
    refine (only_any 3 _).mono ?_
    rintro e w3 ⟨rfl, hb3⟩
    have H3 := Lib.hid (And.intro (H2.out.2.1.below hb3) ((hb3.block _ (Array.getElem?_eq_some_iff.1 H2.out.2.2.2).1).trans H2.out.2.2.2))
    clear hb3
    unfold Res.arr only
    go_wp2_with (first
      | (refine wpList_store_row rfl 37 _ _ rfl (w.heap.size + 1 + 1) ((only 3).arr (.slice none 0 0)) rfl rfl 37 zeroR H3.out.2 (res_size _ _) rfl (res_one _ _ _ _) ?_)
      | fail)
    obtain ⟨hf, hin, hd, n3⟩ := H2.out
    refine bodyPost_ret (results_cell_row Tryz.results51 _ _ (w.heap.size + 1 + 1) _ _ _ _ rfl (setRow_heap _ _ _ ((only 3).arr (.slice none 0 0)) _ _ H3.out.2) Tryz.underlying37 rfl (res_size _ _)) rfl ?_
    exact (H3.out.1.setRow (by omega) (by omega) _).done hf (hd.trans (by unfold storeR; rw [if_neg (by decide), if_pos rfl])) (Val.nil _ _)
  · have z8b : (z == 8) = false := by simpa using z8
    have HZ := Lib.hid (And.intro z0 z8)
    clear z0 z8
    go_wp2_with fail
    refine (only_any 9 _).mono ?_
    rintro e w3 ⟨rfl, hb3⟩
    have H3 := Lib.hid (And.intro (H2.out.2.1.below hb3) ((hb3.block _ (Array.getElem?_eq_some_iff.1 H2.out.2.2.2).1).trans H2.out.2.2.2))
    clear hb3
    unfold Res.arr only
    go_wp2_with (first
      | (refine wpList_store_row rfl 37 _ _ rfl (w.heap.size + 1 + 1) ((only 9).arr (.slice none 0 0)) rfl rfl 37 zeroR H3.out.2 (res_size _ _) rfl (res_one _ _ _ _) ?_)
      | fail)
    obtain ⟨hf, hin, hd, n3⟩ := H2.out
    refine bodyPost_ret (results_cell_row Tryz.results51 _ _ (w.heap.size + 1 + 1) _ _ _ _ rfl (setRow_heap _ _ _ ((only 9).arr (.slice none 0 0)) _ _ H3.out.2) Tryz.underlying37 rfl (res_size _ _)) rfl ?_
    exact (H3.out.1.setRow (by omega) (by omega) _).done hf (hd.trans (by unfold storeR; rw [if_neg HZ.out.1, if_neg HZ.out.2])) (Val.nil _ _)
end
end Go.Proofs.YtpghckiochjogaaGreatDoor.Exec

/- Layer 12: what the closures of exec change in an item. -/
namespace Go.Proofs.YtpghckiochjogaaGreatDoor.Exec
set_option maxRecDepth 100000
open Go Go.RowKit Go.Proofs.YtpghckiochjogaaGreatDoor.Mem Go.Proofs.YtpghckiochjogaaGreatDoor.App Go.Proofs.YtpghckiochjogaaGreatDoor.Shard
structure Chg (p : Nat) (it : Shard.Item) (v : Value) (w w' : World) : Prop where
  row : w'.heap[p]? = some (.cells (it.arr v) 51 (0, 0))
  only : Only (fun k => k = p) w w'
theorem only_set {p : Nat} {x y : World} (h : Only (fun k => k = p) x y) (i : Nat) (u : Value) : Only (fun k => k = p) x (y.setCell ⟨p, i, none⟩ u) := Only.setCell (p := ⟨p, i, none⟩) h (.inl rfl) u
theorem only_of {p : Nat} {x y : World} (h : Below x.heap.size x y) : Only (fun k => k = p) x y := Only.of_below h fun k h1 h2 => absurd h1 (by omega)
section
variable {W w0 w w' : World} {M b B1 B2 : Nat} {col0 col : Col} {seed : Int} {s t : St}
theorem In.only (h : In W w0 w M b col0 col seed s B1 B2) {k : Nat} (h1 : B1 ≤ k) (h2 : k < B2) (ho : Only (fun j => j = k) w w') : In W w0 w' M b col0 col seed s B1 B2 :=
  ⟨⟨h.run.at_.aside ho (fun j e => by subst e; exact ⟨h.mine j h1 h2, by have := h.wl; have := h.low; omega⟩), h.run.inv⟩, ⟨h.fr.1.trans ho (fun j e => .inr (by have := h.low; omega)), h.fr.2⟩, h.low, h.mine, Nat.le_trans h.hi ho.size, h.wl⟩
end
theorem chg1 (p : Nat) (it : Shard.Item) (v : Value) (w : World) (hr : w.heap[p]? = some (.cells (it.arr v) 51 (0, 0))) :
    Calls Tryz.prog 80 #[.pointer (some ⟨p, 0, none⟩)] w fun e w' => e = .returned (.tuple #[]) ∧ Chg p { it with seen := true } v w w' := by
  have c9 := Mem.row_cell hr 9
  have f9 := Mem.row_free hr 9
  simp only [Item.arr, List.getElem?_toArray, List.getElem?_cons_zero, List.getElem?_cons_succ] at c9
  have HR := Lib.hid hr
  clear hr
  go_enter Tryz.func80, Tryz.ntmps80
  go_wp2_with fail
  go_end0
  refine ⟨rfl, ?_, only_set (Only.refl _ _) 9 _⟩
  rw [Mem.row_set HR.out 9]
  simp [Item.arr]
theorem chg3 (p q b : Nat) (c : Cmd) (cv : Value) (env : Env) (it : Shard.Item) (v : Value) (w : World) (hr : w.heap[p]? = some (.cells (it.arr v) 51 (0, 0))) (hq : w.heap[q]? = some (.cells (rarr b c cv env) 86 (0, 0))) :
    Calls Tryz.prog 82 #[.pointer (some ⟨p, 0, none⟩), .pointer (some ⟨q, 0, none⟩)] w fun e w' => e = .returned (.tuple #[]) ∧ Chg p { it with exp := atS c.exp env.now } v w w' := by
  have hat := at_any b c cv env w
  have q0 := Mem.row_cell hq 0
  have q1 := Mem.row_cell hq 1
  have q2 := Mem.row_cell hq 2
  have q3 := Mem.row_cell hq 3
  have q4 := Mem.row_cell hq 4
  have q5 := Mem.row_cell hq 5
  have q6 := Mem.row_cell hq 6
  have q7 := Mem.row_cell hq 7
  have q8 := Mem.row_cell hq 8
  have q9 := Mem.row_cell hq 9
  have q10 := Mem.row_cell hq 10
  have q11 := Mem.row_cell hq 11
  have q12 := Mem.row_cell hq 12
  have q13 := Mem.row_cell hq 13
  have q14 := Mem.row_cell hq 14
  simp only [rarr, List.getElem?_toArray, List.getElem?_cons_zero, List.getElem?_cons_succ] at q0 q1 q2 q3 q4 q5 q6 q7 q8 q9 q10 q11 q12 q13 q14
  have HR := Lib.hid hr
  unfold rarr at hat
  clear hr hq
  go_enter Tryz.func82, Tryz.ntmps82
  go_wp2_with fail
  refine hat.mono ?_
  rintro e w2 ⟨rfl, hb⟩
  have hr2 := (hb.block _ (Array.getElem?_eq_some_iff.1 HR.out).1).trans HR.out
  have c3 := Mem.row_cell hr2 3
  have f3 := Mem.row_free hr2 3
  simp only [Item.arr, List.getElem?_toArray, List.getElem?_cons_zero, List.getElem?_cons_succ] at c3
  have H2 := Lib.hid (And.intro hr2 hb)
  clear hr2 hb hat q0 q1 q2 q3 q4 q5 q6 q7 q8 q9 q10 q11 q12 q13 q14
  go_wp2_with fail
  go_end0
  refine ⟨rfl, ?_, only_set (only_of H2.out.2) 3 _⟩
  rw [Mem.row_set H2.out.1 3]
  simp [Item.arr]
theorem chg2 (p q b : Nat) (c : Cmd) (cv : Value) (env : Env) (it : Shard.Item) (v : Value) (w : World) (hr : w.heap[p]? = some (.cells (it.arr v) 51 (0, 0))) (hq : w.heap[q]? = some (.cells (rarr b c cv env) 86 (0, 0))) :
    Calls Tryz.prog 81 #[.pointer (some ⟨p, 0, none⟩), .pointer (some ⟨q, 0, none⟩)] w fun e w' => e = .returned (.tuple #[]) ∧ Chg p { it with seen := true, exp := atS c.exp env.now } v w w' := by
  have hat := at_any b c cv env w
  have q0 := Mem.row_cell hq 0
  have q1 := Mem.row_cell hq 1
  have q2 := Mem.row_cell hq 2
  have q3 := Mem.row_cell hq 3
  have q4 := Mem.row_cell hq 4
  have q5 := Mem.row_cell hq 5
  have q6 := Mem.row_cell hq 6
  have q7 := Mem.row_cell hq 7
  have q8 := Mem.row_cell hq 8
  have q9 := Mem.row_cell hq 9
  have q10 := Mem.row_cell hq 10
  have q11 := Mem.row_cell hq 11
  have q12 := Mem.row_cell hq 12
  have q13 := Mem.row_cell hq 13
  have q14 := Mem.row_cell hq 14
  simp only [rarr, List.getElem?_toArray, List.getElem?_cons_zero, List.getElem?_cons_succ] at q0 q1 q2 q3 q4 q5 q6 q7 q8 q9 q10 q11 q12 q13 q14
  have HR := Lib.hid hr
  unfold rarr at hat
  clear hr hq
  go_enter Tryz.func81, Tryz.ntmps81
  go_wp2_with fail
  refine hat.mono ?_
  rintro e w2 ⟨rfl, hb⟩
  have hr2 := (hb.block _ (Array.getElem?_eq_some_iff.1 HR.out).1).trans HR.out
  have c3 := Mem.row_cell hr2 3
  have f3 := Mem.row_free hr2 3
  have c9 := Mem.row_cell hr2 9
  have f9 := Mem.row_free hr2 9
  simp only [Item.arr, List.getElem?_toArray, List.getElem?_cons_zero, List.getElem?_cons_succ] at c3 c9
  have H2 := Lib.hid (And.intro hr2 hb)
  clear hr2 hb hat q0 q1 q2 q3 q4 q5 q6 q7 q8 q9 q10 q11 q12 q13 q14
  go_wp2_with fail
  go_end0
  refine ⟨rfl, ?_, only_set (only_set (only_of H2.out.2) 9 _) 3 _⟩
  rw [Mem.row_set (Mem.row_set H2.out.1 9 _) 3]
  simp [Item.arr]
set_option maxHeartbeats 4000000 in
theorem chg4 (p q b : Nat) (c : Cmd) (cv : Value) (env : Env) (it : Shard.Item) (v : Value) (w : World) (hpq : q ≠ p) (hr : w.heap[p]? = some (.cells (it.arr v) 51 (0, 0))) (hq : w.heap[q]? = some (.cells (rarr b c cv env) 86 (0, 0))) :
    Calls Tryz.prog 59 #[.pointer (some ⟨p, 0, none⟩), .pointer (some ⟨q, 0, none⟩)] w fun e w' => e = .returned (.tuple #[]) ∧ Chg p (staleI c env it) v w w' := by
  have hat := fun w' => at_any b c cv env w'
  have q0 := Mem.row_cell hq 0
  have q1 := Mem.row_cell hq 1
  have q2 := Mem.row_cell hq 2
  have q3 := Mem.row_cell hq 3
  have q4 := Mem.row_cell hq 4
  have q5 := Mem.row_cell hq 5
  have q6 := Mem.row_cell hq 6
  have q7 := Mem.row_cell hq 7
  have q8 := Mem.row_cell hq 8
  have q9 := Mem.row_cell hq 9
  have q10 := Mem.row_cell hq 10
  have q11 := Mem.row_cell hq 11
  have q12 := Mem.row_cell hq 12
  have q13 := Mem.row_cell hq 13
  have q14 := Mem.row_cell hq 14
  simp only [rarr, List.getElem?_toArray, List.getElem?_cons_zero, List.getElem?_cons_succ] at q0 q1 q2 q3 q4 q5 q6 q7 q8 q9 q10 q11 q12 q13 q14
  have HR := Lib.hid hr
  unfold rarr at hat
  clear hr hq
  go_enter Tryz.func59, Tryz.ntmps59
  have c7 := Mem.row_cell HR.out 7
  have c8 := Mem.row_cell HR.out 8
  have c4 := Mem.row_cell HR.out 4
  have f7 := Mem.row_free HR.out 7
  have f8 := Mem.row_free HR.out 8
  have f4 := Mem.row_free HR.out 4
  simp only [Item.arr, List.getElem?_toArray, List.getElem?_cons_zero, List.getElem?_cons_succ] at c7 c8 c4
  have q12d : w.drew.cell? ⟨q, 12, none⟩ = some (.int .u64 env.seq) := q12
  have hk : ∀ (y : World) (i : Nat) (u : Value), y.cell? ⟨q, 12, none⟩ = some (.int .u64 env.seq) → (y.setCell ⟨p, i, none⟩ u).cell? ⟨q, 12, none⟩ = some (.int .u64 env.seq) := fun y i u h => (World.cell?_of_block (a := ⟨q, 12, none⟩) (Below.heap_setCell y ⟨p, i, none⟩ u q hpq)).trans h
  have hkd : ∀ (y : World) (i : Nat) (u : Value), y.cell? ⟨q, 12, none⟩ = some (.int .u64 env.seq) → (y.setCell ⟨p, i, none⟩ u).drew.cell? ⟨q, 12, none⟩ = some (.int .u64 env.seq) := hk
  go_wp2_with fail
  go_region_held3 (fun W' : World => W'.cell? ⟨q, 12, none⟩ = some (.int .u64 env.seq)) (first
    | with_reducible exact hkd _ _ _ (hk _ _ _ (hk _ _ _ q12))
    | with_reducible exact hkd _ _ _ (hk _ _ _ q12)
    | with_reducible exact hkd _ _ _ q12
    | exact q12d) (fail)
  obtain ⟨z, hzz⟩ : ∃ z, IntKind.u64.wrap (env.seq + 1) = z := ⟨_, rfl⟩
  have p3 : ((((w.setCell ⟨p, 7, none⟩ (.bool true)).setCell ⟨p, 8, none⟩ (.bool false)).setCell ⟨p, 4, none⟩ (.int .u64 z)).drew).heap[p]? = some (.cells (({ it with stale := true, won := false, cas := z } : Shard.Item).arr v) 51 (0, 0)) := by
    refine (Mem.row_set (Mem.row_set (Mem.row_set HR.out 7 (.bool true)) 8 (.bool false)) 4 (.int .u64 z)).trans ?_
    simp [Item.arr]
  have pq : ∀ j, ((((w.setCell ⟨p, 7, none⟩ (.bool true)).setCell ⟨p, 8, none⟩ (.bool false)).setCell ⟨p, 4, none⟩ (.int .u64 z)).drew).cell? ⟨q, j, none⟩ = w.cell? ⟨q, j, none⟩ := fun j => (World.cell?_of_block (a := ⟨q, j, none⟩) ((Below.heap_setCell _ ⟨p, 4, none⟩ (.int .u64 z) q hpq).trans ((Below.heap_setCell _ ⟨p, 8, none⟩ (.bool false) q hpq).trans (Below.heap_setCell w ⟨p, 7, none⟩ (.bool true) q hpq))))
  have po : Only (fun k => k = p) w ((((w.setCell ⟨p, 7, none⟩ (.bool true)).setCell ⟨p, 8, none⟩ (.bool false)).setCell ⟨p, 4, none⟩ (.int .u64 z)).drew) := (only_set (only_set (only_set (Only.refl _ _) 7 _) 8 _) 4 _).drew
  rw [hzz]
  obtain ⟨w3, hw3⟩ : ∃ w3, ((((w.setCell ⟨p, 7, none⟩ (.bool true)).setCell ⟨p, 8, none⟩ (.bool false)).setCell ⟨p, 4, none⟩ (.int .u64 z)).drew) = w3 := ⟨_, rfl⟩
  rw [hw3] at p3 pq po ⊢
  have r0 := (pq 0).trans q0
  have r1 := (pq 1).trans q1
  have r2 := (pq 2).trans q2
  have r3 := (pq 3).trans q3
  have r4 := (pq 4).trans q4
  have r5 := (pq 5).trans q5
  have r6 := (pq 6).trans q6
  have r7 := (pq 7).trans q7
  have r8 := (pq 8).trans q8
  have r9 := (pq 9).trans q9
  have r10 := (pq 10).trans q10
  have r11 := (pq 11).trans q11
  have r12 := (pq 12).trans q12
  have r13 := (pq 13).trans q13
  have r14 := (pq 14).trans q14
  have H3 := Lib.hid (And.intro p3 (And.intro po hzz))
  clear hzz hw3 p3 pq po hk hkd q12d q0 q1 q2 q3 q4 q5 q6 q7 q8 q9 q10 q11 q12 q13 q14 c7 c8 c4 f7 f8 f4 hpq
  replace hat := hat w3
  rcases hs : c.sets with _ | _
  · rw [hs] at r10
    have HS := Lib.hid hs
    clear hs hat
    go_wp2_with fail
    go_end0
    refine ⟨rfl, ?_, H3.out.2.1⟩
    have e : staleI c env it = { it with stale := true, won := false, cas := z } := by unfold staleI; rw [HS.out, H3.out.2.2]; rfl
    rw [e]
    exact H3.out.1
  · rw [hs] at r10 hat
    have HS := Lib.hid hs
    clear hs
    go_wp2_with fail
    refine hat.mono ?_
    rintro e w2 ⟨rfl, hb⟩
    have hr2 := (hb.block _ (Array.getElem?_eq_some_iff.1 H3.out.1).1).trans H3.out.1
    have c3 := Mem.row_cell hr2 3
    have f3 := Mem.row_free hr2 3
    simp only [Item.arr, List.getElem?_toArray, List.getElem?_cons_zero, List.getElem?_cons_succ] at c3
    have H2 := Lib.hid (And.intro hr2 hb)
    clear hr2 hb hat r0 r1 r2 r3 r4 r5 r6 r7 r8 r9 r10 r11 r12 r13 r14
    go_wp2_with fail
    go_end0
    refine ⟨rfl, ?_, only_set (H3.out.2.1.trans (only_of H2.out.2) (fun k e => .inl e)) 3 _⟩
    have e : staleI c env it = { it with stale := true, won := false, cas := z, exp := atS c.exp env.now } := by unfold staleI; rw [HS.out, H3.out.2.2]; rfl
    rw [e, Mem.row_set H2.out.1 3]
    simp [Item.arr]
end Go.Proofs.YtpghckiochjogaaGreatDoor.Exec

/- Layer 12: exec.update, for each closure. -/
namespace Go.Proofs.YtpghckiochjogaaGreatDoor.Exec
set_option maxRecDepth 100000
open Go Go.RowKit Go.Proofs.YtpghckiochjogaaGreatDoor.Mem Go.Proofs.YtpghckiochjogaaGreatDoor.App Go.Proofs.YtpghckiochjogaaGreatDoor.Shard
def UpdP (W w : World) (M b : Nat) (col : Col) (seed : Int) (s : St) (it2 : Shard.Item) (v : Value) (e : Ending) (w' : World) : Prop := e = .returned (.agg (it2.arr v)) ∧ RunTurn W w M b col seed (s.update it2).2 w'
section
variable {W w : World} {M b : Nat} {col : Col} {seed : Int} {s : St} {c : Cmd} {env : Env}
set_option maxHeartbeats 4000000 in
theorem update1_any (h : Run W w M b col seed s) (hM : M ≤ 1050000) (cv : Value) (it : Shard.Item) {a : Option Addr} {n k : Nat} (hn : it.val.length = n) (hks : it.key.size ≤ 2000000) (hvs : it.val.length ≤ 2000000) (hv : Val w col (.slice a n k) it.val) :
    Calls Tryz.prog 58 #[.agg (rarr b c cv env), .agg (it.arr (.slice a n k)), .func (.func 80) #[] #[]] w (UpdP W w M b col seed s { it with seen := true } (.slice a n k)) := by
  have hb2 : Below w.heap.size w (((w.alloc (.cells (rarr b c cv env) 86)).alloc (.cells (it.arr (.slice a n k)) 51)).alloc (.cells (Shard.zeroI) 51)) := Mem.al (Mem.al (Mem.al (Below.refl _ _) _) _) _
  have n1 : (((w.alloc (.cells (rarr b c cv env) 86)).alloc (.cells (it.arr (.slice a n k)) 51)).alloc (.cells (Shard.zeroI) 51)).heap[w.heap.size]? = some (.cells (rarr b c cv env) 86 (0, 0)) := Mem.new_later (Mem.new_later (Mem.new_block w _) _) _
  have n2 : (((w.alloc (.cells (rarr b c cv env) 86)).alloc (.cells (it.arr (.slice a n k)) 51)).alloc (.cells (Shard.zeroI) 51)).heap[w.heap.size + 1]? = some (.cells (it.arr (.slice a n k)) 51 (0, 0)) := Mem.new_later (Mem.new_block2 w _ _) _
  have n3 : (((w.alloc (.cells (rarr b c cv env) 86)).alloc (.cells (it.arr (.slice a n k)) 51)).alloc (.cells (Shard.zeroI) 51)).heap[w.heap.size + 1 + 1]? = some (.cells (Shard.zeroI) 51 (0, 0)) := new_block3 w _ _ _
  have hz : (((w.alloc (.cells (rarr b c cv env) 86)).alloc (.cells (it.arr (.slice a n k)) 51)).alloc (.cells (Shard.zeroI) 51)).heap.size = w.heap.size + 3 := by simp
  obtain ⟨w1, hw1⟩ : ∃ w1, (((w.alloc (.cells (rarr b c cv env) 86)).alloc (.cells (it.arr (.slice a n k)) 51)).alloc (.cells (Shard.zeroI) 51)) = w1 := ⟨_, rfl⟩
  rw [hw1] at hb2 hz n1 n2 n3
  have hin := In.start h hb2
  rw [hz] at hin
  have hch := chg1 (w.heap.size + 1) it (.slice a n k) w1 n2
  have hvw := hv
  subst hn
  have r0 := Mem.row_cell n1 0
  simp only [rarr, List.getElem?_toArray, List.getElem?_cons_zero] at r0
  obtain ⟨it2, hit2⟩ : ∃ it2, { it with seen := true } = it2 := ⟨_, rfl⟩
  have hk2 : it2.key = it.key := (congrArg Shard.Item.key hit2).symm
  have hv2 : it2.val = it.val := (congrArg Shard.Item.val hit2).symm
  rw [hit2] at hch
  obtain ⟨n, hn⟩ : ∃ n, it.val.length = n := ⟨_, rfl⟩
  have hn2 : it2.val.length = n := by rw [hv2]; exact hn
  rw [hn] at hch hw1 hv n2
  have HB := Lib.hid (And.intro hin (And.intro n1 (And.intro n3 (And.intro hv (And.intro hn2 (And.intro (show it2.key.size ≤ 2000000 by rw [hk2]; exact hks) (And.intro (show it2.val.length ≤ 2000000 by rw [hv2]; exact hvs) (And.intro hit2 (And.intro hv2 hM)))))))))
  clear hb2 n1 n2 n3 hz hin h hv hvw hn2 hk2 hv2 hit2 hks hvs hM
  rw [hn]
  clear hn
  unfold rarr Item.arr Shard.zeroI at hw1
  unfold rarr Item.arr
  go_enter Tryz.func58, Tryz.ntmps58
  go_wp2_with fail
  refine hch.mono ?_
  rintro e w2 ⟨rfl, hc⟩
  have hin2 := HB.out.1.only (by omega) (by omega) hc.only
  have rz := fun j => World.cell?_of_block (a := ⟨w.heap.size, j, none⟩) (hc.only.same w.heap.size (block_lt_of_cell r0) (by omega))
  have nz := (hc.only.same (w.heap.size + 1 + 1) (Array.getElem?_eq_some_iff.1 HB.out.2.2.1).1 (by omega)).trans HB.out.2.2.1
  have s0 := (rz 0).trans r0
  have e1 := hc.row
  have i0 := Mem.row_cell e1 0
  have i1 := Mem.row_cell e1 1
  have i2 := Mem.row_cell e1 2
  have i3 := Mem.row_cell e1 3
  have i4 := Mem.row_cell e1 4
  have i5 := Mem.row_cell e1 5
  have i6 := Mem.row_cell e1 6
  have i7 := Mem.row_cell e1 7
  have i8 := Mem.row_cell e1 8
  have i9 := Mem.row_cell e1 9
  simp only [Item.arr, List.getElem?_toArray, List.getElem?_cons_zero, List.getElem?_cons_succ] at i0 i1 i2 i3 i4 i5 i6 i7 i8 i9
  have hsrc : SrcB w2 (.slice a it2.val.length k) it2.val := by
    have := (hin2.val HB.out.2.2.2.1).src
    rw [HB.out.2.2.2.2.1, HB.out.2.2.2.2.2.2.2.2.1]; exact this
  have hown : Apart col (.slice a it2.val.length k) it2.val := by
    have := HB.out.2.2.2.1.own
    rw [HB.out.2.2.2.2.1, HB.out.2.2.2.2.2.2.2.2.1]; exact this
  have hup := update_run hin2.run HB.out.2.2.2.2.2.2.2.2.2 it2 a k HB.out.2.2.2.2.2.1 HB.out.2.2.2.2.2.2.1 hsrc hown
  rw [HB.out.2.2.2.2.1] at hup
  unfold Item.arr at hup
  have H2 := Lib.hid (And.intro hin2 (And.intro nz e1))
  clear hc hin2 rz nz e1 hsrc hown hch r0
  go_wp2_with fail
  refine hup.mono ?_
  rintro e w3 ⟨rfl, ht⟩
  obtain ⟨col3, hin3, hfr⟩ := H2.out.1.turn ht
  have e3 := H2.out.1.row (by omega) (by omega) hfr H2.out.2.2
  have z3 := H2.out.1.row (by omega) (by omega) hfr H2.out.2.1
  have H3 := Lib.hid (And.intro hin3 z3)
  clear i0 i1 i2 i3 i4 i5 i6 i7 i8 i9
  have i0 := Mem.row_cell e3 0
  have i1 := Mem.row_cell e3 1
  have i2 := Mem.row_cell e3 2
  have i3 := Mem.row_cell e3 3
  have i4 := Mem.row_cell e3 4
  have i5 := Mem.row_cell e3 5
  have i6 := Mem.row_cell e3 6
  have i7 := Mem.row_cell e3 7
  have i8 := Mem.row_cell e3 8
  have i9 := Mem.row_cell e3 9
  simp only [Item.arr, List.getElem?_toArray, List.getElem?_cons_zero, List.getElem?_cons_succ] at i0 i1 i2 i3 i4 i5 i6 i7 i8 i9
  clear hup ht hin3 hfr e3 z3 s0
  go_wp2_with (first
    | (refine wpList_store_row rfl 51 _ _ rfl (w.heap.size + 1 + 1) (it2.arr (.slice a n k)) rfl rfl 51 Shard.zeroI H3.out.2 (Shard.item_size _ _) rfl (item_one' _ _ _ _) ?_)
    | fail)
  refine bodyPost_ret (results_cell_row Tryz.results58 _ _ (w.heap.size + 1 + 1) _ _ _ _ rfl (setRow_heap _ _ _ (it2.arr (.slice a n k)) _ _ H3.out.2) Tryz.underlying51 rfl (Shard.item_size _ _)) rfl ?_
  have hi := H3.out.1.setRow (by omega) (by omega) (it2.arr (.slice a n k)) (k := w.heap.size + 1 + 1)
  rw [HB.out.2.2.2.2.2.2.2.1]
  exact ⟨rfl, col3, hi.run, hi.fr⟩
set_option maxHeartbeats 4000000 in
theorem update2_any (h : Run W w M b col seed s) (hM : M ≤ 1050000) (cv : Value) (it : Shard.Item) {a : Option Addr} {n k : Nat} (hn : it.val.length = n) (hks : it.key.size ≤ 2000000) (hvs : it.val.length ≤ 2000000) (hv : Val w col (.slice a n k) it.val) {q : Nat} (hq : w.heap[q]? = some (.cells (rarr b c cv env) 86 (0, 0))) :
    Calls Tryz.prog 58 #[.agg (rarr b c cv env), .agg (it.arr (.slice a n k)), .func (.func 81) #[] #[.pointer (some ⟨q, 0, none⟩)]] w (UpdP W w M b col seed s { it with seen := true, exp := atS c.exp env.now } (.slice a n k)) := by
  have hb2 : Below w.heap.size w (((w.alloc (.cells (rarr b c cv env) 86)).alloc (.cells (it.arr (.slice a n k)) 51)).alloc (.cells (Shard.zeroI) 51)) := Mem.al (Mem.al (Mem.al (Below.refl _ _) _) _) _
  have n1 : (((w.alloc (.cells (rarr b c cv env) 86)).alloc (.cells (it.arr (.slice a n k)) 51)).alloc (.cells (Shard.zeroI) 51)).heap[w.heap.size]? = some (.cells (rarr b c cv env) 86 (0, 0)) := Mem.new_later (Mem.new_later (Mem.new_block w _) _) _
  have n2 : (((w.alloc (.cells (rarr b c cv env) 86)).alloc (.cells (it.arr (.slice a n k)) 51)).alloc (.cells (Shard.zeroI) 51)).heap[w.heap.size + 1]? = some (.cells (it.arr (.slice a n k)) 51 (0, 0)) := Mem.new_later (Mem.new_block2 w _ _) _
  have n3 : (((w.alloc (.cells (rarr b c cv env) 86)).alloc (.cells (it.arr (.slice a n k)) 51)).alloc (.cells (Shard.zeroI) 51)).heap[w.heap.size + 1 + 1]? = some (.cells (Shard.zeroI) 51 (0, 0)) := new_block3 w _ _ _
  have hz : (((w.alloc (.cells (rarr b c cv env) 86)).alloc (.cells (it.arr (.slice a n k)) 51)).alloc (.cells (Shard.zeroI) 51)).heap.size = w.heap.size + 3 := by simp
  obtain ⟨w1, hw1⟩ : ∃ w1, (((w.alloc (.cells (rarr b c cv env) 86)).alloc (.cells (it.arr (.slice a n k)) 51)).alloc (.cells (Shard.zeroI) 51)) = w1 := ⟨_, rfl⟩
  rw [hw1] at hb2 hz n1 n2 n3
  have hin := In.start h hb2
  rw [hz] at hin
  have hch := chg2 (w.heap.size + 1) q b c cv env it (.slice a n k) w1 n2 ((hb2.block _ (Array.getElem?_eq_some_iff.1 hq).1).trans hq)
  have hvw := hv
  subst hn
  have r0 := Mem.row_cell n1 0
  simp only [rarr, List.getElem?_toArray, List.getElem?_cons_zero] at r0
  obtain ⟨it2, hit2⟩ : ∃ it2, { it with seen := true, exp := atS c.exp env.now } = it2 := ⟨_, rfl⟩
  have hk2 : it2.key = it.key := (congrArg Shard.Item.key hit2).symm
  have hv2 : it2.val = it.val := (congrArg Shard.Item.val hit2).symm
  rw [hit2] at hch
  obtain ⟨n, hn⟩ : ∃ n, it.val.length = n := ⟨_, rfl⟩
  have hn2 : it2.val.length = n := by rw [hv2]; exact hn
  rw [hn] at hch hw1 hv n2
  have HB := Lib.hid (And.intro hin (And.intro n1 (And.intro n3 (And.intro hv (And.intro hn2 (And.intro (show it2.key.size ≤ 2000000 by rw [hk2]; exact hks) (And.intro (show it2.val.length ≤ 2000000 by rw [hv2]; exact hvs) (And.intro hit2 (And.intro hv2 hM)))))))))
  clear hb2 n1 n2 n3 hz hin h hv hvw hn2 hk2 hv2 hit2 hks hvs hM hq
  rw [hn]
  clear hn
  unfold rarr Item.arr Shard.zeroI at hw1
  unfold rarr Item.arr
  go_enter Tryz.func58, Tryz.ntmps58
  go_wp2_with fail
  refine hch.mono ?_
  rintro e w2 ⟨rfl, hc⟩
  have hin2 := HB.out.1.only (by omega) (by omega) hc.only
  have rz := fun j => World.cell?_of_block (a := ⟨w.heap.size, j, none⟩) (hc.only.same w.heap.size (block_lt_of_cell r0) (by omega))
  have nz := (hc.only.same (w.heap.size + 1 + 1) (Array.getElem?_eq_some_iff.1 HB.out.2.2.1).1 (by omega)).trans HB.out.2.2.1
  have s0 := (rz 0).trans r0
  have e1 := hc.row
  have i0 := Mem.row_cell e1 0
  have i1 := Mem.row_cell e1 1
  have i2 := Mem.row_cell e1 2
  have i3 := Mem.row_cell e1 3
  have i4 := Mem.row_cell e1 4
  have i5 := Mem.row_cell e1 5
  have i6 := Mem.row_cell e1 6
  have i7 := Mem.row_cell e1 7
  have i8 := Mem.row_cell e1 8
  have i9 := Mem.row_cell e1 9
  simp only [Item.arr, List.getElem?_toArray, List.getElem?_cons_zero, List.getElem?_cons_succ] at i0 i1 i2 i3 i4 i5 i6 i7 i8 i9
  have hsrc : SrcB w2 (.slice a it2.val.length k) it2.val := by
    have := (hin2.val HB.out.2.2.2.1).src
    rw [HB.out.2.2.2.2.1, HB.out.2.2.2.2.2.2.2.2.1]; exact this
  have hown : Apart col (.slice a it2.val.length k) it2.val := by
    have := HB.out.2.2.2.1.own
    rw [HB.out.2.2.2.2.1, HB.out.2.2.2.2.2.2.2.2.1]; exact this
  have hup := update_run hin2.run HB.out.2.2.2.2.2.2.2.2.2 it2 a k HB.out.2.2.2.2.2.1 HB.out.2.2.2.2.2.2.1 hsrc hown
  rw [HB.out.2.2.2.2.1] at hup
  unfold Item.arr at hup
  have H2 := Lib.hid (And.intro hin2 (And.intro nz e1))
  clear hc hin2 rz nz e1 hsrc hown hch r0
  go_wp2_with fail
  refine hup.mono ?_
  rintro e w3 ⟨rfl, ht⟩
  obtain ⟨col3, hin3, hfr⟩ := H2.out.1.turn ht
  have e3 := H2.out.1.row (by omega) (by omega) hfr H2.out.2.2
  have z3 := H2.out.1.row (by omega) (by omega) hfr H2.out.2.1
  have H3 := Lib.hid (And.intro hin3 z3)
  clear i0 i1 i2 i3 i4 i5 i6 i7 i8 i9
  have i0 := Mem.row_cell e3 0
  have i1 := Mem.row_cell e3 1
  have i2 := Mem.row_cell e3 2
  have i3 := Mem.row_cell e3 3
  have i4 := Mem.row_cell e3 4
  have i5 := Mem.row_cell e3 5
  have i6 := Mem.row_cell e3 6
  have i7 := Mem.row_cell e3 7
  have i8 := Mem.row_cell e3 8
  have i9 := Mem.row_cell e3 9
  simp only [Item.arr, List.getElem?_toArray, List.getElem?_cons_zero, List.getElem?_cons_succ] at i0 i1 i2 i3 i4 i5 i6 i7 i8 i9
  clear hup ht hin3 hfr e3 z3 s0
  go_wp2_with (first
    | (refine wpList_store_row rfl 51 _ _ rfl (w.heap.size + 1 + 1) (it2.arr (.slice a n k)) rfl rfl 51 Shard.zeroI H3.out.2 (Shard.item_size _ _) rfl (item_one' _ _ _ _) ?_)
    | fail)
  refine bodyPost_ret (results_cell_row Tryz.results58 _ _ (w.heap.size + 1 + 1) _ _ _ _ rfl (setRow_heap _ _ _ (it2.arr (.slice a n k)) _ _ H3.out.2) Tryz.underlying51 rfl (Shard.item_size _ _)) rfl ?_
  have hi := H3.out.1.setRow (by omega) (by omega) (it2.arr (.slice a n k)) (k := w.heap.size + 1 + 1)
  rw [HB.out.2.2.2.2.2.2.2.1]
  exact ⟨rfl, col3, hi.run, hi.fr⟩
set_option maxHeartbeats 4000000 in
theorem update3_any (h : Run W w M b col seed s) (hM : M ≤ 1050000) (cv : Value) (it : Shard.Item) {a : Option Addr} {n k : Nat} (hn : it.val.length = n) (hks : it.key.size ≤ 2000000) (hvs : it.val.length ≤ 2000000) (hv : Val w col (.slice a n k) it.val) {q : Nat} (hq : w.heap[q]? = some (.cells (rarr b c cv env) 86 (0, 0))) :
    Calls Tryz.prog 58 #[.agg (rarr b c cv env), .agg (it.arr (.slice a n k)), .func (.func 82) #[] #[.pointer (some ⟨q, 0, none⟩)]] w (UpdP W w M b col seed s { it with exp := atS c.exp env.now } (.slice a n k)) := by
  have hb2 : Below w.heap.size w (((w.alloc (.cells (rarr b c cv env) 86)).alloc (.cells (it.arr (.slice a n k)) 51)).alloc (.cells (Shard.zeroI) 51)) := Mem.al (Mem.al (Mem.al (Below.refl _ _) _) _) _
  have n1 : (((w.alloc (.cells (rarr b c cv env) 86)).alloc (.cells (it.arr (.slice a n k)) 51)).alloc (.cells (Shard.zeroI) 51)).heap[w.heap.size]? = some (.cells (rarr b c cv env) 86 (0, 0)) := Mem.new_later (Mem.new_later (Mem.new_block w _) _) _
  have n2 : (((w.alloc (.cells (rarr b c cv env) 86)).alloc (.cells (it.arr (.slice a n k)) 51)).alloc (.cells (Shard.zeroI) 51)).heap[w.heap.size + 1]? = some (.cells (it.arr (.slice a n k)) 51 (0, 0)) := Mem.new_later (Mem.new_block2 w _ _) _
  have n3 : (((w.alloc (.cells (rarr b c cv env) 86)).alloc (.cells (it.arr (.slice a n k)) 51)).alloc (.cells (Shard.zeroI) 51)).heap[w.heap.size + 1 + 1]? = some (.cells (Shard.zeroI) 51 (0, 0)) := new_block3 w _ _ _
  have hz : (((w.alloc (.cells (rarr b c cv env) 86)).alloc (.cells (it.arr (.slice a n k)) 51)).alloc (.cells (Shard.zeroI) 51)).heap.size = w.heap.size + 3 := by simp
  obtain ⟨w1, hw1⟩ : ∃ w1, (((w.alloc (.cells (rarr b c cv env) 86)).alloc (.cells (it.arr (.slice a n k)) 51)).alloc (.cells (Shard.zeroI) 51)) = w1 := ⟨_, rfl⟩
  rw [hw1] at hb2 hz n1 n2 n3
  have hin := In.start h hb2
  rw [hz] at hin
  have hch := chg3 (w.heap.size + 1) q b c cv env it (.slice a n k) w1 n2 ((hb2.block _ (Array.getElem?_eq_some_iff.1 hq).1).trans hq)
  have hvw := hv
  subst hn
  have r0 := Mem.row_cell n1 0
  simp only [rarr, List.getElem?_toArray, List.getElem?_cons_zero] at r0
  obtain ⟨it2, hit2⟩ : ∃ it2, { it with exp := atS c.exp env.now } = it2 := ⟨_, rfl⟩
  have hk2 : it2.key = it.key := (congrArg Shard.Item.key hit2).symm
  have hv2 : it2.val = it.val := (congrArg Shard.Item.val hit2).symm
  rw [hit2] at hch
  obtain ⟨n, hn⟩ : ∃ n, it.val.length = n := ⟨_, rfl⟩
  have hn2 : it2.val.length = n := by rw [hv2]; exact hn
  rw [hn] at hch hw1 hv n2
  have HB := Lib.hid (And.intro hin (And.intro n1 (And.intro n3 (And.intro hv (And.intro hn2 (And.intro (show it2.key.size ≤ 2000000 by rw [hk2]; exact hks) (And.intro (show it2.val.length ≤ 2000000 by rw [hv2]; exact hvs) (And.intro hit2 (And.intro hv2 hM)))))))))
  clear hb2 n1 n2 n3 hz hin h hv hvw hn2 hk2 hv2 hit2 hks hvs hM hq
  rw [hn]
  clear hn
  unfold rarr Item.arr Shard.zeroI at hw1
  unfold rarr Item.arr
  go_enter Tryz.func58, Tryz.ntmps58
  go_wp2_with fail
  refine hch.mono ?_
  rintro e w2 ⟨rfl, hc⟩
  have hin2 := HB.out.1.only (by omega) (by omega) hc.only
  have rz := fun j => World.cell?_of_block (a := ⟨w.heap.size, j, none⟩) (hc.only.same w.heap.size (block_lt_of_cell r0) (by omega))
  have nz := (hc.only.same (w.heap.size + 1 + 1) (Array.getElem?_eq_some_iff.1 HB.out.2.2.1).1 (by omega)).trans HB.out.2.2.1
  have s0 := (rz 0).trans r0
  have e1 := hc.row
  have i0 := Mem.row_cell e1 0
  have i1 := Mem.row_cell e1 1
  have i2 := Mem.row_cell e1 2
  have i3 := Mem.row_cell e1 3
  have i4 := Mem.row_cell e1 4
  have i5 := Mem.row_cell e1 5
  have i6 := Mem.row_cell e1 6
  have i7 := Mem.row_cell e1 7
  have i8 := Mem.row_cell e1 8
  have i9 := Mem.row_cell e1 9
  simp only [Item.arr, List.getElem?_toArray, List.getElem?_cons_zero, List.getElem?_cons_succ] at i0 i1 i2 i3 i4 i5 i6 i7 i8 i9
  have hsrc : SrcB w2 (.slice a it2.val.length k) it2.val := by
    have := (hin2.val HB.out.2.2.2.1).src
    rw [HB.out.2.2.2.2.1, HB.out.2.2.2.2.2.2.2.2.1]; exact this
  have hown : Apart col (.slice a it2.val.length k) it2.val := by
    have := HB.out.2.2.2.1.own
    rw [HB.out.2.2.2.2.1, HB.out.2.2.2.2.2.2.2.2.1]; exact this
  have hup := update_run hin2.run HB.out.2.2.2.2.2.2.2.2.2 it2 a k HB.out.2.2.2.2.2.1 HB.out.2.2.2.2.2.2.1 hsrc hown
  rw [HB.out.2.2.2.2.1] at hup
  unfold Item.arr at hup
  have H2 := Lib.hid (And.intro hin2 (And.intro nz e1))
  clear hc hin2 rz nz e1 hsrc hown hch r0
  go_wp2_with fail
  refine hup.mono ?_
  rintro e w3 ⟨rfl, ht⟩
  obtain ⟨col3, hin3, hfr⟩ := H2.out.1.turn ht
  have e3 := H2.out.1.row (by omega) (by omega) hfr H2.out.2.2
  have z3 := H2.out.1.row (by omega) (by omega) hfr H2.out.2.1
  have H3 := Lib.hid (And.intro hin3 z3)
  clear i0 i1 i2 i3 i4 i5 i6 i7 i8 i9
  have i0 := Mem.row_cell e3 0
  have i1 := Mem.row_cell e3 1
  have i2 := Mem.row_cell e3 2
  have i3 := Mem.row_cell e3 3
  have i4 := Mem.row_cell e3 4
  have i5 := Mem.row_cell e3 5
  have i6 := Mem.row_cell e3 6
  have i7 := Mem.row_cell e3 7
  have i8 := Mem.row_cell e3 8
  have i9 := Mem.row_cell e3 9
  simp only [Item.arr, List.getElem?_toArray, List.getElem?_cons_zero, List.getElem?_cons_succ] at i0 i1 i2 i3 i4 i5 i6 i7 i8 i9
  clear hup ht hin3 hfr e3 z3 s0
  go_wp2_with (first
    | (refine wpList_store_row rfl 51 _ _ rfl (w.heap.size + 1 + 1) (it2.arr (.slice a n k)) rfl rfl 51 Shard.zeroI H3.out.2 (Shard.item_size _ _) rfl (item_one' _ _ _ _) ?_)
    | fail)
  refine bodyPost_ret (results_cell_row Tryz.results58 _ _ (w.heap.size + 1 + 1) _ _ _ _ rfl (setRow_heap _ _ _ (it2.arr (.slice a n k)) _ _ H3.out.2) Tryz.underlying51 rfl (Shard.item_size _ _)) rfl ?_
  have hi := H3.out.1.setRow (by omega) (by omega) (it2.arr (.slice a n k)) (k := w.heap.size + 1 + 1)
  rw [HB.out.2.2.2.2.2.2.2.1]
  exact ⟨rfl, col3, hi.run, hi.fr⟩
set_option maxHeartbeats 4000000 in
theorem update4_any (h : Run W w M b col seed s) (hM : M ≤ 1050000) (cv : Value) (it : Shard.Item) {a : Option Addr} {n k : Nat} (hn : it.val.length = n) (hks : it.key.size ≤ 2000000) (hvs : it.val.length ≤ 2000000) (hv : Val w col (.slice a n k) it.val) {q : Nat} (hq : w.heap[q]? = some (.cells (rarr b c cv env) 86 (0, 0))) :
    Calls Tryz.prog 58 #[.agg (rarr b c cv env), .agg (it.arr (.slice a n k)), .func (.func 59) #[] #[.pointer (some ⟨q, 0, none⟩)]] w (UpdP W w M b col seed s (staleI c env it) (.slice a n k)) := by
  have hb2 : Below w.heap.size w (((w.alloc (.cells (rarr b c cv env) 86)).alloc (.cells (it.arr (.slice a n k)) 51)).alloc (.cells (Shard.zeroI) 51)) := Mem.al (Mem.al (Mem.al (Below.refl _ _) _) _) _
  have n1 : (((w.alloc (.cells (rarr b c cv env) 86)).alloc (.cells (it.arr (.slice a n k)) 51)).alloc (.cells (Shard.zeroI) 51)).heap[w.heap.size]? = some (.cells (rarr b c cv env) 86 (0, 0)) := Mem.new_later (Mem.new_later (Mem.new_block w _) _) _
  have n2 : (((w.alloc (.cells (rarr b c cv env) 86)).alloc (.cells (it.arr (.slice a n k)) 51)).alloc (.cells (Shard.zeroI) 51)).heap[w.heap.size + 1]? = some (.cells (it.arr (.slice a n k)) 51 (0, 0)) := Mem.new_later (Mem.new_block2 w _ _) _
  have n3 : (((w.alloc (.cells (rarr b c cv env) 86)).alloc (.cells (it.arr (.slice a n k)) 51)).alloc (.cells (Shard.zeroI) 51)).heap[w.heap.size + 1 + 1]? = some (.cells (Shard.zeroI) 51 (0, 0)) := new_block3 w _ _ _
  have hz : (((w.alloc (.cells (rarr b c cv env) 86)).alloc (.cells (it.arr (.slice a n k)) 51)).alloc (.cells (Shard.zeroI) 51)).heap.size = w.heap.size + 3 := by simp
  obtain ⟨w1, hw1⟩ : ∃ w1, (((w.alloc (.cells (rarr b c cv env) 86)).alloc (.cells (it.arr (.slice a n k)) 51)).alloc (.cells (Shard.zeroI) 51)) = w1 := ⟨_, rfl⟩
  rw [hw1] at hb2 hz n1 n2 n3
  have hin := In.start h hb2
  rw [hz] at hin
  have hch := chg4 (w.heap.size + 1) q b c cv env it (.slice a n k) w1 (by have := (Array.getElem?_eq_some_iff.1 hq).1; omega) n2 ((hb2.block _ (Array.getElem?_eq_some_iff.1 hq).1).trans hq)
  have hvw := hv
  subst hn
  have r0 := Mem.row_cell n1 0
  simp only [rarr, List.getElem?_toArray, List.getElem?_cons_zero] at r0
  obtain ⟨it2, hit2⟩ : ∃ it2, (staleI c env it) = it2 := ⟨_, rfl⟩
  have hk2 : it2.key = it.key := (congrArg Shard.Item.key hit2).symm
  have hv2 : it2.val = it.val := (congrArg Shard.Item.val hit2).symm
  rw [hit2] at hch
  obtain ⟨n, hn⟩ : ∃ n, it.val.length = n := ⟨_, rfl⟩
  have hn2 : it2.val.length = n := by rw [hv2]; exact hn
  rw [hn] at hch hw1 hv n2
  have HB := Lib.hid (And.intro hin (And.intro n1 (And.intro n3 (And.intro hv (And.intro hn2 (And.intro (show it2.key.size ≤ 2000000 by rw [hk2]; exact hks) (And.intro (show it2.val.length ≤ 2000000 by rw [hv2]; exact hvs) (And.intro hit2 (And.intro hv2 hM)))))))))
  clear hb2 n1 n2 n3 hz hin h hv hvw hn2 hk2 hv2 hit2 hks hvs hM hq
  rw [hn]
  clear hn
  unfold rarr Item.arr Shard.zeroI at hw1
  unfold rarr Item.arr
  go_enter Tryz.func58, Tryz.ntmps58
  go_wp2_with fail
  refine hch.mono ?_
  rintro e w2 ⟨rfl, hc⟩
  have hin2 := HB.out.1.only (by omega) (by omega) hc.only
  have rz := fun j => World.cell?_of_block (a := ⟨w.heap.size, j, none⟩) (hc.only.same w.heap.size (block_lt_of_cell r0) (by omega))
  have nz := (hc.only.same (w.heap.size + 1 + 1) (Array.getElem?_eq_some_iff.1 HB.out.2.2.1).1 (by omega)).trans HB.out.2.2.1
  have s0 := (rz 0).trans r0
  have e1 := hc.row
  have i0 := Mem.row_cell e1 0
  have i1 := Mem.row_cell e1 1
  have i2 := Mem.row_cell e1 2
  have i3 := Mem.row_cell e1 3
  have i4 := Mem.row_cell e1 4
  have i5 := Mem.row_cell e1 5
  have i6 := Mem.row_cell e1 6
  have i7 := Mem.row_cell e1 7
  have i8 := Mem.row_cell e1 8
  have i9 := Mem.row_cell e1 9
  simp only [Item.arr, List.getElem?_toArray, List.getElem?_cons_zero, List.getElem?_cons_succ] at i0 i1 i2 i3 i4 i5 i6 i7 i8 i9
  have hsrc : SrcB w2 (.slice a it2.val.length k) it2.val := by
    have := (hin2.val HB.out.2.2.2.1).src
    rw [HB.out.2.2.2.2.1, HB.out.2.2.2.2.2.2.2.2.1]; exact this
  have hown : Apart col (.slice a it2.val.length k) it2.val := by
    have := HB.out.2.2.2.1.own
    rw [HB.out.2.2.2.2.1, HB.out.2.2.2.2.2.2.2.2.1]; exact this
  have hup := update_run hin2.run HB.out.2.2.2.2.2.2.2.2.2 it2 a k HB.out.2.2.2.2.2.1 HB.out.2.2.2.2.2.2.1 hsrc hown
  rw [HB.out.2.2.2.2.1] at hup
  unfold Item.arr at hup
  have H2 := Lib.hid (And.intro hin2 (And.intro nz e1))
  clear hc hin2 rz nz e1 hsrc hown hch r0
  go_wp2_with fail
  refine hup.mono ?_
  rintro e w3 ⟨rfl, ht⟩
  obtain ⟨col3, hin3, hfr⟩ := H2.out.1.turn ht
  have e3 := H2.out.1.row (by omega) (by omega) hfr H2.out.2.2
  have z3 := H2.out.1.row (by omega) (by omega) hfr H2.out.2.1
  have H3 := Lib.hid (And.intro hin3 z3)
  clear i0 i1 i2 i3 i4 i5 i6 i7 i8 i9
  have i0 := Mem.row_cell e3 0
  have i1 := Mem.row_cell e3 1
  have i2 := Mem.row_cell e3 2
  have i3 := Mem.row_cell e3 3
  have i4 := Mem.row_cell e3 4
  have i5 := Mem.row_cell e3 5
  have i6 := Mem.row_cell e3 6
  have i7 := Mem.row_cell e3 7
  have i8 := Mem.row_cell e3 8
  have i9 := Mem.row_cell e3 9
  simp only [Item.arr, List.getElem?_toArray, List.getElem?_cons_zero, List.getElem?_cons_succ] at i0 i1 i2 i3 i4 i5 i6 i7 i8 i9
  clear hup ht hin3 hfr e3 z3 s0
  go_wp2_with (first
    | (refine wpList_store_row rfl 51 _ _ rfl (w.heap.size + 1 + 1) (it2.arr (.slice a n k)) rfl rfl 51 Shard.zeroI H3.out.2 (Shard.item_size _ _) rfl (item_one' _ _ _ _) ?_)
    | fail)
  refine bodyPost_ret (results_cell_row Tryz.results58 _ _ (w.heap.size + 1 + 1) _ _ _ _ rfl (setRow_heap _ _ _ (it2.arr (.slice a n k)) _ _ H3.out.2) Tryz.underlying51 rfl (Shard.item_size _ _)) rfl ?_
  have hi := H3.out.1.setRow (by omega) (by omega) (it2.arr (.slice a n k)) (k := w.heap.size + 1 + 1)
  rw [HB.out.2.2.2.2.2.2.2.1]
  exact ⟨rfl, col3, hi.run, hi.fr⟩
end
end Go.Proofs.YtpghckiochjogaaGreatDoor.Exec

/- The library functions that the code calls, as the kit's own contracts take them: which numbers they bear here. -/
namespace Go.Proofs.YtpghckiochjogaaGreatDoor.LayN
open Go.Shelf
def showSmall_ren : Go.Shelf.Ren := ⟨fun | 283 => 148 | n => n, fun | 3 => 3 | 9 => 9 | 4 => 4 | n => n, fun | n => n⟩
theorem showSmall : Go.Proofs.Lays.n283 Tryz.prog showSmall_ren := {
  mixed := by kernel_rfl,
  f283 := Tryz.func148.trans (congrArg some (by kernel_rfl)),
  t3 := Tryz.underlying3,
  a3 := Tryz.isAgg3,
  z3 := Tryz.sizeOf3,
  v3 := Tryz.zeroValue3,
  t4 := Tryz.underlying4,
  a4 := Tryz.isAgg4,
  z4 := Tryz.sizeOf4,
  v4 := Tryz.zeroValue4,
  t9 := Tryz.underlying9,
  a9 := Tryz.isAgg9,
  z9 := Tryz.sizeOf9,
  v9 := Tryz.zeroValue9 }
def showCount_ren : Go.Shelf.Ren := ⟨fun | 284 => 149 | 129 => 100 | 317 => 168 | 318 => 169 | n => n, fun | 53 => 22 | 3 => 3 | 212 => 249 | 0 => 0 | 4 => 4 | 46 => 136 | 5 => 5 | 9 => 9 | n => n, fun | 17 => 1 | n => n⟩
theorem showCount : Go.Proofs.LaysM.n284 Tryz.prog showCount_ren := {
  mixed := by kernel_rfl,
  f129 := Tryz.func100.trans (congrArg some (by kernel_rfl)),
  f284 := Tryz.func149.trans (congrArg some (by kernel_rfl)),
  f317 := Tryz.func168.trans (congrArg some (by kernel_rfl)),
  f318 := Tryz.func169.trans (congrArg some (by kernel_rfl)),
  t0 := Tryz.underlying0,
  a0 := Tryz.isAgg0,
  z0 := Tryz.sizeOf0,
  v0 := Tryz.zeroValue0,
  t3 := Tryz.underlying3,
  a3 := Tryz.isAgg3,
  z3 := Tryz.sizeOf3,
  v3 := Tryz.zeroValue3,
  t4 := Tryz.underlying4,
  a4 := Tryz.isAgg4,
  z4 := Tryz.sizeOf4,
  v4 := Tryz.zeroValue4,
  t5 := Tryz.underlying5,
  a5 := Tryz.isAgg5,
  z5 := Tryz.sizeOf5,
  v5 := Tryz.zeroValue5,
  t9 := Tryz.underlying9,
  a9 := Tryz.isAgg9,
  z9 := Tryz.sizeOf9,
  v9 := Tryz.zeroValue9,
  t46 := Tryz.underlying136,
  a46 := Tryz.isAgg136,
  z46 := Tryz.sizeOf136,
  v46 := Tryz.zeroValue136,
  t53 := Tryz.underlying22,
  a53 := Tryz.isAgg22,
  z53 := Tryz.sizeOf22,
  v53 := Tryz.zeroValue22,
  t212 := Tryz.underlying249,
  a212 := Tryz.isAgg249,
  z212 := Tryz.sizeOf249,
  v212 := Tryz.zeroValue249,
  g17 := by kernel_rfl,
  i0 := by kernel_rfl,
  i3 := by kernel_rfl,
  i4 := by kernel_rfl,
  i5 := by kernel_rfl,
  i9 := by kernel_rfl,
  i46 := by kernel_rfl,
  i53 := by kernel_rfl,
  i212 := by kernel_rfl,
  m17 := by kernel_rfl }
def showPut_ren : Go.Shelf.Ren := ⟨fun | 285 => 150 | n => n, fun | 37 => 30 | 53 => 22 | 3 => 3 | 4 => 4 | 51 => 31 | 9 => 9 | 5 => 5 | 0 => 0 | n => n, fun | n => n⟩
theorem showPut : Go.Proofs.Lays.n285 Tryz.prog showPut_ren := {
  mixed := by kernel_rfl,
  f285 := Tryz.func150.trans (congrArg some (by kernel_rfl)),
  t0 := Tryz.underlying0,
  a0 := Tryz.isAgg0,
  z0 := Tryz.sizeOf0,
  v0 := Tryz.zeroValue0,
  t3 := Tryz.underlying3,
  a3 := Tryz.isAgg3,
  z3 := Tryz.sizeOf3,
  v3 := Tryz.zeroValue3,
  t4 := Tryz.underlying4,
  a4 := Tryz.isAgg4,
  z4 := Tryz.sizeOf4,
  v4 := Tryz.zeroValue4,
  t5 := Tryz.underlying5,
  a5 := Tryz.isAgg5,
  z5 := Tryz.sizeOf5,
  v5 := Tryz.zeroValue5,
  t9 := Tryz.underlying9,
  a9 := Tryz.isAgg9,
  z9 := Tryz.sizeOf9,
  v9 := Tryz.zeroValue9,
  t37 := Tryz.underlying30,
  a37 := Tryz.isAgg30,
  z37 := Tryz.sizeOf30,
  v37 := Tryz.zeroValue30,
  t51 := Tryz.underlying31,
  a51 := Tryz.isAgg31,
  z51 := Tryz.sizeOf31,
  v51 := Tryz.zeroValue31,
  t53 := Tryz.underlying22,
  a53 := Tryz.isAgg22,
  z53 := Tryz.sizeOf22,
  v53 := Tryz.zeroValue22 }
def hasPre_ren : Go.Shelf.Ren := ⟨fun | 99 => 119 | 206 => 140 | n => n, fun | 9 => 9 | 4 => 4 | 3 => 3 | n => n, fun | n => n⟩
theorem hasPre : Go.Proofs.Lays.n99 Tryz.prog hasPre_ren := {
  mixed := by kernel_rfl,
  f99 := Tryz.func119.trans (congrArg some (by kernel_rfl)),
  f206 := Tryz.func140.trans (congrArg some (by kernel_rfl)),
  t3 := Tryz.underlying3,
  a3 := Tryz.isAgg3,
  z3 := Tryz.sizeOf3,
  v3 := Tryz.zeroValue3,
  t4 := Tryz.underlying4,
  a4 := Tryz.isAgg4,
  z4 := Tryz.sizeOf4,
  v4 := Tryz.zeroValue4,
  t9 := Tryz.underlying9,
  a9 := Tryz.isAgg9,
  z9 := Tryz.sizeOf9,
  v9 := Tryz.zeroValue9 }
end Go.Proofs.YtpghckiochjogaaGreatDoor.LayN

/- num.Show: the digits of a number. -/
namespace Go.Proofs.YtpghckiochjogaaGreatDoor.Exec
set_option maxRecDepth 100000
open Go Go.RowKit Go.Sort Go.Shelf Go.Proofs.YtpghckiochjogaaGreatDoor.Mem Go.Proofs.YtpghckiochjogaaGreatDoor.App
abbrev Pows (w : World) : Prop := Lib.TabIs Tryz.prog w "internal/strconv.uint64pow10" .u64 Lib.pow10Tab
theorem tabIs_below {P : Program} {w w' : World} {name : String} {k : IntKind} {zs : List Int} (h : Lib.TabIs P w name k zs) (hb : Below w.heap.size w w') : Lib.TabIs P w' name k zs := by
  unfold Lib.TabIs World.var? at *
  cases hg : P.globalNamed name with
  | none => simp [hg] at h
  | some g =>
    simp only [hg, Option.bind_some] at h ⊢
    have hlt : g < w.heap.size := by
      rcases Nat.lt_or_ge g w.heap.size with h' | h'
      · exact h'
      · rw [Array.getElem?_eq_none h'] at h; simp at h
    rw [hb.block g hlt]
    exact h
theorem holds_zero0 (w : World) (T : TypeId) (nd : Nat) (hs : nd ≤ 24) : Holds (fun (b : UInt8) => Value.int .u8 (b.toNat : Int)) (w.alloc (.cells Lib.zeros24 T)) w.heap.size 0 (Array.replicate nd (0 : UInt8)) := fun j hj => by
  have hj' : j < nd := by simpa using hj
  refine ⟨?_, World.frozen?_alloc_new _ _ _ _⟩
  rw [World.cell?_alloc_new, Lib.zeros24_at _ (by omega), getElem!_pos _ j hj]
  simp
theorem below_grow (w : World) (k : Nat) (os : Array Obj) : Below w.heap.size w (grow (w.drewN k) os) := by
  refine ⟨rfl, rfl, rfl, ?_, fun j hj => Lib.heap_grow_old w k os j hj⟩
  show w.heap.size ≤ (w.heap ++ os).size
  simp
set_option maxHeartbeats 6400000 in
theorem format_any (u : Nat) (hu64 : u < 18446744073709551616) (w : World) (htab : Pows w) :
    Calls Tryz.prog 139 #[.int .u64 u, .int .i64 10] w fun e w' => e = .returned (.string ⟨(Lib.decDigits u).toArray⟩) ∧ Below w.heap.size w w' := by
  by_cases hs : u < 100
  · have d1 : decide ((u : Int) < 100) = true := decide_eq_true (by omega)
    have hw : IntKind.i64.wrap (u : Int) = u := by rw [wrap_i64]; unfold wrap64; omega
    go_enter Tryz.func139, Tryz.ntmps139
    go_wp2_with fail
    refine (Any.internal_strconv_small LayN.showSmall u hs _).mono ?_
    rintro e w' ⟨rfl, rfl⟩
    go_wp2_with fail
    go_ret
    exact ⟨rfl, Below.refl _ _⟩
  · have d1 : decide ((u : Int) < 100) = false := decide_eq_false (by omega)
    have hu1 : 1 ≤ u := by omega
    have hnd20 : Lib.nDigits u ≤ 20 := by have := Lib.numDigits_eq u hu1 hu64; split at this <;> omega
    have hal : Tryz.prog.arrayLen 233 = 24 := by kernel_rfl
    have hsl1 : ∀ W, (Instr.sliceAt 233 (.pointer (some ⟨w.heap.size, 0, none⟩)) none (some (.int .i64 (Lib.nDigits u : Int))) none).run Tryz.prog W = .ok (.slice (some ⟨w.heap.size, 0, none⟩) (Lib.nDigits u) 24) W := fun W => by
      rw [run_sliceAt_array_h W 233 ⟨w.heap.size, 0, none⟩ (by kernel_rfl) .i64 (Lib.nDigits u : Int) (by omega) (by rw [hal]; omega)]
      rw [hal]
      rfl
    have hH0 := holds_zero0 w 233 (Lib.nDigits u) (by omega)
    have hfmt := Any.internal_strconv_formatBase10 LayN.showPut w.heap.size 0 24 u (Array.replicate (Lib.nDigits u) 0) (w.alloc (.cells Lib.zeros24 233)) hH0 (by rw [Array.size_replicate]; exact Lib.lt_pow_nDigits u) hu64 (by rw [Array.size_replicate]; omega)
    rw [Array.size_replicate] at hfmt
    have HH0 := Lib.hid hH0
    clear hH0 hal
    unfold Lib.zeros24 at hfmt
    go_enter Tryz.func139, Tryz.ntmps139
    go_wp2_with fail
    refine (Any.internal_strconv_numDigits LayN.showCount u hu1 hu64 _ (Lib.tabIs_alloc htab _)).mono ?_
    rintro e w' ⟨rfl, rfl⟩
    go_wp2_with fail
    refine hfmt.mono ?_
    rintro e w' ⟨rfl, k, v', dk, hw', hF⟩
    have hcv : (convert 30 9 (.slice (some ⟨w.heap.size, 0, none⟩) (Lib.nDigits u) 24)).run Tryz.prog w' = .ok (.string ⟨(Lib.decDigits u).toArray⟩) w' := by
      have h := run_convert_bytes_back (P := Tryz.prog) w' 30 9 5 ⟨w.heap.size, 0, none⟩ 24 (Lib.decDigits u) Tryz.underlying30 Tryz.underlying5 Tryz.underlying9 (fun j hj => by
        rw [hw', Lib.row_is_numeral hF j hj, Lib.add_plain, World.cell?_drewN]
        exact cell?_putRow (fun (b : UInt8) => Value.int .u8 (b.toNat : Int)) _ w.heap.size 0 _ dk HH0.out (by rw [hF.size, Array.size_replicate]) j (by rw [hF.size]; rw [Lib.decDigits_length] at hj; exact hj))
      rw [Lib.decDigits_length] at h
      exact h
    have hb : Below w.heap.size w w' := by
      obtain ⟨os, eo⟩ := Lib.fin_at w (.cells Lib.zeros24 233) dk k 0
      rw [hw']
      exact (congrArg (Below w.heap.size w) eo).mpr (below_grow w k os)
    have HB := Lib.hid hb
    clear hb hw' hF htab hfmt
    go_wp2_with fail
    go_ret
    exact ⟨rfl, HB.out⟩
theorem show_any (u : Nat) (hu64 : u < 18446744073709551616) (w : World) (htab : Pows w) :
    Calls Tryz.prog 77 #[.int .u64 u] w fun e w' => e = .returned (.string ⟨(Lib.decDigits u).toArray⟩) ∧ Below w.heap.size w w' := by
  have hf : Calls Tryz.prog 114 #[.int .u64 u, .int .i64 10] w fun e w' => e = .returned (.string ⟨(Lib.decDigits u).toArray⟩) ∧ Below w.heap.size w w' := by
    have h1 := format_any u hu64 w htab
    clear htab
    go_enter Tryz.func114, Tryz.ntmps114
    go_wp2_with fail
    refine h1.mono ?_
    rintro e w' ⟨rfl, hb⟩
    have HB := Lib.hid hb
    clear hb
    go_wp2_with fail
    go_ret
    exact ⟨rfl, HB.out⟩
  clear htab
  go_enter Tryz.func77, Tryz.ntmps77
  go_wp2_with fail
  refine hf.mono ?_
  rintro e w' ⟨rfl, hb⟩
  have HB := Lib.hid hb
  clear hb
  go_wp2_with fail
  go_ret
  exact ⟨rfl, HB.out⟩
end Go.Proofs.YtpghckiochjogaaGreatDoor.Exec

/- The library functions that the code calls, as the kit's own contracts take them: which numbers they bear here. -/
namespace Go.Proofs.YtpghckiochjogaaGreatDoor.LayP
open Go.Shelf
def parseU_ren : Go.Shelf.Ren := ⟨fun | 14 => 120 | 16 => 141 | 17 => 142 | 19 => 152 | 20 => 153 | 21 => 154 | 22 => 155 | 23 => 156 | 24 => 157 | 25 => 172 | 27 => 174 | 26 => 173 | 28 => 180 | 29 => 182 | 30 => 148 | 31 => 149 | 32 => 150 | 33 => 151 | 35 => 100 | 34 => 168 | 36 => 169 | 37 => 170 | 38 => 171 | 39 => 178 | 40 => 179 | n => n, fun | 9 => 9 | 3 => 3 | 22 => 22 | 24 => 204 | 25 => 205 | 4 => 4 | 34 => 237 | 5 => 5 | 36 => 136 | 37 => 30 | 0 => 0 | 39 => 239 | 21 => 21 | 44 => 253 | 47 => 257 | 50 => 260 | 48 => 258 | 2 => 2 | 52 => 233 | 55 => 235 | 59 => 249 | 60 => 31 | 20 => 20 | 61 => 250 | 65 => 145 | 66 => 262 | 67 => 264 | n => n, fun | 0 => 2 | 1 => 3 | 2 => 1 | 3 => 4 | 4 => 5 | n => n⟩
theorem parseU : Go.Proofs.LaysPu.n14 Tryz.prog parseU_ren := {
  mixed := by kernel_rfl,
  f14 := Tryz.func120.trans (congrArg some (by kernel_rfl)),
  f16 := Tryz.func141.trans (congrArg some (by kernel_rfl)),
  f17 := Tryz.func142.trans (congrArg some (by kernel_rfl)),
  f19 := Tryz.func152.trans (congrArg some (by kernel_rfl)),
  f20 := Tryz.func153.trans (congrArg some (by kernel_rfl)),
  f21 := Tryz.func154.trans (congrArg some (by kernel_rfl)),
  f22 := Tryz.func155.trans (congrArg some (by kernel_rfl)),
  f23 := Tryz.func156.trans (congrArg some (by kernel_rfl)),
  f24 := Tryz.func157.trans (congrArg some (by kernel_rfl)),
  f25 := Tryz.func172.trans (congrArg some (by kernel_rfl)),
  f26 := Tryz.func173.trans (congrArg some (by kernel_rfl)),
  f27 := Tryz.func174.trans (congrArg some (by kernel_rfl)),
  f28 := Tryz.func180.trans (congrArg some (by kernel_rfl)),
  f29 := Tryz.func182.trans (congrArg some (by kernel_rfl)),
  f30 := Tryz.func148.trans (congrArg some (by kernel_rfl)),
  f31 := Tryz.func149.trans (congrArg some (by kernel_rfl)),
  f32 := Tryz.func150.trans (congrArg some (by kernel_rfl)),
  f33 := Tryz.func151.trans (congrArg some (by kernel_rfl)),
  f34 := Tryz.func168.trans (congrArg some (by kernel_rfl)),
  f35 := Tryz.func100.trans (congrArg some (by kernel_rfl)),
  f36 := Tryz.func169.trans (congrArg some (by kernel_rfl)),
  f37 := Tryz.func170.trans (congrArg some (by kernel_rfl)),
  f38 := Tryz.func171.trans (congrArg some (by kernel_rfl)),
  f39 := Tryz.func178.trans (congrArg some (by kernel_rfl)),
  f40 := Tryz.func179.trans (congrArg some (by kernel_rfl)),
  t0 := Tryz.underlying0,
  a0 := Tryz.isAgg0,
  z0 := Tryz.sizeOf0,
  v0 := Tryz.zeroValue0,
  i0 := by kernel_rfl,
  t2 := Tryz.underlying2,
  a2 := Tryz.isAgg2,
  z2 := Tryz.sizeOf2,
  v2 := Tryz.zeroValue2,
  i2 := by kernel_rfl,
  t3 := Tryz.underlying3,
  a3 := Tryz.isAgg3,
  z3 := Tryz.sizeOf3,
  v3 := Tryz.zeroValue3,
  i3 := by kernel_rfl,
  t4 := Tryz.underlying4,
  a4 := Tryz.isAgg4,
  z4 := Tryz.sizeOf4,
  v4 := Tryz.zeroValue4,
  i4 := by kernel_rfl,
  t5 := Tryz.underlying5,
  a5 := Tryz.isAgg5,
  z5 := Tryz.sizeOf5,
  v5 := Tryz.zeroValue5,
  i5 := by kernel_rfl,
  t9 := Tryz.underlying9,
  a9 := Tryz.isAgg9,
  z9 := Tryz.sizeOf9,
  v9 := Tryz.zeroValue9,
  i9 := by kernel_rfl,
  t20 := Tryz.underlying20,
  a20 := Tryz.isAgg20,
  z20 := Tryz.sizeOf20,
  v20 := Tryz.zeroValue20,
  i20 := by kernel_rfl,
  t21 := Tryz.underlying21,
  a21 := Tryz.isAgg21,
  z21 := Tryz.sizeOf21,
  v21 := Tryz.zeroValue21,
  i21 := by kernel_rfl,
  t22 := Tryz.underlying22,
  a22 := Tryz.isAgg22,
  z22 := Tryz.sizeOf22,
  v22 := Tryz.zeroValue22,
  i22 := by kernel_rfl,
  t24 := Tryz.underlying204,
  a24 := Tryz.isAgg204,
  z24 := Tryz.sizeOf204,
  v24 := Tryz.zeroValue204,
  i24 := by kernel_rfl,
  t25 := Tryz.underlying205,
  a25 := Tryz.isAgg205,
  z25 := Tryz.sizeOf205,
  v25 := Tryz.zeroValue205,
  i25 := by kernel_rfl,
  t34 := Tryz.underlying237,
  a34 := Tryz.isAgg237,
  z34 := Tryz.sizeOf237,
  v34 := Tryz.zeroValue237,
  i34 := by kernel_rfl,
  c34 := by kernel_rfl,
  t36 := Tryz.underlying136,
  a36 := Tryz.isAgg136,
  z36 := Tryz.sizeOf136,
  v36 := Tryz.zeroValue136,
  i36 := by kernel_rfl,
  t37 := Tryz.underlying30,
  a37 := Tryz.isAgg30,
  z37 := Tryz.sizeOf30,
  v37 := Tryz.zeroValue30,
  i37 := by kernel_rfl,
  t39 := Tryz.underlying239,
  a39 := Tryz.isAgg239,
  z39 := Tryz.sizeOf239,
  v39 := Tryz.zeroValue239,
  i39 := by kernel_rfl,
  t44 := Tryz.underlying253,
  a44 := Tryz.isAgg253,
  z44 := Tryz.sizeOf253,
  v44 := Tryz.zeroValue253,
  i44 := by kernel_rfl,
  t47 := Tryz.underlying257,
  a47 := Tryz.isAgg257,
  z47 := Tryz.sizeOf257,
  v47 := Tryz.zeroValue257,
  i47 := by kernel_rfl,
  t48 := Tryz.underlying258,
  a48 := Tryz.isAgg258,
  z48 := Tryz.sizeOf258,
  v48 := Tryz.zeroValue258,
  i48 := by kernel_rfl,
  t50 := Tryz.underlying260,
  a50 := Tryz.isAgg260,
  z50 := Tryz.sizeOf260,
  v50 := Tryz.zeroValue260,
  i50 := by kernel_rfl,
  t52 := Tryz.underlying233,
  a52 := Tryz.isAgg233,
  z52 := Tryz.sizeOf233,
  v52 := Tryz.zeroValue233,
  i52 := by kernel_rfl,
  t55 := Tryz.underlying235,
  a55 := Tryz.isAgg235,
  z55 := Tryz.sizeOf235,
  v55 := Tryz.zeroValue235,
  i55 := by kernel_rfl,
  t59 := Tryz.underlying249,
  a59 := Tryz.isAgg249,
  z59 := Tryz.sizeOf249,
  v59 := Tryz.zeroValue249,
  i59 := by kernel_rfl,
  t60 := Tryz.underlying31,
  a60 := Tryz.isAgg31,
  z60 := Tryz.sizeOf31,
  v60 := Tryz.zeroValue31,
  i60 := by kernel_rfl,
  t61 := Tryz.underlying250,
  a61 := Tryz.isAgg250,
  z61 := Tryz.sizeOf250,
  t65 := Tryz.underlying145,
  a65 := Tryz.isAgg145,
  z65 := Tryz.sizeOf145,
  v65 := Tryz.zeroValue145,
  i65 := by kernel_rfl,
  t66 := Tryz.underlying262,
  a66 := Tryz.isAgg262,
  z66 := Tryz.sizeOf262,
  v66 := Tryz.zeroValue262,
  i66 := by kernel_rfl,
  t67 := Tryz.underlying264,
  a67 := Tryz.isAgg264,
  z67 := Tryz.sizeOf264,
  v67 := Tryz.zeroValue264,
  i67 := by kernel_rfl,
  g0 := by kernel_rfl,
  m0 := by kernel_rfl,
  g1 := by kernel_rfl,
  m1 := by kernel_rfl,
  g2 := by kernel_rfl,
  m2 := by kernel_rfl,
  g3 := by kernel_rfl,
  m3 := by kernel_rfl,
  g4 := by kernel_rfl,
  m4 := by kernel_rfl }
end Go.Proofs.YtpghckiochjogaaGreatDoor.LayP

/- num.Decimal: the number of digits. -/
namespace Go.Proofs.YtpghckiochjogaaGreatDoor.Exec
set_option maxRecDepth 100000
open Go Go.RowKit Go.Sort Go.Shelf Go.Proofs.YtpghckiochjogaaGreatDoor.Mem Go.Proofs.YtpghckiochjogaaGreatDoor.App Go.Proofs.YtpghckiochjogaaGreatDoor.Shard
def Errs (w : World) : Prop := (∃ ev, w.cell? ⟨LayP.parseU_ren.g 0, 0, none⟩ = some ev ∧ (ev = .nilIface ∨ ∃ te pe, ev = .iface te pe)) ∧ ∃ ev, w.cell? ⟨LayP.parseU_ren.g 1, 0, none⟩ = some ev ∧ (ev = .nilIface ∨ ∃ te pe, ev = .iface te pe)
theorem Errs.below {w w' : World} (h : Errs w) (hb : Below w.heap.size w w') : Errs w' := by
  obtain ⟨⟨e1, h1, g1⟩, ⟨e2, h2, g2⟩⟩ := h
  exact ⟨⟨e1, (World.cell?_of_block (hb.block _ (block_lt_of_cell h1))).trans h1, g1⟩, ⟨e2, (World.cell?_of_block (hb.block _ (block_lt_of_cell h2))).trans h2, g2⟩⟩
theorem below_bytes (w : World) (e : TypeId) (s : ByteArray) : Below w.heap.size w (Lib.bytesWorld w e s) :=
  ⟨rfl, rfl, rfl, by rw [Lib.bytesWorld_size]; omega, fun j hj => Lib.bytesWorld_at_old w e s j hj⟩
def decV (l : List UInt8) : Value := match decS l with
  | some n => .tuple #[.int .u64 n, .bool true]
  | none => .tuple #[.int .u64 0, .bool false]
theorem pre_plus (s : ByteArray) : Lib.hasPrefix s.data.toList [43] = decide (s.data.toList.head? = some 43) := by
  unfold Lib.hasPrefix
  cases h : s.data.toList with
  | nil => rfl
  | cons x l =>
    simp only [List.isPrefixOf_cons_cons, List.isPrefixOf_nil_left, Bool.and_true, List.head?_cons, Option.some.injEq]
    by_cases e : x = 43
    · subst e; rfl
    · have h1 : ((43 : UInt8) == x) = false := by simpa using fun e' => e e'.symm
      rw [h1, decide_eq_false e]
set_option maxHeartbeats 2000000 in
theorem decimal_any (s : ByteArray) (hs : s.size ≤ 9223372036854775807) (w : World) (herr : Errs w) :
    Calls Tryz.prog 88 #[.string s] w fun e w' => e = .returned (decV s.data.toList) ∧ Below w.heap.size w w' := by
  have hlen : s.data.toList.length = s.size := by simp
  obtain ⟨v, hv⟩ : ∃ v, decV s.data.toList = v := ⟨_, rfl⟩
  rw [hv]
  unfold decV decS at hv
  rw [hlen] at hv
  by_cases h40 : 40 < s.size
  · have d1 : decide ((40 : Int) < s.size) = true := decide_eq_true (by omega)
    rw [if_pos (.inl h40)] at hv
    simp only at hv
    subst hv
    clear hlen herr
    go_enter Tryz.func88, Tryz.ntmps88
    go_wp2_with fail
    go_ret2
    exact ⟨rfl, Below.refl _ _⟩
  have d1 : decide ((40 : Int) < s.size) = false := decide_eq_false (by omega)
  have hpre := Any.strings_HasPrefix (P := Tryz.prog) LayN.hasPre s ⟨#[43]⟩ w
  rw [show (⟨#[43]⟩ : ByteArray).data.toList = [43] from rfl, pre_plus s] at hpre
  by_cases hp : s.data.toList.head? = some 43
  · rw [if_pos (.inr hp)] at hv
    simp only at hv
    rw [decide_eq_true hp] at hpre
    subst hv
    clear hlen herr hp h40
    go_enter Tryz.func88, Tryz.ntmps88
    go_wp2_with fail
    refine hpre.mono ?_
    rintro e w' ⟨rfl, rfl⟩
    go_wp2_with fail
    go_ret2
    exact ⟨rfl, Below.refl _ _⟩
  rw [if_neg (fun h => h.elim h40 hp)] at hv
  rw [decide_eq_false hp] at hpre
  clear hlen hp
  rcases hq : Lib.parseUintB 64 s.data.toList with u | _ | _
  · rw [hq] at hv
    simp only at hv
    have hpar := Any.strconv_ParseUint_10_at64_ok LayP.parseU s (by omega) u hq w
    subst hv
    clear herr h40 hq
    go_enter Tryz.func88, Tryz.ntmps88
    go_wp2_with fail
    refine hpre.mono ?_
    rintro e w' ⟨rfl, rfl⟩
    go_wp2_with fail
    refine hpar.mono ?_
    rintro e w2 ⟨rfl, hw2⟩
    have hb : Below w'.heap.size w' w2 := hw2.elim (fun h => by rw [h]; exact Below.refl _ _) (fun h => by rw [h]; exact below_bytes _ _ _)
    have HB := Lib.hid hb
    clear hw2 hb hpar hpre
    go_wp2_with fail
    go_ret2
    exact ⟨rfl, HB.out⟩
  · rw [hq] at hv
    simp only at hv
    obtain ⟨⟨ev, h1, h2⟩, -⟩ := herr
    have hpar := Any.strconv_ParseUint_10_at64_syntax LayP.parseU s (by omega) hq ev w h1 h2
    subst hv
    clear h40 hq h1 h2
    go_enter Tryz.func88, Tryz.ntmps88
    go_wp2_with fail
    refine hpre.mono ?_
    rintro e w' ⟨rfl, rfl⟩
    go_wp2_with fail
    refine hpar.mono ?_
    rintro e w2 ⟨N, rfl, -, -, hb⟩
    have HB := Lib.hid hb
    clear hb hpar hpre
    go_wp2_with fail
    go_ret2
    exact ⟨rfl, HB.out⟩
  · rw [hq] at hv
    simp only at hv
    obtain ⟨-, ⟨ev, h1, h2⟩⟩ := herr
    have hpar := Any.strconv_ParseUint_10_at64_range LayP.parseU s (by omega) hq ev w h1 h2
    subst hv
    clear h40 hq h1 h2
    go_enter Tryz.func88, Tryz.ntmps88
    go_wp2_with fail
    refine hpre.mono ?_
    rintro e w' ⟨rfl, rfl⟩
    go_wp2_with fail
    refine hpar.mono ?_
    rintro e w2 ⟨N, rfl, -, -, hb⟩
    have HB := Lib.hid hb
    clear hb hpar hpre
    go_wp2_with fail
    go_ret2
    exact ⟨rfl, HB.out⟩
end Go.Proofs.YtpghckiochjogaaGreatDoor.Exec

