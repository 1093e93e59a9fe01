/- Part8: ShardR, Op11, ShardL3, ShardA, ShardL4, ShardL5, one behind the other. -/
import Derived.Test.YtkchlibkfafgdaaPart7
import Derived.Test.YtkchlibkfafgdaaPart2
import Derived.Test.YtkchlibkfafgdaaPart1
import Derived.Test.YtkchlibkfafgdaaPart3
import Derived.Deep.LoopGhost
import Derived.Test.YtkchlibkfafgdaaPart6
/- Layer 11: a shard in a law's run: M calls at most were made of it. -/
namespace Go.Proofs.Ytkchlibkfafgdaa.Shard
open Go Go.RowKit Go.Proofs.Ytkchlibkfafgdaa.Mem Go.Proofs.Ytkchlibkfafgdaa.App

def nn (M : Nat) : Nat := M * M + 4 * M
theorem nn_succ (M : Nat) : nn M + M + 4 ≤ nn (M + 1) := by
  have h : (M + 1) * (M + 1) = M * M + M + M + 1 := by rw [Nat.add_mul, Nat.mul_add]; omega
  unfold nn; omega
theorem nn_le {M m : Nat} (h : M ≤ m) : nn M ≤ nn m := by
  have := Nat.mul_le_mul h h
  unfold nn; omega
theorem nn_max {M : Nat} (h : M ≤ 400) : nn M ≤ 162000 := by have := nn_le h; have : nn 400 = 161600 := rfl; omega
structure Run (W w : World) (M b : Nat) (col : Col) (seed : Int) (s : St) : Prop where
  at_ : At W w M b col seed s
  inv : Inv M (nn M) s
/-- It was turned. -/
def RunTurn (W w : World) (M b : Nat) (col : Col) (seed : Int) (s : St) (w' : World) : Prop := ∃ col', Run W w' M b col' seed s ∧ Fr col col' w w'
section
variable {W w w' : World} {M b : Nat} {col : Col} {seed : Int} {s : St}
theorem Run.step (h : Run W w M b col seed s) (hb : Below w.heap.size w w') : Run W w' M b col seed s := ⟨h.at_.step hb, h.inv⟩
theorem Run.below (h : Run W w M b col seed s) : Below W.heap.size W w := by
  obtain ⟨ad, vd, vv, e, h⟩ := h.at_
  exact h.below
theorem Run.low (h : Run W w M b col seed s) : ∀ k, col k ≠ none → W.heap.size ≤ k ∧ k < w.heap.size := by
  obtain ⟨ad, vd, vv, e, h⟩ := h.at_
  intro k hk
  rcases hc : col k with _ | p
  · exact absurd hc hk
  · exact h.lt k p hc
theorem RunTurn.of {M' : Nat} {t : St} (h : Turn W w M' b col seed t w') (hm : M' ≤ M) (hM : M ≤ 400) (hi : Inv M (nn M) t) : RunTurn W w M b col seed t w' := by
  obtain ⟨c, a, f⟩ := h
  exact ⟨c, ⟨a.more hm (by omega), hi⟩, f⟩
theorem RunTurn.step {w2 : World} (h : RunTurn W w M b col seed s w') (hb : Below w'.heap.size w' w2) : RunTurn W w M b col seed s w2 := by
  obtain ⟨c, a, f⟩ := h
  exact ⟨c, a.step hb, f.trans (Fr.below hb)⟩
theorem Run.vals (h : Run W w M b col seed s) : ∀ p ∈ s.tab.L, (s.ent p.2).it.val.length ≤ 1000000 := fun p hp => by
  have h1 := (h.inv.ents p hp).2.2.1
  unfold Item.size at h1
  omega
theorem Run.olen (h : Run W w M b col seed s) : s.order.all.length ≤ M := by have := h.inv.olen; have := h.inv.len; omega
theorem Run.ilen (h : Run W w M b col seed s) : s.items.length ≤ M := by rw [items_len]; exact h.inv.len
/-- A value that no turn of the shard touches. -/
def Apart (col : Col) (v : Value) (xs : List UInt8) : Prop := xs ≠ [] → ∀ g, v.ownBlock = some g → col g = none
theorem Apart.low {v : Value} {xs : List UInt8} {B : Nat} (hc : ∀ k, col k ≠ none → B ≤ k) (hv : xs ≠ [] → ∀ g, v.ownBlock = some g → g < B) : Apart col v xs := fun hx g e =>
  Classical.byContradiction fun h => by have := hc g h; have := hv hx g e; omega
theorem store_run (h : Run W w M b col seed s) (hM : M + 1 ≤ 400) (it : Item) (a : Option Addr) (c : Nat) (env : Env) (hks : it.key.size ≤ 300) (hvs : it.val.length ≤ 3000) (hsrc : SrcB w (.slice a it.val.length c) it.val) (hsc : Apart col (.slice a it.val.length c) it.val) :
    Calls Try.prog 12 #[.pointer (some ⟨b, 0, none⟩), .agg (it.arr (.slice a it.val.length c)), .agg env.arr] w fun e w' => ∃ fresh, (∀ p ∈ s.tab.L, p.2 ≠ fresh) ∧ e = .returned (.int .i64 (s.store fresh it env).1) ∧ RunTurn W w (M + 1) b col seed (s.store fresh it env).2 w' := by
  have hn := nn_max (M := M) (by omega)
  refine (store_any h.at_ (by omega) h.inv it a c env hks hvs hsrc hsc (by omega) (by omega)).mono ?_
  rintro e w' ⟨fresh, h1, h2, h3⟩
  exact ⟨fresh, h1, h2, RunTurn.of h3 (Nat.le_refl _) hM ((h.inv.store hks h1).mono (Nat.le_refl _) (nn_succ M))⟩
theorem look_run (h : Run W w M b col seed s) (hM : M + 1 ≤ 400) (k : ByteArray) (env : Env) (hk : k.size ≤ maxLen) :
    Calls Try.prog 15 #[.pointer (some ⟨b, 0, none⟩), .string k, .agg env.arr] w fun e w' => RunTurn W w (M + 1) b col seed (s.find k env).2 w' ∧ (match (s.find k env).1 with
      | some x => ∃ v, e = .returned (.tuple #[.agg ((s.ent x).it.arr v), .bool true]) ∧ OwnB w' w.heap.size v (s.ent x).it.val
      | none => e = .returned (.tuple #[.agg zeroI, .bool false])) := by
  have hn := nn_max (M := M) (by omega)
  have hol := h.olen
  have hns := nn_succ M
  refine (look_any h.at_ k env hk (by omega) h.inv.smallN (by omega) (by rw [remove_drops]; have := h.inv.dl; show s.drops.length ≤ _; omega) (fun x hx => h.vals _ ((Tab.get_mem h.inv.rise.nodup).1 hx))).mono ?_
  rintro e w' ⟨h1, h2⟩
  exact ⟨RunTurn.of h1 (by omega) hM ((h.inv.find k env).mono (by omega) (by omega)), h2⟩
theorem use_run (h : Run W w M b col seed s) (hM : M ≤ 400) (k : ByteArray) (hk : k.size ≤ maxLen) :
    Calls Try.prog 16 #[.pointer (some ⟨b, 0, none⟩), .string k] w fun e w' => e = .returned (.tuple #[]) ∧ RunTurn W w M b col seed { s with judge := s.judge.touch k.data.toList, order := (s.order.hit k).2 } w' := by
  have hol := h.olen
  refine (use_any h.at_ k hk (by omega)).mono ?_
  rintro e w' ⟨h1, h2⟩
  refine ⟨h1, RunTurn.of h2 (Nat.le_refl _) hM ?_⟩
  have hall : (s.order.hit k).2.all.Perm s.order.all := by
    unfold Slru.St.hit
    by_cases hm : k ∈ s.order.all
    · rw [if_pos hm]
      have hp : (Slru.without s.order.trial k ++ (Slru.without s.order.safe k ++ [k])).Perm s.order.all := by
        rw [← List.append_assoc, ← without_app]
        refine (List.perm_append_singleton k _).trans ?_
        refine (List.perm_ext_iff_of_nodup (List.nodup_cons.2 ⟨fun e => (mem_without.1 e).2 rfl, h.inv.ond.sublist List.filter_sublist⟩) h.inv.ond).2 fun x => ?_
        rw [List.mem_cons, mem_without]
        constructor
        · rintro (rfl | hx)
          · exact hm
          · exact hx.1
        · intro hx
          by_cases e : x = k
          · exact .inl e
          · exact .inr ⟨hx, e⟩
      unfold Slru.St.moved
      split
      · refine List.Perm.trans ?_ hp
        show ((Slru.without s.order.trial k ++ (Slru.without s.order.safe k ++ [k]).take 1) ++ (Slru.without s.order.safe k ++ [k]).drop 1).Perm _
        rw [List.append_assoc, List.take_append_drop]
      · exact hp
    · rw [if_neg hm]
  exact ⟨h.inv.slab, h.inv.rise, fun j => by show j ∈ (s.order.hit k).2.all ↔ _; rw [hall.mem_iff]; exact h.inv.keys j, hall.nodup_iff.2 h.inv.ond, h.inv.ents, h.inv.mem, h.inv.len, h.inv.dl⟩
theorem update_run (h : Run W w M b col seed s) (hM : M ≤ 400) (it : Item) (a : Option Addr) (c : Nat) (hks : it.key.size ≤ 300) (hvs : it.val.length ≤ 3000) (hsrc : SrcB w (.slice a it.val.length c) it.val) (hsc : Apart col (.slice a it.val.length c) it.val) :
    Calls Try.prog 27 #[.pointer (some ⟨b, 0, none⟩), .agg (it.arr (.slice a it.val.length c))] w fun e w' => e = .returned (.int .i64 (s.update it).1) ∧ RunTurn W w M b col seed (s.update it).2 w' := by
  refine (update_any h.at_ (by omega) h.inv it a c hks hvs hsrc hsc).mono ?_
  rintro e w' ⟨h1, h2⟩
  exact ⟨h1, RunTurn.of h2 (Nat.le_refl _) hM (h.inv.update it)⟩
theorem remove_run (h : Run W w M b col seed s) (hM : M + 1 ≤ 400) (k : ByteArray) (hk : k.size ≤ maxLen) :
    Calls Try.prog 21 #[.pointer (some ⟨b, 0, none⟩), .string k] w fun e w' => e = .returned (.bool (s.remove k).1) ∧ RunTurn W w (M + 1) b col seed (s.remove k).2 w' := by
  have hn := nn_max (M := M) (by omega)
  have hol := h.olen
  have hns := nn_succ M
  refine (remove_any h.at_ k hk (by omega) h.inv.smallN (by omega)).mono ?_
  rintro e w' ⟨h1, h2⟩
  exact ⟨h1, RunTurn.of h2 (by omega) hM ((h.inv.remove k).mono (by omega) (by omega))⟩
theorem drops_run (h : Run W w M b col seed s) (hM : M ≤ 400) :
    Calls Try.prog 14 #[.pointer (some ⟨b, 0, none⟩)] w fun e w' => ∃ v, e = .returned v ∧ RunTurn W w M b col seed { s with drops := [] } w' ∧ w'.ownsRow W.heap.size 9 1 v s.drops.length (cellsS s.drops) := by
  refine (drops_any h.at_).mono ?_
  rintro e w' ⟨v, h1, h2, h3⟩
  exact ⟨v, h1, RunTurn.of h2 (Nat.le_refl _) hM h.inv.emptied, h3⟩
theorem Run.more {m : Nat} (h : Run W w M b col seed s) (hm : M ≤ m) (hM : m ≤ 400) : Run W w m b col seed s := ⟨h.at_.more hm (by omega), h.inv.mono hm (nn_le hm)⟩
theorem new_run (hb : Below W.heap.size W w) (seed budget protect : Int) (h0 : 0 ≤ seed) (h1 : seed < 18446744073709551616) (hbud : -9223372036854775808 ≤ budget ∧ budget ≤ 9223372036854775807) :
    Calls Try.prog 11 #[.int .u64 seed, .int .i64 budget, .int .i64 protect] w fun e w' => ∃ b col, e = .returned (.pointer (some ⟨b, 0, none⟩)) ∧ Run W w' 0 b col seed (St.new seed budget protect) ∧ (∀ k, col k ≠ none → w.heap.size ≤ k) ∧ Below w.heap.size w w' :=
  (new_any hb seed budget protect h0 h1).mono fun _ _ ⟨b, col, he, ha, hl, hw⟩ => ⟨b, col, he, ⟨ha, Inv.new seed budget protect hbud⟩, hl, hw⟩
theorem all_run (h : Run W w M b col seed s) (hM : M ≤ 400) (most : Int) :
    Calls Try.prog 17 #[.pointer (some ⟨b, 0, none⟩), .int .i64 most] w (AllPost w (s.items.take most.toNat)) :=
  all_law h.at_ h.vals (by have := h.ilen; omega) most
end
end Go.Proofs.Ytkchlibkfafgdaa.Shard

/- Layer 11's list of calls, as an argument: items with values. -/
namespace Go.Proofs.Ytkchlibkfafgdaa.Shard
set_option maxRecDepth 100000
open Go Go.ChangeShapes Go.WideShapes Go.Deep Go.RowKit Go.Proofs.Ytkchlibkfafgdaa.Ops Go.Proofs.Ytkchlibkfafgdaa.App

def isI (n : Int) : Prop := -9223372036854775808 ≤ n ∧ n ≤ 9223372036854775807
def isU (n : Int) : Prop := 0 ≤ n ∧ n ≤ 18446744073709551615
structure Op where
  kind : Int
  it : Item
  v : Value
  env : Env
def encO (o : Op) : List Value := [.int .i64 o.kind, .string o.it.key, o.v, .int .u32 o.it.flags, .int .i64 o.it.exp, .int .u64 o.it.cas, .int .i64 o.it.sec, .int .u64 o.it.seq, .bool o.it.stale, .bool o.it.won, .bool o.it.seen, .int .i64 o.env.now, .int .u64 o.env.seq, .int .i64 o.env.flush, .int .u64 o.env.flushSeq]
/-- What an item's numbers are. -/
structure ItemOk (it : Item) : Prop where
  key : it.key.size ≤ maxLen
  val : it.val.length ≤ maxLen
  flags : 0 ≤ it.flags ∧ it.flags ≤ 4294967295
  exp : isI it.exp
  cas : isU it.cas
  sec : isI it.sec
  seq : isU it.seq
structure EnvOk (env : Env) : Prop where
  now : isI env.now
  seq : isU env.seq
  flush : isI env.flush
  flushSeq : isU env.flushSeq
structure OpOk (w : World) (o : Op) : Prop where
  kind : isI o.kind
  it : ItemOk o.it
  env : EnvOk o.env
  src : SrcB w o.v o.it.val
  low : ∀ g, o.it.val ≠ [] → o.v.ownBlock = some g → g < w.heap.size
theorem isI_of {n : Int} (h : (Lit.int .i64 n).wf = true) : isI n := by simpa [isI, Lit.wf, IntKind.min, IntKind.max, IntKind.signed, IntKind.bits] using h
theorem isU_of {n : Int} (h : (Lit.int .u64 n).wf = true) : isU n := by simpa [isU, Lit.wf, IntKind.min, IntKind.max, IntKind.signed, IntKind.bits] using h
theorem u32_of {n : Int} (h : (Lit.int .u32 n).wf = true) : 0 ≤ n ∧ n ≤ 4294967295 := by simpa [Lit.wf, IntKind.min, IntKind.max, IntKind.signed, IntKind.bits] using h
theorem u8_of {n : Int} (h : (Lit.int .u8 n).wf = true) : 0 ≤ n ∧ n ≤ 255 := by simpa [Lit.wf, IntKind.min, IntKind.max, IntKind.signed, IntKind.bits] using h

section
variable {H : Type} {enc : TypeId × Value → H} {w : World} {base : Nat} {spare : Nat → Bool} {held : Bool}
/-- Bytes as a part of an argument. -/
theorem open_bytes {m : Nat} {cv : Value} {y : DataW H × List MemPlace} (h : DataW.trod enc Try.prog w base spare held m 28 [cv] = some y) : ∃ xs : List UInt8, SrcB w cv xs ∧ xs.length ≤ maxLen := by
  have hc1 : Try.prog.cellsOf 5 = 1 := by kernel_rfl
  rcases open_slice1 Try.underlying28 hc1 h with ⟨h0, _⟩ | ⟨a, len, cap, m', n', V, D, Pl, hcs, hb, hl, hm, hmm, hx, hi⟩
  · injection h0 with h0
    exact ⟨[], .inr (.inl ⟨h0, rfl, rfl⟩), by unfold maxLen; simp⟩
  · injection hcs with hcs
    subst hcs
    have hlm : len ≤ m' := by rw [hmm]; split <;> omega
    by_cases h0 : len = 0
    · subst h0
      exact ⟨[], .inl ⟨rfl, a, cap, rfl⟩, by unfold maxLen; simp⟩
    obtain ⟨B, off, sp⟩ := a
    have hsp : sp = none := by
      have h1 := (hi 0 (by omega)).1
      simpa [Addr.add] using World.cell?_spot h1
    subst hsp
    have hadd : ∀ k, (⟨B, off, none⟩ : Addr).add k = ⟨B, off + k, none⟩ := fun k => by unfold Addr.add; split <;> simp_all
    have hB : B < w.heap.size := by
      have h1 := (hi 0 (by omega)).1
      rw [hadd] at h1
      exact block_of_cell h1
    have hget : ∀ i, i < len → ∃ b : UInt8, V i = .int .u8 (b.toNat : Nat) := fun i hil => by
      obtain ⟨n0, e0, _, w0⟩ := DataW.trod_int Try.underlying5 (hi i (by omega)).2
      injection e0 with e0
      obtain ⟨r0, r1⟩ := u8_of w0
      refine ⟨UInt8.ofNat n0.toNat, ?_⟩
      rw [e0]
      congr 1
      rw [UInt8.toNat_ofNat']
      omega
    refine ⟨List.ofFn fun i : Fin len => Classical.choose (hget i.1 i.2), .inr (.inr ⟨B, off, cap, by rw [List.length_ofFn], by simp [cellsB], hB, fun j u hu => ?_⟩), by rw [List.length_ofFn]; omega⟩
    have hj : j < len := by
      have := (List.getElem?_eq_some_iff.1 hu).1
      simpa [cellsB] using this
    have h1 := (hi j (by omega)).1
    rw [hadd, Classical.choose_spec (hget j hj)] at h1
    rw [h1]
    simp only [cellsB, List.getElem?_map] at hu
    rw [List.getElem?_ofFn, dif_pos hj] at hu
    exact hu
theorem src_low {v : Value} {xs : List UInt8} (h : SrcB w v xs) : ∀ g, xs ≠ [] → v.ownBlock = some g → g < w.heap.size := fun g hx e => by
  rcases h with ⟨h0, _⟩ | h
  · exact absurd h0 hx
  · exact h.lt g e
theorem op_el (n : Nat) (cs : List Value) (y : DataW H × List MemPlace) (h : DataW.trod enc Try.prog w base spare held n 35 cs = some y) : ∃ o, cs = encO o ∧ OpOk w o := by
  obtain ⟨xs, m, _, _, hlen, hxl, hf⟩ := DataW.trod_struct Try.underlying35 h
  rw [show Try.prog.cellsOf 35 = 15 from by kernel_rfl] at hlen
  have hc1 : Try.prog.cellsOf 3 = 1 := by kernel_rfl
  have hc2 : Try.prog.cellsOf 4 = 1 := by kernel_rfl
  have hc3 : Try.prog.cellsOf 31 = 10 := by kernel_rfl
  have hc4 : Try.prog.cellsOf 33 = 4 := by kernel_rfl
  have hc5 : Try.prog.cellsOf 9 = 1 := by kernel_rfl
  have hc6 : Try.prog.cellsOf 28 = 1 := by kernel_rfl
  have hc7 : Try.prog.cellsOf 29 = 1 := by kernel_rfl
  have hc8 : Try.prog.cellsOf 22 = 1 := by kernel_rfl
  match cs, hlen, xs, hxl with
  | [c0, c1, c2, c3, c4, c5, c6, c7, c8, c9, c10, c11, c12, c13, c14], _, [x0, x1, x2], _ =>
    have g0 := hf 0 _ rfl
    have g1 := hf 1 _ rfl
    have g2 := hf 2 _ rfl
    simp [hc1, hc3, hc4] at g0 g1 g2
    obtain ⟨n0, e0, _, w0⟩ := DataW.trod_int Try.underlying3 g0
    obtain ⟨ys, m', _, _, _, hyl, hg⟩ := DataW.trod_struct Try.underlying31 g1
    obtain ⟨zs, m2, _, _, _, hzl, hh⟩ := DataW.trod_struct Try.underlying33 g2
    match ys, hyl, zs, hzl with
    | [y0, y1, y2, y3, y4, y5, y6, y7, y8, y9], _, [z0, z1, z2, z3], _ =>
      have k0 := hg 0 _ rfl
      have k1 := hg 1 _ rfl
      have k2 := hg 2 _ rfl
      have k3 := hg 3 _ rfl
      have k4 := hg 4 _ rfl
      have k5 := hg 5 _ rfl
      have k6 := hg 6 _ rfl
      have k7 := hg 7 _ rfl
      have k8 := hg 8 _ rfl
      have k9 := hg 9 _ rfl
      have l0 := hh 0 _ rfl
      have l1 := hh 1 _ rfl
      have l2 := hh 2 _ rfl
      have l3 := hh 3 _ rfl
      simp [hc1, hc2, hc5, hc6, hc7, hc8] at k0 k1 k2 k3 k4 k5 k6 k7 k8 k9 l0 l1 l2 l3
      obtain ⟨q0, e1, _, w1⟩ := DataW.trod_string Try.underlying9 k0
      obtain ⟨bs, hbs, hbl⟩ := open_bytes k1
      obtain ⟨q2, e3, _, w3⟩ := DataW.trod_int Try.underlying29 k2
      obtain ⟨q3, e4, _, w4⟩ := DataW.trod_int Try.underlying3 k3
      obtain ⟨q4, e5, _, w5⟩ := DataW.trod_int Try.underlying22 k4
      obtain ⟨q5, e6, _, w6⟩ := DataW.trod_int Try.underlying3 k5
      obtain ⟨q6, e7, _, w7⟩ := DataW.trod_int Try.underlying22 k6
      obtain ⟨q7, e8, _⟩ := DataW.trod_bool Try.underlying4 k7
      obtain ⟨q8, e9, _⟩ := DataW.trod_bool Try.underlying4 k8
      obtain ⟨q9, e10, _⟩ := DataW.trod_bool Try.underlying4 k9
      obtain ⟨p0, e11, _, w11⟩ := DataW.trod_int Try.underlying3 l0
      obtain ⟨p1, e12, _, w12⟩ := DataW.trod_int Try.underlying22 l1
      obtain ⟨p2, e13, _, w13⟩ := DataW.trod_int Try.underlying3 l2
      obtain ⟨p3, e14, _, w14⟩ := DataW.trod_int Try.underlying22 l3
      injection e0 with e0; injection e1 with e1; injection e3 with e3; injection e4 with e4; injection e5 with e5; injection e6 with e6; injection e7 with e7; injection e8 with e8; injection e9 with e9; injection e10 with e10; injection e11 with e11; injection e12 with e12; injection e13 with e13; injection e14 with e14
      subst e0 e1 e3 e4 e5 e6 e7 e8 e9 e10 e11 e12 e13 e14
      exact ⟨⟨n0, ⟨q0, bs, q2, q3, q4, q5, q6, q7, q8, q9⟩, c2, ⟨p0, p1, p2, p3⟩⟩, rfl, ⟨isI_of w0, ⟨w1, hbl, u32_of w3, isI_of w4, isU_of w5, isI_of w6, isU_of w7⟩, ⟨isI_of w11, isU_of w12, isI_of w13, isU_of w14⟩, hbs, src_low hbs⟩⟩
theorem open_ops {r : Reach} {b0 : Nat} {v : Value} {d : DataW H} {ps : List MemPlace} (hval : Value.okWide Try.prog w r b0 23 v) (hd : DataW.Trod enc Try.prog w base spare held 23 v d ps) :
    ∃ (x : Option Addr) (n c : Nat) (l : List Op), v = .slice x n c ∧ n = l.length ∧ n ≤ maxLen ∧ (∀ a ∈ l, OpOk w a) ∧ Lies w 15 encO x l :=
  open_list encO (OpOk w) Try.underlying23 (by kernel_rfl) (by decide) (fun _ => rfl) op_el hval hd
end
end Go.Proofs.Ytkchlibkfafgdaa.Shard

/- Layer 11, the laws' own functions: Few. -/
namespace Go.Proofs.Ytkchlibkfafgdaa.Shard
set_option maxRecDepth 100000
open Go Go.RowKit Go.Proofs.Ytkchlibkfafgdaa.Mem Go.Proofs.Ytkchlibkfafgdaa.App Go.Proofs.Ytkchlibkfafgdaa.Ops
theorem str_ne {a b : ByteArray} (h : a ≠ b) : (a.toList == b.toList) = false := Slru.str_ne h
/-- Few: so many calls, so long. -/
def fewB (l : List Op) : Bool := decide (l.length ≤ 80 ∧ ∀ o ∈ l, o.it.key.size ≤ 300 ∧ o.it.val.length ≤ 3000)
set_option maxHeartbeats 2000000 in
theorem few_any {w W : World} {x : Option Addr} {c : Nat} {l : List Op} (hlies : Lies w 15 encO x l) (hlen : l.length ≤ maxLen) (hok : ∀ o ∈ l, OpOk W o) :
    Calls Try.prog 10 #[.slice x l.length c] w fun e w' => e = .returned (.bool (fewB l)) ∧ w = w' := by
  unfold maxLen at hlen
  by_cases hn : 80 < l.length
  · have e : fewB l = false := by unfold fewB; simp; omega
    rw [e]
    have hn' : (80 : Int) < l.length := by omega
    clear hlies e hn hok
    go_enter Try.func10, Try.ntmps10
    go_wp2_with fail
    go_ret
    exact ⟨rfl, rfl⟩
  have hn' : (l.length : Int) ≤ 80 := by omega
  have HL := Lib.hid (And.intro hlies (And.intro hn hok))
  clear hlies hn hok
  go_enter Try.func10, Try.ntmps10
  go_wp2_with fail
  go_loopg [3] l.length (fun g i wr => ∃ m : Nat, i = .int .i64 m ∧ g + m = l.length ∧ Hid (∀ (j : Nat) (o : Op), j < m → l[j]? = some o → o.it.key.size ≤ 300 ∧ o.it.val.length ≤ 3000) ∧ wr = w)
  case atStart => exact ⟨0, rfl, by omega, Lib.hid (fun j o h => absurd h (by omega)), rfl⟩
  case round =>
    obtain ⟨m, rfl, hg, hs, rfl⟩ := hrel
    have HG := Lib.hid hg
    clear hg
    by_cases hm : m < l.length
    · obtain ⟨o, ho⟩ : ∃ o, l[m]? = some o := ⟨_, List.getElem?_eq_getElem hm⟩
      obtain ⟨B, off, rfl, hB, hc⟩ := HL.out.1 m o ho
      have c1 := hc 1 _ rfl
      have c2 := hc 2 _ rfl
      obtain ⟨va, vc, hv⟩ := (HL.out.2.2 o (List.mem_of_getElem? ho)).src.shape
      have hvl := (HL.out.2.2 o (List.mem_of_getElem? ho)).it.val
      unfold maxLen at hvl
      rw [hv] at c2
      have hmi : (m : Int) < l.length := by omega
      have HO := Lib.hid ho
      clear hc hB ho hv
      by_cases hk : o.it.key.size ≤ 300
      · have hki : (o.it.key.size : Int) ≤ 300 := by omega
        by_cases hu : o.it.val.length ≤ 3000
        · have hui : (o.it.val.length : Int) ≤ 3000 := by omega
          have HK := Lib.hid (And.intro hk hu)
          clear hk hu
          go_wp2_with fail
          go_roundg (l.length - (m + 1))
          case measure => have := HG.out; omega
          case rel =>
            refine ⟨m + 1, by go_num, by have := HG.out; omega, Lib.hid (fun j p hj hp => ?_), rfl⟩
            by_cases e : j = m
            · subst e; rw [HO.out] at hp; injection hp with hp; subst hp; exact HK.out
            · exact hs.out j p (by omega) hp
        · have hui : (3000 : Int) < o.it.val.length := by omega
          have e : fewB l = false := by unfold fewB; exact decide_eq_false (fun h => hu (h.2 o (List.mem_of_getElem? HO.out)).2)
          have HE := Lib.hid e
          clear hk hu e
          go_wp2_with fail
          go_ret
          exact ⟨by rw [HE.out]; rfl, rfl⟩
      · have hki : (300 : Int) < o.it.key.size := by omega
        have e : fewB l = false := by unfold fewB; exact decide_eq_false (fun h => hk (h.2 o (List.mem_of_getElem? HO.out)).1)
        have HE := Lib.hid e
        clear hk e
        go_wp2_with fail
        go_ret
        exact ⟨by rw [HE.out]; rfl, rfl⟩
    · have hml : (l.length : Int) ≤ m := by omega
      have e : fewB l = true := by
        unfold fewB
        refine decide_eq_true ⟨by omega, fun p hp => ?_⟩
        obtain ⟨j, hj⟩ := List.mem_iff_getElem?.1 hp
        exact hs.out j p (by have := (List.getElem?_eq_some_iff.1 hj).1; omega) hj
      have HE := Lib.hid e
      clear e
      go_wp2_with fail
      go_ret
      exact ⟨by rw [HE.out]; rfl, rfl⟩
end Go.Proofs.Ytkchlibkfafgdaa.Shard

/- Layer 11, plain: the chapter's example. -/
namespace Go.Proofs.Ytkchlibkfafgdaa.Shard
open Go

def itemK (c : UInt8) : Item := ⟨⟨#[c]⟩, [], 0, 0, 0, 0, 0, false, false, false⟩
def env1 : Env := ⟨1, 0, 0, 0⟩
section
variable {s : St} {it : Item} {env : Env} {fresh : Nat}
theorem find_miss (h : Tab.get s.tab.L it.key = none) : s.find it.key env = (none, s.tick) := by unfold St.find; rw [h]
theorem roomed_miss (h : Tab.get s.tab.L it.key = none) : s.roomed it env = St.room it false 0 env (s.order.all.length + 1) s.tick := by
  unfold St.roomed
  rw [find_miss h]
  rfl
theorem store_eq (h6 : Slab.classN it.size < 6) : s.store fresh it env = if (s.roomed it env).1 = 0 then (0, (s.roomed it env).2.stored (s.find it.key env).1 fresh it) else s.roomed it env := by
  have e0 : s.store fresh it env = if Slab.classN it.size = 6 then (4, s) else if (s.roomed it env).1 = 0 then (0, (s.roomed it env).2.stored (s.find it.key env).1 fresh it) else s.roomed it env := rfl
  rw [e0, if_neg (by omega)]
/-- A new key that fits. -/
theorem store_new (h : Tab.get s.tab.L it.key = none) (h6 : Slab.classN it.size < 6) (hf : s.slab.fits it.size 0 = true) : s.store fresh it env = (0, (s.tick.added it.key fresh).fill fresh it) := by
  rw [store_eq h6, roomed_miss h, find_miss h, St.room, if_pos (show s.tick.slab.fits it.size 0 = true from hf)]
  rfl
/-- A new key that is worth less. -/
theorem store_lost {v : ByteArray} {x : Nat} (h : Tab.get s.tab.L it.key = none) (h6 : Slab.classN it.size < 6) (hf : s.slab.fits it.size 0 = false) (hv : s.order.victim it.key = some v) (hx : Tab.get s.tab.L v = some x) (hl : (s.ent x).it.live env = true) (ha : s.judge.admit it.key.data.toList v.data.toList = false) :
    s.store fresh it env = (8, s.tick.tick) := by
  have hr : s.roomed it env = (8, s.tick.tick) := by
    rw [roomed_miss h]
    rcases room_cases (it := it) (old := false) (less := 0) (env := env) s.order.all.length s.tick with ⟨e, _⟩ | ⟨_, e, _⟩ | ⟨_, v', e, _, _, ⟨e2, _⟩ | ⟨x', e2, ⟨e3, _⟩ | ⟨_, _, _, e3⟩⟩⟩
    · replace e : s.slab.fits it.size 0 = true := e
      rw [hf] at e; cases e
    · replace e : s.order.victim it.key = none := e
      rw [hv] at e; cases e
    · replace e : s.order.victim it.key = some v' := e
      rw [hv] at e; injection e with e; subst e
      replace e2 : Tab.get s.tab.L v = none := e2
      rw [hx] at e2; cases e2
    · replace e : s.order.victim it.key = some v' := e
      rw [hv] at e; injection e with e; subst e
      replace e2 : Tab.get s.tab.L v = some x' := e2
      rw [hx] at e2; injection e2 with e2; subst e2
      replace e3 : false = true ∨ (s.ent x).it.live env = false ∨ s.judge.admit it.key.data.toList v.data.toList = true := e3
      rw [hl, ha] at e3; simp at e3
    · exact e3
  rw [store_eq h6, hr]
  rfl
/-- A new key that is worth more than one. -/
theorem store_won {v : ByteArray} {x : Nat} (h : Tab.get s.tab.L it.key = none) (h6 : Slab.classN it.size < 6) (hf : s.slab.fits it.size 0 = false) (hv : s.order.victim it.key = some v) (hx : Tab.get s.tab.L v = some x) (ha : s.judge.admit it.key.data.toList v.data.toList = true) (hn : ∃ n, s.order.all.length = n + 1)
    (hf2 : (s.tick.tick.drop v).slab.fits it.size 0 = true) : s.store fresh it env = (0, ((s.tick.tick.drop v).added it.key fresh).fill fresh it) := by
  have hr : s.roomed it env = (0, s.tick.tick.drop v) := by
    rw [roomed_miss h]
    obtain ⟨n, hn⟩ := hn
    rcases room_cases (it := it) (old := false) (less := 0) (env := env) s.order.all.length s.tick with ⟨e, _⟩ | ⟨_, e, _⟩ | ⟨_, v', e, _, _, ⟨e2, _⟩ | ⟨x', e2, ⟨_, e3⟩ | ⟨_, _, e3, _⟩⟩⟩
    · replace e : s.slab.fits it.size 0 = true := e
      rw [hf] at e; cases e
    · replace e : s.order.victim it.key = none := e
      rw [hv] at e; cases e
    · replace e : s.order.victim it.key = some v' := e
      rw [hv] at e; injection e with e; subst e
      replace e2 : Tab.get s.tab.L v = none := e2
      rw [hx] at e2; cases e2
    · replace e : s.order.victim it.key = some v' := e
      rw [hv] at e; injection e with e; subst e
      rw [e3, hn, St.room, if_pos hf2]
    · replace e : s.order.victim it.key = some v' := e
      rw [hv] at e; injection e with e; subst e
      replace e3 : s.judge.admit it.key.data.toList v.data.toList = false := e3
      rw [ha] at e3; cases e3
  rw [store_eq h6, hr, find_miss h]
  rfl
end
def ex0 : St := St.new 1 128 1
def ex1 (f1 : Nat) : St := (ex0.tick.added (itemK 97).key f1).fill f1 (itemK 97)
def ex2 (f1 f2 : Nat) : St := ((ex1 f1).tick.added (itemK 98).key f2).fill f2 (itemK 98)
def St.used' (s : St) (k : ByteArray) : St := { s with judge := s.judge.touch k.data.toList, order := (s.order.hit k).2 }
def ex3 (f1 f2 : Nat) : St := (((ex2 f1 f2).tick.tick).used' (itemK 99).key).used' (itemK 99).key
def ex4 (f1 f2 f3 : Nat) : St := (((ex3 f1 f2).tick.tick.drop (itemK 97).key).added (itemK 99).key f3).fill f3 (itemK 99)
theorem ex_store1 (f1 : Nat) : ex0.store f1 (itemK 97) env1 = (0, ex1 f1) := store_new rfl (by decide) (by decide)
theorem ex1_L (f1 : Nat) : (ex1 f1).tab.L = [((itemK 97).key, f1)] := rfl
theorem ex_store2 (f1 f2 : Nat) : (ex1 f1).store f2 (itemK 98) env1 = (0, ex2 f1 f2) := store_new (by rfl) (by decide) (by rfl)
theorem ex2_used (f1 f2 : Nat) : (ex2 f1 f2).slab.used = 128 := by rfl
theorem ex2_ent (f1 f2 : Nat) (h : f1 ≠ f2) : (ex2 f1 f2).ent f1 = ⟨itemK 97, (0, 0)⟩ := by
  show upd (upd _ f1 _) f2 _ f1 = _
  rw [upd_other _ _ h, upd_same]
  rfl
theorem ex_store3 (f1 f2 f : Nat) (h : f1 ≠ f2) : (ex2 f1 f2).store f (itemK 99) env1 = (8, (ex2 f1 f2).tick.tick) :=
  store_lost (v := (itemK 97).key) (x := f1) (by rfl) (by decide) (by rfl) (by rfl) (by rfl) (by rw [ex2_ent f1 f2 h]; rfl) (by kernel_rfl)
theorem ex4_slab (f1 f2 : Nat) (h : f1 ≠ f2) : ((ex3 f1 f2).tick.tick.drop (itemK 97).key).slab = ((ex2 f1 f2).slab.free (0, 0)).2 := by
  have h1 : ((ex3 f1 f2).tick.tick.drop (itemK 97).key).slab = ((ex2 f1 f2).slab.free ((ex2 f1 f2).ent f1).chunk).2 := rfl
  rw [h1, ex2_ent f1 f2 h]
theorem ex_store4 (f1 f2 f3 : Nat) (h : f1 ≠ f2) : (ex3 f1 f2).store f3 (itemK 99) env1 = (0, ex4 f1 f2 f3) :=
  store_won (v := (itemK 97).key) (x := f1) (by rfl) (by decide) (by rfl) (by rfl) (by rfl) (by kernel_rfl) ⟨1, by rfl⟩ (by rw [ex4_slab f1 f2 h]; rfl)
theorem ex4_drops (f1 f2 f3 : Nat) : (ex4 f1 f2 f3).drops = [(itemK 97).key] := by rfl
theorem ex4_len (f1 f2 f3 : Nat) : (ex4 f1 f2 f3).tab.L.length = 2 := by rfl
end Go.Proofs.Ytkchlibkfafgdaa.Shard

/- Layer 11, the laws' own functions: awake. -/
namespace Go.Proofs.Ytkchlibkfafgdaa.Shard
set_option maxRecDepth 100000
open Go Go.RowKit Go.Proofs.Ytkchlibkfafgdaa.Mem Go.Proofs.Ytkchlibkfafgdaa.App

/-- A block of the law's own, behind a turn. -/
theorem Fr.own {col col' : Col} {w w' : World} (f : Fr col col' w w') {k : Nat} (hk : k < w.heap.size) (hc : col k = none) : w'.heap[k]? = w.heap[k]? ∧ col' k = none ∧ k < w'.heap.size :=
  ⟨f.keep hk hc, Classical.byContradiction fun e => (f.2 k e).elim (fun e1 => e1 hc) (fun e1 => by omega), Nat.lt_of_lt_of_le hk f.1.size⟩
theorem Run.none {W w : World} {M b : Nat} {col : Col} {seed : Int} {s : St} (h : Run W w M b col seed s) {k : Nat} (hk : w.heap.size ≤ k) : col k = .none := Classical.byContradiction fun e => by have := (h.low k e).2; omega
theorem src_nil (w : World) : SrcB w (.slice none 0 0) [] := .inr (.inl ⟨rfl, rfl, rfl⟩)
theorem apart_nil (col : Col) (v : Value) : Apart col v [] := fun h => absurd rfl h
theorem storeK {W w : World} {M b : Nat} {col : Col} {seed : Int} {s : St} (h : Run W w M b col seed s) (hM : M + 1 ≤ 400) (c : UInt8) (z : Int) (t : Nat → St) (ht : ∀ f, (∀ p ∈ s.tab.L, p.2 ≠ f) → s.store f (itemK c) env1 = (z, t f)) : Calls Try.prog 12 #[.pointer (some ⟨b, 0, none⟩), .agg #[.string ⟨#[c]⟩, .slice none 0 0, .int .u32 0, .int .i64 0, .int .u64 0, .int .i64 0, .int .u64 0, .bool false, .bool false, .bool false], .agg #[.int .i64 1, .int .u64 0, .int .i64 0, .int .u64 0]] w fun e w' =>
    ∃ fresh, (∀ p ∈ s.tab.L, p.2 ≠ fresh) ∧ e = .returned (.int .i64 z) ∧ RunTurn W w (M + 1) b col seed (t fresh) w' :=
  (store_run h hM (itemK c) Option.none 0 env1 (by show (1 : Nat) ≤ 300; omega) (Nat.zero_le _) (src_nil w) (apart_nil _ _)).mono fun e w' ⟨f, h1, h2, h3⟩ => by
    rw [ht f h1] at h2 h3
    exact ⟨f, h1, h2, h3⟩
theorem usedK {W w : World} {M b : Nat} {col : Col} {seed : Int} {s : St} (h : Run W w M b col seed s) : Calls Try.prog 19 #[.pointer (some ⟨b, 0, none⟩)] w fun e w' => e = .returned (.int .i64 s.slab.used) ∧ w = w' := used_any h.at_
set_option maxHeartbeats 4000000 in
theorem awake_any (W : World) : Calls Try.prog 9 #[] W fun e w' => e = .returned (.bool true) ∧ Below W.heap.size W w' := by
  have hnew := new_run (Below.refl W.heap.size W) 1 128 1 (by omega) (by omega) (by omega)
  go_enter Try.func9, Try.ntmps9
  go_wp2_with fail
  refine hnew.mono ?_
  rintro e w1 ⟨b, col1, rfl, r1, -, -⟩
  have hb12 : Below w1.heap.size w1 (w1.alloc (.cells env1.arr 33)) := Mem.al (Below.refl _ _) _
  have nB : (w1.alloc (.cells env1.arr 33)).heap[w1.heap.size]? = some (.cells env1.arr 33 (0, 0)) := Mem.new_block w1 _
  have hBl : w1.heap.size < (w1.alloc (.cells env1.arr 33)).heap.size := by simp
  have r2 := r1.step hb12
  have hcB : col1 w1.heap.size = .none := r1.none (Nat.le_refl _)
  have hst := storeK r2 (by omega) 97 0 ex1 (fun f _ => ex_store1 f)
  have H2 := Lib.hid (And.intro nB (And.intro hBl (And.intro hcB hb12)))
  have hb01 := Lib.hid r1.below
  clear hnew r1 r2 hb12 nB hBl hcB
  go_wp2_with fail
  refine hst.mono ?_
  rintro e w3 ⟨f1, -, rfl, col3, r3, fr3⟩
  obtain ⟨k3, c3, l3⟩ := fr3.own H2.out.2.1 H2.out.2.2.1
  have n3 := k3.trans H2.out.1
  have hst3 := storeK r3 (by omega) 98 0 (ex2 f1) (fun f _ => ex_store2 f1 f)
  have cel := fun j => Mem.row_cell n3 j
  have q0 := cel 0
  have q1 := cel 1
  have q2 := cel 2
  have q3 := cel 3
  simp only [Env.arr, env1, List.getElem?_toArray, List.getElem?_cons_zero, List.getElem?_cons_succ] at q0 q1 q2 q3
  have H3 := Lib.hid (And.intro n3 (And.intro l3 c3))
  clear cel hst k3 c3 l3 n3 r3 fr3
  go_wp2_with fail
  refine hst3.mono ?_
  rintro e w4 ⟨f2, hf2, rfl, col4, r4, fr4⟩
  have hne : f1 ≠ f2 := hf2 (_, f1) (by rw [ex1_L]; exact List.mem_singleton.2 rfl)
  obtain ⟨k4, c4, l4⟩ := fr4.own H3.out.2.1 H3.out.2.2
  have n4 := k4.trans H3.out.1
  have hus := usedK r4
  rw [ex2_used] at hus
  have hst4 := storeK r4 (by omega) 99 8 (fun _ => (ex2 f1 f2).tick.tick) (fun f _ => ex_store3 f1 f2 f hne)
  have cel := fun j => Mem.row_cell n4 j
  have q0 := cel 0
  have q1 := cel 1
  have q2 := cel 2
  have q3 := cel 3
  simp only [Env.arr, env1, List.getElem?_toArray, List.getElem?_cons_zero, List.getElem?_cons_succ] at q0 q1 q2 q3
  have HN := Lib.hid hne
  have H4 := Lib.hid (And.intro n4 (And.intro l4 c4))
  clear cel hst3 k4 c4 l4 n4 r4 fr4 hf2 hne
  go_wp2_with fail
  refine hus.mono ?_
  rintro e w4' ⟨rfl, rfl⟩
  clear hus
  go_wp2_with fail
  refine hst4.mono ?_
  rintro e w5 ⟨f3, -, rfl, col5, r5, fr5⟩
  obtain ⟨k5, c5, l5⟩ := fr5.own H4.out.2.1 H4.out.2.2
  have n5 := k5.trans H4.out.1
  have hu1 := use_run r5 (by omega) ⟨#[99]⟩ (by unfold maxLen; decide)
  have H5 := Lib.hid (And.intro n5 (And.intro l5 c5))
  clear hst4 k5 c5 l5 n5 r5 fr5 q0 q1 q2 q3
  go_wp2_with fail
  refine hu1.mono ?_
  rintro e w6 ⟨rfl, col6, r6, fr6⟩
  obtain ⟨k6, c6, l6⟩ := fr6.own H5.out.2.1 H5.out.2.2
  have n6 := k6.trans H5.out.1
  have hu2 := use_run r6 (by omega) ⟨#[99]⟩ (by unfold maxLen; decide)
  have H6 := Lib.hid (And.intro n6 (And.intro l6 c6))
  clear hu1 k6 c6 l6 n6 r6 fr6
  go_wp2_with fail
  refine hu2.mono ?_
  rintro e w7 ⟨rfl, col7, r7, fr7⟩
  obtain ⟨k7, c7, l7⟩ := fr7.own H6.out.2.1 H6.out.2.2
  have n7 := k7.trans H6.out.1
  have r7' : Run W w7 _ b col7 1 (ex3 f1 f2) := r7
  have hst7 := storeK r7' (by omega) 99 0 (ex4 f1 f2) (fun f _ => ex_store4 f1 f2 f HN.out)
  have cel := fun j => Mem.row_cell n7 j
  have q0 := cel 0
  have q1 := cel 1
  have q2 := cel 2
  have q3 := cel 3
  simp only [Env.arr, env1, List.getElem?_toArray, List.getElem?_cons_zero, List.getElem?_cons_succ] at q0 q1 q2 q3
  clear cel hu2 k7 c7 l7 n7 r7 r7' fr7
  go_wp2_with fail
  refine hst7.mono ?_
  rintro e w8 ⟨f8, -, rfl, col8, r8, fr8⟩
  have hdr := drops_run r8 (by omega)
  rw [ex4_drops] at hdr
  clear hst7 q0 q1 q2 q3 r8 fr8
  go_wp2_with fail
  refine hdr.mono ?_
  rintro e w9 ⟨v9, rfl, ⟨col9, r9, -⟩, hrow9⟩
  have hlen : Calls Try.prog 25 #[.pointer (some ⟨b, 0, none⟩)] w9 fun e w' => e = .returned (.int .i64 2) ∧ w9 = w' := len_any r9.at_
  have hbel := r9.below
  obtain ⟨g, cap, rfl, hc0⟩ : ∃ g cap, v9 = .slice (some ⟨g, 0, none⟩) 1 cap ∧ w9.cell? ⟨g, 0, none⟩ = some (.string ⟨#[97]⟩) := by
    rcases hrow9.2 with ⟨_, e⟩ | ⟨g, cap, cur, e1, _, hg, _, _, _, ht⟩
    · cases e
    · refine ⟨g, cap, e1, ?_⟩
      rw [Mem.row_cell hg 0]
      have h1 : (cur.toList.take 1)[0]? = some (.string ⟨#[97]⟩) := by
        have h2 := congrArg (fun l : List Value => l[0]?) ht
        simpa [cellsS, itemK] using h2
      simpa using h1
  have HB := Lib.hid hbel
  clear hdr r9 hrow9 hbel
  go_wp2_with fail
  refine hlen.mono ?_
  rintro e w10 ⟨rfl, rfl⟩
  clear hlen
  go_wp2_with fail
  go_ret
  exact ⟨rfl, HB.out⟩
end Go.Proofs.Ytkchlibkfafgdaa.Shard

/- Layer 11's laws: what they have in common. -/
namespace Go.Proofs.Ytkchlibkfafgdaa.Shard
set_option maxRecDepth 100000
open Go Go.RowKit Go.Proofs.Ytkchlibkfafgdaa.Mem Go.Proofs.Ytkchlibkfafgdaa.App Go.Proofs.Ytkchlibkfafgdaa.Ops

theorem rsize_any (it : Item) (a : Option Addr) (c : Nat) (w : World) (hk : it.key.size ≤ 1000000) (hv : it.val.length ≤ 1000000) :
    Calls Try.prog 13 #[.agg (it.arr (.slice a it.val.length c))] w fun e w' => e = .returned (.int .i64 it.size) ∧ Below w.heap.size w w' := by
  have e1 : it.size = 50 + it.key.size + it.val.length := rfl
  rw [e1]
  unfold Item.arr
  have hk1 : (it.key.size : Int) ≤ 1000000 := by omega
  have hv1 : (it.val.length : Int) ≤ 1000000 := by omega
  clear e1
  go_enter Try.func13, Try.ntmps13
  go_wp2
  go_ret
  exact ⟨rfl, Mem.al (Below.refl _ _) _⟩
theorem i64_range (n : Int) : -9223372036854775808 ≤ IntKind.i64.wrap n ∧ IntKind.i64.wrap n ≤ 9223372036854775807 := by
  have h1 : 0 ≤ n % 18446744073709551616 := Int.emod_nonneg _ (by omega)
  have h2 : n % 18446744073709551616 < 18446744073709551616 := Int.emod_lt_of_pos _ (by omega)
  have e : IntKind.i64.wrap n = if n % 18446744073709551616 ≥ 9223372036854775808 then n % 18446744073709551616 - 18446744073709551616 else n % 18446744073709551616 := by
    simp [IntKind.wrap, IntKind.signed, IntKind.bits]
  rw [e]
  split <;> omega
theorem i64_same {n : Int} (h0 : -9223372036854775808 ≤ n) (h1 : n ≤ 9223372036854775807) : IntKind.i64.wrap n = n := by
  have e : IntKind.i64.wrap n = if n % 18446744073709551616 ≥ 9223372036854775808 then n % 18446744073709551616 - 18446744073709551616 else n % 18446744073709551616 := by
    simp [IntKind.wrap, IntKind.signed, IntKind.bits]
  rw [e]
  split <;> omega
/-- What a look tells, in one form. -/
theorem look_res {s : St} {w w' : World} {y : Option Nat} {e : Ending} (h : match y with
      | some x => ∃ v, e = .returned (.tuple #[.agg ((s.ent x).it.arr v), .bool true]) ∧ OwnB w' w.heap.size v (s.ent x).it.val
      | none => e = .returned (.tuple #[.agg zeroI, .bool false])) : ∃ (it : Item) (va : Option Addr) (vc : Nat), e = .returned (.tuple #[.agg (it.arr (.slice va it.val.length vc)), .bool y.isSome]) ∧ (∀ x, y = some x → it = (s.ent x).it ∧ OwnB w' w.heap.size (.slice va it.val.length vc) it.val) := by
  cases y with
  | none => exact ⟨⟨⟨#[]⟩, [], 0, 0, 0, 0, 0, false, false, false⟩, Option.none, 0, h, fun x e => by cases e⟩
  | some xx =>
    obtain ⟨v, e1, e2⟩ := h
    obtain ⟨va, vc, hv⟩ := Src.shape (Src.of_row e2)
    subst hv
    exact ⟨_, va, vc, e1, fun x e => by injection e with e; subst e; exact ⟨rfl, e2⟩⟩
/-- What a call of the list has, in any world that keeps what there was. -/
structure OpAt (W w : World) (o : Op) (x : Option Addr) (i : Nat) : Prop where
  at_ : ∃ B off, x = some ⟨B, off, none⟩ ∧ B < W.heap.size ∧ ∀ j u, (encO o)[j]? = some u → w.cell? ⟨B, off + i * 15 + j, none⟩ = some u
  ok : OpOk W o
  shape : ∃ a c, o.v = .slice a o.it.val.length c
theorem op_at {W w : World} {x : Option Addr} {l : List Op} {i : Nat} {o : Op} (hl : Lies W 15 encO x l) (hok : ∀ o ∈ l, OpOk W o) (hb : Below W.heap.size W w) (h : l[i]? = some o) : OpAt W w o x i := by
  obtain ⟨B, off, e, hB, hc⟩ := hl i o h
  have ho := hok o (List.mem_of_getElem? h)
  exact ⟨⟨B, off, e, hB, fun j u hu => (World.cell?_of_block (hb.block B hB)).trans (hc j u hu)⟩, ho, ho.src.shape⟩
theorem OpAt.src {W w : World} {o : Op} {x : Option Addr} {i : Nat} (h : OpAt W w o x i) (hb : Below W.heap.size W w) : SrcB w o.v o.it.val := h.ok.src.below hb
theorem OpAt.apart {W w : World} {o : Op} {x : Option Addr} {i : Nat} (h : OpAt W w o x i) {col : Col} (hc : ∀ k, col k ≠ none → W.heap.size ≤ k) : Apart col o.v o.it.val := Apart.low hc fun hx g e => h.ok.low g hx e
theorem op_cell {W w : World} {Bx off : Nat} {l : List Op} {i : Nat} {o : Op} (hl : Lies W 15 encO (some ⟨Bx, off, Option.none⟩) l) (hb : Below W.heap.size W w) (h : l[i]? = some o) : Bx < w.heap.size ∧ ∀ j u, (encO o)[j]? = some u → w.cell? ⟨Bx, off + i * 15 + j, Option.none⟩ = some u := by
  obtain ⟨B, off', e, hB, hc⟩ := hl i o h
  injection e with e
  injection e with e1 e2
  subst e1 e2
  exact ⟨Nat.lt_of_lt_of_le hB hb.size, fun j u hu => (World.cell?_of_block (hb.block _ hB)).trans (hc j u hu)⟩
end Go.Proofs.Ytkchlibkfafgdaa.Shard

