/- Part9: ShardL6, ShardL7, Same8, ShardL8, one behind the other. -/
import Derived.Test.YtkchlibkfafgdaaPart8
import Derived.Test.YtkchlibkfafgdaaPart3
import Derived.Deep.LoopGhost
import Derived.BigQuiet
/- Layer 11's laws: arguments by value; items that were handed back. -/
namespace Go.Proofs.Ytkchlibkfafgdaa.Shard
set_option maxRecDepth 100000
open Go Go.ChangeShapes Go.WideShapes Go.Deep Go.RowKit Go.Proofs.Ytkchlibkfafgdaa.Mem Go.Proofs.Ytkchlibkfafgdaa.App Go.Proofs.Ytkchlibkfafgdaa.Ops

theorem cellsI_at : ∀ (l : List (Item × Value)) (i : Nat) (p : Item × Value) (j : Nat) (u : Value), l[i]? = some p → (p.1.arr p.2).toList[j]? = some u → (cellsI l)[i * 10 + j]? = some u
  | [], _, _, _, _, h, _ => by simp at h
  | q :: l, 0, p, j, u, h, hu => by
    simp at h
    subst h
    simp only [cellsI, List.flatMap_cons]
    have hj : j < (q.1.arr q.2).toList.length := (List.getElem?_eq_some_iff.1 hu).1
    rw [Nat.zero_mul, Nat.zero_add, List.getElem?_append_left hj]
    exact hu
  | q :: l, i + 1, p, j, u, h, hu => by
    have h' : l[i]? = some p := by simpa using h
    have ih := cellsI_at l i p j u h' hu
    simp only [cellsI, List.flatMap_cons] at ih ⊢
    have hq : (q.1.arr q.2).toList.length = 10 := rfl
    rw [List.getElem?_append_right (by rw [hq]; omega), hq, show (i + 1) * 10 + j - 10 = i * 10 + j from by omega]
    exact ih
section
variable {w w' : World} {base : Nat} {xs : List Item} {v : Value}
theorem ItemsAt.shape (h : ItemsAt base xs v w) : ∃ a c, v = .slice a xs.length c := by
  obtain ⟨l, h1, h2, -⟩ := h
  obtain ⟨a, c, e⟩ := Src.shape (Src.of_row h2)
  exact ⟨a, c, by rw [e, ← h1, List.length_map]⟩
theorem ItemsAt.same (h : ItemsAt base xs v w) (hs : ∀ k, base ≤ k → k < w.heap.size → w'.heap[k]? = w.heap[k]?) : ItemsAt base xs v w' := by
  obtain ⟨l, h1, h2, h3⟩ := h
  exact ⟨l, h1, row_keep h2 fun g e => hs g (own_block_lt h2 g e).1 (own_block_lt h2 g e).2, fun p hp => row_keep (h3 p hp) fun g e => hs g (own_block_lt (h3 p hp) g e).1 (own_block_lt (h3 p hp) g e).2⟩
theorem ItemsAt.below (h : ItemsAt base xs v w) (hb : Below w.heap.size w w') : ItemsAt base xs v w' := h.same fun k _ hk => hb.block k hk
theorem ItemsAt.get (h : ItemsAt base xs v w) {i : Nat} {it : Item} (hi : xs[i]? = some it) : ∃ g cap va vc, v = .slice (some ⟨g, 0, Option.none⟩) xs.length cap ∧ base ≤ g ∧ g < w.heap.size ∧ OwnB w base (.slice va it.val.length vc) it.val ∧ ∀ j u, (it.arr (.slice va it.val.length vc)).toList[j]? = some u → w.cell? ⟨g, i * 10 + j, Option.none⟩ = some u := by
  obtain ⟨l, h1, h2, h3⟩ := h
  have hlen : l.length = xs.length := by rw [← h1, List.length_map]
  obtain ⟨p, hp, hpe⟩ : ∃ p, l[i]? = some p ∧ p.1 = it := by
    rw [← h1, List.getElem?_map, Option.map_eq_some_iff] at hi
    exact hi
  subst hpe
  have hv := h3 p (List.mem_of_getElem? hp)
  obtain ⟨va, vc, e⟩ := Src.shape (Src.of_row hv)
  have hil := (List.getElem?_eq_some_iff.1 hp).1
  rcases h2.2 with ⟨_, e0⟩ | ⟨g, cap, cur, e1, hb, hg, _, _, _, ht⟩
  · omega
  refine ⟨g, cap, va, vc, by rw [e1, hlen], hb, (Array.getElem?_eq_some_iff.1 hg).1, by rw [e] at hv; exact hv, fun j u hu => ?_⟩
  rw [← e] at hu
  have hc := cellsI_at l i p j u hp hu
  rw [Mem.row_cell hg]
  have hj : j < 10 := (List.getElem?_eq_some_iff.1 hu).1
  have h5 : (cur.toList.take (l.length * 10))[i * 10 + j]? = some u := by rw [ht]; exact hc
  rw [List.getElem?_take, if_pos (by omega), Array.getElem?_toList] at h5
  exact h5
end
section
variable {H : Type} {enc : TypeId × Value → H} {w : World} {base : Nat} {spare : Nat → Bool} {held : Bool}
theorem env_el (n : Nat) (cs : List Value) (y : DataW H × List MemPlace) (h : DataW.trod enc Try.prog w base spare held n 33 cs = some y) : ∃ env : Env, cs = env.arr.toList ∧ EnvOk env := by
  obtain ⟨zs, m2, _, _, hlen, hzl, hh⟩ := DataW.trod_struct Try.underlying33 h
  rw [show Try.prog.cellsOf 33 = 4 from by kernel_rfl] at hlen
  have hc1 : Try.prog.cellsOf 3 = 1 := by kernel_rfl
  have hc8 : Try.prog.cellsOf 22 = 1 := by kernel_rfl
  match cs, hlen, zs, hzl with
  | [c0, c1, c2, c3], _, [z0, z1, z2, z3], _ =>
    have l0 := hh 0 _ rfl
    have l1 := hh 1 _ rfl
    have l2 := hh 2 _ rfl
    have l3 := hh 3 _ rfl
    simp [hc1, hc8] at l0 l1 l2 l3
    obtain ⟨p0, e11, _, w11⟩ := DataW.trod_int Try.underlying3 l0
    obtain ⟨p1, e12, _, w12⟩ := DataW.trod_int Try.underlying22 l1
    obtain ⟨p2, e13, _, w13⟩ := DataW.trod_int Try.underlying3 l2
    obtain ⟨p3, e14, _, w14⟩ := DataW.trod_int Try.underlying22 l3
    injection e11 with e11; injection e12 with e12; injection e13 with e13; injection e14 with e14
    subst e11 e12 e13 e14
    exact ⟨⟨p0, p1, p2, p3⟩, rfl, ⟨isI_of w11, isU_of w12, isI_of w13, isU_of w14⟩⟩
theorem open_env {r : Reach} {b0 : Nat} {v : Value} {d : DataW H} {ps : List MemPlace} (hval : Value.okWide Try.prog w r b0 33 v) (hd : DataW.Trod enc Try.prog w base spare held 33 v d ps) : ∃ env : Env, v = .agg env.arr ∧ EnvOk env := by
  obtain ⟨cs, rfl, -⟩ := okWide_struct Try.underlying33 hval
  obtain ⟨fuel, hf⟩ := hd
  obtain ⟨env, he, hok⟩ := env_el fuel _ _ hf
  refine ⟨env, ?_, hok⟩
  congr 1
  have h2 : cs.toList = env.arr.toList := he
  exact Array.toList_inj.1 h2
theorem item_el (n : Nat) (cs : List Value) (y : DataW H × List MemPlace) (h : DataW.trod enc Try.prog w base spare held n 31 cs = some y) : ∃ (it : Item) (v : Value), cs = (it.arr v).toList ∧ ItemOk it ∧ SrcB w v it.val := by
  obtain ⟨ys, m', _, _, hlen, hyl, hg⟩ := DataW.trod_struct Try.underlying31 h
  rw [show Try.prog.cellsOf 31 = 10 from by kernel_rfl] at hlen
  have hc1 : Try.prog.cellsOf 3 = 1 := by kernel_rfl
  have hc2 : Try.prog.cellsOf 4 = 1 := by kernel_rfl
  have hc5 : Try.prog.cellsOf 9 = 1 := by kernel_rfl
  have hc6 : Try.prog.cellsOf 28 = 1 := by kernel_rfl
  have hc7 : Try.prog.cellsOf 29 = 1 := by kernel_rfl
  have hc8 : Try.prog.cellsOf 22 = 1 := by kernel_rfl
  match cs, hlen, ys, hyl with
  | [c1, c2, c3, c4, c5, c6, c7, c8, c9, c10], _, [y0, y1, y2, y3, y4, y5, y6, y7, y8, y9], _ =>
    have k0 := hg 0 _ rfl
    have k1 := hg 1 _ rfl
    have k2 := hg 2 _ rfl
    have k3 := hg 3 _ rfl
    have k4 := hg 4 _ rfl
    have k5 := hg 5 _ rfl
    have k6 := hg 6 _ rfl
    have k7 := hg 7 _ rfl
    have k8 := hg 8 _ rfl
    have k9 := hg 9 _ rfl
    simp [hc1, hc2, hc5, hc6, hc7, hc8] at k0 k1 k2 k3 k4 k5 k6 k7 k8 k9
    obtain ⟨q0, e1, _, w1⟩ := DataW.trod_string Try.underlying9 k0
    obtain ⟨bs, hbs, hbl⟩ := open_bytes k1
    obtain ⟨q2, e3, _, w3⟩ := DataW.trod_int Try.underlying29 k2
    obtain ⟨q3, e4, _, w4⟩ := DataW.trod_int Try.underlying3 k3
    obtain ⟨q4, e5, _, w5⟩ := DataW.trod_int Try.underlying22 k4
    obtain ⟨q5, e6, _, w6⟩ := DataW.trod_int Try.underlying3 k5
    obtain ⟨q6, e7, _, w7⟩ := DataW.trod_int Try.underlying22 k6
    obtain ⟨q7, e8, _⟩ := DataW.trod_bool Try.underlying4 k7
    obtain ⟨q8, e9, _⟩ := DataW.trod_bool Try.underlying4 k8
    obtain ⟨q9, e10, _⟩ := DataW.trod_bool Try.underlying4 k9
    injection e1 with e1; injection e3 with e3; injection e4 with e4; injection e5 with e5; injection e6 with e6; injection e7 with e7; injection e8 with e8; injection e9 with e9; injection e10 with e10
    subst e1 e3 e4 e5 e6 e7 e8 e9 e10
    exact ⟨⟨q0, bs, q2, q3, q4, q5, q6, q7, q8, q9⟩, c2, rfl, ⟨w1, hbl, u32_of w3, isI_of w4, isU_of w5, isI_of w6, isU_of w7⟩, hbs⟩
theorem open_item {r : Reach} {b0 : Nat} {v : Value} {d : DataW H} {ps : List MemPlace} (hval : Value.okWide Try.prog w r b0 31 v) (hd : DataW.Trod enc Try.prog w base spare held 31 v d ps) : ∃ (it : Item) (a : Option Addr) (c : Nat), v = .agg (it.arr (.slice a it.val.length c)) ∧ ItemOk it ∧ SrcB w (.slice a it.val.length c) it.val := by
  obtain ⟨cs, rfl, -⟩ := okWide_struct Try.underlying31 hval
  obtain ⟨fuel, hf⟩ := hd
  obtain ⟨it, u, he, hok, hs⟩ := item_el fuel _ _ hf
  obtain ⟨a, c, hu⟩ := hs.shape
  subst hu
  refine ⟨it, a, c, ?_, hok, hs⟩
  congr 1
  have h2 : cs.toList = (it.arr (.slice a it.val.length c)).toList := he
  exact Array.toList_inj.1 h2
/-- Bytes as an argument. -/
theorem open_bytesv {r : Reach} {b0 : Nat} {v : Value} {d : DataW H} {ps : List MemPlace} (hval : Value.okWide Try.prog w r b0 28 v) (hd : DataW.Trod enc Try.prog w base spare held 28 v d ps) : ∃ (xs : List UInt8) (a : Option Addr) (c : Nat), v = .slice a xs.length c ∧ xs.length ≤ maxLen ∧ SrcB w (.slice a xs.length c) xs := by
  obtain ⟨a, n, c, rfl⟩ := okWide_slice Try.underlying28 hval
  obtain ⟨fuel, hf⟩ := hd
  obtain ⟨xs, hs, hl⟩ := open_bytes (cv := .slice a n c) hf
  obtain ⟨a', c', e⟩ := hs.shape
  rw [e] at hs
  exact ⟨xs, a', c', e, hl, hs⟩
end
end Go.Proofs.Ytkchlibkfafgdaa.Shard

/- Layer 11: Drops hands its row over: it is the caller's own from then on. -/
namespace Go.Proofs.Ytkchlibkfafgdaa.Shard
set_option maxRecDepth 100000
open Go Go.RowKit Go.Proofs.Ytkchlibkfafgdaa.Mem Go.Proofs.Ytkchlibkfafgdaa.App

/-- The drops' blocks are no longer the shard's. -/
def shed (col : Col) : Col := fun k => if col k = some .drops then none else col k
theorem shed_of {col : Col} {k : Nat} {p : Part} (h : col k = some p) (hp : p ≠ .drops) : shed col k = some p := by
  unfold shed
  rw [if_neg (by rw [h]; intro e; injection e with e; exact hp e)]; exact h
theorem of_shed {col : Col} {k : Nat} {p : Part} (h : shed col k = some p) : col k = some p := by
  unfold shed at h
  split at h
  · cases h
  · exact h
theorem shed_ne {col : Col} {k : Nat} (h : shed col k ≠ none) : col k ≠ none := by
  rcases hc : shed col k with _ | p
  · exact absurd hc h
  · rw [of_shed hc]; simp
theorem Parts.shed {W w : World} {n : Nat} {hl : Nat → Prop} {col : Col} {ad : Addrs} {seed : Int} {s : St} {vd : Value} {vv : Nat → Value} (h : Parts W w n hl col ad seed s vd vv) (hv : vd.ownBlock = none) : Parts W w n hl (Shard.shed col) ad seed s vd vv := by
  obtain ⟨Ft, ht1, ht2⟩ := h.tab
  obtain ⟨Fs, hs1, hs2⟩ := h.slab
  obtain ⟨Fo, ho1, ho2⟩ := h.order
  refine ⟨h.self, shed_of h.csb (by simp), ⟨Ft, ht1, fun k hk => shed_of (ht2 k hk) (by simp)⟩, h.sm, ⟨Fs, hs1, fun k hk => shed_of (hs2 k hk) (by simp)⟩, ⟨Fo, ho1, fun k hk => shed_of (ho2 k hk) (by simp)⟩, h.judge, ⟨shed_of h.cj.1 (by simp), shed_of h.cj.2.1 (by simp), shed_of h.cj.2.2 (by simp)⟩, h.drops, fun g e => (by rw [hv] at e; cases e), fun q hq hn => ?_, fun k p e => h.lt k p (of_shed e), h.below⟩
  obtain ⟨a1, a2, a3, a4, a5⟩ := h.ents q hq hn
  exact ⟨a1, a2, a3, shed_of a4 (by simp), fun g e => ⟨shed_of (a5 g e).1 (by simp), (a5 g e).2⟩⟩
section
variable {W w : World} {n b M : Nat} {col : Col} {seed : Int} {s : St}
theorem drops_own (h : At W w n b col seed s) : Calls Try.prog 14 #[.pointer (some ⟨b, 0, none⟩)] w fun e w' => ∃ v col', e = .returned v ∧ At W w' n b col' seed { s with drops := [] } ∧ Fr col col' w w' ∧ w'.ownsRow W.heap.size 9 1 v s.drops.length (cellsS s.drops) ∧ ∀ g, v.ownBlock = some g → col' g = Option.none := by
  obtain ⟨ad, vd, vv, rfl, h⟩ := h
  have c4 : w.cell? ⟨ad.sb, 4, none⟩ = some vd := Mem.row_cell h.self 4
  have f4 := Mem.row_free h.self 4
  obtain ⟨a, c, hv⟩ := Src.shape (Src.of_row h.drops)
  subst hv
  have HH := Lib.hid h
  clear h
  go_enter Try.func14, Try.ntmps14
  go_wp2_with fail
  go_ret
  have h := HH.out
  have ht := (h.turnDrops (Only.refl _ _) (l := []) (vd' := .slice none 0 0) (World.ownsRow_nil _ _ _ _) (fun g e => by cases e)).shed rfl
  refine ⟨_, _, rfl, ⟨ad, _, vv, rfl, ht⟩, ⟨(Only.refl _ _).setCell (p := ⟨ad.sb, 4, none⟩) (.inl (by rw [h.csb]; simp)) _, fun k hk => ?_⟩, ?_, fun g e => ?_⟩
  · have hk := shed_ne hk
    unfold recol at hk
    by_cases h1 : k < w.heap.size
    · rw [if_pos h1] at hk; exact .inl hk
    · exact .inr (by omega)
  · refine row_keep ⟨h.drops.1, ?_⟩ fun g e => Below.heap_setCell _ _ _ _ (fun e1 => ?_)
    · rcases h.drops.2 with h1 | ⟨g, cap, cur, h1, h2, h3⟩
      · exact .inl h1
      · exact .inr ⟨g, cap, cur, h1, (h.lt _ _ (h.cd g (by rw [h1]; rfl))).1, h3⟩
    · have h1 := h.cd g e
      rw [show g = ad.sb from e1, h.csb] at h1
      cases h1
  · unfold Shard.shed
    rw [if_pos (h.recol_of (h.cd g e))]
theorem drops_run2 (h : Run W w M b col seed s) :
    Calls Try.prog 14 #[.pointer (some ⟨b, 0, none⟩)] w fun e w' => ∃ v col', e = .returned v ∧ Run W w' M b col' seed { s with drops := [] } ∧ Fr col col' w w' ∧ w'.ownsRow W.heap.size 9 1 v s.drops.length (cellsS s.drops) ∧ ∀ g, v.ownBlock = some g → col' g = Option.none := by
  refine (drops_own h.at_).mono ?_
  rintro e w' ⟨v, col', h1, h2, h3, h4, h5⟩
  exact ⟨v, col', h1, ⟨h2, h.inv.emptied⟩, h3, h4, h5⟩
end
end Go.Proofs.Ytkchlibkfafgdaa.Shard

/- The laws' own function Same, of two lists of keys. -/
namespace Go.Proofs.Ytkchlibkfafgdaa.Same8
set_option maxRecDepth 100000
open Go Go.RowKit Go.Proofs.Ytkchlibkfafgdaa.Mem Go.Proofs.Ytkchlibkfafgdaa.Slru
open Go.Proofs.Ytkchlibkfafgdaa.Shard (cellsS)
/-- Keys that lie behind a slice's value. -/
def ReadsK (w : World) (v : Value) (xs : List ByteArray) : Prop := ∃ a c, v = .slice a xs.length c ∧ xs.length ≤ c ∧ ∀ i k, xs[i]? = some k → ∃ g, a = some ⟨g, 0, none⟩ ∧ g < w.heap.size ∧ w.cell? ⟨g, i, none⟩ = some (.string k)
theorem ReadsK.of_row {w : World} {base : Nat} {v : Value} {xs : List ByteArray} (h : w.ownsRow base 9 1 v xs.length (cellsS xs)) : ReadsK w v xs := by
  rcases h.2 with ⟨e1, e2⟩ | ⟨g, cap, cur, e1, _, e2, e3, _, e4, e5⟩
  · have : xs = [] := List.eq_nil_of_length_eq_zero (by omega)
    subst this
    exact ⟨none, 0, by rw [e1]; rfl, Nat.le_refl _, fun i k hi => by simp at hi⟩
  · refine ⟨some ⟨g, 0, none⟩, cap, e1, e3, fun i k hi => ⟨g, rfl, (Array.getElem?_eq_some_iff.1 e2).1, ?_⟩⟩
    rw [Mem.row_cell e2 i]
    have hil := (List.getElem?_eq_some_iff.1 hi).1
    have h1 : (cur.toList.take (xs.length * 1))[i]? = some (.string k) := by rw [e5, cellsS, List.getElem?_map, hi]; rfl
    rw [List.getElem?_take, if_pos (by omega)] at h1
    simpa using h1
theorem ReadsK.below {w w' : World} {v : Value} {xs : List ByteArray} (h : ReadsK w v xs) (hb : Below w.heap.size w w') : ReadsK w' v xs := by
  obtain ⟨a, c, h1, h2, h3⟩ := h
  refine ⟨a, c, h1, h2, fun i k hi => ?_⟩
  obtain ⟨g, e, hg, hc⟩ := h3 i k hi
  exact ⟨g, e, Nat.lt_of_lt_of_le hg hb.size, (World.cell?_of_block (hb.block g hg)).trans hc⟩
set_option maxHeartbeats 1000000 in
theorem same_any {w : World} {va vb : Value} {xs ys : List ByteArray} (ha : ReadsK w va xs) (hb : ReadsK w vb ys) (hl : xs.length ≤ 1000000000000) :
    Calls Try.prog 26 #[va, vb] w fun e w' => e = .returned (.bool (decide (xs = ys))) ∧ ∃ d, w' = w.drewN d := by
  obtain ⟨a, c, rfl, hac, ha⟩ := ha
  obtain ⟨a', c', rfl, hbc, hb⟩ := hb
  by_cases hlen : xs.length = ys.length
  case neg =>
    have e : decide (xs = ys) = false := by simp; exact fun e => hlen (by rw [e])
    rw [e]
    have hne : ((xs.length : Int) != ys.length) = true := by simp; omega
    clear ha hb e hlen
    go_enter Try.func26, Try.ntmps26
    go_wp2_with fail
    go_ret
    exact ⟨rfl, 0, rfl⟩
  have HH := Lib.hid (And.intro ha (And.intro hb hlen))
  have hbc' : xs.length ≤ c' := by omega
  rw [← hlen]
  have hee : ((xs.length : Int) != xs.length) = false := by simp
  clear ha hb hlen hbc
  go_enter Try.func26, Try.ntmps26
  go_wp2_with fail
  go_loopg [5] xs.length (fun g i wr => ∃ m : Nat, i = .int .i64 m ∧ g + m = xs.length ∧ Hid (xs.take m = ys.take m) ∧ ∃ d, wr = w.drewN d)
  case atStart => exact ⟨0, rfl, by omega, Lib.hid rfl, 0, rfl⟩
  case round =>
    obtain ⟨m, rfl, hg, hs, d, rfl⟩ := hrel
    have HG := Lib.hid hg
    clear hg
    by_cases hm : m < xs.length
    · obtain ⟨k, hk⟩ : ∃ k, xs[m]? = some k := ⟨_, List.getElem?_eq_getElem hm⟩
      obtain ⟨k', hk'⟩ : ∃ k, ys[m]? = some k := ⟨_, List.getElem?_eq_getElem (by have := HH.out.2.2; omega)⟩
      obtain ⟨g, rfl, hg, c0⟩ := HH.out.1 m k hk
      obtain ⟨g', rfl, hg', c0'⟩ := HH.out.2.1 m k' hk'
      have hmi : (m : Int) < xs.length := by omega
      have c0 : (w.drewN d).cell? ⟨g, m, none⟩ = some (.string k) := c0
      have c0' : (w.drewN d).cell? ⟨g', m, none⟩ = some (.string k') := c0'
      have HK := Lib.hid (And.intro hk hk')
      clear hk hk' hg hg'
      by_cases hkk : k = k'
      · subst hkk
        have hse := str_eq k
        go_wp2_with fail
        go_quiet (fail)
        go_wp2_with fail
        go_roundg (xs.length - (m + 1))
        case measure => have := HG.out; omega
        case rel => exact ⟨m + 1, by go_num, by have := HG.out; omega, Lib.hid (by rw [List.take_add_one, List.take_add_one, hs.out, HK.out.1, HK.out.2]), _, rfl⟩
      · have hse := str_ne hkk
        have e : decide (xs = ys) = false := by
          simp; intro e
          have h1 := HK.out.1
          rw [e, HK.out.2] at h1
          injection h1 with h1
          exact hkk h1.symm
        have HE := Lib.hid e
        clear hkk e
        go_wp2_with fail
        go_quiet (fail)
        go_wp2_with fail
        go_ret
        exact ⟨by rw [HE.out]; rfl, d + nq, by simp⟩
    · have hml : (xs.length : Int) ≤ m := by omega
      have e : decide (xs = ys) = true := by
        have h1 := hs.out
        rw [List.take_of_length_le (by omega), List.take_of_length_le (by have := HH.out.2.2; omega)] at h1
        simpa using h1
      have HE := Lib.hid e
      clear e
      go_wp2_with fail
      go_ret
      exact ⟨by rw [HE.out]; rfl, _, rfl⟩
end Go.Proofs.Ytkchlibkfafgdaa.Same8

/- Layer 11's laws: what the law has of its own stays, whatever the shard does. -/
namespace Go.Proofs.Ytkchlibkfafgdaa.Shard
open Go Go.RowKit Go.Proofs.Ytkchlibkfafgdaa.Mem Go.Proofs.Ytkchlibkfafgdaa.App

/-- The blocks from base to top are the law's own, as they were in w0. -/
structure Sep (col : Col) (base top : Nat) (w0 w : World) : Prop where
  lt : top ≤ w.heap.size
  own : ∀ k, base ≤ k → k < top → w.heap[k]? = w0.heap[k]? ∧ col k = none
section
variable {col col' : Col} {base top : Nat} {w0 w w' : World}
theorem Sep.start (hc : ∀ k, base ≤ k → col k = none) (w : World) : Sep col base w.heap.size w w := ⟨Nat.le_refl _, fun k h1 _ => ⟨rfl, hc k h1⟩⟩
theorem Sep.turn (h : Sep col base top w0 w) (f : Fr col col' w w') : Sep col' base top w0 w' :=
  ⟨Nat.le_trans h.lt f.1.size, fun k h1 h2 => by
    obtain ⟨a, b, _⟩ := f.own (k := k) (Nat.lt_of_lt_of_le h2 h.lt) (h.own k h1 h2).2
    exact ⟨a.trans (h.own k h1 h2).1, b⟩⟩
theorem Sep.below (h : Sep col base top w0 w) (hb : Below w.heap.size w w') : Sep col base top w0 w' :=
  ⟨Nat.le_trans h.lt hb.size, fun k h1 h2 => ⟨(hb.block k (Nat.lt_of_lt_of_le h2 h.lt)).trans (h.own k h1 h2).1, (h.own k h1 h2).2⟩⟩
theorem Sep.items {xs : List Item} {v : Value} (h : Sep col base w0.heap.size w0 w) (hi : ItemsAt base xs v w0) : ItemsAt base xs v w := hi.same fun k h1 h2 => (h.own k h1 h2).1
end
theorem filter_at {α : Type} {p : α → Bool} : ∀ (l : List α) (i : Nat) (a : α), l[i]? = some a → p a = true → (l.filter p)[((l.take i).filter p).length]? = some a := fun l i a h hp => by
  have e : l = l.take i ++ a :: l.drop (i + 1) := by
    obtain ⟨hi, rfl⟩ := List.getElem?_eq_some_iff.1 h
    rw [← List.drop_eq_getElem_cons hi, List.take_append_drop]
  have e2 : l.filter p = (l.take i).filter p ++ (a :: (l.drop (i + 1)).filter p) := by
    conv => lhs; rw [e]
    rw [List.filter_append, List.filter_cons, if_pos hp]
  rw [e2, List.getElem?_append_right (Nat.le_refl _), Nat.sub_self]
  rfl
theorem filter_step {α : Type} {p : α → Bool} {l : List α} {i : Nat} {a : α} (h : l[i]? = some a) : ((l.take (i + 1)).filter p).length = ((l.take i).filter p).length + if p a = true then 1 else 0 := by
  rw [List.take_add_one, h, List.filter_append, List.length_append]
  by_cases hp : p a = true
  · simp [hp]
  · simp [hp]
/-- What two removes of a key come to. -/
theorem removes_law {n N : Nat} {s : St} (h : Inv n N s) (key : ByteArray) : ∃ (hb : Bool) (z : Int), (s.remove key).1 = hb ∧ ((s.remove key).2.remove key).1 = false ∧ ((s.remove key).2.remove key).2.items = s.items.filter (fun a => decide (a.key ≠ key)) ∧
    ((s.remove key).2.remove key).2.slab.used = s.slab.used - z ∧ ((s.remove key).2.remove key).2.drops = s.drops ∧ ((hb = false ∧ z = 0 ∧ ∀ a ∈ s.items, a.key ≠ key) ∨ (hb = true ∧ 0 < z ∧ z ≤ 2048 ∧ ∃ a ∈ s.items, a.key = key)) ∧ (∀ a ∈ s.items, a.key = key → Slab.bytesI (Slab.classN a.size) = z ∧ Slab.classN a.size < 6) := by
  have hd : ((s.remove key).2.remove key).2.drops = s.drops := by rw [remove_drops, remove_drops]
  rcases remove_two h key with ⟨h1, h2, h3⟩ | ⟨h1, a, ha, hk, hz, hu, hit, hl, hus, hno⟩
  · have h4 : s.tick.remove key = (false, s.tick.tick) := by
      rcases remove_two h.tick key with ⟨e1, e2, _⟩ | ⟨_, b, hb, hkb, _⟩
      · exact Prod.ext e1 e2
      · exact absurd hkb (h3 b hb)
    refine ⟨false, 0, h1, by rw [h2, h4], ?_, by rw [h2, h4]; simp [St.tick], hd, .inl ⟨rfl, rfl, h3⟩, fun a ha e => absurd e (h3 a ha)⟩
    rw [h2, h4]
    refine (List.filter_eq_self.2 fun a ha => ?_).symm
    exact decide_eq_true (h3 a ha)
  · have hi := h.remove key
    have h4 : (s.remove key).2.remove key = (false, (s.remove key).2.tick) := by
      rcases remove_two hi key with ⟨e1, e2, _⟩ | ⟨_, b, hb, hkb, _⟩
      · exact Prod.ext e1 e2
      · exact absurd hkb (hno b hb)
    have h6 : Slab.classN a.size < 6 := by
      unfold Slab.classN
      repeat' split
      all_goals omega
    have hp := Slab.bytes_pos h6
    refine ⟨true, Slab.bytesI (Slab.classN a.size), h1, by rw [h4], ?_, ?_, hd, .inr ⟨rfl, by omega, by omega, a, ha, hk⟩, fun b hb e => by rw [hu b hb e]; exact ⟨rfl, h6⟩⟩
    · rw [h4]; exact hit
    · rw [h4]; exact hus
end Go.Proofs.Ytkchlibkfafgdaa.Shard

