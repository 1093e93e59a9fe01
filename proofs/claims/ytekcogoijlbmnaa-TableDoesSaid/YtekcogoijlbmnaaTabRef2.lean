/- The document's own table (layer 9): Put. -/
import Derived.Test.YtekcogoijlbmnaaTabRef1
import Derived.Test.YtekcogoijlbmnaaTabI10
import Derived.RegionTactic
namespace Go.Proofs.Ytekcogoijlbmnaa.RefTab
open Go Go.RowKit Go.Proofs.Ytekcogoijlbmnaa.Mem Go.Proofs.Ytekcogoijlbmnaa.Tab Go.Proofs.Ytekcogoijlbmnaa.TabI Go.Proofs.Ytekcogoijlbmnaa.App

section
variable {w w' : World} {b : Nat} {G : Nat → Prop} {s : St V} {v v' : Value}
/-- A new row. -/
theorem RAtW.newRow (h : RAtW w b G s v) (hs : ∀ k, G k → w'.heap[k]? = w.heap[k]?) (hz : w.heap.size ≤ w'.heap.size) {M : Pairs V} (hown : OwnR w' v' M) (hf : ∀ g, v'.ownBlock = some g → w.heap.size ≤ g) :
    RAtW (w'.setCell ⟨b, 0, none⟩ v') b (fun j => G j ∨ v'.ownBlock = some j) { s with L := M } v' := by
  have hb := h.lt b h.gb
  have hnb : v'.ownBlock ≠ some b := fun e => by have := hf b e; omega
  have hset : ∀ k, k ≠ b → (w'.setCell ⟨b, 0, none⟩ v').heap[k]? = w'.heap[k]? := fun k hk => TabL.set_far hk
  have hz2 : (w'.setCell ⟨b, 0, none⟩ v').heap.size = w'.heap.size := TabL.set_size _ _ _
  refine ⟨Mem.row_set ((hs b h.gb).trans h.blk) 0 v', row_same hown fun g e => hset g (fun e1 => hnb (e1 ▸ e)), .inl h.gb, fun g e => .inr e, hnb, fun j hj => ?_⟩
  rw [hz2]
  exact hj.elim (fun e => Nat.lt_of_lt_of_le (h.lt j e) hz) (fun e => (own_block_lt hown j e).2)
/-- A pair's value is stored. -/
theorem RAtW.store {g n c : Nat} (h : RAtW w b G s (.slice (some ⟨g, 0, none⟩) n c)) {i : Nat} {k : ByteArray} {u u' : V} (hi : s.L[i]? = some (k, u)) :
    RAtW (w.setCell ⟨g, i * 2 + 1, none⟩ (.int .i64 u')) b G { s with L := s.L.set i (k, u') } (.slice (some ⟨g, 0, none⟩) n c) ∧ Only G w (w.setCell ⟨g, i * 2 + 1, none⟩ (.int .i64 u')) := by
  have hG : G g := h.gr g rfl
  have hgb : g ≠ b := fun e => h.nb (by rw [e]; rfl)
  have hz2 : (w.setCell ⟨g, i * 2 + 1, none⟩ (.int .i64 u')).heap.size = w.heap.size := TabL.set_size _ _ _
  refine ⟨⟨(TabL.set_far (Ne.symm hgb)).trans h.blk, ?_, h.gb, h.gr, h.nb, fun k hk => by rw [hz2]; exact h.lt k hk⟩, (Only.refl G w).setCell (p := ⟨g, i * 2 + 1, none⟩) (.inl hG) _⟩
  have hset : ∀ (l : Pairs V) (i : Nat), l[i]? = some (k, u) → cellsP (l.set i (k, u')) = (cellsP l).set (i * 2 + 1) (.int .i64 u') := fun l => by
    induction l with
    | nil => intro i h; simp at h
    | cons p l ih =>
      intro i h
      match i, h with
      | 0, h => simp at h; subst h; rfl
      | i + 1, h =>
        rw [List.set_cons_succ, cellsP_cons, cellsP_cons, ih i (by simpa using h), show (i + 1) * 2 + 1 = i * 2 + 1 + 1 + 1 from by omega]
        rfl
  refine ⟨by rw [cellsP_len], ?_⟩
  rcases h.row.2 with ⟨e, _⟩ | ⟨g', cap', cur, e, h2, h3, h4, h5, h6, h7⟩
  · cases e
  injection e with e e1 e2
  injection e with e
  injection e with e
  subst e; subst e2
  refine .inr ⟨g, c, cur.setIfInBounds (i * 2 + 1) (.int .i64 u'), by rw [List.length_set, e1], h2, Mem.row_set h3 _ _, by rw [List.length_set]; exact h4, h5, by simpa using h6, ?_⟩
  rw [hset s.L i hi, List.length_set, ← h7]
  simp only [Array.toList_setIfInBounds]
  rw [List.take_set]
end
/-- The row's beginning and its rest, as append reads them. -/
theorem src_parts {w : World} {a : Option Addr} {n c : Nat} {L : Pairs V} (h : OwnR w (.slice a n c) L) (hne : Value.slice a n c ≠ .slice none 0 0) : ∃ g, a = some ⟨g, 0, none⟩ ∧ n = L.length ∧ ∀ m c', m ≤ L.length → Src w 2 (.slice (some ⟨g, 0, none⟩) m c') m (cellsP (L.take m)) ∧ Src w 2 (.slice (some ⟨g, m * 2, none⟩) (L.length - m) c') (L.length - m) (cellsP (L.drop m)) := by
  rcases h.2 with ⟨e1, e2⟩ | ⟨g, cap, cur, e1, _, e2, e3, _, e4, e5⟩
  · exact absurd e1 hne
  injection e1 with e1 e6 e7
  refine ⟨g, e1, e6, fun m c' hm => ?_⟩
  have hlt := (Array.getElem?_eq_some_iff.1 e2).1
  have hcell : ∀ j x, j < L.length * 2 → (cellsP L)[j]? = some x → w.cell? ⟨g, j, none⟩ = some x := fun j x hj hx => by
    rw [← e5, List.getElem?_take, if_pos hj, Array.getElem?_toList] at hx
    exact (Mem.row_cell e2 j).trans hx
  constructor
  · refine .inr ⟨g, 0, c', rfl, by rw [cellsP_len, List.length_take, Nat.min_eq_left hm], hlt, fun j u hu => ?_⟩
    have hj := (List.getElem?_eq_some_iff.1 hu).1
    rw [cellsP_len, List.length_take, Nat.min_eq_left hm] at hj
    rw [cellsP_take, List.getElem?_take, if_pos hj] at hu
    rw [Nat.zero_add]
    exact hcell j u (by omega) hu
  · refine .inr ⟨g, m * 2, c', rfl, by rw [cellsP_len, List.length_drop], hlt, fun j u hu => ?_⟩
    have hj := (List.getElem?_eq_some_iff.1 hu).1
    rw [cellsP_len, List.length_drop] at hj
    rw [cellsP_drop, List.getElem?_drop] at hu
    exact hcell _ u (by omega) hu
theorem src_none {w w' : World} {B g c : Nat} (hb : Below B w w') (hg : g < w.heap.size) : Src w' 2 (.slice (some ⟨g, 0, none⟩) 0 c) 0 [] := .inr ⟨g, 0, c, rfl, rfl, Nat.lt_of_lt_of_le hg hb.size, fun j u hu => by simp at hu⟩
theorem src_one (w : World) (k : ByteArray) (v : V) : Src (w.alloc (.cells #[.string k, .int .i64 v] 48)) 2 (.slice (some ⟨w.heap.size, 0, none⟩) 1 1) 1 [.string k, .int .i64 v] := by
  have hn := Mem.new_block w (.cells #[.string k, .int .i64 v] 48)
  refine .inr ⟨w.heap.size, 0, 1, rfl, rfl, by simp, fun j u hu => ?_⟩
  have := Mem.row_cell hn j
  rw [Nat.zero_add, this]
  simpa using hu
/-- Behind the first part. -/
def Put1 (w : World) (b : Nat) (G : Nat → Prop) (t : St V) (w' : World) : Prop := ∃ G' v', RAtW w' b G' t v' ∧ Only G w w' ∧ Grows w G G'
theorem put_done {w w1 w7 : World} {b : Nat} {G : Nat → Prop} {s : St V} {v0 v' : Value} {M : Pairs V} (h : RAtW w1 b G s.tick v0) (ho : Only G w w1) (hb : Below w1.heap.size w1 w7) (hown : w7.ownsRow w1.heap.size 48 2 v' M.length (cellsP M)) :
    Put1 w b G ⟨M, s.buckets, s.left - 1⟩ (w7.setCell ⟨b, 0, none⟩ v') :=
  ⟨_, v', h.newRow (fun k hk => hb.block k (h.lt k hk)) hb.size (Mem.row_less hown (Nat.zero_le _)) (fun g e => (own_block_lt hown g e).1),
    (ho.trans (Only.of_below (F := G) hb (fun k h1 h2 => by omega)) (Grows.refl _ _)).setCell (p := ⟨b, 0, none⟩) (.inl h.gb) _,
    fun j hj => hj.elim .inl (fun e => .inr (Nat.le_trans ho.size (own_block_lt hown j e).1))⟩
set_option maxRecDepth 100000 in
set_option maxHeartbeats 2000000 in
theorem put_any {w : World} {b : Nat} {G : Nat → Prop} {s : St V} (h : RAt w b G s) (hr : Rising s.L) (hl : s.L.length + 1 ≤ 1000000000) (hbk : s.buckets ≤ 1000000000) (hlf : s.left ≤ 1000000000) (k : ByteArray) (v : V) :
    Calls Try.prog 20 #[.pointer (some ⟨b, 0, none⟩), .string k, .int .i64 v] w (RPost w b G (s.put k v) (.tuple #[])) := by
  obtain ⟨i0, hi, hz0, hz1, hz2⟩ := info_parts TabL.infoP
  obtain ⟨v0, h⟩ := h
  have hst := step_any h (by omega)
  have HR := Lib.hid hr
  have hpl := place_le s.L k
  go_enter Try.func20, Try.ntmps20
  go_wp2_with fail
  refine hst.mono ?_
  rintro e w1 ⟨rfl, r1, o1⟩
  have hat := at_any r1 hr k (by rw [tick_L]; omega)
  rw [tick_L] at hat
  have H1 := Lib.hid (And.intro r1 o1)
  have HPG := Lib.hid (place_get hr k)
  obtain ⟨m, hm⟩ : ∃ m, place s.L k = m := ⟨_, rfl⟩
  obtain ⟨is, his⟩ : ∃ is, (Tab.get s.L k).isSome = is := ⟨_, rfl⟩
  rw [hm] at hat HPG hpl
  rw [his] at hat
  have HI := Lib.hid (And.intro hm his)
  clear h hst r1 o1 hr hm his
  go_wp2_with fail
  refine hat.mono ?_
  rintro e w2 ⟨rfl, d, rfl⟩
  clear hat
  go_upto_if 17 with (fail)
  go_cut [8] from 18 to 50 (fun _ wx => Hid (Put1 w b G ⟨put s.L k v, s.buckets, s.left - 1⟩ wx))
  case first =>
    rcases HPG.out with ⟨u, e1, e2, e3, e4⟩ | ⟨e1, e2, e3, e4⟩
    · have : is = true := by rw [← HI.out.2, e2]; rfl
      subst this
      obtain ⟨a, c, hv, hc, hcell⟩ := row_shape H1.out.1.row
      obtain ⟨g, rfl, cc0, cc1, fz⟩ := hcell m _ e1
      subst hv
      rw [tick_L] at hc
      have c0 : w1.cell? ⟨b, 0, none⟩ = some (.slice (some ⟨g, 0, none⟩) s.L.length c) := Mem.row_cell H1.out.1.blk 0
      have hst := fun d => (H1.out.1.same (w' := w1.drewN d) (fun _ _ => rfl) (Nat.le_refl _)).store (u' := v) e1
      have hml := (List.getElem?_eq_some_iff.1 e1).1
      have hmi : (m : Int) < s.L.length := by omega
      have HF : ∀ d, Hid (Put1 w b G ⟨put s.L k v, s.buckets, s.left - 1⟩ ((w1.drewN d).setCell ⟨g, m * 2 + 1, none⟩ (.int .i64 v))) := fun d => by
        obtain ⟨q1, q2⟩ := hst d
        rw [e3]
        exact Lib.hid ⟨G, _, q1, ((H1.out.2.drewN d).trans q2 (Grows.refl _ _)), Grows.refl _ _⟩
      have HFF := Lib.hid HF
      clear HF hst cc0 e1 e2 e3 e4 hcell hml
      generalize s.L.length = n at *
      go_wp2_with fail
      go_meet
      exact HFF.out _
    · have : is = false := by rw [← HI.out.2, e2]; rfl
      subst this
      by_cases hnil : v0 = .slice none 0 0
      · have hL : s.L = [] := List.eq_nil_of_length_eq_zero (by
          have := H1.out.1.row
          rw [hnil] at this
          rcases this.2 with ⟨_, e⟩ | ⟨g, cap, cur, e, _⟩
          · exact e
          · cases e)
        have hm0 : m = 0 := by rw [hL] at hpl; simpa using hpl
        subst hm0
        have c0 : w1.cell? ⟨b, 0, none⟩ = some (.slice none 0 0) := by rw [← hnil]; exact Mem.row_cell H1.out.1.blk 0
        have hbl := H1.out.1.lt b H1.out.1.gb
        have HE := Lib.hid e3
        have HN := Lib.hid hL
        have HL := Lib.hid hbl
        clear e1 e2 e3 e4 hnil hL hbl
        go_wp2_with (first
          | (at_builtin; refine wpList_append_src (.tmp 39) (.tmp 45) _ _ _ _ i0 _ 2 24 w1.heap.size v5 _ 1 0 [.string k, .int .i64 v] [] rfl rfl Try.underlying35 Try.underlying35 hi hz0 hz1 hz2 rfl (by decide) rfl rfl H5.out.1 (.inl ⟨rfl, rfl, rfl⟩) (by simp) (by unfold maxLen; omega) (by omega) H5.out.2.size ?_; intro v7 w7 hown7 hgr7 hat7; obtain ⟨y7, z7, hv7⟩ := Src.shape (Src.of_row hown7); rw [hv7] at hown7 ⊢; clear hv7; have H7 := Lib.hid (And.intro hown7 (H5.out.2.grown hgr7 H5.out.2.size (fun g e => (own_block_lt H5.out.1 g e).1))); have c7 : w7.cell? ⟨b, 0, none⟩ = some (.slice none 0 0) := (H7.out.2.cell (p := ⟨b, 0, none⟩) HL.out).trans c0; have f7 : w7.frozen? ⟨b, 0, none⟩ = false := (World.frozen?_of_block (H7.out.2.block b HL.out)).trans (Mem.row_free H1.out.1.blk 0); clear hown7 hgr7 hat7 c5)
          | (at_builtin; refine wpList_append_src (.tmp 33) (.tmp 37) _ _ _ _ i0 _ 2 24 w1.heap.size v3 _ 0 1 [] [.string k, .int .i64 v] rfl rfl Try.underlying35 Try.underlying35 hi hz0 hz1 hz2 rfl (by decide) rfl rfl (H3.out.1.alloc _) (src_one w3 k v) (by simp [Value.oneCell']) (by unfold maxLen; omega) (by omega) (by have := H3.out.2.size; simp; omega) ?_; intro v5 w5 hown5 hgr5 hat5; have hb5 : Below w1.heap.size w1 w5 := (H3.out.2.alloc H3.out.2.size _).grown hgr5 (by have := H3.out.2.size; simp; omega) (fun g e => (own_block_lt H3.out.1 g e).1); have H5 := Lib.hid (And.intro hown5 hb5); have c5 : w5.cell? ⟨b, 0, none⟩ = some (.slice none 0 0) := (hb5.cell (p := ⟨b, 0, none⟩) HL.out).trans c0; clear hown5 hgr5 hat5 hb5)
          | (at_builtin; refine wpList_append_src _ (.tmp 31) _ _ _ _ i0 _ 2 24 w1.heap.size _ _ 0 0 [] [] rfl rfl Try.underlying35 Try.underlying35 hi hz0 hz1 hz2 rfl (by decide) rfl rfl (World.ownsRow_nil _ _ _ _) (.inl ⟨rfl, rfl, rfl⟩) (by simp) (by unfold maxLen; omega) (by omega) (Nat.le_refl _) ?_; intro v3 w3 hown3 hgr3 hat3; rw [Nat.zero_add, List.nil_append] at hown3; have H3 := Lib.hid (And.intro hown3 ((Mem.dn (Below.refl _ w1) d).grown hgr3 (Nat.le_refl _) (fun g e => by cases e))); clear hown3 hgr3 hat3)
          | fail)
        go_meet
        refine Lib.hid (put_done H1.out.1 H1.out.2 H7.out.2 ?_)
        rw [HE.out, HN.out]
        exact H7.out.1
      obtain ⟨a, c, hv, hc, -⟩ := row_shape H1.out.1.row
      have hrow := H1.out.1.row
      rw [hv] at hrow
      obtain ⟨g, rfl, -, hsrc⟩ := src_parts hrow (hv ▸ hnil)
      subst hv
      rw [tick_L] at hc hsrc hrow
      have c0 : w1.cell? ⟨b, 0, none⟩ = some (.slice (some ⟨g, 0, none⟩) s.L.length c) := Mem.row_cell H1.out.1.blk 0
      have hgl := H1.out.1.lt g (H1.out.1.gr g rfl)
      have hbl := H1.out.1.lt b H1.out.1.gb
      have HSRC := Lib.hid hsrc
      have HE := Lib.hid e3
      obtain ⟨r, hr⟩ : ∃ r, s.L.length = m + r := ⟨s.L.length - m, by omega⟩
      have hmc : m ≤ c := by omega
      have hmi : (m : Int) ≤ s.L.length := by omega
      clear hsrc hrow e1 e2 e3 e4 hnil
      have hb0 : Below w1.heap.size w1 (w1.drewN d) := Mem.dn (Below.refl _ w1) d
      have HL := Lib.hid (And.intro hgl hbl)
      clear hgl hbl hb0
      by_cases hcm : c = m
      · obtain rfl : m = c := hcm.symm
        have hr0 : r = 0 := by omega
        subst hr0
        go_wp2_with (first
          | (at_builtin; refine wpList_append_src (.tmp 39) (.tmp 45) _ _ _ _ i0 _ 2 24 w1.heap.size v5 _ (m + 1) 0 (cellsP (s.L.take m) ++ [.string k, .int .i64 v]) [] rfl rfl Try.underlying35 Try.underlying35 hi hz0 hz1 hz2 rfl (by decide) rfl rfl H5.out.1 H5.out.2.2 (by simp) (by unfold maxLen; omega) (by omega) H5.out.2.1.size ?_; intro v7 w7 hown7 hgr7 hat7; obtain ⟨y7, z7, hv7⟩ := Src.shape (Src.of_row hown7); rw [hv7] at hown7 ⊢; clear hv7; have H7 := Lib.hid (And.intro hown7 (H5.out.2.1.grown hgr7 H5.out.2.1.size (fun g e => (own_block_lt H5.out.1 g e).1))); have c7 : w7.cell? ⟨b, 0, none⟩ = some (.slice (some ⟨g, 0, none⟩) s.L.length m) := (H7.out.2.cell (p := ⟨b, 0, none⟩) HL.out.2).trans c0; have f7 : w7.frozen? ⟨b, 0, none⟩ = false := (World.frozen?_of_block (H7.out.2.block b HL.out.2)).trans (Mem.row_free H1.out.1.blk 0); clear hown7 hgr7 hat7 c5)
          | (at_builtin; refine wpList_append_src (.tmp 33) (.tmp 37) _ _ _ _ i0 _ 2 24 w1.heap.size v3 _ m 1 (cellsP (s.L.take m)) [.string k, .int .i64 v] rfl rfl Try.underlying35 Try.underlying35 hi hz0 hz1 hz2 rfl (by decide) rfl rfl (H3.out.1.alloc _) (src_one w3 k v) (by simp [Value.oneCell']) (by unfold maxLen; omega) (by omega) (by have := H3.out.2.size; simp; omega) ?_; intro v5 w5 hown5 hgr5 hat5; have hb5 : Below w1.heap.size w1 w5 := (H3.out.2.alloc H3.out.2.size _).grown hgr5 (by have := H3.out.2.size; simp; omega) (fun g e => (own_block_lt H3.out.1 g e).1); have H5 := Lib.hid (And.intro hown5 (And.intro hb5 (src_none (c := 0) hb5 HL.out.1))); have c5 : w5.cell? ⟨b, 0, none⟩ = some (.slice (some ⟨g, 0, none⟩) s.L.length m) := (hb5.cell (p := ⟨b, 0, none⟩) HL.out.2).trans c0; clear hown5 hgr5 hat5 hb5)
          | (at_builtin; refine wpList_append_src _ (.tmp 31) _ _ _ _ i0 _ 2 24 w1.heap.size _ _ 0 m [] (cellsP (s.L.take m)) rfl rfl Try.underlying35 Try.underlying35 hi hz0 hz1 hz2 rfl (by decide) rfl rfl (World.ownsRow_nil _ _ _ _) (((HSRC.out m m hpl).1).below (Mem.dn (Below.refl _ w1) d)) (one_cellsP _) (by unfold maxLen; omega) (by omega) (Nat.le_refl _) ?_; intro v3 w3 hown3 hgr3 hat3; rw [Nat.zero_add, List.nil_append] at hown3; have H3 := Lib.hid (And.intro hown3 ((Mem.dn (Below.refl _ w1) d).grown hgr3 (Nat.le_refl _) (fun g e => by cases e))); clear hown3 hgr3 hat3)
          | fail)
        go_meet
        refine Lib.hid (put_done H1.out.1 H1.out.2 H7.out.2 ?_)
        rw [HE.out, List.drop_of_length_le (by omega), List.append_nil, List.length_append, List.length_take, Nat.min_eq_left hpl, cellsP_app]
        have hq := H7.out.1
        rw [List.append_nil] at hq
        exact hq
      · go_wp2_with (first
          | (at_builtin; refine wpList_append_src (.tmp 39) (.tmp 45) _ _ _ _ i0 _ 2 24 w1.heap.size v5 _ (m + 1) r (cellsP (s.L.take m) ++ [.string k, .int .i64 v]) (cellsP (s.L.drop m)) rfl rfl Try.underlying35 Try.underlying35 hi hz0 hz1 hz2 rfl (by decide) rfl rfl H5.out.1 H5.out.2.2 (one_cellsP _) (by unfold maxLen; omega) (by omega) H5.out.2.1.size ?_; intro v7 w7 hown7 hgr7 hat7; obtain ⟨y7, z7, hv7⟩ := Src.shape (Src.of_row hown7); rw [hv7] at hown7 ⊢; clear hv7; have H7 := Lib.hid (And.intro hown7 (H5.out.2.1.grown hgr7 H5.out.2.1.size (fun g e => (own_block_lt H5.out.1 g e).1))); have c7 : w7.cell? ⟨b, 0, none⟩ = some (.slice (some ⟨g, 0, none⟩) s.L.length c) := (H7.out.2.cell (p := ⟨b, 0, none⟩) HL.out.2).trans c0; have f7 : w7.frozen? ⟨b, 0, none⟩ = false := (World.frozen?_of_block (H7.out.2.block b HL.out.2)).trans (Mem.row_free H1.out.1.blk 0); clear hown7 hgr7 hat7 c5)
          | (at_builtin; refine wpList_append_src (.tmp 33) (.tmp 37) _ _ _ _ i0 _ 2 24 w1.heap.size v3 _ m 1 (cellsP (s.L.take m)) [.string k, .int .i64 v] rfl rfl Try.underlying35 Try.underlying35 hi hz0 hz1 hz2 rfl (by decide) rfl rfl (H3.out.1.alloc _) (src_one w3 k v) (by simp [Value.oneCell']) (by unfold maxLen; omega) (by omega) (by have := H3.out.2.size; simp; omega) ?_; intro v5 w5 hown5 hgr5 hat5; have hb5 : Below w1.heap.size w1 w5 := (H3.out.2.alloc H3.out.2.size _).grown hgr5 (by have := H3.out.2.size; simp; omega) (fun g e => (own_block_lt H3.out.1 g e).1); have H5 := Lib.hid (And.intro hown5 (And.intro hb5 (((HSRC.out m (c - m) hpl).2).below hb5))); have c5 : w5.cell? ⟨b, 0, none⟩ = some (.slice (some ⟨g, 0, none⟩) s.L.length c) := (hb5.cell (p := ⟨b, 0, none⟩) HL.out.2).trans c0; rw [show s.L.length - m = r from by omega] at H5; clear hown5 hgr5 hat5 hb5)
          | (at_builtin; refine wpList_append_src _ (.tmp 31) _ _ _ _ i0 _ 2 24 w1.heap.size _ _ 0 m [] (cellsP (s.L.take m)) rfl rfl Try.underlying35 Try.underlying35 hi hz0 hz1 hz2 rfl (by decide) rfl rfl (World.ownsRow_nil _ _ _ _) (((HSRC.out m c hpl).1).below (Mem.dn (Below.refl _ w1) d)) (one_cellsP _) (by unfold maxLen; omega) (by omega) (Nat.le_refl _) ?_; intro v3 w3 hown3 hgr3 hat3; rw [Nat.zero_add, List.nil_append] at hown3; have H3 := Lib.hid (And.intro hown3 ((Mem.dn (Below.refl _ w1) d).grown hgr3 (Nat.le_refl _) (fun g e => by cases e))); clear hown3 hgr3 hat3)
          | fail)
        go_meet
        refine Lib.hid (put_done H1.out.1 H1.out.2 H7.out.2 ?_)
        rw [HE.out, List.length_append, List.length_append, List.length_take, Nat.min_eq_left hpl, List.length_drop, cellsP_app, cellsP_app, show s.L.length - m = r from by omega]
        exact H7.out.1
  case rest =>
    have HT := hcut
    clear hcut H1 HPG HI
    obtain ⟨G', v', r, ho, hg⟩ := HT.out
    clear HT
    have hlen := (Tab.put_len (L := s.L) k v).1
    obtain ⟨a, c, hv, hc, -⟩ := row_shape r.row
    subst hv
    have c0 : wc.cell? ⟨b, 0, none⟩ = some (.slice a (Tab.put s.L k v).length c) := Mem.row_cell r.blk 0
    have c1 : wc.cell? ⟨b, 1, none⟩ = some (.int .i64 (s.buckets : Nat)) := Mem.row_cell r.blk 1
    have c2 : wc.cell? ⟨b, 2, none⟩ = some (.int .i64 (s.left - 1 : Nat)) := Mem.row_cell r.blk 2
    have f1 := Mem.row_free r.blk 1
    have f2 := Mem.row_free r.blk 2
    have hput : s.put k v = if 2 * s.buckets < (Tab.put s.L k v).length ∧ s.left - 1 = 0 then ⟨Tab.put s.L k v, 2 * s.buckets, s.buckets⟩ else ⟨Tab.put s.L k v, s.buckets, s.left - 1⟩ := rfl
    have hM1 : (Tab.put s.L k v).length ≤ 1000000000 := by omega
    have hl1 : s.left - 1 ≤ 1000000000 := by omega
    have HM := Lib.hid (And.intro r (And.intro ho (And.intro hg hput)))
    obtain ⟨M, hM⟩ : ∃ M, (Tab.put s.L k v).length = M := ⟨_, rfl⟩
    obtain ⟨N, hN⟩ : ∃ N, s.buckets = N := ⟨_, rfl⟩
    obtain ⟨lf, hlf2⟩ : ∃ lf, s.left - 1 = lf := ⟨_, rfl⟩
    rw [hM] at c0 hM1 hc
    rw [hN] at c1 hbk
    rw [hlf2] at c2 hl1
    have HE := Lib.hid (And.intro hM (And.intro hN hlf2))
    clear r ho hg hput hlen hM hN hlf2 hl hlf hpl
    by_cases hg : 2 * N < M ∧ lf = 0
    · obtain ⟨hg1, rfl⟩ := hg
      have hd1 : decide (2 * (N : Int) < (M : Int)) = true := by simp only [decide_eq_true_eq]; omega
      have hd2 : decide (2 * N < M) = true := by simpa using hg1
      have hgi : 2 * (N : Int) < M := by omega
      have hfin : ∀ d, RPost w b G (s.put k v) (.tuple #[]) (.returned (.tuple #[])) (((wc.drewN d).setCell ⟨b, 2, none⟩ (.int .i64 (N : Nat))).setCell ⟨b, 1, none⟩ (.int .i64 (2 * (N : Int)))) := fun d => by
        obtain ⟨r, ho, hg, hput⟩ := HM.out
        obtain ⟨h1, h2, h3⟩ := HE.out
        rw [hput, if_pos (by rw [h1, h2, h3]; exact ⟨hg1, rfl⟩), h2]
        have r2 := (r.same (w' := wc.drewN d) (fun _ _ => rfl) (Nat.le_refl _)).set 2 (.int .i64 (N : Nat)) (t := ⟨Tab.put s.L k v, N, N⟩) rfl (by rw [h2]; rfl)
        have r3 := r2.1.set 1 (.int .i64 (2 * (N : Int))) (t := ⟨Tab.put s.L k v, 2 * N, N⟩) rfl (by simp)
        exact ⟨G', rfl, ⟨_, r3.1⟩, (((ho.drewN d).trans r2.2 hg).trans r3.2 hg), hg⟩
      have HFn := Lib.hid hfin
      clear hfin hg1
      go_wp2_with fail
      go_quiet (fail)
      go_wp2_with fail
      go_end0
      exact HFn.out _
    · have hd : (2 * N < M ∧ (lf : Int) ≠ 0) ∨ ¬ 2 * N < M := by omega
      have hfin : ∀ d, RPost w b G (s.put k v) (.tuple #[]) (.returned (.tuple #[])) (wc.drewN d) := fun d => by
        obtain ⟨r, ho, hg2, hput⟩ := HM.out
        obtain ⟨h1, h2, h3⟩ := HE.out
        rw [hput, if_neg (by rw [h1, h2, h3]; exact hg)]
        exact ⟨G', rfl, ⟨_, r.same (w' := wc.drewN d) (fun _ _ => rfl) (Nat.le_refl _)⟩, ho.drewN d, hg2⟩
      have HFn := Lib.hid hfin
      clear hfin
      rcases hd with ⟨hd, hl0⟩ | hd
      · have hd1 : decide (2 * (N : Int) < (M : Int)) = true := by simp only [decide_eq_true_eq]; omega
        have hd2 : decide (2 * N < M) = true := by simpa using hd
        have hd3 : ((lf : Int) == 0) = false := by simpa using hl0
        clear hg hl0
        go_wp2_with fail
        go_quiet (fail)
        go_wp2_with fail
        go_end0
        exact HFn.out _
      · have hd1 : decide (2 * (N : Int) < (M : Int)) = false := by simp only [decide_eq_false_iff_not]; omega
        have hd2 : decide (2 * N < M) = false := by simpa using hd
        clear hg
        go_wp2_with fail
        go_quiet (fail)
        go_wp2_with fail
        go_end0
        exact HFn.out _
end Go.Proofs.Ytekcogoijlbmnaa.RefTab
