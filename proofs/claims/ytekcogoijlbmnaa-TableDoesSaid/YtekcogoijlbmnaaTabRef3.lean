/- The document's own table (layer 9): Get, Delete. -/
import Derived.Test.YtekcogoijlbmnaaTabRef2
import Derived.Test.YtekcogoijlbmnaaTabI9
namespace Go.Proofs.Ytekcogoijlbmnaa.RefTab
open Go Go.RowKit Go.Proofs.Ytekcogoijlbmnaa.Mem Go.Proofs.Ytekcogoijlbmnaa.Tab Go.Proofs.Ytekcogoijlbmnaa.TabI Go.Proofs.Ytekcogoijlbmnaa.App

set_option maxHeartbeats 2000000 in
theorem get_any {w : World} {b : Nat} {G : Nat → Prop} {s : St V} (h : RAt w b G s) (hr : Rising s.L) (hl : s.L.length ≤ 1000000000) (hlf : s.left ≤ 1000000000) (k : ByteArray) :
    Calls Try.prog 21 #[.pointer (some ⟨b, 0, none⟩), .string k] w (RPost w b G s.tick (getV s.L k)) := by
  obtain ⟨v0, h⟩ := h
  have hst := step_any h (by omega)
  have hpl := place_le s.L k
  go_enter Try.func21, Try.ntmps21
  go_wp2_with fail
  refine hst.mono ?_
  rintro e w1 ⟨rfl, r1, o1⟩
  have hat := at_any r1 hr k (by rw [tick_L]; omega)
  rw [tick_L] at hat
  have H1 := Lib.hid (And.intro r1 o1)
  have hpg := place_get hr k
  obtain ⟨m, hm⟩ : ∃ m, place s.L k = m := ⟨_, rfl⟩
  rw [hm] at hat hpg hpl
  have hfin : ∀ d, RPost w b G s.tick (getV s.L k) (.returned (getV s.L k)) (w1.drewN d) := fun d => ⟨G, rfl, ⟨_, H1.out.1.same (w' := w1.drewN d) (fun _ _ => rfl) (Nat.le_refl _)⟩, H1.out.2.drewN d, Grows.refl _ _⟩
  have HF := Lib.hid hfin
  clear h hst r1 o1 hr hm hfin
  rcases hpg with ⟨u, e1, e2, -, -⟩ | ⟨-, e2, -, -⟩
  · rw [e2] at hat
    have hv : getV s.L k = .tuple #[.int .i64 u, .bool true] := by unfold getV; rw [e2]
    rw [hv] at HF
    obtain ⟨a, c, hv0, hc, hcell⟩ := row_shape H1.out.1.row
    obtain ⟨g, rfl, cc0, cc1, -⟩ := hcell m _ e1
    subst hv0
    rw [tick_L] at hc
    have c0 : w1.cell? ⟨b, 0, none⟩ = some (.slice (some ⟨g, 0, none⟩) s.L.length c) := Mem.row_cell H1.out.1.blk 0
    have hml := (List.getElem?_eq_some_iff.1 e1).1
    have hmi : (m : Int) < s.L.length := by omega
    have HV := Lib.hid hv
    clear hcell e1 e2 hml hv
    generalize s.L.length = n at *
    go_wp2_with fail
    refine hat.mono ?_
    rintro e w2 ⟨rfl, d, rfl⟩
    clear hat
    go_wp2_with fail
    refine bodyPost_ret (v := .tuple #[.int .i64 u, .bool true]) (by simp [results, Try.results21, go_sem]) rfl ?_
    have := HF.out d
    rw [HV.out]; exact this
  · rw [e2] at hat
    have hv : getV s.L k = .tuple #[.int .i64 0, .bool false] := by unfold getV; rw [e2]
    rw [hv] at HF
    have HV := Lib.hid hv
    clear e2 hv
    go_wp2_with fail
    refine hat.mono ?_
    rintro e w2 ⟨rfl, d, rfl⟩
    clear hat
    go_wp2_with fail
    refine bodyPost_ret (v := .tuple #[.int .i64 0, .bool false]) (by simp [results, Try.results21, go_sem]) rfl ?_
    have := HF.out d
    rw [HV.out]; exact this
theorem del_done {w w1 w7 : World} {b : Nat} {G : Nat → Prop} {s : St V} {v0 v' x : Value} {M : Pairs V} (h : RAtW w1 b G s.tick v0) (ho : Only G w w1) (hb : Below w1.heap.size w1 w7) (hown : w7.ownsRow w1.heap.size 48 2 v' M.length (cellsP M)) :
    RPost w b G ⟨M, s.buckets, s.left - 1⟩ x (.returned x) (w7.setCell ⟨b, 0, none⟩ v') := by
  obtain ⟨G', v2, h1, h2, h3⟩ := put_done h ho hb hown
  exact ⟨G', rfl, ⟨v2, h1⟩, h2, h3⟩
set_option maxRecDepth 100000 in
set_option maxHeartbeats 2000000 in
theorem del_any {w : World} {b : Nat} {G : Nat → Prop} {s : St V} (h : RAt w b G s) (hr : Rising s.L) (hl : s.L.length ≤ 1000000000) (hlf : s.left ≤ 1000000000) (k : ByteArray) :
    Calls Try.prog 22 #[.pointer (some ⟨b, 0, none⟩), .string k] w (RPost w b G (s.del k) (.bool (Tab.get s.L k).isSome)) := by
  obtain ⟨i0, hi, hz0, hz1, hz2⟩ := info_parts TabL.infoP
  obtain ⟨v0, h⟩ := h
  have hst := step_any h (by omega)
  have hpl := place_le s.L k
  go_enter Try.func22, Try.ntmps22
  go_wp2_with fail
  refine hst.mono ?_
  rintro e w1 ⟨rfl, r1, o1⟩
  have hat := at_any r1 hr k (by rw [tick_L]; omega)
  rw [tick_L] at hat
  have H1 := Lib.hid (And.intro r1 o1)
  have hpg := place_get hr k
  obtain ⟨m, hm⟩ : ∃ m, place s.L k = m := ⟨_, rfl⟩
  rw [hm] at hat hpg hpl
  clear h hst r1 o1 hr hm
  rcases hpg with ⟨u, e1, e2, -, e4⟩ | ⟨-, e2, -, e4⟩
  · rw [e2] at hat
    obtain ⟨a, c, hv, hc, hcell⟩ := row_shape H1.out.1.row
    obtain ⟨g0, ha, -⟩ := hcell m _ e1
    have hrow := H1.out.1.row
    rw [hv] at hrow
    obtain ⟨g, rfl, -, hsrc⟩ := src_parts hrow (by rw [ha]; simp)
    subst hv
    rw [tick_L] at hc hsrc hrow
    have c0 : w1.cell? ⟨b, 0, none⟩ = some (.slice (some ⟨g, 0, none⟩) s.L.length c) := Mem.row_cell H1.out.1.blk 0
    have hgl := H1.out.1.lt g (H1.out.1.gr g rfl)
    have hbl := H1.out.1.lt b H1.out.1.gb
    have hml := (List.getElem?_eq_some_iff.1 e1).1
    have HSRC := Lib.hid hsrc
    have HE := Lib.hid (And.intro e2 e4)
    have HL := Lib.hid (And.intro hgl hbl)
    obtain ⟨r, hr⟩ : ∃ r, s.L.length = m + 1 + r := ⟨s.L.length - (m + 1), by omega⟩
    have hmc : m + 1 ≤ c := by omega
    have hmi : (m : Int) + 1 ≤ s.L.length := by omega
    have hmi2 : (m : Int) ≤ s.L.length := by omega
    clear hsrc hrow e1 e2 e4 ha hcell hgl hbl
    go_wp2_with fail
    refine hat.mono ?_
    rintro e w2 ⟨rfl, d, rfl⟩
    clear hat
    have hSrc : ∀ w', Below w1.heap.size w1 w' → Src w' 2 (.slice (some ⟨g, (m + 1) * 2, none⟩) r (c - (m + 1))) r (cellsP (s.L.drop (m + 1))) := fun w' hb => by
      have := ((HSRC.out (m + 1) (c - (m + 1)) hml).2).below hb
      rw [show s.L.length - (m + 1) = r from by omega] at this
      exact this
    have HSS := Lib.hid hSrc
    clear hSrc hml
    by_cases hcm : c = m + 1
    · subst hcm
      have hr0 : r = 0 := by omega
      subst hr0
      go_wp2_with (first
          | (at_builtin; refine wpList_append_src (.tmp 24) (.tmp 31) _ _ _ _ i0 _ 2 24 w1.heap.size v3 _ m 0 (cellsP (s.L.take m)) [] rfl rfl Try.underlying35 Try.underlying35 hi hz0 hz1 hz2 rfl (by decide) rfl rfl H3.out.1 (src_none (c := 0) H3.out.2 HL.out.1) (by simp) (by unfold maxLen; omega) (by omega) H3.out.2.size ?_; intro v7 w7 hown7 hgr7 hat7; obtain ⟨y7, z7, hv7⟩ := Src.shape (Src.of_row hown7); rw [hv7] at hown7 ⊢; clear hv7; have H7 := Lib.hid (And.intro hown7 (H3.out.2.grown hgr7 H3.out.2.size (fun g e => (own_block_lt H3.out.1 g e).1))); have c7 : w7.cell? ⟨b, 0, none⟩ = some (.slice (some ⟨g, 0, none⟩) s.L.length (m + 1)) := (H7.out.2.cell (p := ⟨b, 0, none⟩) HL.out.2).trans c0; have f7 : w7.frozen? ⟨b, 0, none⟩ = false := (World.frozen?_of_block (H7.out.2.block b HL.out.2)).trans (Mem.row_free H1.out.1.blk 0); clear hown7 hgr7 hat7 c5)
          | (at_builtin; refine wpList_append_src _ (.tmp 22) _ _ _ _ i0 _ 2 24 w1.heap.size _ _ 0 m [] (cellsP (s.L.take m)) rfl rfl Try.underlying35 Try.underlying35 hi hz0 hz1 hz2 rfl (by decide) rfl rfl (World.ownsRow_nil _ _ _ _) (((HSRC.out m (m + 1) (by omega)).1).below (Mem.dn (Below.refl _ w1) d)) (one_cellsP _) (by unfold maxLen; omega) (by omega) (Nat.le_refl _) ?_; intro v3 w3 hown3 hgr3 hat3; rw [Nat.zero_add, List.nil_append] at hown3; have H3 := Lib.hid (And.intro hown3 ((Mem.dn (Below.refl _ w1) d).grown hgr3 (Nat.le_refl _) (fun g e => by cases e))); have c5 : w3.cell? ⟨b, 0, none⟩ = some (.slice (some ⟨g, 0, none⟩) s.L.length (m + 1)) := (H3.out.2.cell (p := ⟨b, 0, none⟩) HL.out.2).trans c0; clear hown3 hgr3 hat3)
          | fail)
      go_ret
      have hq := H7.out.1
      have hw := H7.out.2
      rw [HE.out.1]
      unfold St.del
      refine del_done H1.out.1 H1.out.2 hw ?_
      rw [HE.out.2, List.drop_of_length_le (by omega), List.append_nil, List.length_take, Nat.min_eq_left hpl]
      rw [List.append_nil] at hq
      exact hq
    · go_wp2_with (first
          | (at_builtin; refine wpList_append_src (.tmp 24) (.tmp 31) _ _ _ _ i0 _ 2 24 w1.heap.size v3 _ m r (cellsP (s.L.take m)) (cellsP (s.L.drop (m + 1))) rfl rfl Try.underlying35 Try.underlying35 hi hz0 hz1 hz2 rfl (by decide) rfl rfl H3.out.1 (HSS.out _ H3.out.2) (one_cellsP _) (by unfold maxLen; omega) (by omega) H3.out.2.size ?_; intro v7 w7 hown7 hgr7 hat7; obtain ⟨y7, z7, hv7⟩ := Src.shape (Src.of_row hown7); rw [hv7] at hown7 ⊢; clear hv7; have H7 := Lib.hid (And.intro hown7 (H3.out.2.grown hgr7 H3.out.2.size (fun g e => (own_block_lt H3.out.1 g e).1))); have c7 : w7.cell? ⟨b, 0, none⟩ = some (.slice (some ⟨g, 0, none⟩) s.L.length c) := (H7.out.2.cell (p := ⟨b, 0, none⟩) HL.out.2).trans c0; have f7 : w7.frozen? ⟨b, 0, none⟩ = false := (World.frozen?_of_block (H7.out.2.block b HL.out.2)).trans (Mem.row_free H1.out.1.blk 0); clear hown7 hgr7 hat7 c5)
          | (at_builtin; refine wpList_append_src _ (.tmp 22) _ _ _ _ i0 _ 2 24 w1.heap.size _ _ 0 m [] (cellsP (s.L.take m)) rfl rfl Try.underlying35 Try.underlying35 hi hz0 hz1 hz2 rfl (by decide) rfl rfl (World.ownsRow_nil _ _ _ _) (((HSRC.out m c (by omega)).1).below (Mem.dn (Below.refl _ w1) d)) (one_cellsP _) (by unfold maxLen; omega) (by omega) (Nat.le_refl _) ?_; intro v3 w3 hown3 hgr3 hat3; rw [Nat.zero_add, List.nil_append] at hown3; have H3 := Lib.hid (And.intro hown3 ((Mem.dn (Below.refl _ w1) d).grown hgr3 (Nat.le_refl _) (fun g e => by cases e))); have c5 : w3.cell? ⟨b, 0, none⟩ = some (.slice (some ⟨g, 0, none⟩) s.L.length c) := (H3.out.2.cell (p := ⟨b, 0, none⟩) HL.out.2).trans c0; clear hown3 hgr3 hat3)
          | fail)
      go_ret
      have hq := H7.out.1
      have hw := H7.out.2
      rw [HE.out.1]
      unfold St.del
      refine del_done H1.out.1 H1.out.2 hw ?_
      rw [HE.out.2, List.length_append, List.length_take, Nat.min_eq_left hpl, List.length_drop, cellsP_app, show s.L.length - (m + 1) = r from by omega]
      exact hq
  · rw [e2] at hat
    have hfin : ∀ d, RPost w b G (s.del k) (.bool (Tab.get s.L k).isSome) (.returned (.bool false)) (w1.drewN d) := fun d => by
      rw [e2]
      unfold St.del
      rw [e4]
      exact ⟨G, rfl, ⟨_, H1.out.1.same (w' := w1.drewN d) (fun _ _ => rfl) (Nat.le_refl _)⟩, H1.out.2.drewN d, Grows.refl _ _⟩
    have HF := Lib.hid hfin
    clear e2 e4 hfin
    go_wp2_with fail
    refine hat.mono ?_
    rintro e w2 ⟨rfl, d, rfl⟩
    clear hat
    go_wp2_with fail
    go_ret
    exact HF.out d
end Go.Proofs.Ytekcogoijlbmnaa.RefTab
