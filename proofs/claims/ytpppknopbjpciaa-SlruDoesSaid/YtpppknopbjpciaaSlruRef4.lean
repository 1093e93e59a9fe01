/- The document's own list of layer 8: Hit. -/
import Derived.Test.YtpppknopbjpciaaSlruRef3
namespace Go.Proofs.Ytpppknopbjpciaa.RefSlru
open Go Go.RowKit Go.Proofs.Ytpppknopbjpciaa.Slru Go.Proofs.Ytpppknopbjpciaa.Mem

theorem one_lk (w : World) (k : ByteArray) : Lk (w.alloc (.cells #[.string k] 9)) (.slice (some ⟨w.heap.size, 0, none⟩) [k].length 1) [k] := .inr ⟨w.heap.size, 0, 1, rfl, Nat.le_refl _, by simp, fun i x hi => by
    have : i = 0 := by have := (List.getElem?_eq_some_iff.1 hi).1; simp at this; exact this
    subst this
    simp at hi
    subst hi
    exact Mem.box_cell (Mem.new_block w _)⟩
/-- Behind an append of one key onto the safe ones. -/
theorem safe_after {w1 w3 : World} {b : Nat} {G : Nat → Prop} {s : St} {vt vs v' : Value} {k : ByteArray} (h : RAtW w1 b G s vt vs) (hown : Own w3 v' (s.safe ++ [k])) (hg : (w1.alloc (.cells #[.string k] 9)).grownBy w3 vs.ownBlock)
    (hat : v'.ownBlock = vs.ownBlock ∨ v'.ownBlock = some (w1.alloc (.cells #[.string k] 9)).heap.size) :
    (∃ g c, v' = .slice (some ⟨g, 0, none⟩) (s.safe.length + 1) c ∧ s.safe.length + 1 ≤ c) ∧ w3.heap[b]? = some (rlistObj s.most vt vs) ∧ RAtW (w3.setCell ⟨b, 2, none⟩ v') b (fun j => G j ∨ v'.ownBlock = some j) { s with safe := s.safe ++ [k] } vt v' ∧
      Only G w1 (w3.setCell ⟨b, 2, none⟩ v') ∧ Grows w1 G (fun j => G j ∨ v'.ownBlock = some j) := by
  have hs3 : w1.heap.size + 1 ≤ w3.heap.size := by have := hg.size; simp at this; omega
  have hsm : ∀ j, G j → vs.ownBlock ≠ some j → w3.heap[j]? = w1.heap[j]? := fun j hj hn => (hg.block j (by have := h.lt j hj; simp; omega) (Ne.symm hn)).trans (Below.heap_alloc _ _ _ (h.lt j hj))
  have hat' : ∀ g, v'.ownBlock = some g → vs.ownBlock = some g ∨ w1.heap.size ≤ g := fun g e => hat.imp (fun e1 => by rw [← e1]; exact e) (fun e1 => by rw [e1] at e; injection e with e; simp at e; omega)
  refine ⟨?_, (hsm b h.gb h.sb).trans h.blk, h.setSafe hsm (by omega) (Lk.of_row hown) hat', (((Only.refl G w1).alloc _).grown hg (fun g e => .inl (h.gs g e))).setCell (p := ⟨b, 2, none⟩) (.inl h.gb) _, fun j hj => ?_⟩
  · rcases hown.2 with ⟨e1, e2⟩ | ⟨g, cap, cur, e1, _, _, e3, _⟩
    · simp at e2
    · rw [List.length_append] at e1 e3
      exact ⟨g, cap, e1, e3⟩
  · exact hj.elim .inl (fun e => (hat' j e).elim (fun e => .inl (h.gs j e)) .inr)
/-- Behind an append of one key onto those on trial. -/
theorem trial_after {w1 w3 : World} {b : Nat} {G : Nat → Prop} {s : St} {vt vs v' : Value} {k : ByteArray} (h : RAtW w1 b G s vt vs) (hown : Own w3 v' (s.trial ++ [k])) (hg : (w1.alloc (.cells #[.string k] 9)).grownBy w3 vt.ownBlock)
    (hat : v'.ownBlock = vt.ownBlock ∨ v'.ownBlock = some (w1.alloc (.cells #[.string k] 9)).heap.size) :
    (∃ a c, v' = .slice a (s.trial.length + 1) c) ∧ w3.heap[b]? = some (rlistObj s.most vt vs) ∧ RAtW (w3.setCell ⟨b, 1, none⟩ v') b (fun j => G j ∨ v'.ownBlock = some j) { s with trial := s.trial ++ [k] } v' vs ∧
      Only G w1 (w3.setCell ⟨b, 1, none⟩ v') ∧ Grows w1 G (fun j => G j ∨ v'.ownBlock = some j) := by
  have hs3 : w1.heap.size + 1 ≤ w3.heap.size := by have := hg.size; simp at this; omega
  have hsm : ∀ j, G j → vt.ownBlock ≠ some j → w3.heap[j]? = w1.heap[j]? := fun j hj hn => (hg.block j (by have := h.lt j hj; simp; omega) (Ne.symm hn)).trans (Below.heap_alloc _ _ _ (h.lt j hj))
  have hat' : ∀ g, v'.ownBlock = some g → vt.ownBlock = some g ∨ w1.heap.size ≤ g := fun g e => hat.imp (fun e1 => by rw [← e1]; exact e) (fun e1 => by rw [e1] at e; injection e with e; simp at e; omega)
  refine ⟨?_, (hsm b h.gb h.tb).trans h.blk, h.setTrial hsm (by omega) hown hat', (((Only.refl G w1).alloc _).grown hg (fun g e => .inl (h.gt g e))).setCell (p := ⟨b, 1, none⟩) (.inl h.gb) _, fun j hj => ?_⟩
  · rcases hown.2 with ⟨e1, e2⟩ | ⟨g, cap, cur, e1, _⟩
    · simp at e2
    · exact ⟨_, _, by rw [e1, List.length_append]; rfl⟩
  · exact hj.elim .inl (fun e => (hat' j e).elim (fun e => .inl (h.gt j e)) .inr)
theorem moved_yes {s : St} {t f : List ByteArray} {q : ByteArray} (h : s.most < ((q :: f).length : Int)) : s.moved t (q :: f) = { s with trial := t ++ [q], safe := f } := by
  unfold St.moved; rw [if_pos (by simp at h ⊢; omega)]; rfl
theorem moved_no {s : St} {t f : List ByteArray} (h : ¬ s.most < (f.length : Int)) : s.moved t f = { s with trial := t, safe := f } := by
  unfold St.moved; rw [if_neg (by omega)]

set_option maxHeartbeats 2000000 in
theorem hit_any {w : World} {b : Nat} {G : Nat → Prop} {s : St} (h : RAt w b G s) (k : ByteArray) (hl : s.all.length ≤ 10000000) :
    Calls Try.prog 17 #[.pointer (some ⟨b, 0, none⟩), .string k] w (RTurn w b G (s.hit k)) := by
  have hrem := remove_any h k (by omega)
  by_cases hk : k ∈ s.all
  case neg =>
    have e : s.hit k = (6, s) := by unfold St.hit; rw [if_neg hk]
    have e2 : s.remove k = (6, s) := by unfold St.remove; rw [if_neg hk]
    unfold RemPost at hrem
    rw [e2] at hrem
    rw [e]
    clear h hl hk e e2
    go_enter Try.func17, Try.ntmps17
    go_wp2_with fail
    refine hrem.mono ?_
    rintro e w1 ⟨G1, vt, vs, rfl, h1, ho1, hg1, -⟩
    have HR := Lib.hid (show RTurn w b G (6, s) (.returned (.int .i64 6)) w1 from ⟨G1, rfl, ⟨vt, vs, h1⟩, ho1, hg1⟩)
    clear h1 ho1 hg1
    go_wp2_with fail
    go_ret
    exact HR.out
  have e2 : s.remove k = (0, { s with trial := without s.trial k, safe := without s.safe k }) := by unfold St.remove; rw [if_pos hk]
  have e : s.hit k = (0, s.moved (without s.trial k) (without s.safe k ++ [k])) := by unfold St.hit; rw [if_pos hk]
  unfold RemPost at hrem
  rw [e2] at hrem
  rw [e]
  have hl2 : (without s.trial k).length + (without s.safe k).length ≤ 10000000 := by
    have h1 := without_len s.trial k
    have h2 := without_len s.safe k
    unfold St.all at hl
    rw [List.length_append] at hl
    omega
  generalize without s.trial k = t at *
  generalize without s.safe k = f at *
  clear h hl e e2
  go_enter Try.func17, Try.ntmps17
  go_wp2_with fail
  refine hrem.mono ?_
  rintro e w1 ⟨G1, vt, vs, rfl, h1, ho1, hg1, hown1⟩
  have hown1 : Own w1 vs f := hown1 hk
  have c1 := Mem.row_cell h1.blk 2
  simp only [List.getElem?_toArray, List.getElem?_cons_zero, List.getElem?_cons_succ] at c1
  have H1 := Lib.hid (And.intro h1 (And.intro ho1 (And.intro hg1 (hown1.alloc (.cells #[.string k] 9)))))
  have hlk := Lib.hid (one_lk w1 k)
  clear hrem h1 ho1 hg1 hown1 hk
  have hafter := Lib.hid (fun (v' : Value) (w3 : World) (hown : Own w3 v' (f ++ [k])) (hg : (w1.alloc (.cells #[.string k] 9)).grownBy w3 vs.ownBlock) (hat : v'.ownBlock = vs.ownBlock ∨ v'.ownBlock = some (w1.alloc (.cells #[.string k] 9)).heap.size) => safe_after H1.out.1 hown hg hat)
  go_upto_region 4 with (fail)
  go_cut [] from 7 to 64 (fun wx => ∃ G4 g c, RAtW wx b G4 { s with trial := t, safe := f ++ [k] } vt (.slice (some ⟨g, 0, none⟩) (f.length + 1) c) ∧ f.length + 1 ≤ c ∧ Only G w wx ∧ Grows w G G4)
  case first =>
    go_wp2_with (at_builtin; refine list_appK _ _ 0 vs _ f [k] rfl rfl rfl rfl H1.out.2.2.2 hlk.out (by simp; omega) (Nat.zero_le _) ?_; intro v' w3 hown hg hat; obtain ⟨⟨yg, yc, rfl, hyc⟩, hb3, hres⟩ := hafter.out v' w3 hown hg hat; have c3 := Mem.row_cell hb3 2; have f3 := Mem.row_free hb3 2; have HR := Lib.hid hres)
    go_meet
    exact ⟨_, yg, yc, HR.out.1, hyc, H1.out.2.1.trans HR.out.2.1 H1.out.2.2.1, H1.out.2.2.1.trans H1.out.2.1.size HR.out.2.2⟩
  case rest =>
    obtain ⟨G4, g, c, h4, hc4, ho4, hg4⟩ := hcut
    have c0 := Mem.row_cell h4.blk 0
    have c2 := Mem.row_cell h4.blk 2
    simp only [List.getElem?_toArray, List.getElem?_cons_zero, List.getElem?_cons_succ] at c0 c2
    clear H1 hlk hafter c1
    have H4 := Lib.hid (And.intro h4 (And.intro ho4 hg4))
    have hL : (f ++ [k]).length = f.length + 1 := by simp
    clear h4 ho4 hg4
    by_cases hx : s.most < ((f.length + 1 : Nat) : Int)
    · have hxd : decide (s.most < ((f.length + 1 : Nat) : Int)) = true := by simpa using hx
      obtain ⟨q, fr, hqf⟩ := List.exists_cons_of_ne_nil (show f ++ [k] ≠ [] by simp)
      have hmv := moved_yes (s := s) (t := t) (q := q) (f := fr) (by rw [← hqf, hL]; exact hx)
      rw [← hqf] at hmv
      have hlk := H4.out.1.rs
      have hcell : ∀ i x, (f ++ [k])[i]? = some x → wc.cell? ⟨g, i, none⟩ = some (.string x) ∧ g < wc.heap.size := fun i x hi => by
        obtain ⟨g', off', e1, h3, e2⟩ := hlk.at hi
        rcases hlk with ⟨e3, _⟩ | ⟨g2, off2, c2, e3, _, h3, h4⟩
        · cases e3
        · injection e3 with e3
          injection e3 with e3
          injection e3 with e3 e4
          subst e3
          have e5 : off2 = 0 := e4.symm
          subst e5
          have := h4 i x hi
          rw [Nat.zero_add] at this
          exact ⟨this, h3⟩
      have q0 := (hcell 0 q (by rw [hqf]; rfl)).1
      have HM := Lib.hid (And.intro hmv (And.intro hqf (And.intro hcell hL)))
      have hf1 : f.length = fr.length := by have := congrArg List.length hqf; simp at this; exact this
      clear hlk hcell hmv hqf hL hx
      have hfl : f.length ≤ 10000000 := by omega
      rw [hf1] at hc4 c2 hxd H4
      have HFL := Lib.hid hf1
      clear hf1 hfl
      obtain ⟨L, hLe⟩ : ∃ L, fr.length + 1 = L := ⟨_, rfl⟩
      rw [hLe] at hc4 c2 hxd H4
      have hc4' : (1 : Int) ≤ c := by omega
      have hL0 : (0 : Int) < L := by omega
      have hL1 : (1 : Int) ≤ L := by omega
      have hL2 : (L : Int) ≤ c := by omega
      have HLE := Lib.hid hLe
      clear hLe
      go_wp2_with fail
      go_quiet (fail)
      go_upto_region 7 with (fail)
      have h5 : RAtW (wc.drewN nq) b G4 { s with trial := t, safe := f ++ [k] } vt (.slice (some ⟨g, 0, none⟩) L c) := H4.out.1.same (fun _ _ => rfl) (Nat.le_refl _)
      have d2 := Mem.row_cell h5.blk 2
      have g2 := Mem.row_free h5.blk 2
      simp only [List.getElem?_toArray, List.getElem?_cons_zero, List.getElem?_cons_succ] at d2
      have H5 := Lib.hid h5
      clear h5
      go_upto_region 8 with (fail)
      obtain ⟨hmv, hqf, hcell, hL⟩ := HM.out
      obtain ⟨va, hva⟩ : ∃ va, (if c = 1 then some (⟨g, 0, none⟩ : Addr) else some ⟨g, 1, none⟩) = va := ⟨_, rfl⟩
      have hLfr : L - 1 = fr.length := by have := HLE.out; omega
      rw [hva, hLfr]
      have hob : (Value.slice va fr.length (c - 1)).ownBlock = some g := by
        rw [← hva]; split <;> rfl
      have hgl : g < wc.heap.size := (hcell 0 q (by rw [hqf]; rfl)).2
      have hlk6 : Lk (wc.drewN nq) (.slice va fr.length (c - 1)) fr := by
        by_cases hc1 : c = 1
        · rw [if_pos hc1] at hva
          subst hva
          have : fr = [] := List.eq_nil_of_length_eq_zero (by have := HLE.out; omega)
          subst this
          exact .inr ⟨g, 0, c - 1, rfl, by simp, hgl, fun i x hi => by simp at hi⟩
        · rw [if_neg hc1] at hva
          subst hva
          refine .inr ⟨g, 1, c - 1, rfl, by have := HLE.out; omega, hgl, fun i x hi => ?_⟩
          have := (hcell (i + 1) x (by rw [hqf]; exact hi)).1
          rw [Nat.add_comm 1 i]
          exact this
      have h6 := H5.out.setSafe (w' := wc.drewN nq) (v := .slice va fr.length (c - 1)) (xs := fr) (fun j _ _ => rfl) (Nat.le_refl _) hlk6 (fun g' e => .inl (by rw [← e, hob]; rfl))
      have ho6 : Only G w ((wc.drewN nq).setCell ⟨b, 2, none⟩ (.slice va fr.length (c - 1))) := (H4.out.2.1.drewN nq).setCell (p := ⟨b, 2, none⟩) (H4.out.2.2 b H4.out.1.gb) _
      have hg6 : Grows w G (fun j => G4 j ∨ (Value.slice va fr.length (c - 1)).ownBlock = some j) := fun j hj => hj.elim (H4.out.2.2 j) (fun e => H4.out.2.2 j (H4.out.1.gs j (by rw [← e, hob]; rfl)))
      have hmv' : s.moved t (f ++ [k]) = { s with trial := t ++ [q], safe := fr } := hmv
      clear hcell hlk6 hgl hva hob hqf hL hmv d2 g2 c0 c2 q0 H5
      generalize (wc.drewN nq).setCell ⟨b, 2, none⟩ (.slice va fr.length (c - 1)) = w6 at *
      have hafter := Lib.hid (fun (v' : Value) (w3 : World) (hown : Own w3 v' (t ++ [q])) (hg : (w6.alloc (.cells #[.string q] 9)).grownBy w3 vt.ownBlock) (hat : v'.ownBlock = vt.ownBlock ∨ v'.ownBlock = some (w6.alloc (.cells #[.string q] 9)).heap.size) => trial_after h6 hown hg hat)
      have c1 := Mem.row_cell h6.blk 1
      simp only [List.getElem?_toArray, List.getElem?_cons_zero, List.getElem?_cons_succ] at c1
      have hlk := Lib.hid (one_lk w6 q)
      have hrow := Lib.hid (h6.rt.alloc (.cells #[.string q] 9))
      have H6 := Lib.hid (And.intro ho6 (And.intro hg6 hmv'))
      clear h6 ho6 hg6 hmv'
      go_wp2_with (at_builtin; refine list_appK _ _ 0 vt _ t [q] rfl rfl rfl rfl hrow.out hlk.out (by simp; omega) (Nat.zero_le _) ?_; intro v' w3 hown hg hat; obtain ⟨⟨yg, yc, rfl⟩, hb3, hres⟩ := hafter.out v' w3 hown hg hat; have c3 := Mem.row_cell hb3 1; have f3 := Mem.row_free hb3 1; have HR := Lib.hid hres)
      go_ret
      rw [H6.out.2.2]
      exact ⟨_, rfl, ⟨_, _, HR.out.1⟩, H6.out.1.trans HR.out.2.1 H6.out.2.1, H6.out.2.1.trans H6.out.1.size HR.out.2.2⟩
    · have hxd : decide (s.most < ((f.length + 1 : Nat) : Int)) = false := by simpa using hx
      have hres : ∀ n, RTurn w b G (0, s.moved t (f ++ [k])) (.returned (.int .i64 0)) (wc.drewN n) := fun n => by
        rw [moved_no (by rw [hL]; exact hx)]
        exact ⟨G4, rfl, ⟨_, _, H4.out.1.same (fun _ _ => rfl) (Nat.le_refl _)⟩, H4.out.2.1.drewN n, H4.out.2.2⟩
      have HR := Lib.hid hres
      clear hres hL hx
      generalize f.length + 1 = L at *
      go_wp2_with fail
      go_quiet (fail)
      go_wp2_with fail
      go_ret
      exact HR.out _
end Go.Proofs.Ytpppknopbjpciaa.RefSlru
