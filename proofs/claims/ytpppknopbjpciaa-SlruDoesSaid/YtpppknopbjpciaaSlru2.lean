/- Layer 8: a node is taken out of its row. -/
import Derived.Test.YtpppknopbjpciaaSlru1
import Derived.Deep.CutRange
namespace Go.Proofs.Ytpppknopbjpciaa.Slru
open Go Go.RowKit Go.Proofs.Ytpppknopbjpciaa.Mem

set_option maxHeartbeats 2000000 in
theorem pull_trial {w : World} {b n mb : Nat} {most : Int} {l r zs : List Nd} {k : ByteArray} (hb : w.heap[b]? = some (listObj most mb (l ++ (n, k) :: r) zs)) (hc : Chain w ⟨b, 2, none⟩ (l ++ (n, k) :: r)) (hnd : ((l ++ (n, k) :: r).map (·.1)).Nodup)
    (hlen : (l ++ (n, k) :: r).length ≤ 9223372036854775807) :
    Calls Try.prog 25 #[.pointer (some ⟨n, 0, none⟩)] w fun e w' => RowPost w b 2 (listObj most mb (l ++ r) zs) (l ++ (n, k) :: r) (l ++ r) n e w' ∧ w'.heap[n]? = w.heap[n]? := by
  have hbt := hc.ne hb
  have hn := hc l n k r rfl
  have hnb : n ≠ b := fun e => hbt (by rw [← e]; simp)
  have q1 := Mem.row_cell hn 1
  have q2 := Mem.row_cell hn 2
  have q3 := Mem.row_cell hn 3
  simp only [List.getElem?_toArray, List.getElem?_cons_zero, List.getElem?_cons_succ] at q1 q2 q3
  have HC := Lib.hid (And.intro hc (And.intro hnd (And.intro hbt (And.intro hb hn))))
  have hL : (l ++ (n, k) :: r).length = (l ++ r).length + 1 := by simp; omega
  have hlw : IntKind.i64.wrap (((l ++ (n, k) :: r).length : Nat) - (1 : Int)) = ((l ++ r).length : Nat) := by rw [IntKind.wrap_i64, hL]; omega
  have HL := Lib.hid hL
  have HW := Lib.hid (And.intro hlen hlw)
  clear hc hnd hbt hb hn hlw hlen hL
  obtain ⟨xl, hxl⟩ : ∃ xl, (lst l).map (fun n => (⟨n, 0, none⟩ : Addr)) = xl := ⟨_, rfl⟩
  obtain ⟨xr, hxr⟩ : ∃ xr, (fst r).map (fun n => (⟨n, 0, none⟩ : Addr)) = xr := ⟨_, rfl⟩
  have hpl : pt (lst l) = .pointer xl := by rw [← hxl]; rfl
  have hpr : pt (fst r) = .pointer xr := by rw [← hxr]; rfl
  rw [hpl] at q1
  rw [hpr] at q2
  have HX := Lib.hid (And.intro hpl (And.intro hpr (And.intro hxl hxr)))
  clear hpl hpr hxl hxr
  go_enter Try.func25, Try.ntmps25
  go_upto_if 11 with (fail)
  go_cut [] from 7 to 57 (fun wx => wx.heap[b]? = some (.cells ((listArr most mb (l ++ (n, k) :: r) zs).setIfInBounds 2 (pt (fst (l ++ r)))) 50 (0, 0)) ∧
    (∀ l' p, l = l' ++ [p] → wx.heap[p.1]? = some (nodeObj p.2 (lst l') (fst r) ⟨b, 2, none⟩)) ∧ (∀ j, j ≠ b → lst l ≠ some j → wx.heap[j]? = w.heap[j]?) ∧
    Only (fun j => j = b ∨ j = n ∨ j ∈ (l ++ (n, k) :: r).map (·.1)) w wx)
  case first =>
    rcases snoc_cases l with hl | ⟨l', ⟨p, kp⟩, hl⟩
    · subst hl
      have hxn : none = xl := HX.out.2.2.1
      subst hxn
      have c0 := Mem.row_cell HC.out.2.2.2.1 2
      have f0 := Mem.row_free HC.out.2.2.2.1 2
      simp only [listArr, List.getElem?_toArray, List.getElem?_cons_zero, List.getElem?_cons_succ] at c0
      go_wp2_with fail
      go_meet
      have hr : ∀ v, pt (fst r) = v → (w.setCell ⟨b, 2, none⟩ v).heap[b]? = some (.cells ((listArr most mb ([] ++ (n, k) :: r) zs).setIfInBounds 2 (pt (fst ([] ++ r)))) 50 (0, 0)) := fun v hv => by
        subst hv; exact Mem.row_set HC.out.2.2.2.1 2 _
      exact ⟨hr _ HX.out.2.1, fun l' p e => by simp at e, fun j hj _ => set_far hj, (Only.refl _ w).setCell (p := ⟨b, 2, none⟩) (.inl (.inl rfl)) _⟩
    · subst hl
      have hxn : some ⟨p, 0, none⟩ = xl := by rw [← HX.out.2.2.1, lst_app]; rfl
      subst hxn
      have hpm : p ∈ ((l' ++ [(p, kp)]) ++ (n, k) :: r).map (·.1) := by simp
      have hpb : p ≠ b := fun e => HC.out.2.2.1 (e ▸ hpm)
      have hp := HC.out.1 l' p kp ((n, k) :: r) (by simp)
      have c0 := Mem.row_cell hp 2
      have f0 := Mem.row_free hp 2
      simp only [List.getElem?_toArray, List.getElem?_cons_zero, List.getElem?_cons_succ] at c0
      have HP := Lib.hid (And.intro hpm (And.intro hpb hp))
      clear hpm hpb hp
      go_wp2_with fail
      refine wp_region_still_tail 10 (by kernel_rfl) (by kernel_rfl) ?_
      simp only [List.take_succ_cons, List.take_zero, List.drop_succ_cons, List.drop_zero]
      repeat still_step
      refine wpStill_nil ?_
      change wpList _ _ _ _ _ w.drew
      go_wp2_with fail
      go_meet
      have hr : ∀ v, pt (fst r) = v → ((w.setCell ⟨p, 2, none⟩ v).drew.heap[p]? = some (nodeObj kp (lst l') (fst r) ⟨b, 2, none⟩)) := fun v hv => by
        rw [← hv]; exact Mem.row_set HP.out.2.2 2 _
      refine ⟨?_, fun l2 p2 e => ?_, fun j hj h2 => set_far (fun e => h2 (by rw [lst_app, e])), ((Only.refl _ w).setCell (p := ⟨p, 2, none⟩) (.inl (.inr (.inr HP.out.1))) _).drew⟩
      · refine (set_far (Ne.symm HP.out.2.1)).trans ?_
        rw [HC.out.2.2.2.1, fst_left _ r (by simp)]
        unfold listObj listArr
        rw [fst_left _ _ (by simp)]
        rfl
      · obtain ⟨rfl, e2⟩ := List.append_inj' e rfl
        injection e2 with e2
        subst e2
        exact hr _ HX.out.2.1
  case rest =>
    obtain ⟨h1, h2, h3, h4⟩ := hcut
    have hln : lst l ≠ some n := fun e => by
      have := lst_mem e
      have := HC.out.2.1
      simp only [List.map_append, List.map_cons, List.nodup_append, List.nodup_cons] at this
      exact this.2.2 n (by assumption) n (by simp) rfl
    have hn := (h3 n hnb hln).trans HC.out.2.2.2.2
    have q1 := Mem.row_cell hn 1
    have q2 := Mem.row_cell hn 2
    simp only [List.getElem?_toArray, List.getElem?_cons_zero, List.getElem?_cons_succ] at q1 q2
    have H1 := Lib.hid (And.intro h1 (And.intro h2 (And.intro h3 h4)))
    clear h1 h2 h3 h4 hln hn q3
    rw [HX.out.1] at q1
    rw [HX.out.2.1] at q2
    go_upto_if 33 with (fail)
    go_cut [] from 7 to 57 (fun wy => wy.heap[b]? = some (.cells (((listArr most mb (l ++ (n, k) :: r) zs).setIfInBounds 2 (pt (fst (l ++ r)))).setIfInBounds 3 (pt (lst (l ++ r)))) 50 (0, 0)) ∧
      (∀ l' p, l = l' ++ [p] → wy.heap[p.1]? = some (nodeObj p.2 (lst l') (fst r) ⟨b, 2, none⟩)) ∧ (∀ p r', r = p :: r' → wy.heap[p.1]? = some (nodeObj p.2 (lst l) (fst r') ⟨b, 2, none⟩)) ∧
      (∀ j, j ≠ b → lst l ≠ some j → fst r ≠ some j → wy.heap[j]? = w.heap[j]?) ∧ Only (fun j => j = b ∨ j = n ∨ j ∈ (l ++ (n, k) :: r).map (·.1)) w wy)
    case first =>
      cases r with
      | nil =>
        have hxn : none = xr := HX.out.2.2.2
        subst hxn
        have c0 := Mem.row_cell H1.out.1 3
        have f0 := Mem.row_free H1.out.1 3
        simp only [listArr, List.getElem?_toArray, List.getElem?_cons_zero, List.getElem?_cons_succ, List.setIfInBounds_toArray, List.set_cons_succ, List.set_cons_zero] at c0
        go_wp2_with fail
        go_meet
        have hr : ∀ v, pt (lst l) = v → (wc.setCell ⟨b, 3, none⟩ v).heap[b]? = some (.cells (((listArr most mb (l ++ (n, k) :: []) zs).setIfInBounds 2 (pt (fst (l ++ [])))).setIfInBounds 3 (pt (lst (l ++ [])))) 50 (0, 0)) := fun v hv => by
          have := Mem.row_set H1.out.1 3 v
          rw [List.append_nil] at this ⊢
          rw [hv]
          exact this
        have hpbn : ∀ (l' : List Nd) (p : Nd), l = l' ++ [p] → p.1 ≠ b := fun l' p e e2 => HC.out.2.2.1 (by rw [← e2, e]; simp)
        exact ⟨hr _ HX.out.1, fun l' p e => (set_far (hpbn l' p e)).trans (H1.out.2.1 l' p e), fun p r' e => by simp at e, fun j hj h2 _ => (set_far hj).trans (H1.out.2.2.1 j hj h2), H1.out.2.2.2.setCell (p := ⟨b, 3, none⟩) (.inl (.inl rfl)) _⟩
      | cons q r' =>
        obtain ⟨q, kq⟩ := q
        have hxn : some ⟨q, 0, none⟩ = xr := by rw [← HX.out.2.2.2]; rfl
        subst hxn
        have hnd := HC.out.2.1
        simp only [List.map_append, List.map_cons, List.nodup_append, List.nodup_cons] at hnd
        have hqm : q ∈ (l ++ (n, k) :: (q, kq) :: r').map (·.1) := by simp
        have hqb : q ≠ b := fun e => HC.out.2.2.1 (e ▸ hqm)
        have hql : lst l ≠ some q := fun e => hnd.2.2 q (lst_mem e) q (by simp) rfl
        have hq := (H1.out.2.2.1 q hqb hql).trans (HC.out.1 (l ++ [(n, k)]) q kq r' (by simp))
        rw [lst_app] at hq
        have c0 := Mem.row_cell hq 1
        have f0 := Mem.row_free hq 1
        simp only [List.getElem?_toArray, List.getElem?_cons_zero, List.getElem?_cons_succ] at c0
        have HQ := Lib.hid (And.intro hqm (And.intro hqb (And.intro hql hq)))
        clear hqm hqb hql hq hnd
        go_wp2_with fail
        refine wp_region_still_tail 10 (by kernel_rfl) (by kernel_rfl) ?_
        simp only [List.take_succ_cons, List.take_zero, List.drop_succ_cons, List.drop_zero]
        repeat still_step
        refine wpStill_nil ?_
        change wpList _ _ _ _ _ wc.drew
        go_wp2_with fail
        go_meet
        have hr : ∀ v, pt (lst l) = v → ((wc.setCell ⟨q, 1, none⟩ v).drew.heap[q]? = some (nodeObj kq (lst l) (fst r') ⟨b, 2, none⟩)) := fun v hv => by
          rw [← hv]; exact Mem.row_set HQ.out.2.2.2 1 _
        refine ⟨?_, fun l' p e => ?_, fun p r2 e => ?_, fun j hj h2 h3 => (set_far (fun e => h3 (by rw [fst_cons, e]))).trans (H1.out.2.2.1 j hj h2), (H1.out.2.2.2.setCell (p := ⟨q, 1, none⟩) (.inl (.inr (.inr HQ.out.1))) _).drew⟩
        · refine (set_far (Ne.symm HQ.out.2.1)).trans ?_
          rw [H1.out.1, lst_cons]
          unfold listArr
          rw [lst_cons, show lst ((n, k) :: (q, kq) :: r') = lst ((q, kq) :: r') from lst_cons [(n, k)] _ _]
          rfl
        · have hpq : p.1 ≠ q := fun e2 => HQ.out.2.2.1 (by rw [e, lst_app, e2])
          exact (set_far hpq).trans (H1.out.2.1 l' p e)
        · injection e with e e2
          subst e e2
          exact hr _ HX.out.1
    case rest =>
      obtain ⟨h1, h2, h3, h4, h5⟩ := hcut
      have c0 := Mem.row_cell h1 4
      have f0 := Mem.row_free h1 4
      simp only [listArr, List.getElem?_toArray, List.getElem?_cons_zero, List.getElem?_cons_succ, List.setIfInBounds_toArray, List.set_cons_succ, List.set_cons_zero] at c0
      have H2 := Lib.hid (And.intro h1 (And.intro h2 (And.intro h3 (And.intro h4 h5))))
      have hlw := HW.out.2
      obtain ⟨M, hM⟩ : ∃ M, (l ++ r).length = M := ⟨_, rfl⟩
      rw [hM] at hlw
      generalize (l ++ (n, k) :: r).length = L at c0 hlw
      have HM := Lib.hid hM
      clear h1 h2 h3 h4 h5 H1 q1 q2 hM
      go_wp2_with fail
      go_end0
      have hM := HM.out
      subst hM
      have hset := Mem.row_set H2.out.1 4 (.int .i64 ((l ++ r).length : Nat))
      have hfar : ∀ j, j ≠ b → (wc.setCell ⟨b, 4, none⟩ (.int .i64 ((l ++ r).length : Nat))).heap[j]? = wc.heap[j]? := fun j hj => set_far hj
      have hbm : ∀ j, j ∈ (l ++ (n, k) :: r).map (·.1) → j ≠ b := fun j hj e => HC.out.2.2.1 (e ▸ hj)
      have hnn := HC.out.2.1
      simp only [List.map_append, List.map_cons, List.nodup_append, List.nodup_cons] at hnn
      refine ⟨⟨rfl, hset, ChainB.pull HC.out.1 HC.out.2.1 (fun l' p e => (hfar _ (hbm _ (by rw [e]; simp))).trans (H2.out.2.1 l' p e)) (fun p r' e => (hfar _ (hbm _ (by rw [e]; simp))).trans (H2.out.2.2.1 p r' e))
        (fun j hj h2 h3 _ _ _ h => ?_), H2.out.2.2.2.2.setCell (p := ⟨b, 4, none⟩) (.inl (.inl rfl)) _⟩, (hfar n hnb).trans (H2.out.2.2.2.1 n hnb (fun e => hnn.2.2 n (lst_mem e) n (by simp) rfl) (fun e => hnn.2.1.1 (fst_mem e)))⟩
      have hj' := hbm j (by simp only [List.map_append, List.map_cons, List.mem_append, List.mem_cons] at hj ⊢; exact hj.elim .inl (fun e => .inr (.inr e)))
      exact (hfar j hj').trans ((H2.out.2.2.2.1 j hj' h2 h3).trans h)

set_option maxHeartbeats 2000000 in
theorem pull_safe {w : World} {b n mb : Nat} {most : Int} {l r zs : List Nd} {k : ByteArray} (hb : w.heap[b]? = some (listObj most mb zs (l ++ (n, k) :: r))) (hc : Chain w ⟨b, 5, none⟩ (l ++ (n, k) :: r)) (hnd : ((l ++ (n, k) :: r).map (·.1)).Nodup)
    (hlen : (l ++ (n, k) :: r).length ≤ 9223372036854775807) :
    Calls Try.prog 25 #[.pointer (some ⟨n, 0, none⟩)] w fun e w' => RowPost w b 5 (listObj most mb zs (l ++ r)) (l ++ (n, k) :: r) (l ++ r) n e w' ∧ w'.heap[n]? = w.heap[n]? := by
  have hbt := hc.ne hb
  have hn := hc l n k r rfl
  have hnb : n ≠ b := fun e => hbt (by rw [← e]; simp)
  have q1 := Mem.row_cell hn 1
  have q2 := Mem.row_cell hn 2
  have q3 := Mem.row_cell hn 3
  simp only [List.getElem?_toArray, List.getElem?_cons_zero, List.getElem?_cons_succ] at q1 q2 q3
  have HC := Lib.hid (And.intro hc (And.intro hnd (And.intro hbt (And.intro hb hn))))
  have hL : (l ++ (n, k) :: r).length = (l ++ r).length + 1 := by simp; omega
  have hlw : IntKind.i64.wrap (((l ++ (n, k) :: r).length : Nat) - (1 : Int)) = ((l ++ r).length : Nat) := by rw [IntKind.wrap_i64, hL]; omega
  have HL := Lib.hid hL
  have HW := Lib.hid (And.intro hlen hlw)
  clear hc hnd hbt hb hn hlw hlen hL
  obtain ⟨xl, hxl⟩ : ∃ xl, (lst l).map (fun n => (⟨n, 0, none⟩ : Addr)) = xl := ⟨_, rfl⟩
  obtain ⟨xr, hxr⟩ : ∃ xr, (fst r).map (fun n => (⟨n, 0, none⟩ : Addr)) = xr := ⟨_, rfl⟩
  have hpl : pt (lst l) = .pointer xl := by rw [← hxl]; rfl
  have hpr : pt (fst r) = .pointer xr := by rw [← hxr]; rfl
  rw [hpl] at q1
  rw [hpr] at q2
  have HX := Lib.hid (And.intro hpl (And.intro hpr (And.intro hxl hxr)))
  clear hpl hpr hxl hxr
  go_enter Try.func25, Try.ntmps25
  go_upto_if 11 with (fail)
  go_cut [] from 7 to 57 (fun wx => wx.heap[b]? = some (.cells ((listArr most mb zs (l ++ (n, k) :: r)).setIfInBounds 5 (pt (fst (l ++ r)))) 50 (0, 0)) ∧
    (∀ l' p, l = l' ++ [p] → wx.heap[p.1]? = some (nodeObj p.2 (lst l') (fst r) ⟨b, 5, none⟩)) ∧ (∀ j, j ≠ b → lst l ≠ some j → wx.heap[j]? = w.heap[j]?) ∧
    Only (fun j => j = b ∨ j = n ∨ j ∈ (l ++ (n, k) :: r).map (·.1)) w wx)
  case first =>
    rcases snoc_cases l with hl | ⟨l', ⟨p, kp⟩, hl⟩
    · subst hl
      have hxn : none = xl := HX.out.2.2.1
      subst hxn
      have c0 := Mem.row_cell HC.out.2.2.2.1 5
      have f0 := Mem.row_free HC.out.2.2.2.1 5
      simp only [listArr, List.getElem?_toArray, List.getElem?_cons_zero, List.getElem?_cons_succ] at c0
      go_wp2_with fail
      go_meet
      have hr : ∀ v, pt (fst r) = v → (w.setCell ⟨b, 5, none⟩ v).heap[b]? = some (.cells ((listArr most mb zs ([] ++ (n, k) :: r)).setIfInBounds 5 (pt (fst ([] ++ r)))) 50 (0, 0)) := fun v hv => by
        subst hv; exact Mem.row_set HC.out.2.2.2.1 5 _
      exact ⟨hr _ HX.out.2.1, fun l' p e => by simp at e, fun j hj _ => set_far hj, (Only.refl _ w).setCell (p := ⟨b, 5, none⟩) (.inl (.inl rfl)) _⟩
    · subst hl
      have hxn : some ⟨p, 0, none⟩ = xl := by rw [← HX.out.2.2.1, lst_app]; rfl
      subst hxn
      have hpm : p ∈ ((l' ++ [(p, kp)]) ++ (n, k) :: r).map (·.1) := by simp
      have hpb : p ≠ b := fun e => HC.out.2.2.1 (e ▸ hpm)
      have hp := HC.out.1 l' p kp ((n, k) :: r) (by simp)
      have c0 := Mem.row_cell hp 2
      have f0 := Mem.row_free hp 2
      simp only [List.getElem?_toArray, List.getElem?_cons_zero, List.getElem?_cons_succ] at c0
      have HP := Lib.hid (And.intro hpm (And.intro hpb hp))
      clear hpm hpb hp
      go_wp2_with fail
      refine wp_region_still_tail 10 (by kernel_rfl) (by kernel_rfl) ?_
      simp only [List.take_succ_cons, List.take_zero, List.drop_succ_cons, List.drop_zero]
      repeat still_step
      refine wpStill_nil ?_
      change wpList _ _ _ _ _ w.drew
      go_wp2_with fail
      go_meet
      have hr : ∀ v, pt (fst r) = v → ((w.setCell ⟨p, 2, none⟩ v).drew.heap[p]? = some (nodeObj kp (lst l') (fst r) ⟨b, 5, none⟩)) := fun v hv => by
        rw [← hv]; exact Mem.row_set HP.out.2.2 2 _
      refine ⟨?_, fun l2 p2 e => ?_, fun j hj h2 => set_far (fun e => h2 (by rw [lst_app, e])), ((Only.refl _ w).setCell (p := ⟨p, 2, none⟩) (.inl (.inr (.inr HP.out.1))) _).drew⟩
      · refine (set_far (Ne.symm HP.out.2.1)).trans ?_
        rw [HC.out.2.2.2.1, fst_left _ r (by simp)]
        unfold listObj listArr
        rw [fst_left _ _ (by simp)]
        rfl
      · obtain ⟨rfl, e2⟩ := List.append_inj' e rfl
        injection e2 with e2
        subst e2
        exact hr _ HX.out.2.1
  case rest =>
    obtain ⟨h1, h2, h3, h4⟩ := hcut
    have hln : lst l ≠ some n := fun e => by
      have := lst_mem e
      have := HC.out.2.1
      simp only [List.map_append, List.map_cons, List.nodup_append, List.nodup_cons] at this
      exact this.2.2 n (by assumption) n (by simp) rfl
    have hn := (h3 n hnb hln).trans HC.out.2.2.2.2
    have q1 := Mem.row_cell hn 1
    have q2 := Mem.row_cell hn 2
    simp only [List.getElem?_toArray, List.getElem?_cons_zero, List.getElem?_cons_succ] at q1 q2
    have H1 := Lib.hid (And.intro h1 (And.intro h2 (And.intro h3 h4)))
    clear h1 h2 h3 h4 hln hn q3
    rw [HX.out.1] at q1
    rw [HX.out.2.1] at q2
    go_upto_if 33 with (fail)
    go_cut [] from 7 to 57 (fun wy => wy.heap[b]? = some (.cells (((listArr most mb zs (l ++ (n, k) :: r)).setIfInBounds 5 (pt (fst (l ++ r)))).setIfInBounds 6 (pt (lst (l ++ r)))) 50 (0, 0)) ∧
      (∀ l' p, l = l' ++ [p] → wy.heap[p.1]? = some (nodeObj p.2 (lst l') (fst r) ⟨b, 5, none⟩)) ∧ (∀ p r', r = p :: r' → wy.heap[p.1]? = some (nodeObj p.2 (lst l) (fst r') ⟨b, 5, none⟩)) ∧
      (∀ j, j ≠ b → lst l ≠ some j → fst r ≠ some j → wy.heap[j]? = w.heap[j]?) ∧ Only (fun j => j = b ∨ j = n ∨ j ∈ (l ++ (n, k) :: r).map (·.1)) w wy)
    case first =>
      cases r with
      | nil =>
        have hxn : none = xr := HX.out.2.2.2
        subst hxn
        have c0 := Mem.row_cell H1.out.1 6
        have f0 := Mem.row_free H1.out.1 6
        simp only [listArr, List.getElem?_toArray, List.getElem?_cons_zero, List.getElem?_cons_succ, List.setIfInBounds_toArray, List.set_cons_succ, List.set_cons_zero] at c0
        go_wp2_with fail
        go_meet
        have hr : ∀ v, pt (lst l) = v → (wc.setCell ⟨b, 6, none⟩ v).heap[b]? = some (.cells (((listArr most mb zs (l ++ (n, k) :: [])).setIfInBounds 5 (pt (fst (l ++ [])))).setIfInBounds 6 (pt (lst (l ++ [])))) 50 (0, 0)) := fun v hv => by
          have := Mem.row_set H1.out.1 6 v
          rw [List.append_nil] at this ⊢
          rw [hv]
          exact this
        have hpbn : ∀ (l' : List Nd) (p : Nd), l = l' ++ [p] → p.1 ≠ b := fun l' p e e2 => HC.out.2.2.1 (by rw [← e2, e]; simp)
        exact ⟨hr _ HX.out.1, fun l' p e => (set_far (hpbn l' p e)).trans (H1.out.2.1 l' p e), fun p r' e => by simp at e, fun j hj h2 _ => (set_far hj).trans (H1.out.2.2.1 j hj h2), H1.out.2.2.2.setCell (p := ⟨b, 6, none⟩) (.inl (.inl rfl)) _⟩
      | cons q r' =>
        obtain ⟨q, kq⟩ := q
        have hxn : some ⟨q, 0, none⟩ = xr := by rw [← HX.out.2.2.2]; rfl
        subst hxn
        have hnd := HC.out.2.1
        simp only [List.map_append, List.map_cons, List.nodup_append, List.nodup_cons] at hnd
        have hqm : q ∈ (l ++ (n, k) :: (q, kq) :: r').map (·.1) := by simp
        have hqb : q ≠ b := fun e => HC.out.2.2.1 (e ▸ hqm)
        have hql : lst l ≠ some q := fun e => hnd.2.2 q (lst_mem e) q (by simp) rfl
        have hq := (H1.out.2.2.1 q hqb hql).trans (HC.out.1 (l ++ [(n, k)]) q kq r' (by simp))
        rw [lst_app] at hq
        have c0 := Mem.row_cell hq 1
        have f0 := Mem.row_free hq 1
        simp only [List.getElem?_toArray, List.getElem?_cons_zero, List.getElem?_cons_succ] at c0
        have HQ := Lib.hid (And.intro hqm (And.intro hqb (And.intro hql hq)))
        clear hqm hqb hql hq hnd
        go_wp2_with fail
        refine wp_region_still_tail 10 (by kernel_rfl) (by kernel_rfl) ?_
        simp only [List.take_succ_cons, List.take_zero, List.drop_succ_cons, List.drop_zero]
        repeat still_step
        refine wpStill_nil ?_
        change wpList _ _ _ _ _ wc.drew
        go_wp2_with fail
        go_meet
        have hr : ∀ v, pt (lst l) = v → ((wc.setCell ⟨q, 1, none⟩ v).drew.heap[q]? = some (nodeObj kq (lst l) (fst r') ⟨b, 5, none⟩)) := fun v hv => by
          rw [← hv]; exact Mem.row_set HQ.out.2.2.2 1 _
        refine ⟨?_, fun l' p e => ?_, fun p r2 e => ?_, fun j hj h2 h3 => (set_far (fun e => h3 (by rw [fst_cons, e]))).trans (H1.out.2.2.1 j hj h2), (H1.out.2.2.2.setCell (p := ⟨q, 1, none⟩) (.inl (.inr (.inr HQ.out.1))) _).drew⟩
        · refine (set_far (Ne.symm HQ.out.2.1)).trans ?_
          rw [H1.out.1, lst_cons]
          unfold listArr
          rw [lst_cons, show lst ((n, k) :: (q, kq) :: r') = lst ((q, kq) :: r') from lst_cons [(n, k)] _ _]
          rfl
        · have hpq : p.1 ≠ q := fun e2 => HQ.out.2.2.1 (by rw [e, lst_app, e2])
          exact (set_far hpq).trans (H1.out.2.1 l' p e)
        · injection e with e e2
          subst e e2
          exact hr _ HX.out.1
    case rest =>
      obtain ⟨h1, h2, h3, h4, h5⟩ := hcut
      have c0 := Mem.row_cell h1 7
      have f0 := Mem.row_free h1 7
      simp only [listArr, List.getElem?_toArray, List.getElem?_cons_zero, List.getElem?_cons_succ, List.setIfInBounds_toArray, List.set_cons_succ, List.set_cons_zero] at c0
      have H2 := Lib.hid (And.intro h1 (And.intro h2 (And.intro h3 (And.intro h4 h5))))
      have hlw := HW.out.2
      obtain ⟨M, hM⟩ : ∃ M, (l ++ r).length = M := ⟨_, rfl⟩
      rw [hM] at hlw
      generalize (l ++ (n, k) :: r).length = L at c0 hlw
      have HM := Lib.hid hM
      clear h1 h2 h3 h4 h5 H1 q1 q2 hM
      go_wp2_with fail
      go_end0
      have hM := HM.out
      subst hM
      have hset := Mem.row_set H2.out.1 7 (.int .i64 ((l ++ r).length : Nat))
      have hfar : ∀ j, j ≠ b → (wc.setCell ⟨b, 7, none⟩ (.int .i64 ((l ++ r).length : Nat))).heap[j]? = wc.heap[j]? := fun j hj => set_far hj
      have hbm : ∀ j, j ∈ (l ++ (n, k) :: r).map (·.1) → j ≠ b := fun j hj e => HC.out.2.2.1 (e ▸ hj)
      have hnn := HC.out.2.1
      simp only [List.map_append, List.map_cons, List.nodup_append, List.nodup_cons] at hnn
      refine ⟨⟨rfl, hset, ChainB.pull HC.out.1 HC.out.2.1 (fun l' p e => (hfar _ (hbm _ (by rw [e]; simp))).trans (H2.out.2.1 l' p e)) (fun p r' e => (hfar _ (hbm _ (by rw [e]; simp))).trans (H2.out.2.2.1 p r' e))
        (fun j hj h2 h3 _ _ _ h => ?_), H2.out.2.2.2.2.setCell (p := ⟨b, 7, none⟩) (.inl (.inl rfl)) _⟩, (hfar n hnb).trans (H2.out.2.2.2.1 n hnb (fun e => hnn.2.2 n (lst_mem e) n (by simp) rfl) (fun e => hnn.2.1.1 (fst_mem e)))⟩
      have hj' := hbm j (by simp only [List.map_append, List.map_cons, List.mem_append, List.mem_cons] at hj ⊢; exact hj.elim .inl (fun e => .inr (.inr e)))
      exact (hfar j hj').trans ((H2.out.2.2.2.1 j hj' h2 h3).trans h)

end Go.Proofs.Ytpppknopbjpciaa.Slru
