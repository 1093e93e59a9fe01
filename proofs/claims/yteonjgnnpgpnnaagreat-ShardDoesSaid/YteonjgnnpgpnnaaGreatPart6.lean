/- Part6: Slru2, Slru3, Slru4, Slru5, Slru6, Slru7, Slru8, Slru9, Op8, Slru10, Slru11, one behind the other. -/
import Derived.Test.YteonjgnnpgpnnaaGreatPart5
import Derived.Deep.CutRange
import Derived.Deep.QuietTactic
import Derived.BigQuiet
import Derived.MapKept
import Derived.Deep.RegionHeld3
import Derived.Test.YteonjgnnpgpnnaaGreatPart2
import Derived.Shelf.Abstract
import Derived.Shelf.RegionOpen
import Derived.OwnWalkIn
import Derived.TacticsInMore
import Derived.Sort.LoopGhostIn
import Derived.Sort.QuietIn
import Derived.Maps.AppendAt
import Derived.Deep.LoopGhost
/- Layer 8: a node is taken out of its row. -/
namespace Go.Proofs.YteonjgnnpgpnnaaGreat.Slru
open Go Go.RowKit Go.Proofs.YteonjgnnpgpnnaaGreat.Mem

set_option maxRecDepth 100000 in
set_option maxHeartbeats 2000000 in
theorem pull_trial {w : World} {b n mb : Nat} {most : Int} {l r zs : List Nd} {k : ByteArray} (hb : w.heap[b]? = some (listObj most mb (l ++ (n, k) :: r) zs)) (hc : Chain w ⟨b, 2, none⟩ (l ++ (n, k) :: r)) (hnd : ((l ++ (n, k) :: r).map (·.1)).Nodup)
    (hlen : (l ++ (n, k) :: r).length ≤ 9223372036854775807) :
    Calls Tryz.prog 82 #[.pointer (some ⟨n, 0, none⟩)] w fun e w' => RowPost w b 2 (listObj most mb (l ++ r) zs) (l ++ (n, k) :: r) (l ++ r) n e w' ∧ w'.heap[n]? = w.heap[n]? := by
  have hbt := hc.ne hb
  have hn := hc l n k r rfl
  have hnb : n ≠ b := fun e => hbt (by rw [← e]; simp)
  have q1 := Mem.row_cell hn 1
  have q2 := Mem.row_cell hn 2
  have q3 := Mem.row_cell hn 3
  simp only [List.getElem?_toArray, List.getElem?_cons_zero, List.getElem?_cons_succ] at q1 q2 q3
  have HC := Lib.hid (And.intro hc (And.intro hnd (And.intro hbt (And.intro hb hn))))
  have hL : (l ++ (n, k) :: r).length = (l ++ r).length + 1 := by simp; omega
  have hlw : IntKind.i64.wrap (((l ++ (n, k) :: r).length : Nat) - (1 : Int)) = ((l ++ r).length : Nat) := by rw [IntKind.wrap_i64, hL]; omega
  have HL := Lib.hid hL
  have HW := Lib.hid (And.intro hlen hlw)
  clear hc hnd hbt hb hn hlw hlen hL
  obtain ⟨xl, hxl⟩ : ∃ xl, (lst l).map (fun n => (⟨n, 0, none⟩ : Addr)) = xl := ⟨_, rfl⟩
  obtain ⟨xr, hxr⟩ : ∃ xr, (fst r).map (fun n => (⟨n, 0, none⟩ : Addr)) = xr := ⟨_, rfl⟩
  have hpl : pt (lst l) = .pointer xl := by rw [← hxl]; rfl
  have hpr : pt (fst r) = .pointer xr := by rw [← hxr]; rfl
  rw [hpl] at q1
  rw [hpr] at q2
  have HX := Lib.hid (And.intro hpl (And.intro hpr (And.intro hxl hxr)))
  clear hpl hpr hxl hxr
  go_enter Tryz.func82, Tryz.ntmps82
  go_upto_if 11 with (fail)
  go_cut [] from 7 to 57 (fun wx => wx.heap[b]? = some (.cells ((listArr most mb (l ++ (n, k) :: r) zs).setIfInBounds 2 (pt (fst (l ++ r)))) 114 (0, 0)) ∧
    (∀ l' p, l = l' ++ [p] → wx.heap[p.1]? = some (nodeObj p.2 (lst l') (fst r) ⟨b, 2, none⟩)) ∧ (∀ j, j ≠ b → lst l ≠ some j → wx.heap[j]? = w.heap[j]?) ∧
    Only (fun j => j = b ∨ j = n ∨ j ∈ (l ++ (n, k) :: r).map (·.1)) w wx)
  case first =>
    rcases snoc_cases l with hl | ⟨l', ⟨p, kp⟩, hl⟩
    · subst hl
      have hxn : none = xl := HX.out.2.2.1
      subst hxn
      have c0 := Mem.row_cell HC.out.2.2.2.1 2
      have f0 := Mem.row_free HC.out.2.2.2.1 2
      simp only [listArr, List.getElem?_toArray, List.getElem?_cons_zero, List.getElem?_cons_succ] at c0
      go_wp2_with fail
      go_meet
      have hr : ∀ v, pt (fst r) = v → (w.setCell ⟨b, 2, none⟩ v).heap[b]? = some (.cells ((listArr most mb ([] ++ (n, k) :: r) zs).setIfInBounds 2 (pt (fst ([] ++ r)))) 114 (0, 0)) := fun v hv => by
        subst hv; exact Mem.row_set HC.out.2.2.2.1 2 _
      exact ⟨hr _ HX.out.2.1, fun l' p e => by simp at e, fun j hj _ => set_far hj, (Only.refl _ w).setCell (p := ⟨b, 2, none⟩) (.inl (.inl rfl)) _⟩
    · subst hl
      have hxn : some ⟨p, 0, none⟩ = xl := by rw [← HX.out.2.2.1, lst_app]; rfl
      subst hxn
      have hpm : p ∈ ((l' ++ [(p, kp)]) ++ (n, k) :: r).map (·.1) := by simp
      have hpb : p ≠ b := fun e => HC.out.2.2.1 (e ▸ hpm)
      have hp := HC.out.1 l' p kp ((n, k) :: r) (by simp)
      have c0 := Mem.row_cell hp 2
      have f0 := Mem.row_free hp 2
      simp only [List.getElem?_toArray, List.getElem?_cons_zero, List.getElem?_cons_succ] at c0
      have HP := Lib.hid (And.intro hpm (And.intro hpb hp))
      clear hpm hpb hp
      go_wp2_with fail
      refine wp_region_still_tail 10 (by kernel_rfl) (by kernel_rfl) ?_
      simp only [List.take_succ_cons, List.take_zero, List.drop_succ_cons, List.drop_zero]
      repeat still_step
      refine wpStill_nil ?_
      change wpList _ _ _ _ _ w.drew
      go_wp2_with fail
      go_meet
      have hr : ∀ v, pt (fst r) = v → ((w.setCell ⟨p, 2, none⟩ v).drew.heap[p]? = some (nodeObj kp (lst l') (fst r) ⟨b, 2, none⟩)) := fun v hv => by
        rw [← hv]; exact Mem.row_set HP.out.2.2 2 _
      refine ⟨?_, fun l2 p2 e => ?_, fun j hj h2 => set_far (fun e => h2 (by rw [lst_app, e])), ((Only.refl _ w).setCell (p := ⟨p, 2, none⟩) (.inl (.inr (.inr HP.out.1))) _).drew⟩
      · refine (set_far (Ne.symm HP.out.2.1)).trans ?_
        rw [HC.out.2.2.2.1, fst_left _ r (by simp)]
        unfold listObj listArr
        rw [fst_left _ _ (by simp)]
        rfl
      · obtain ⟨rfl, e2⟩ := List.append_inj' e rfl
        injection e2 with e2
        subst e2
        exact hr _ HX.out.2.1
  case rest =>
    obtain ⟨h1, h2, h3, h4⟩ := hcut
    have hln : lst l ≠ some n := fun e => by
      have := lst_mem e
      have := HC.out.2.1
      simp only [List.map_append, List.map_cons, List.nodup_append, List.nodup_cons] at this
      exact this.2.2 n (by assumption) n (by simp) rfl
    have hn := (h3 n hnb hln).trans HC.out.2.2.2.2
    have q1 := Mem.row_cell hn 1
    have q2 := Mem.row_cell hn 2
    simp only [List.getElem?_toArray, List.getElem?_cons_zero, List.getElem?_cons_succ] at q1 q2
    have H1 := Lib.hid (And.intro h1 (And.intro h2 (And.intro h3 h4)))
    clear h1 h2 h3 h4 hln hn q3
    rw [HX.out.1] at q1
    rw [HX.out.2.1] at q2
    go_upto_if 33 with (fail)
    go_cut [] from 7 to 57 (fun wy => wy.heap[b]? = some (.cells (((listArr most mb (l ++ (n, k) :: r) zs).setIfInBounds 2 (pt (fst (l ++ r)))).setIfInBounds 3 (pt (lst (l ++ r)))) 114 (0, 0)) ∧
      (∀ l' p, l = l' ++ [p] → wy.heap[p.1]? = some (nodeObj p.2 (lst l') (fst r) ⟨b, 2, none⟩)) ∧ (∀ p r', r = p :: r' → wy.heap[p.1]? = some (nodeObj p.2 (lst l) (fst r') ⟨b, 2, none⟩)) ∧
      (∀ j, j ≠ b → lst l ≠ some j → fst r ≠ some j → wy.heap[j]? = w.heap[j]?) ∧ Only (fun j => j = b ∨ j = n ∨ j ∈ (l ++ (n, k) :: r).map (·.1)) w wy)
    case first =>
      cases r with
      | nil =>
        have hxn : none = xr := HX.out.2.2.2
        subst hxn
        have c0 := Mem.row_cell H1.out.1 3
        have f0 := Mem.row_free H1.out.1 3
        simp only [listArr, List.getElem?_toArray, List.getElem?_cons_zero, List.getElem?_cons_succ, List.setIfInBounds_toArray, List.set_cons_succ, List.set_cons_zero] at c0
        go_wp2_with fail
        go_meet
        have hr : ∀ v, pt (lst l) = v → (wc.setCell ⟨b, 3, none⟩ v).heap[b]? = some (.cells (((listArr most mb (l ++ (n, k) :: []) zs).setIfInBounds 2 (pt (fst (l ++ [])))).setIfInBounds 3 (pt (lst (l ++ [])))) 114 (0, 0)) := fun v hv => by
          have := Mem.row_set H1.out.1 3 v
          rw [List.append_nil] at this ⊢
          rw [hv]
          exact this
        have hpbn : ∀ (l' : List Nd) (p : Nd), l = l' ++ [p] → p.1 ≠ b := fun l' p e e2 => HC.out.2.2.1 (by rw [← e2, e]; simp)
        exact ⟨hr _ HX.out.1, fun l' p e => (set_far (hpbn l' p e)).trans (H1.out.2.1 l' p e), fun p r' e => by simp at e, fun j hj h2 _ => (set_far hj).trans (H1.out.2.2.1 j hj h2), H1.out.2.2.2.setCell (p := ⟨b, 3, none⟩) (.inl (.inl rfl)) _⟩
      | cons q r' =>
        obtain ⟨q, kq⟩ := q
        have hxn : some ⟨q, 0, none⟩ = xr := by rw [← HX.out.2.2.2]; rfl
        subst hxn
        have hnd := HC.out.2.1
        simp only [List.map_append, List.map_cons, List.nodup_append, List.nodup_cons] at hnd
        have hqm : q ∈ (l ++ (n, k) :: (q, kq) :: r').map (·.1) := by simp
        have hqb : q ≠ b := fun e => HC.out.2.2.1 (e ▸ hqm)
        have hql : lst l ≠ some q := fun e => hnd.2.2 q (lst_mem e) q (by simp) rfl
        have hq := (H1.out.2.2.1 q hqb hql).trans (HC.out.1 (l ++ [(n, k)]) q kq r' (by simp))
        rw [lst_app] at hq
        have c0 := Mem.row_cell hq 1
        have f0 := Mem.row_free hq 1
        simp only [List.getElem?_toArray, List.getElem?_cons_zero, List.getElem?_cons_succ] at c0
        have HQ := Lib.hid (And.intro hqm (And.intro hqb (And.intro hql hq)))
        clear hqm hqb hql hq hnd
        go_wp2_with fail
        refine wp_region_still_tail 10 (by kernel_rfl) (by kernel_rfl) ?_
        simp only [List.take_succ_cons, List.take_zero, List.drop_succ_cons, List.drop_zero]
        repeat still_step
        refine wpStill_nil ?_
        change wpList _ _ _ _ _ wc.drew
        go_wp2_with fail
        go_meet
        have hr : ∀ v, pt (lst l) = v → ((wc.setCell ⟨q, 1, none⟩ v).drew.heap[q]? = some (nodeObj kq (lst l) (fst r') ⟨b, 2, none⟩)) := fun v hv => by
          rw [← hv]; exact Mem.row_set HQ.out.2.2.2 1 _
        refine ⟨?_, fun l' p e => ?_, fun p r2 e => ?_, fun j hj h2 h3 => (set_far (fun e => h3 (by rw [fst_cons, e]))).trans (H1.out.2.2.1 j hj h2), (H1.out.2.2.2.setCell (p := ⟨q, 1, none⟩) (.inl (.inr (.inr HQ.out.1))) _).drew⟩
        · refine (set_far (Ne.symm HQ.out.2.1)).trans ?_
          rw [H1.out.1, lst_cons]
          unfold listArr
          rw [lst_cons, show lst ((n, k) :: (q, kq) :: r') = lst ((q, kq) :: r') from lst_cons [(n, k)] _ _]
          rfl
        · have hpq : p.1 ≠ q := fun e2 => HQ.out.2.2.1 (by rw [e, lst_app, e2])
          exact (set_far hpq).trans (H1.out.2.1 l' p e)
        · injection e with e e2
          subst e e2
          exact hr _ HX.out.1
    case rest =>
      obtain ⟨h1, h2, h3, h4, h5⟩ := hcut
      have c0 := Mem.row_cell h1 4
      have f0 := Mem.row_free h1 4
      simp only [listArr, List.getElem?_toArray, List.getElem?_cons_zero, List.getElem?_cons_succ, List.setIfInBounds_toArray, List.set_cons_succ, List.set_cons_zero] at c0
      have H2 := Lib.hid (And.intro h1 (And.intro h2 (And.intro h3 (And.intro h4 h5))))
      have hlw := HW.out.2
      obtain ⟨M, hM⟩ : ∃ M, (l ++ r).length = M := ⟨_, rfl⟩
      rw [hM] at hlw
      generalize (l ++ (n, k) :: r).length = L at c0 hlw
      have HM := Lib.hid hM
      clear h1 h2 h3 h4 h5 H1 q1 q2 hM
      go_wp2_with fail
      go_end0
      have hM := HM.out
      subst hM
      have hset := Mem.row_set H2.out.1 4 (.int .i64 ((l ++ r).length : Nat))
      have hfar : ∀ j, j ≠ b → (wc.setCell ⟨b, 4, none⟩ (.int .i64 ((l ++ r).length : Nat))).heap[j]? = wc.heap[j]? := fun j hj => set_far hj
      have hbm : ∀ j, j ∈ (l ++ (n, k) :: r).map (·.1) → j ≠ b := fun j hj e => HC.out.2.2.1 (e ▸ hj)
      have hnn := HC.out.2.1
      simp only [List.map_append, List.map_cons, List.nodup_append, List.nodup_cons] at hnn
      refine ⟨⟨rfl, hset, ChainB.pull HC.out.1 HC.out.2.1 (fun l' p e => (hfar _ (hbm _ (by rw [e]; simp))).trans (H2.out.2.1 l' p e)) (fun p r' e => (hfar _ (hbm _ (by rw [e]; simp))).trans (H2.out.2.2.1 p r' e))
        (fun j hj h2 h3 _ _ _ h => ?_), H2.out.2.2.2.2.setCell (p := ⟨b, 4, none⟩) (.inl (.inl rfl)) _⟩, (hfar n hnb).trans (H2.out.2.2.2.1 n hnb (fun e => hnn.2.2 n (lst_mem e) n (by simp) rfl) (fun e => hnn.2.1.1 (fst_mem e)))⟩
      have hj' := hbm j (by simp only [List.map_append, List.map_cons, List.mem_append, List.mem_cons] at hj ⊢; exact hj.elim .inl (fun e => .inr (.inr e)))
      exact (hfar j hj').trans ((H2.out.2.2.2.1 j hj' h2 h3).trans h)

set_option maxRecDepth 100000 in
set_option maxHeartbeats 2000000 in
theorem pull_safe {w : World} {b n mb : Nat} {most : Int} {l r zs : List Nd} {k : ByteArray} (hb : w.heap[b]? = some (listObj most mb zs (l ++ (n, k) :: r))) (hc : Chain w ⟨b, 5, none⟩ (l ++ (n, k) :: r)) (hnd : ((l ++ (n, k) :: r).map (·.1)).Nodup)
    (hlen : (l ++ (n, k) :: r).length ≤ 9223372036854775807) :
    Calls Tryz.prog 82 #[.pointer (some ⟨n, 0, none⟩)] w fun e w' => RowPost w b 5 (listObj most mb zs (l ++ r)) (l ++ (n, k) :: r) (l ++ r) n e w' ∧ w'.heap[n]? = w.heap[n]? := by
  have hbt := hc.ne hb
  have hn := hc l n k r rfl
  have hnb : n ≠ b := fun e => hbt (by rw [← e]; simp)
  have q1 := Mem.row_cell hn 1
  have q2 := Mem.row_cell hn 2
  have q3 := Mem.row_cell hn 3
  simp only [List.getElem?_toArray, List.getElem?_cons_zero, List.getElem?_cons_succ] at q1 q2 q3
  have HC := Lib.hid (And.intro hc (And.intro hnd (And.intro hbt (And.intro hb hn))))
  have hL : (l ++ (n, k) :: r).length = (l ++ r).length + 1 := by simp; omega
  have hlw : IntKind.i64.wrap (((l ++ (n, k) :: r).length : Nat) - (1 : Int)) = ((l ++ r).length : Nat) := by rw [IntKind.wrap_i64, hL]; omega
  have HL := Lib.hid hL
  have HW := Lib.hid (And.intro hlen hlw)
  clear hc hnd hbt hb hn hlw hlen hL
  obtain ⟨xl, hxl⟩ : ∃ xl, (lst l).map (fun n => (⟨n, 0, none⟩ : Addr)) = xl := ⟨_, rfl⟩
  obtain ⟨xr, hxr⟩ : ∃ xr, (fst r).map (fun n => (⟨n, 0, none⟩ : Addr)) = xr := ⟨_, rfl⟩
  have hpl : pt (lst l) = .pointer xl := by rw [← hxl]; rfl
  have hpr : pt (fst r) = .pointer xr := by rw [← hxr]; rfl
  rw [hpl] at q1
  rw [hpr] at q2
  have HX := Lib.hid (And.intro hpl (And.intro hpr (And.intro hxl hxr)))
  clear hpl hpr hxl hxr
  go_enter Tryz.func82, Tryz.ntmps82
  go_upto_if 11 with (fail)
  go_cut [] from 7 to 57 (fun wx => wx.heap[b]? = some (.cells ((listArr most mb zs (l ++ (n, k) :: r)).setIfInBounds 5 (pt (fst (l ++ r)))) 114 (0, 0)) ∧
    (∀ l' p, l = l' ++ [p] → wx.heap[p.1]? = some (nodeObj p.2 (lst l') (fst r) ⟨b, 5, none⟩)) ∧ (∀ j, j ≠ b → lst l ≠ some j → wx.heap[j]? = w.heap[j]?) ∧
    Only (fun j => j = b ∨ j = n ∨ j ∈ (l ++ (n, k) :: r).map (·.1)) w wx)
  case first =>
    rcases snoc_cases l with hl | ⟨l', ⟨p, kp⟩, hl⟩
    · subst hl
      have hxn : none = xl := HX.out.2.2.1
      subst hxn
      have c0 := Mem.row_cell HC.out.2.2.2.1 5
      have f0 := Mem.row_free HC.out.2.2.2.1 5
      simp only [listArr, List.getElem?_toArray, List.getElem?_cons_zero, List.getElem?_cons_succ] at c0
      go_wp2_with fail
      go_meet
      have hr : ∀ v, pt (fst r) = v → (w.setCell ⟨b, 5, none⟩ v).heap[b]? = some (.cells ((listArr most mb zs ([] ++ (n, k) :: r)).setIfInBounds 5 (pt (fst ([] ++ r)))) 114 (0, 0)) := fun v hv => by
        subst hv; exact Mem.row_set HC.out.2.2.2.1 5 _
      exact ⟨hr _ HX.out.2.1, fun l' p e => by simp at e, fun j hj _ => set_far hj, (Only.refl _ w).setCell (p := ⟨b, 5, none⟩) (.inl (.inl rfl)) _⟩
    · subst hl
      have hxn : some ⟨p, 0, none⟩ = xl := by rw [← HX.out.2.2.1, lst_app]; rfl
      subst hxn
      have hpm : p ∈ ((l' ++ [(p, kp)]) ++ (n, k) :: r).map (·.1) := by simp
      have hpb : p ≠ b := fun e => HC.out.2.2.1 (e ▸ hpm)
      have hp := HC.out.1 l' p kp ((n, k) :: r) (by simp)
      have c0 := Mem.row_cell hp 2
      have f0 := Mem.row_free hp 2
      simp only [List.getElem?_toArray, List.getElem?_cons_zero, List.getElem?_cons_succ] at c0
      have HP := Lib.hid (And.intro hpm (And.intro hpb hp))
      clear hpm hpb hp
      go_wp2_with fail
      refine wp_region_still_tail 10 (by kernel_rfl) (by kernel_rfl) ?_
      simp only [List.take_succ_cons, List.take_zero, List.drop_succ_cons, List.drop_zero]
      repeat still_step
      refine wpStill_nil ?_
      change wpList _ _ _ _ _ w.drew
      go_wp2_with fail
      go_meet
      have hr : ∀ v, pt (fst r) = v → ((w.setCell ⟨p, 2, none⟩ v).drew.heap[p]? = some (nodeObj kp (lst l') (fst r) ⟨b, 5, none⟩)) := fun v hv => by
        rw [← hv]; exact Mem.row_set HP.out.2.2 2 _
      refine ⟨?_, fun l2 p2 e => ?_, fun j hj h2 => set_far (fun e => h2 (by rw [lst_app, e])), ((Only.refl _ w).setCell (p := ⟨p, 2, none⟩) (.inl (.inr (.inr HP.out.1))) _).drew⟩
      · refine (set_far (Ne.symm HP.out.2.1)).trans ?_
        rw [HC.out.2.2.2.1, fst_left _ r (by simp)]
        unfold listObj listArr
        rw [fst_left _ _ (by simp)]
        rfl
      · obtain ⟨rfl, e2⟩ := List.append_inj' e rfl
        injection e2 with e2
        subst e2
        exact hr _ HX.out.2.1
  case rest =>
    obtain ⟨h1, h2, h3, h4⟩ := hcut
    have hln : lst l ≠ some n := fun e => by
      have := lst_mem e
      have := HC.out.2.1
      simp only [List.map_append, List.map_cons, List.nodup_append, List.nodup_cons] at this
      exact this.2.2 n (by assumption) n (by simp) rfl
    have hn := (h3 n hnb hln).trans HC.out.2.2.2.2
    have q1 := Mem.row_cell hn 1
    have q2 := Mem.row_cell hn 2
    simp only [List.getElem?_toArray, List.getElem?_cons_zero, List.getElem?_cons_succ] at q1 q2
    have H1 := Lib.hid (And.intro h1 (And.intro h2 (And.intro h3 h4)))
    clear h1 h2 h3 h4 hln hn q3
    rw [HX.out.1] at q1
    rw [HX.out.2.1] at q2
    go_upto_if 33 with (fail)
    go_cut [] from 7 to 57 (fun wy => wy.heap[b]? = some (.cells (((listArr most mb zs (l ++ (n, k) :: r)).setIfInBounds 5 (pt (fst (l ++ r)))).setIfInBounds 6 (pt (lst (l ++ r)))) 114 (0, 0)) ∧
      (∀ l' p, l = l' ++ [p] → wy.heap[p.1]? = some (nodeObj p.2 (lst l') (fst r) ⟨b, 5, none⟩)) ∧ (∀ p r', r = p :: r' → wy.heap[p.1]? = some (nodeObj p.2 (lst l) (fst r') ⟨b, 5, none⟩)) ∧
      (∀ j, j ≠ b → lst l ≠ some j → fst r ≠ some j → wy.heap[j]? = w.heap[j]?) ∧ Only (fun j => j = b ∨ j = n ∨ j ∈ (l ++ (n, k) :: r).map (·.1)) w wy)
    case first =>
      cases r with
      | nil =>
        have hxn : none = xr := HX.out.2.2.2
        subst hxn
        have c0 := Mem.row_cell H1.out.1 6
        have f0 := Mem.row_free H1.out.1 6
        simp only [listArr, List.getElem?_toArray, List.getElem?_cons_zero, List.getElem?_cons_succ, List.setIfInBounds_toArray, List.set_cons_succ, List.set_cons_zero] at c0
        go_wp2_with fail
        go_meet
        have hr : ∀ v, pt (lst l) = v → (wc.setCell ⟨b, 6, none⟩ v).heap[b]? = some (.cells (((listArr most mb zs (l ++ (n, k) :: [])).setIfInBounds 5 (pt (fst (l ++ [])))).setIfInBounds 6 (pt (lst (l ++ [])))) 114 (0, 0)) := fun v hv => by
          have := Mem.row_set H1.out.1 6 v
          rw [List.append_nil] at this ⊢
          rw [hv]
          exact this
        have hpbn : ∀ (l' : List Nd) (p : Nd), l = l' ++ [p] → p.1 ≠ b := fun l' p e e2 => HC.out.2.2.1 (by rw [← e2, e]; simp)
        exact ⟨hr _ HX.out.1, fun l' p e => (set_far (hpbn l' p e)).trans (H1.out.2.1 l' p e), fun p r' e => by simp at e, fun j hj h2 _ => (set_far hj).trans (H1.out.2.2.1 j hj h2), H1.out.2.2.2.setCell (p := ⟨b, 6, none⟩) (.inl (.inl rfl)) _⟩
      | cons q r' =>
        obtain ⟨q, kq⟩ := q
        have hxn : some ⟨q, 0, none⟩ = xr := by rw [← HX.out.2.2.2]; rfl
        subst hxn
        have hnd := HC.out.2.1
        simp only [List.map_append, List.map_cons, List.nodup_append, List.nodup_cons] at hnd
        have hqm : q ∈ (l ++ (n, k) :: (q, kq) :: r').map (·.1) := by simp
        have hqb : q ≠ b := fun e => HC.out.2.2.1 (e ▸ hqm)
        have hql : lst l ≠ some q := fun e => hnd.2.2 q (lst_mem e) q (by simp) rfl
        have hq := (H1.out.2.2.1 q hqb hql).trans (HC.out.1 (l ++ [(n, k)]) q kq r' (by simp))
        rw [lst_app] at hq
        have c0 := Mem.row_cell hq 1
        have f0 := Mem.row_free hq 1
        simp only [List.getElem?_toArray, List.getElem?_cons_zero, List.getElem?_cons_succ] at c0
        have HQ := Lib.hid (And.intro hqm (And.intro hqb (And.intro hql hq)))
        clear hqm hqb hql hq hnd
        go_wp2_with fail
        refine wp_region_still_tail 10 (by kernel_rfl) (by kernel_rfl) ?_
        simp only [List.take_succ_cons, List.take_zero, List.drop_succ_cons, List.drop_zero]
        repeat still_step
        refine wpStill_nil ?_
        change wpList _ _ _ _ _ wc.drew
        go_wp2_with fail
        go_meet
        have hr : ∀ v, pt (lst l) = v → ((wc.setCell ⟨q, 1, none⟩ v).drew.heap[q]? = some (nodeObj kq (lst l) (fst r') ⟨b, 5, none⟩)) := fun v hv => by
          rw [← hv]; exact Mem.row_set HQ.out.2.2.2 1 _
        refine ⟨?_, fun l' p e => ?_, fun p r2 e => ?_, fun j hj h2 h3 => (set_far (fun e => h3 (by rw [fst_cons, e]))).trans (H1.out.2.2.1 j hj h2), (H1.out.2.2.2.setCell (p := ⟨q, 1, none⟩) (.inl (.inr (.inr HQ.out.1))) _).drew⟩
        · refine (set_far (Ne.symm HQ.out.2.1)).trans ?_
          rw [H1.out.1, lst_cons]
          unfold listArr
          rw [lst_cons, show lst ((n, k) :: (q, kq) :: r') = lst ((q, kq) :: r') from lst_cons [(n, k)] _ _]
          rfl
        · have hpq : p.1 ≠ q := fun e2 => HQ.out.2.2.1 (by rw [e, lst_app, e2])
          exact (set_far hpq).trans (H1.out.2.1 l' p e)
        · injection e with e e2
          subst e e2
          exact hr _ HX.out.1
    case rest =>
      obtain ⟨h1, h2, h3, h4, h5⟩ := hcut
      have c0 := Mem.row_cell h1 7
      have f0 := Mem.row_free h1 7
      simp only [listArr, List.getElem?_toArray, List.getElem?_cons_zero, List.getElem?_cons_succ, List.setIfInBounds_toArray, List.set_cons_succ, List.set_cons_zero] at c0
      have H2 := Lib.hid (And.intro h1 (And.intro h2 (And.intro h3 (And.intro h4 h5))))
      have hlw := HW.out.2
      obtain ⟨M, hM⟩ : ∃ M, (l ++ r).length = M := ⟨_, rfl⟩
      rw [hM] at hlw
      generalize (l ++ (n, k) :: r).length = L at c0 hlw
      have HM := Lib.hid hM
      clear h1 h2 h3 h4 h5 H1 q1 q2 hM
      go_wp2_with fail
      go_end0
      have hM := HM.out
      subst hM
      have hset := Mem.row_set H2.out.1 7 (.int .i64 ((l ++ r).length : Nat))
      have hfar : ∀ j, j ≠ b → (wc.setCell ⟨b, 7, none⟩ (.int .i64 ((l ++ r).length : Nat))).heap[j]? = wc.heap[j]? := fun j hj => set_far hj
      have hbm : ∀ j, j ∈ (l ++ (n, k) :: r).map (·.1) → j ≠ b := fun j hj e => HC.out.2.2.1 (e ▸ hj)
      have hnn := HC.out.2.1
      simp only [List.map_append, List.map_cons, List.nodup_append, List.nodup_cons] at hnn
      refine ⟨⟨rfl, hset, ChainB.pull HC.out.1 HC.out.2.1 (fun l' p e => (hfar _ (hbm _ (by rw [e]; simp))).trans (H2.out.2.1 l' p e)) (fun p r' e => (hfar _ (hbm _ (by rw [e]; simp))).trans (H2.out.2.2.1 p r' e))
        (fun j hj h2 h3 _ _ _ h => ?_), H2.out.2.2.2.2.setCell (p := ⟨b, 7, none⟩) (.inl (.inl rfl)) _⟩, (hfar n hnb).trans (H2.out.2.2.2.1 n hnb (fun e => hnn.2.2 n (lst_mem e) n (by simp) rfl) (fun e => hnn.2.1.1 (fst_mem e)))⟩
      have hj' := hbm j (by simp only [List.map_append, List.map_cons, List.mem_append, List.mem_cons] at hj ⊢; exact hj.elim .inl (fun e => .inr (.inr e)))
      exact (hfar j hj').trans ((H2.out.2.2.2.1 j hj' h2 h3).trans h)

end Go.Proofs.YteonjgnnpgpnnaaGreat.Slru

/- Layer 8: the list in memory: rows and map; New, Len, Protected, Add. -/
namespace Go.Proofs.YteonjgnnpgpnnaaGreat.Slru
open Go Go.RowKit Go.Proofs.YteonjgnnpgpnnaaGreat.Mem

section
variable {κ : Type} [DecidableEq κ]
theorem get_set (l : List (κ × Value)) (k k' : κ) (v : Value) : Maps.get (Maps.set l k v) k' = if k' = k then some v else Maps.get l k' := by
  induction l with
  | nil => simp [Maps.set, Maps.get]
  | cons p l ih =>
    simp only [Maps.set]
    by_cases h : k = p.1
    · rw [if_pos h]; simp only [Maps.get]; subst h; by_cases h2 : k' = p.1 <;> simp [h2]
    · rw [if_neg h]; simp only [Maps.get, ih]
      by_cases h2 : k' = p.1
      · rw [if_pos h2, if_neg (show ¬ k' = k from fun e => h (e.symm.trans h2)), if_pos h2]
      · rw [if_neg h2, if_neg h2]
theorem get_none {l : List (κ × Value)} {k : κ} (h : Maps.get l k = none) : k ∉ l.map (·.1) := by
  induction l with
  | nil => simp
  | cons p l ih =>
    simp only [Maps.get] at h
    by_cases h2 : k = p.1
    · rw [if_pos h2] at h; cases h
    · rw [if_neg h2] at h; simpa [h2] using ih h
theorem get_out {l : List (κ × Value)} {k : κ} (h : k ∉ l.map (·.1)) : Maps.get l k = none := by
  induction l with
  | nil => rfl
  | cons p l ih => simp at h; simp only [Maps.get]; rw [if_neg h.1]; exact ih (by simpa using h.2)
theorem set_new {l : List (κ × Value)} {k : κ} (v : Value) (h : Maps.get l k = none) : Maps.set l k v = l ++ [(k, v)] := by
  induction l with
  | nil => rfl
  | cons p l ih =>
    simp only [Maps.get] at h
    by_cases h2 : k = p.1
    · rw [if_pos h2] at h; cases h
    · rw [if_neg h2] at h; simp only [Maps.set]; rw [if_neg h2, ih h]; rfl
theorem get_del {l : List (κ × Value)} (hn : (l.map (·.1)).Nodup) (k k' : κ) : Maps.get (Maps.del l k) k' = if k' = k then none else Maps.get l k' := by
  induction l with
  | nil => simp [Maps.del, Maps.get]
  | cons p l ih =>
    have hn' := List.nodup_cons.1 hn
    simp only [Maps.del]
    by_cases h : k = p.1
    · rw [if_pos h]
      by_cases h2 : k' = k
      · rw [if_pos h2, h2, h]; exact get_out hn'.1
      · rw [if_neg h2]; simp only [Maps.get]; rw [if_neg (fun e => h2 (e.trans h.symm))]
    · rw [if_neg h]
      simp only [Maps.get, ih hn'.2]
      by_cases h2 : k' = p.1
      · rw [if_pos h2, if_neg (show ¬ k' = k from fun e => h (e.symm.trans h2)), if_pos h2]
      · rw [if_neg h2, if_neg h2]
theorem del_sub (l : List (κ × Value)) (k : κ) : (Maps.del l k).Sublist l := by
  induction l with
  | nil => exact List.Sublist.refl _
  | cons p l ih =>
    simp only [Maps.del]
    by_cases h : k = p.1
    · rw [if_pos h]; exact List.sublist_cons_self _ _
    · rw [if_neg h]; exact ih.cons_cons _
end
theorem without_mem {l : List ByteArray} {k x : ByteArray} : x ∈ without l k ↔ x ∈ l ∧ x ≠ k := by simp [without]
theorem without_none {l : List ByteArray} {k : ByteArray} (h : k ∉ l) : without l k = l := by
  unfold without
  rw [List.filter_eq_self]
  intro x hx
  exact decide_eq_true (fun e : x = k => h (e ▸ hx))
theorem without_split {l r : List ByteArray} {k : ByteArray} (h : (l ++ k :: r).Nodup) : without (l ++ k :: r) k = l ++ r := by
  have h2 := List.nodup_append.1 h
  have h3 := List.nodup_cons.1 h2.2.1
  have e1 : without l k = l := without_none fun e => h2.2.2 k e k (by simp) rfl
  have e2 : without r k = r := without_none h3.1
  have : without (l ++ k :: r) k = without l k ++ without r k := by unfold without; rw [List.filter_append, List.filter_cons]; simp
  rw [this, e1, e2]
theorem without_nodup {l : List ByteArray} (k : ByteArray) (h : l.Nodup) : (without l k).Nodup := h.sublist List.filter_sublist
theorem without_app (l r : List ByteArray) (k : ByteArray) : without (l ++ r) k = without l k ++ without r k := List.filter_append ..
theorem without_len (l : List ByteArray) (k : ByteArray) : (without l k).length ≤ l.length := List.length_filter_le ..

theorem without_lt {l : List ByteArray} {k : ByteArray} (h : k ∈ l) : (without l k).length + 1 ≤ l.length := by
  obtain ⟨a, b, rfl⟩ := List.append_of_mem h
  have : without (a ++ k :: b) k = without a k ++ without b k := by unfold without; rw [List.filter_append, List.filter_cons]; simp
  rw [this, List.length_append, List.length_append, List.length_cons]
  have := without_len a k
  have := without_len b k
  omega

/-- The two rows in memory, without the map. -/
structure Rows (w : World) (b mb : Nat) (most : Int) (ts ss : List Nd) : Prop where
  blk : w.heap[b]? = some (listObj most mb ts ss)
  ct : Chain w ⟨b, 2, none⟩ ts
  cs : Chain w ⟨b, 5, none⟩ ss
  nd : ((ts ++ ss).map (·.1)).Nodup
section
variable {w w' : World} {b mb n : Nat} {most : Int} {ts ss : List Nd} {k : ByteArray}
theorem Rows.same (h : Rows w b mb most ts ss) (hs : ∀ j, j = b ∨ j ∈ (ts ++ ss).map (·.1) → w'.heap[j]? = w.heap[j]?) : Rows w' b mb most ts ss :=
  ⟨(hs b (.inl rfl)).trans h.blk, h.ct.same fun j hj => hs j (.inr (by rw [List.map_append]; exact List.mem_append.2 (.inl hj))), h.cs.same fun j hj => hs j (.inr (by rw [List.map_append]; exact List.mem_append.2 (.inr hj))), h.nd⟩
theorem Rows.ndt (h : Rows w b mb most ts ss) : (ts.map (·.1)).Nodup ∧ (ss.map (·.1)).Nodup ∧ ∀ j ∈ ts.map (·.1), j ∉ ss.map (·.1) := by
  have := h.nd
  rw [List.map_append, List.nodup_append] at this
  exact ⟨this.1, this.2.1, fun j hj hs => this.2.2 j hj j hs rfl⟩
theorem Rows.off (h : Rows w b mb most ts ss) : b ∉ (ts ++ ss).map (·.1) := fun e => by
  rw [List.map_append, List.mem_append] at e
  exact e.elim (h.ct.ne h.blk) (h.cs.ne h.blk)
theorem Rows.node (h : Rows w b mb most ts ss) (hm : (n, k) ∈ ts ++ ss) : ∃ a c ra, w.heap[n]? = some (nodeObj k a c ra) := by
  rcases List.mem_append.1 hm with hm | hm
  · obtain ⟨l, r, e⟩ := List.append_of_mem hm
    exact ⟨_, _, _, h.ct l n k r e⟩
  · obtain ⟨l, r, e⟩ := List.append_of_mem hm
    exact ⟨_, _, _, h.cs l n k r e⟩
def PulledPost (w : World) (b mb : Nat) (most : Int) (ts ss : List Nd) (n : Nat) (k : ByteArray) (e : Ending) (w' : World) : Prop :=
  e = .returned (.tuple #[]) ∧ ∃ ts1 ss1, Rows w' b mb most ts1 ss1 ∧ ts1.map (·.2) = without (ts.map (·.2)) k ∧ ss1.map (·.2) = without (ss.map (·.2)) k ∧ n ∉ (ts1 ++ ss1).map (·.1) ∧
    (∃ a c ra, w'.heap[n]? = some (nodeObj k a c ra)) ∧ (∀ p, p ∈ ts1 ++ ss1 ↔ p ∈ ts ++ ss ∧ p.2 ≠ k) ∧ Only (fun j => j = b ∨ j ∈ (ts ++ ss).map (·.1)) w w'
theorem pull_any (h : Rows w b mb most ts ss) (hk : ((ts ++ ss).map (·.2)).Nodup) (hm : (n, k) ∈ ts ++ ss) (hl : (ts ++ ss).length ≤ 9223372036854775807) :
    Calls Tryz.prog 82 #[.pointer (some ⟨n, 0, none⟩)] w (PulledPost w b mb most ts ss n k) := by
  have hlen : ts.length + ss.length ≤ 9223372036854775807 := by rw [List.length_append] at hl; exact hl
  have hoff := h.off
  have hnode := h.node hm
  rcases List.mem_append.1 hm with hm | hm
  · obtain ⟨l, r, e⟩ := List.append_of_mem hm
    subst e
    refine (pull_trial h.blk h.ct h.ndt.1 (by omega)).mono ?_
    rintro e w' ⟨⟨rfl, h1, h2, h3⟩, h4⟩
    have ho : Only (fun j => j = b ∨ j ∈ ((l ++ (n, k) :: r) ++ ss).map (·.1)) w w' := h3.mono fun j hj => hj.elim .inl fun e => e.elim (fun e => .inr (by rw [e]; simp)) (fun e => .inr (by rw [List.map_append]; exact List.mem_append.2 (.inl e)))
    have hnd := h.nd
    have hsub : ((l ++ r) ++ ss).Sublist ((l ++ (n, k) :: r) ++ ss) := (List.Sublist.append (List.Sublist.refl l) (List.sublist_cons_self _ _)).append (List.Sublist.refl _)
    have hn1 : n ∉ ((l ++ r) ++ ss).map (·.1) := fun e => by
      have h5 := h.nd
      rw [show (l ++ (n, k) :: r) ++ ss = l ++ (n, k) :: (r ++ ss) from by simp, List.map_append, List.map_cons, List.nodup_append, List.nodup_cons] at h5
      rw [List.append_assoc, List.map_append, List.mem_append] at e
      exact e.elim (fun e => h5.2.2 n e n (by simp) rfl) h5.2.1.1
    have hk2 := hk
    rw [List.map_append, List.nodup_append] at hk2
    have hks : k ∉ ss.map (·.2) := fun e => hk2.2.2 k (by simp) k e rfl
    refine ⟨rfl, l ++ r, ss, ⟨h1, h2, h.cs.same fun j hj => ?_, hnd.sublist (hsub.map _)⟩, ?_, (without_none hks).symm, hn1, by rw [h4]; exact hnode, fun p => ?_, ho⟩
    · have hjl : j < w.heap.size := by
        obtain ⟨_, _, _, e⟩ := h.cs.at_mem hj
        exact (Array.getElem?_eq_some_iff.1 e).1
      refine h3.same j hjl fun e => ?_
      rcases e with e | e | e
      · exact hoff (by rw [← e, List.map_append]; exact List.mem_append.2 (.inr hj))
      · exact h.ndt.2.2 n (by simp) (e ▸ hj)
      · exact h.ndt.2.2 j e hj
    · have := hk2.1
      rw [List.map_append, List.map_cons] at this
      rw [List.map_append, List.map_append, List.map_cons, without_split this]
    · have hp2 : ∀ p ∈ l ++ r, p.2 ≠ k := fun p hp e => by
        have := hk2.1
        rw [List.map_append, List.map_cons, List.nodup_append, List.nodup_cons] at this
        rcases List.mem_append.1 hp with hp | hp
        · exact this.2.2 k (e ▸ List.mem_map_of_mem hp) k (by simp) rfl
        · exact this.2.1.1 (by show k ∈ r.map (·.2); rw [← e]; exact List.mem_map_of_mem hp)
      constructor
      · intro hp
        refine ⟨hsub.subset hp, ?_⟩
        rcases List.mem_append.1 hp with hp | hp
        · exact hp2 p hp
        · exact fun e => hks (e ▸ List.mem_map_of_mem hp)
      · rintro ⟨hp, hne⟩
        simp only [List.mem_append, List.mem_cons] at hp ⊢
        rcases hp with (hp | rfl | hp) | hp
        · exact .inl (.inl hp)
        · exact absurd rfl hne
        · exact .inl (.inr hp)
        · exact .inr hp
  · obtain ⟨l, r, e⟩ := List.append_of_mem hm
    subst e
    refine (pull_safe h.blk h.cs h.ndt.2.1 (by omega)).mono ?_
    rintro e w' ⟨⟨rfl, h1, h2, h3⟩, h4⟩
    have ho : Only (fun j => j = b ∨ j ∈ (ts ++ (l ++ (n, k) :: r)).map (·.1)) w w' := h3.mono fun j hj => hj.elim .inl fun e => e.elim (fun e => .inr (by rw [e]; simp)) (fun e => .inr (by rw [List.map_append]; exact List.mem_append.2 (.inr e)))
    have hnd := h.nd
    have hsub : (ts ++ (l ++ r)).Sublist (ts ++ (l ++ (n, k) :: r)) := (List.Sublist.refl ts).append (List.Sublist.append (List.Sublist.refl l) (List.sublist_cons_self _ _))
    have hn1 : n ∉ (ts ++ (l ++ r)).map (·.1) := fun e => by
      have h5 := h.nd
      rw [show ts ++ (l ++ (n, k) :: r) = (ts ++ l) ++ (n, k) :: r from by simp, List.map_append, List.map_cons, List.nodup_append, List.nodup_cons] at h5
      rw [← List.append_assoc, List.map_append, List.mem_append] at e
      exact e.elim (fun e => h5.2.2 n e n (by simp) rfl) h5.2.1.1
    have hk2 := hk
    rw [List.map_append, List.nodup_append] at hk2
    have hks : k ∉ ts.map (·.2) := fun e => hk2.2.2 k e k (by simp) rfl
    refine ⟨rfl, ts, l ++ r, ⟨h1, h.ct.same fun j hj => ?_, h2, hnd.sublist (hsub.map _)⟩, (without_none hks).symm, ?_, hn1, by rw [h4]; exact hnode, fun p => ?_, ho⟩
    · have hjl : j < w.heap.size := by
        obtain ⟨_, _, _, e⟩ := h.ct.at_mem hj
        exact (Array.getElem?_eq_some_iff.1 e).1
      refine h3.same j hjl fun e => ?_
      rcases e with e | e | e
      · exact hoff (by rw [← e, List.map_append]; exact List.mem_append.2 (.inl hj))
      · exact h.ndt.2.2 j hj (by rw [e]; simp)
      · exact h.ndt.2.2 j hj e
    · have := hk2.2.1
      rw [List.map_append, List.map_cons] at this
      rw [List.map_append, List.map_append, List.map_cons, without_split this]
    · have hp2 : ∀ p ∈ l ++ r, p.2 ≠ k := fun p hp e => by
        have := hk2.2.1
        rw [List.map_append, List.map_cons, List.nodup_append, List.nodup_cons] at this
        rcases List.mem_append.1 hp with hp | hp
        · exact this.2.2 k (e ▸ List.mem_map_of_mem hp) k (by simp) rfl
        · exact this.2.1.1 (by show k ∈ r.map (·.2); rw [← e]; exact List.mem_map_of_mem hp)
      constructor
      · intro hp
        refine ⟨hsub.subset hp, ?_⟩
        rcases List.mem_append.1 hp with hp | hp
        · exact fun e => hks (e ▸ List.mem_map_of_mem hp)
        · exact hp2 p hp
      · rintro ⟨hp, hne⟩
        simp only [List.mem_append, List.mem_cons] at hp ⊢
        rcases hp with hp | hp | rfl | hp
        · exact .inl hp
        · exact .inr (.inl hp)
        · exact absurd rfl hne
        · exact .inr (.inr hp)
def PushedPost (w : World) (b mb : Nat) (most : Int) (ts ss ts1 ss1 : List Nd) (n : Nat) (e : Ending) (w' : World) : Prop :=
  e = .returned (.tuple #[]) ∧ Rows w' b mb most ts1 ss1 ∧ Only (fun j => j = b ∨ j = n ∨ j ∈ (ts ++ ss).map (·.1)) w w'
theorem put_trial (h : Rows w b mb most ts ss) {u1 u2 u3 : Value} (hn : w.heap[n]? = some (.cells #[.string k, u1, u2, u3] 150 (0, 0))) (hno : n ∉ (ts ++ ss).map (·.1)) (hl : (ts ++ ss).length + 1 ≤ 9223372036854775807) :
    Calls Tryz.prog 76 #[.pointer (some ⟨b, 2, none⟩), .pointer (some ⟨n, 0, none⟩)] w (PushedPost w b mb most ts ss (ts ++ [(n, k)]) ss n) := by
  have hlen : ts.length + ss.length + 1 ≤ 9223372036854775807 := by rw [List.length_append] at hl; exact hl
  have hoff := h.off
  have hno2 := hno
  rw [List.map_append, List.mem_append] at hno2
  refine (push_trial h.blk h.ct h.ndt.1 hn (fun e => hno2 (.inl e)) (by omega)).mono ?_
  rintro e w' ⟨rfl, h1, h2, h3⟩
  refine ⟨rfl, ⟨h1, h2, h.cs.same fun j hj => ?_, ?_⟩, h3.mono fun j hj => hj.elim .inl fun e => .inr (e.elim .inl fun e => .inr (by rw [List.map_append]; exact List.mem_append.2 (.inl e)))⟩
  · have hjl : j < w.heap.size := by
      obtain ⟨_, _, _, e⟩ := h.cs.at_mem hj
      exact (Array.getElem?_eq_some_iff.1 e).1
    refine h3.same j hjl fun e => ?_
    rcases e with e | e | e
    · exact hoff (by rw [← e, List.map_append]; exact List.mem_append.2 (.inr hj))
    · exact hno2 (.inr (e ▸ hj))
    · exact h.ndt.2.2 j e hj
  · have hp : ((n, k) :: (ts ++ ss)).Perm (ts ++ [(n, k)] ++ ss) := by
      rw [List.append_assoc]
      exact (List.perm_middle (a := (n, k)) (l₁ := ts) (l₂ := ss)).symm
    exact ((hp.map (·.1)).nodup_iff).1 (List.nodup_cons.2 ⟨hno, h.nd⟩)
theorem put_safe (h : Rows w b mb most ts ss) {u1 u2 u3 : Value} (hn : w.heap[n]? = some (.cells #[.string k, u1, u2, u3] 150 (0, 0))) (hno : n ∉ (ts ++ ss).map (·.1)) (hl : (ts ++ ss).length + 1 ≤ 9223372036854775807) :
    Calls Tryz.prog 76 #[.pointer (some ⟨b, 5, none⟩), .pointer (some ⟨n, 0, none⟩)] w (PushedPost w b mb most ts ss ts (ss ++ [(n, k)]) n) := by
  have hlen : ts.length + ss.length + 1 ≤ 9223372036854775807 := by rw [List.length_append] at hl; exact hl
  have hoff := h.off
  have hno2 := hno
  rw [List.map_append, List.mem_append] at hno2
  refine (push_safe h.blk h.cs h.ndt.2.1 hn (fun e => hno2 (.inr e)) (by omega)).mono ?_
  rintro e w' ⟨rfl, h1, h2, h3⟩
  refine ⟨rfl, ⟨h1, h.ct.same fun j hj => ?_, h2, ?_⟩, h3.mono fun j hj => hj.elim .inl fun e => .inr (e.elim .inl fun e => .inr (by rw [List.map_append]; exact List.mem_append.2 (.inr e)))⟩
  · have hjl : j < w.heap.size := by
      obtain ⟨_, _, _, e⟩ := h.ct.at_mem hj
      exact (Array.getElem?_eq_some_iff.1 e).1
    refine h3.same j hjl fun e => ?_
    rcases e with e | e | e
    · exact hoff (by rw [← e, List.map_append]; exact List.mem_append.2 (.inl hj))
    · exact hno2 (.inl (e ▸ hj))
    · exact h.ndt.2.2 j hj e
  · have hp : ((n, k) :: (ts ++ ss)).Perm (ts ++ (ss ++ [(n, k)])) := by
      rw [← List.append_assoc]
      exact (List.perm_append_singleton (n, k) (ts ++ ss)).symm
    exact ((hp.map (·.1)).nodup_iff).1 (List.nodup_cons.2 ⟨hno, h.nd⟩)
end
end Go.Proofs.YteonjgnnpgpnnaaGreat.Slru

/- Layer 8: the walks of New, Len, Protected, Add. -/
namespace Go.Proofs.YteonjgnnpgpnnaaGreat.Slru
open Go Go.RowKit Go.Proofs.YteonjgnnpgpnnaaGreat.Mem

def key? (ps : List (ByteArray × Value)) (xs : List Nd) : Prop := ∀ k v, Maps.get ps k = some v ↔ ∃ n, (n, k) ∈ xs ∧ v = .pointer (some ⟨n, 0, none⟩)
/-- The list at block b, its map at mb; all that is its own is in F. -/
structure AtW (w : World) (b : Nat) (F : Nat → Prop) (s : St) (mb : Nat) (ts ss : List Nd) (ps : List (ByteArray × Value)) : Prop where
  rows : Rows w b mb s.most ts ss
  map : Maps.Is Value.string w mb ps
  look : key? ps (ts ++ ss)
  pnd : (ps.map (·.1)).Nodup
  tr : ts.map (·.2) = s.trial
  sf : ss.map (·.2) = s.safe
  knd : s.all.Nodup
  fb : F b
  fm : F mb
  fn : ∀ j ∈ (ts ++ ss).map (·.1), F j
  lt : ∀ k, F k → k < w.heap.size
def At (w : World) (b : Nat) (F : Nat → Prop) (s : St) : Prop := ∃ mb ts ss ps, AtW w b F s mb ts ss ps
section
variable {w w' : World} {b mb n : Nat} {F : Nat → Prop} {s : St} {ts ss : List Nd} {ps : List (ByteArray × Value)} {k : ByteArray}
theorem AtW.all (h : AtW w b F s mb ts ss ps) : s.all = (ts ++ ss).map (·.2) := by unfold St.all; rw [← h.tr, ← h.sf, List.map_append]
theorem AtW.same (h : AtW w b F s mb ts ss ps) (hs : ∀ k, F k → w'.heap[k]? = w.heap[k]?) (hz : w.heap.size ≤ w'.heap.size) : AtW w' b F s mb ts ss ps :=
  ⟨h.rows.same fun j hj => hs j (hj.elim (fun e => e ▸ h.fb) (h.fn j)), h.map.same (hs mb h.fm), h.look, h.pnd, h.tr, h.sf, h.knd, h.fb, h.fm, h.fn, fun k hk => Nat.lt_of_lt_of_le (h.lt k hk) hz⟩
theorem At.same (h : At w b F s) (hs : ∀ k, F k → w'.heap[k]? = w.heap[k]?) (hz : w.heap.size ≤ w'.heap.size) : At w' b F s := by
  obtain ⟨mb, ts, ss, ps, h⟩ := h
  exact ⟨mb, ts, ss, ps, h.same hs hz⟩
theorem At.lt (h : At w b F s) : ∀ k, F k → k < w.heap.size := by obtain ⟨_, _, _, _, h⟩ := h; exact h.lt
theorem At.below (h : At w b F s) (ho : Below w.heap.size w w') : At w' b F s := h.same (fun k hk => ho.block k (h.lt k hk)) ho.size
theorem At.only {G : Nat → Prop} (h : At w b F s) (ho : Only G w w') (hd : ∀ k, F k → ¬ G k) : At w' b F s := h.same (fun k hk => ho.same k (h.lt k hk) (hd k hk)) ho.size
theorem At.nodup (h : At w b F s) : s.all.Nodup := by obtain ⟨_, _, _, _, h⟩ := h; exact h.knd
theorem AtW.map_off (h : AtW w b F s mb ts ss ps) : mb ≠ b ∧ mb ∉ (ts ++ ss).map (·.1) := by
  obtain ⟨es, clock, hb, _⟩ := h.map
  refine ⟨fun e => ?_, fun hm => ?_⟩
  · subst e
    have := h.rows.blk
    rw [hb] at this
    injection this with this
    cases this
  · obtain ⟨⟨n, k⟩, hn, e⟩ := List.mem_map.1 hm
    simp only at e
    subst e
    obtain ⟨_, _, _, e2⟩ := h.rows.node hn
    rw [hb] at e2
    injection e2 with e2
    cases e2
theorem AtW.get_some (h : AtW w b F s mb ts ss ps) (hk : k ∈ s.all) : ∃ n, (n, k) ∈ ts ++ ss ∧ Maps.get ps k = some (.pointer (some ⟨n, 0, none⟩)) := by
  rw [h.all] at hk
  obtain ⟨⟨n, k'⟩, hm, e⟩ := List.mem_map.1 hk
  simp only at e
  subst e
  exact ⟨n, hm, (h.look _ _).2 ⟨n, hm, rfl⟩⟩
theorem AtW.get_none (h : AtW w b F s mb ts ss ps) (hk : k ∉ s.all) : Maps.get ps k = none := by
  rcases hg : Maps.get ps k with _ | v
  · rfl
  · obtain ⟨n, hn, _⟩ := (h.look k v).1 hg
    exact absurd (by rw [h.all]; exact List.mem_map.2 ⟨_, hn, rfl⟩) hk
end

theorem zeroNode (w : World) : (zeroValue 110).run Tryz.prog w = .ok (.pointer none) w := by kernel_rfl
theorem strLaw : Maps.KeyLaw Tryz.prog 9 Value.string := Maps.stringLaw Tryz.underlying9

theorem new_any (most : Int) (w : World) : Calls Tryz.prog 21 #[.int .i64 most] w fun e w' =>
    e = .returned (.pointer (some ⟨w.heap.size + 1, 0, none⟩)) ∧ w' = (w.alloc (.map #[] 0)).alloc (listObj most w.heap.size [] []) := by
  have hmm := @run_makeMap Tryz.prog
  go_enter Tryz.func21, Tryz.ntmps21
  go_wp2
  go_ret
  exact ⟨rfl, rfl⟩
theorem new_gives (most : Int) (w : World) : Calls Tryz.prog 21 #[.int .i64 most] w fun e w' =>
    ∃ (b : Nat) (F : Nat → Prop), e = .returned (.pointer (some ⟨b, 0, none⟩)) ∧ At w' b F (new most) ∧ (∀ k, F k → w.heap.size ≤ k) ∧ Below w.heap.size w w' :=
  (new_any most w).mono fun e w' ⟨he, hw⟩ => by
    subst hw
    refine ⟨_, fun k => k = w.heap.size ∨ k = w.heap.size + 1, he, ⟨w.heap.size, [], [], [], ⟨Mem.new_block2 w _ _, fun l n k r e => by simp at e, fun l n k r e => by simp at e, List.nodup_nil⟩, (Maps.Is.new w).same (Below.heap_alloc _ _ _ (by simp)), fun k v => by simp [Maps.get], List.nodup_nil, rfl, rfl, List.nodup_nil, .inr rfl, .inl rfl, fun j hj => by simp at hj, ?_⟩, fun k hk => by omega, Mem.al (Mem.al (Below.refl _ _) _) _⟩
    rintro k (rfl | rfl) <;> simp <;> omega
end Go.Proofs.YteonjgnnpgpnnaaGreat.Slru

/- Layer 8: the walks of Add, Remove. -/
namespace Go.Proofs.YteonjgnnpgpnnaaGreat.Slru
open Go Go.RowKit Go.Proofs.YteonjgnnpgpnnaaGreat.Mem

def TurnPost (w : World) (b : Nat) (F : Nat → Prop) (y : Int × St) (e : Ending) (w' : World) : Prop := ∃ F', e = .returned (.int .i64 y.1) ∧ At w' b F' y.2 ∧ Only F w w' ∧ Grows w F F'
theorem node_lt {w : World} {b : Nat} {F : Nat → Prop} {s : St} {mb : Nat} {ts ss : List Nd} {ps : List (ByteArray × Value)} (h : AtW w b F s mb ts ss ps) : w.heap.size ∉ (ts ++ ss).map (·.1) := fun e => Nat.lt_irrefl _ (h.lt _ (h.fn _ e))

set_option maxRecDepth 100000 in
set_option maxHeartbeats 2000000 in
theorem add_any {w : World} {b : Nat} {F : Nat → Prop} {s : St} (h : At w b F s) (k : ByteArray) (hl : s.all.length + 1 ≤ 9223372036854775807) :
    Calls Tryz.prog 44 #[.pointer (some ⟨b, 0, none⟩), .string k] w (TurnPost w b F (s.add k)) := by
  have hat := h
  obtain ⟨mb, ts, ss, ps, h⟩ := h
  have c1 := Mem.row_cell h.rows.blk 1
  simp only [listArr, List.getElem?_toArray, List.getElem?_cons_zero, List.getElem?_cons_succ] at c1
  have hlk0 := Maps.run_lookup strLaw Tryz.underlying109 zeroNode h.map k
  by_cases hk : k ∈ s.all
  · obtain ⟨n, hm, hg⟩ := h.get_some hk
    rw [hg] at hlk0
    have hlk : ∀ _ : True, (Instr.lookup 109 (.map (some mb)) (.string k) false).run Tryz.prog w = .ok (.pointer (some ⟨n, 0, none⟩)) w := fun _ => hlk0
    have e : s.add k = (7, s) := by unfold St.add; rw [if_pos hk]
    have HF := Lib.hid (show TurnPost w b F (s.add k) (.returned (.int .i64 7)) w by rw [e]; exact ⟨F, rfl, hat, Only.refl _ _, Grows.refl _ _⟩)
    clear h hlk0 hk hm hg e hat hl
    go_enter Tryz.func44, Tryz.ntmps44
    go_wp2_with fail
    go_ret
    exact HF.out
  · have hg := h.get_none hk
    rw [hg] at hlk0
    have hlk : ∀ _ : True, (Instr.lookup 109 (.map (some mb)) (.string k) false).run Tryz.prog w = .ok (.pointer none) w := fun _ => hlk0
    obtain ⟨w1, hw1⟩ : ∃ w1, w.alloc (.cells #[.string k, .pointer none, .pointer none, .pointer none] 150) = w1 := ⟨_, rfl⟩
    have hs1 : ∀ j, j < w.heap.size → w1.heap[j]? = w.heap[j]? := fun j hj => by rw [← hw1]; exact Below.heap_alloc _ _ _ hj
    have hz1 : w1.heap.size = w.heap.size + 1 := by rw [← hw1]; simp
    have hn1 : w1.heap[w.heap.size]? = some (.cells #[.string k, .pointer none, .pointer none, .pointer none] 150 (0, 0)) := by rw [← hw1]; exact Mem.new_block w _
    have ho1 : Only F w w1 := by rw [← hw1]; exact (Only.refl _ _).alloc _
    have h1 := h.same (w' := w1) (fun j hj => hs1 j (h.lt j hj)) (by omega)
    obtain ⟨o, hmu, hIs⟩ := Maps.run_update (w := w1) strLaw Tryz.underlying109 h1.map k (.pointer (some ⟨w.heap.size, 0, none⟩))
    have hmu' : ∀ _ : True, (Instr.mapUpdate 109 (.map (some mb)) (.string k) (.pointer (some ⟨w.heap.size, 0, none⟩))).run Tryz.prog w1 = .ok () (w1.putObj mb o) := fun _ => hmu
    have hmo := h.map_off
    have hbl : b < w.heap.size := h.lt b h.fb
    have hml : mb < w.heap.size := h.lt mb h.fm
    have c1' := Mem.row_cell h1.rows.blk 1
    simp only [listArr, List.getElem?_toArray, List.getElem?_cons_zero, List.getElem?_cons_succ] at c1'
    have hR2 : Rows (w1.putObj mb o) b mb s.most ts ss := h1.rows.same fun j hj => World.putObj_heap_other (fun e => hj.elim (fun e2 => hmo.1 (e ▸ e2)) (fun e2 => hmo.2 (e ▸ e2)))
    have hn2 : (w1.putObj mb o).heap[w.heap.size]? = some (.cells #[.string k, .pointer none, .pointer none, .pointer none] 150 (0, 0)) := (World.putObj_heap_other (by omega)).trans hn1
    have hlen : (ts ++ ss).length + 1 ≤ 9223372036854775807 := by have := h.all; rw [this] at hl; simpa using hl
    have hcall := put_trial hR2 hn2 (node_lt h) hlen
    have ho2 : Only F w (w1.putObj mb o) := ho1.putObj (.inl h.fm) o
    have hz2 : (w1.putObj mb o).heap.size = w.heap.size + 1 := by rw [World.putObj_size, hz1]
    have HH := Lib.hid (And.intro h (And.intro hIs (And.intro hg (And.intro hk (And.intro ho2 hmo)))))
    clear hlk0 hg hk hat hl h h1 hmu hIs hmo hR2 hn2 ho1 ho2 hn1 hs1 hlen hbl hml
    go_enter Tryz.func44, Tryz.ntmps44
    go_upto_region 4 with (fail)
    go_wp2_with fail
    refine hcall.mono ?_
    rintro e w4 ⟨rfl, h4, o4⟩
    obtain ⟨h, hIs, hg, hk, ho2, hmo⟩ := HH.out
    have hps : Maps.set ps k (.pointer (some ⟨w.heap.size, 0, none⟩)) = ps ++ [(k, .pointer (some ⟨w.heap.size, 0, none⟩))] := set_new _ hg
    have hm4 : Maps.Is Value.string w4 mb (Maps.set ps k (.pointer (some ⟨w.heap.size, 0, none⟩))) := by
      refine hIs.same (o4.same mb (by have := h.lt mb h.fm; omega) fun e => ?_)
      rcases e with e | e | e
      · exact hmo.1 e
      · have := h.lt mb h.fm; omega
      · exact hmo.2 e
    have hz4 : w.heap.size + 1 ≤ w4.heap.size := by have := o4.size; omega
    have hka : k ∉ (ts ++ ss).map (·.2) := by rw [← h.all]; exact hk
    have hat4 : AtW w4 b (fun j => F j ∨ j = w.heap.size) { s with trial := s.trial ++ [k] } mb (ts ++ [(w.heap.size, k)]) ss (Maps.set ps k (.pointer (some ⟨w.heap.size, 0, none⟩))) := by
      refine ⟨h4, hm4, fun k' v => ?_, ?_, by rw [List.map_append, h.tr]; rfl, h.sf, ?_, .inl h.fb, .inl h.fm, fun j hj => ?_, fun j hj => ?_⟩
      · rw [get_set]
        by_cases e : k' = k
        · rw [if_pos e, e]
          constructor
          · intro e2; injection e2 with e2; exact ⟨_, by simp, e2.symm⟩
          · rintro ⟨n, hn, rfl⟩
            have : n = w.heap.size := by
              simp only [List.mem_append, List.mem_cons, List.not_mem_nil, or_false] at hn
              rcases hn with (hn | hn) | hn
              · exact absurd (List.mem_map.2 ⟨_, List.mem_append.2 (.inl hn), rfl⟩) hka
              · injection hn
              · exact absurd (List.mem_map.2 ⟨_, List.mem_append.2 (.inr hn), rfl⟩) hka
            rw [this]
        · rw [if_neg e, h.look]
          constructor
          · rintro ⟨n, hn, rfl⟩
            exact ⟨n, by simp only [List.mem_append] at hn ⊢; exact hn.elim (fun e => .inl (.inl e)) .inr, rfl⟩
          · rintro ⟨n, hn, rfl⟩
            refine ⟨n, ?_, rfl⟩
            simp only [List.mem_append, List.mem_cons, List.not_mem_nil, or_false] at hn ⊢
            rcases hn with (hn | hn) | hn
            · exact .inl hn
            · injection hn with _ hn; exact absurd hn e
            · exact .inr hn
      · rw [hps, List.map_append]
        exact List.nodup_append.2 ⟨h.pnd, by simp, fun a ha c hc => by
          have : c = k := by simpa using hc
          subst this
          exact fun e => get_none hg (e ▸ ha)⟩
      · have hp : (k :: s.all).Perm (s.trial ++ [k] ++ s.safe) := by
          unfold St.all
          rw [List.append_assoc]
          exact (List.perm_middle (a := k) (l₁ := s.trial) (l₂ := s.safe)).symm
        exact (hp.nodup_iff).1 (List.nodup_cons.2 ⟨hk, h.knd⟩)
      · simp only [List.map_append, List.mem_append, List.map_cons, List.map_nil, List.mem_cons, List.not_mem_nil, or_false] at hj
        rcases hj with (hj | hj) | hj
        · exact .inl (h.fn j (by simp only [List.map_append, List.mem_append]; exact .inl hj))
        · exact .inr hj
        · exact .inl (h.fn j (by simp only [List.map_append, List.mem_append]; exact .inr hj))
      · exact hj.elim (fun e => by have := h.lt j e; omega) (fun e => by omega)
    have hres : TurnPost w b F (s.add k) (.returned (.int .i64 0)) w4 := by
      have e : s.add k = (0, { s with trial := s.trial ++ [k] }) := by unfold St.add; rw [if_neg hk]
      rw [e]
      refine ⟨_, rfl, ⟨_, _, _, _, hat4⟩, ho2.trans o4 fun j hj => ?_, fun j hj => hj.elim .inl (fun e => .inr (by omega))⟩
      rcases hj with e | e | e
      · exact .inl (e ▸ h.fb)
      · exact .inr (by omega)
      · exact .inl (h.fn j e)
    have HR := Lib.hid hres
    clear h4 o4 hres hat4 hm4
    go_wp2_with fail
    go_ret
    exact HR.out
end Go.Proofs.YteonjgnnpgpnnaaGreat.Slru

/- Layer 8: the walks of Remove, Hit. -/
namespace Go.Proofs.YteonjgnnpgpnnaaGreat.Slru
open Go Go.RowKit Go.Proofs.YteonjgnnpgpnnaaGreat.Mem

theorem key_uniq {xs : List Nd} (h : (xs.map (·.2)).Nodup) {p q : Nd} (hp : p ∈ xs) (hq : q ∈ xs) (e : p.2 = q.2) : p = q := by
  induction xs with
  | nil => cases hp
  | cons x xs ih =>
    have hn := List.nodup_cons.1 h
    rcases List.mem_cons.1 hp with h1 | h1
    · rcases List.mem_cons.1 hq with h2 | h2
      · rw [h1, h2]
      · exact absurd (show x.2 ∈ xs.map (·.2) by rw [← h1, e]; exact List.mem_map_of_mem h2) hn.1
    · rcases List.mem_cons.1 hq with h2 | h2
      · exact absurd (show x.2 ∈ xs.map (·.2) by rw [← h2, ← e]; exact List.mem_map_of_mem h1) hn.1
      · exact ih hn.2 h1 h2
theorem back_in {A A1 : List Nd} {n : Nat} {k : ByteArray} (hk : (A.map (·.2)).Nodup) (hm : (n, k) ∈ A) (h : ∀ p, p ∈ A1 ↔ p ∈ A ∧ p.2 ≠ k) (p : Nd) : (p ∈ A1 ∨ p = (n, k)) ↔ p ∈ A := by
  constructor
  · rintro (e | rfl)
    · exact ((h p).1 e).1
    · exact hm
  · intro e
    by_cases e2 : p.2 = k
    · exact .inr (key_uniq hk e hm e2)
    · exact .inl ((h p).2 ⟨e, e2⟩)
theorem len_pulled {ts ss ts1 ss1 : List Nd} {k : ByteArray} (hk : k ∈ (ts ++ ss).map (·.2)) (ht : ts1.map (·.2) = without (ts.map (·.2)) k) (hs : ss1.map (·.2) = without (ss.map (·.2)) k) : (ts1 ++ ss1).length + 1 ≤ (ts ++ ss).length := by
  have e1 := congrArg List.length ht
  have e2 := congrArg List.length hs
  have e3 := without_lt hk
  rw [List.map_append, without_app, List.length_append, List.length_append] at e3
  simp only [List.length_map] at e1 e2 e3
  rw [List.length_append, List.length_append]
  omega
section
variable {w w' : World} {b mb n : Nat} {F : Nat → Prop} {s s' : St} {ts ss ts1 ss1 : List Nd} {ps : List (ByteArray × Value)} {k : ByteArray}
theorem AtW.map_kept (h : AtW w b F s mb ts ss ps) (ho : Only (fun j => j = b ∨ j ∈ (ts ++ ss).map (·.1)) w w') : Maps.Is Value.string w' mb ps :=
  h.map.same (ho.same mb (h.lt mb h.fm) fun e => e.elim (fun e => h.map_off.1 e) (fun e => h.map_off.2 e))
/-- The rows turned, with the nodes that there were. -/
theorem AtW.turned (h : AtW w b F s mb ts ss ps) (hr : Rows w' b mb s'.most ts1 ss1) (ho : Only (fun j => j = b ∨ j ∈ (ts ++ ss).map (·.1)) w w') (hi : ∀ p, p ∈ ts1 ++ ss1 ↔ p ∈ ts ++ ss)
    (ht : ts1.map (·.2) = s'.trial) (hs : ss1.map (·.2) = s'.safe) (hk : s'.all.Nodup) : AtW w' b F s' mb ts1 ss1 ps :=
  ⟨hr, h.map_kept ho, fun k v => by rw [h.look]; constructor <;> rintro ⟨n, hn, rfl⟩ <;> exact ⟨n, by first | exact (hi _).2 hn | exact (hi _).1 hn, rfl⟩, h.pnd, ht, hs, hk, h.fb, h.fm,
    fun j hj => by
      obtain ⟨p, hp, rfl⟩ := List.mem_map.1 hj
      exact h.fn _ (List.mem_map_of_mem ((hi p).1 hp)), fun j hj => Nat.lt_of_lt_of_le (h.lt j hj) ho.size⟩
theorem AtW.only (h : AtW w b F s mb ts ss ps) (ho : Only (fun j => j = b ∨ j ∈ (ts ++ ss).map (·.1)) w w') : Only F w w' := ho.mono fun j hj => hj.elim (fun e => e ▸ h.fb) (h.fn j)
theorem AtW.kn (h : AtW w b F s mb ts ss ps) : ((ts ++ ss).map (·.2)).Nodup := by rw [← h.all]; exact h.knd
theorem AtW.ln (h : AtW w b F s mb ts ss ps) : (ts ++ ss).length = s.all.length := by rw [h.all]; simp
/-- A key taken out. -/
theorem AtW.removed (h : AtW w b F s mb ts ss ps) {o : Obj} {w1 : World} (hr : Rows w1 b mb s.most ts1 ss1) (ho : Only (fun j => j = b ∨ j ∈ (ts ++ ss).map (·.1)) w w1) (hi : ∀ p, p ∈ ts1 ++ ss1 ↔ p ∈ ts ++ ss ∧ p.2 ≠ k)
    (ht : ts1.map (·.2) = without (ts.map (·.2)) k) (hs : ss1.map (·.2) = without (ss.map (·.2)) k) (hm : Maps.Is Value.string (w1.putObj mb o) mb (Maps.del ps k)) :
    AtW (w1.putObj mb o) b F { s with trial := without s.trial k, safe := without s.safe k } mb ts1 ss1 (Maps.del ps k) := by
  have hsub : ∀ j, j ∈ (ts1 ++ ss1).map (·.1) → j ∈ (ts ++ ss).map (·.1) := fun j hj => by
    obtain ⟨p, hp, rfl⟩ := List.mem_map.1 hj
    exact List.mem_map_of_mem ((hi p).1 hp).1
  refine ⟨hr.same fun j hj => World.putObj_heap_other (fun e => hj.elim (fun e2 => h.map_off.1 (e ▸ e2)) (fun e2 => h.map_off.2 (hsub _ (e ▸ e2)))), hm, fun k' v => ?_, h.pnd.sublist ((del_sub ps k).map _), by rw [ht, h.tr], by rw [hs, h.sf], ?_, h.fb, h.fm, fun j hj => h.fn j (hsub j hj), fun j hj => by rw [World.putObj_size]; exact Nat.lt_of_lt_of_le (h.lt j hj) ho.size⟩
  · rw [get_del h.pnd]
    by_cases e : k' = k
    · rw [if_pos e, e]
      constructor
      · intro e2; cases e2
      · rintro ⟨n, hn, _⟩
        exact absurd rfl ((hi _).1 hn).2
    · rw [if_neg e, h.look]
      constructor
      · rintro ⟨n, hn, rfl⟩; exact ⟨n, (hi _).2 ⟨hn, e⟩, rfl⟩
      · rintro ⟨n, hn, rfl⟩; exact ⟨n, ((hi _).1 hn).1, rfl⟩
  · show (without s.trial k ++ without s.safe k).Nodup
    rw [← without_app]
    exact without_nodup k h.knd
end

set_option maxRecDepth 100000 in
set_option maxHeartbeats 2000000 in
theorem remove_any {w : World} {b : Nat} {F : Nat → Prop} {s : St} (h : At w b F s) (k : ByteArray) (hl : s.all.length ≤ 9223372036854775807) :
    Calls Tryz.prog 65 #[.pointer (some ⟨b, 0, none⟩), .string k] w (TurnPost w b F (s.remove k)) := by
  have hat := h
  obtain ⟨mb, ts, ss, ps, h⟩ := h
  have c1 := Mem.row_cell h.rows.blk 1
  simp only [listArr, List.getElem?_toArray, List.getElem?_cons_zero, List.getElem?_cons_succ] at c1
  have hlk0 := Maps.run_lookup strLaw Tryz.underlying109 zeroNode h.map k
  by_cases hk : k ∈ s.all
  · obtain ⟨n, hm, hg⟩ := h.get_some hk
    rw [hg] at hlk0
    have hlk : ∀ _ : True, (Instr.lookup 109 (.map (some mb)) (.string k) false).run Tryz.prog w = .ok (.pointer (some ⟨n, 0, none⟩)) w := fun _ => hlk0
    have e : s.remove k = (0, { s with trial := without s.trial k, safe := without s.safe k }) := by unfold St.remove; rw [if_pos hk]
    have hcall := pull_any h.rows h.kn hm (by rw [h.ln]; exact hl)
    have HH := Lib.hid h
    have HE := Lib.hid e
    clear h hlk0 hk hm hg e hat hl
    go_enter Tryz.func65, Tryz.ntmps65
    go_wp2_with fail
    refine hcall.mono ?_
    rintro e w1 ⟨rfl, ts1, ss1, hr, ht, hs, -, -, hi, ho⟩
    have c1' := Mem.row_cell hr.blk 1
    simp only [listArr, List.getElem?_toArray, List.getElem?_cons_zero, List.getElem?_cons_succ] at c1'
    obtain ⟨o, hdel, hIs⟩ := Maps.run_delete (w := w1) strLaw Tryz.underlying109 (HH.out.map_kept ho) k 0 9
    have hdel' : ∀ _ : True, (Builtin.delete_ #[109, 9] 0 #[.map (some mb), .string k]).run Tryz.prog w1 = .ok (.tuple #[]) (w1.putObj mb o) := fun _ => hdel
    have hres : TurnPost w b F (s.remove k) (.returned (.int .i64 0)) (w1.putObj mb o) := by
      rw [HE.out]
      exact ⟨F, rfl, ⟨_, _, _, _, HH.out.removed hr ho hi ht hs hIs⟩, (HH.out.only ho).putObj (.inl HH.out.fm) o, Grows.refl _ _⟩
    have HR := Lib.hid hres
    clear hr ht hs hi ho hdel hIs hres hlk hcall
    go_wp2_with fail
    go_ret
    exact HR.out
  · have hg := h.get_none hk
    rw [hg] at hlk0
    have hlk : ∀ _ : True, (Instr.lookup 109 (.map (some mb)) (.string k) false).run Tryz.prog w = .ok (.pointer none) w := fun _ => hlk0
    have e : s.remove k = (6, s) := by unfold St.remove; rw [if_neg hk]
    have HF := Lib.hid (show TurnPost w b F (s.remove k) (.returned (.int .i64 6)) w by rw [e]; exact ⟨F, rfl, hat, Only.refl _ _, Grows.refl _ _⟩)
    clear h hlk0 hk hg e hat hl
    go_enter Tryz.func65, Tryz.ntmps65
    go_wp2_with fail
    go_ret
    exact HF.out

/-- Taken out, and put at the end: the rows as they are in the midst of a hit. -/
structure Mid (w : World) (b : Nat) (F : Nat → Prop) (s : St) (mb : Nat) (ts ss : List Nd) (ps : List (ByteArray × Value)) (k : ByteArray) (w' : World) (ts1 ss1 : List Nd) : Prop where
  at_ : AtW w b F s mb ts ss ps
  rows : Rows w' b mb s.most ts1 ss1
  only : Only (fun j => j = b ∨ j ∈ (ts ++ ss).map (·.1)) w w'
  mem : ∀ p, p ∈ ts1 ++ ss1 ↔ p ∈ ts ++ ss
  tr : ts1.map (·.2) = without s.trial k
  sf : ss1.map (·.2) = without s.safe k ++ [k]
  kin : k ∈ s.all
section
variable {w w' : World} {b mb n : Nat} {F : Nat → Prop} {s : St} {ts ss ts1 ss1 : List Nd} {ps : List (ByteArray × Value)} {k : ByteArray}
theorem Mid.drew (h : Mid w b F s mb ts ss ps k w' ts1 ss1) : Mid w b F s mb ts ss ps k w'.drew ts1 ss1 := ⟨h.at_, h.rows.same fun _ _ => rfl, h.only.drew, h.mem, h.tr, h.sf, h.kin⟩
theorem Mid.kn (h : Mid w b F s mb ts ss ps k w' ts1 ss1) : ((ts1 ++ ss1).map (·.2)).Nodup := by
  rw [List.map_append, h.tr, h.sf, ← List.append_assoc, ← without_app]
  exact List.nodup_append.2 ⟨without_nodup k h.at_.knd, by simp, fun a ha c hc => by
    have : c = k := by simpa using hc
    subst this
    exact (without_mem.1 ha).2⟩
theorem Mid.hit0 (h : Mid w b F s mb ts ss ps k w' ts1 ss1) (hx : ¬ max s.most 0 < (ss1.length : Int)) : TurnPost w b F (s.hit k) (.returned (.int .i64 0)) w' := by
  have hlen : ss1.length = (without s.safe k ++ [k]).length := by rw [← h.sf]; simp
  have e : s.hit k = (0, { s with trial := without s.trial k, safe := without s.safe k ++ [k] }) := by
    unfold St.hit St.moved; rw [if_pos h.kin, if_neg (by rw [← hlen]; exact hx)]
  rw [e]
  refine ⟨F, rfl, ⟨mb, ts1, ss1, ps, h.at_.turned (s' := { s with trial := without s.trial k, safe := without s.safe k ++ [k] }) h.rows h.only h.mem h.tr h.sf ?_⟩, h.at_.only h.only, Grows.refl _ _⟩
  have := h.kn
  rw [List.map_append, h.tr, h.sf] at this
  exact this
theorem Mid.hit1 {q : Nat} {kq : ByteArray} {ts2 ss2 : List Nd} (h : Mid w b F s mb ts ss ps k w' ts1 ((q, kq) :: ss1)) (hx : max s.most 0 < (((q, kq) :: ss1).length : Int)) {w2 : World} (hr : Rows w2 b mb s.most (ts2 ++ [(q, kq)]) ss2)
    (ho : Only (fun j => j = b ∨ j ∈ (ts ++ ss).map (·.1)) w w2) (hm : ∀ p, p ∈ ts2 ++ ss2 ↔ p ∈ ts1 ++ ((q, kq) :: ss1) ∧ p.2 ≠ kq) (ht : ts2.map (·.2) = without (ts1.map (·.2)) kq) (hs : ss2.map (·.2) = without (((q, kq) :: ss1).map (·.2)) kq) :
    TurnPost w b F (s.hit k) (.returned (.int .i64 0)) w2 := by
  have hkn := h.kn
  have hsf := h.sf
  have hlen : ((q, kq) :: ss1).length = (without s.safe k ++ [k]).length := by rw [← h.sf]; simp
  have e : s.hit k = (0, { s with trial := without s.trial k ++ (without s.safe k ++ [k]).take 1, safe := (without s.safe k ++ [k]).drop 1 }) := by
    unfold St.hit St.moved; rw [if_pos h.kin, if_pos (by rw [← hlen]; exact hx)]
  rw [List.map_append, List.map_cons, List.nodup_append, List.nodup_cons] at hkn
  have hqt : kq ∉ ts1.map (·.2) := fun e => hkn.2.2 kq e kq (by simp) rfl
  rw [without_none hqt, h.tr] at ht
  have hs2 : ss2.map (·.2) = ss1.map (·.2) := by
    rw [hs]
    have := without_split (l := []) (r := ss1.map (·.2)) (k := kq) (by simpa using hkn.2.1)
    simpa using this
  have e2 : without s.safe k ++ [k] = kq :: ss1.map (·.2) := by rw [← hsf]; rfl
  rw [e2] at e
  simp only [List.take_succ_cons, List.take_zero, List.drop_succ_cons, List.drop_zero] at e
  rw [e]
  have hmem : ∀ p, p ∈ ts2 ++ [(q, kq)] ++ ss2 ↔ p ∈ ts ++ ss := fun p => by
    rw [← h.mem p, ← back_in h.kn (n := q) (k := kq) (by simp) hm p]
    simp only [List.mem_append, List.mem_cons, List.not_mem_nil, or_false]
    constructor
    · rintro ((e | e) | e)
      · exact .inl (.inl e)
      · exact .inr e
      · exact .inl (.inr e)
    · rintro ((e | e) | e)
      · exact .inl (.inl e)
      · exact .inr e
      · exact .inl (.inr e)
  refine ⟨F, rfl, ⟨mb, ts2 ++ [(q, kq)], ss2, ps, h.at_.turned (s' := { s with trial := without s.trial k ++ [kq], safe := ss1.map (·.2) }) hr ho hmem (by rw [List.map_append, ht]; rfl) hs2 ?_⟩, h.at_.only ho, Grows.refl _ _⟩
  show ((without s.trial k ++ [kq]) ++ ss1.map (·.2)).Nodup
  have := h.kn
  rw [List.map_append, h.tr, List.map_cons] at this
  rw [List.append_assoc]
  exact this
end
set_option maxRecDepth 100000 in
set_option maxHeartbeats 2000000 in
theorem hit_any {w : World} {b : Nat} {F : Nat → Prop} {s : St} (h : At w b F s) (k : ByteArray) (hl : s.all.length ≤ 9223372036854775807) :
    Calls Tryz.prog 48 #[.pointer (some ⟨b, 0, none⟩), .string k] w (TurnPost w b F (s.hit k)) := by
  have hat := h
  obtain ⟨mb, ts, ss, ps, h⟩ := h
  have c1 := Mem.row_cell h.rows.blk 1
  simp only [listArr, List.getElem?_toArray, List.getElem?_cons_zero, List.getElem?_cons_succ] at c1
  have hlk0 := Maps.run_lookup strLaw Tryz.underlying109 zeroNode h.map k
  by_cases hk : k ∈ s.all
  case neg =>
    have hg := h.get_none hk
    rw [hg] at hlk0
    have hlk : ∀ _ : True, (Instr.lookup 109 (.map (some mb)) (.string k) false).run Tryz.prog w = .ok (.pointer none) w := fun _ => hlk0
    have e : s.hit k = (6, s) := by unfold St.hit; rw [if_neg hk]
    have HF := Lib.hid (show TurnPost w b F (s.hit k) (.returned (.int .i64 6)) w by rw [e]; exact ⟨F, rfl, hat, Only.refl _ _, Grows.refl _ _⟩)
    clear h hlk0 hk hg e hat hl
    go_enter Tryz.func48, Tryz.ntmps48
    go_wp2_with fail
    go_ret
    exact HF.out
  obtain ⟨n, hm, hg⟩ := h.get_some hk
  rw [hg] at hlk0
  have hlk : ∀ _ : True, (Instr.lookup 109 (.map (some mb)) (.string k) false).run Tryz.prog w = .ok (.pointer (some ⟨n, 0, none⟩)) w := fun _ => hlk0
  have hlen : (ts ++ ss).length ≤ 9223372036854775807 := by rw [h.ln]; exact hl
  have hcall := pull_any h.rows h.kn hm (by omega)
  have HH := Lib.hid (And.intro h (And.intro hk (And.intro hm hlen)))
  clear h hlk0 hk hm hg hat hl hlen
  go_enter Tryz.func48, Tryz.ntmps48
  go_wp2_with fail
  refine hcall.mono ?_
  rintro e w1 ⟨rfl, ts1, ss1, hr, ht, hs, hn1, ⟨ua, uc, ura, hnode⟩, hi, ho⟩
  have hsub : ∀ j, j ∈ (ts1 ++ ss1).map (·.1) → j ∈ (ts ++ ss).map (·.1) := fun j hj => by
    obtain ⟨p, hp, rfl⟩ := List.mem_map.1 hj
    exact List.mem_map_of_mem ((hi p).1 hp).1
  have hl1 : (ts1 ++ ss1).length + 1 ≤ 9223372036854775807 := by
    have := len_pulled (by rw [← HH.out.1.all]; exact HH.out.2.1) ht hs
    have := HH.out.2.2.2
    omega
  have hcall2 := put_safe hr hnode hn1 (by omega)
  have H1 := Lib.hid (And.intro ht (And.intro hs (And.intro hi (And.intro ho (And.intro hsub hl1)))))
  clear hcall hr ht hs hn1 hnode hi ho hsub hl1 hlk
  go_wp2_with fail
  refine hcall2.mono ?_
  rintro e w2 ⟨rfl, hr2, ho2⟩
  have hM : Mid w b F s mb ts ss ps k w2 ts1 (ss1 ++ [(n, k)]) := by
    obtain ⟨ht, hs, hi, ho, hsub, _⟩ := H1.out
    obtain ⟨h, hk, hm, _⟩ := HH.out
    have hb := back_in h.kn hm hi
    have hn : n ∈ (ts ++ ss).map (·.1) := List.mem_map.2 ⟨_, hm, rfl⟩
    refine ⟨h, hr2, ho.trans (ho2.mono fun j hj => ?_) (Grows.refl _ _), fun p => ?_, by rw [ht, h.tr], by rw [List.map_append, hs, h.sf]; rfl, hk⟩
    · rcases hj with e | e | e
      · exact .inl e
      · exact .inr (e ▸ hn)
      · exact .inr (hsub j e)
    · rw [← hb p]
      simp only [List.mem_append, List.mem_cons, List.not_mem_nil, or_false]
      constructor
      · rintro (e | e | e)
        · exact .inl (.inl e)
        · exact .inl (.inr e)
        · exact .inr e
      · rintro ((e | e) | e)
        · exact .inl e
        · exact .inr (.inl e)
        · exact .inr (.inr e)
  obtain ⟨ss2, hss2⟩ : ∃ ss2, ss1 ++ [(n, k)] = ss2 := ⟨_, rfl⟩
  have hne : ss2 ≠ [] := by rw [← hss2]; simp
  have hl2 : ss2.length ≤ 9223372036854775807 := by rw [← hss2]; have := H1.out.2.2.2.2.2; simp at this ⊢; omega
  have hl3 : (ts1 ++ ss2).length ≤ 9223372036854775807 := by rw [← hss2]; have := H1.out.2.2.2.2.2; simp at this ⊢; omega
  rw [hss2] at hM
  have c0 := Mem.row_cell hM.rows.blk 0
  have c5 := Mem.row_cell hM.rows.blk 5
  have c7 := Mem.row_cell hM.rows.blk 7
  simp only [listArr, List.getElem?_toArray, List.getElem?_cons_zero, List.getElem?_cons_succ] at c0 c5 c7
  obtain ⟨⟨q, kq⟩, rest, hq⟩ := List.exists_cons_of_ne_nil hne
  subst hq
  replace c5 : w2.cell? ⟨b, 5, none⟩ = some (.pointer (some ⟨q, 0, none⟩)) := c5
  have HM := Lib.hid hM
  have HL := Lib.hid (And.intro hl2 hl3)
  clear hcall2 hr2 ho2 hM H1 hne hl2 hl3 hss2
  obtain ⟨L, hL⟩ : ∃ L : Nat, ((q, kq) :: rest).length = L := ⟨_, rfl⟩
  rw [hL] at c7
  have HLL := Lib.hid hL
  clear hL
  have hpull := pull_any HM.out.drew.rows HM.out.drew.kn (n := q) (k := kq) (by simp) (by have := HL.out.2; omega)
  by_cases hx : max s.most 0 < (L : Int)
  · have HX := Lib.hid hx
    have hx1 : s.most < (L : Int) := by omega
    have hx2 : (0 : Int) < (L : Int) := by omega
    have hx3 : 0 < L := by omega
    clear hx
    go_wp2_with fail
    go_region_held3 (fun W' : World => W'.cell? ⟨b, 7, none⟩ = some (.int .i64 (L : Nat)) ∧ W'.cell? ⟨b, 0, none⟩ = some (.int .i64 s.most)) (exact ⟨c7, c0⟩) (fail)
    all_goals go_wp2_with fail
    all_goals (
      refine hpull.mono ?_
      rintro e w3 ⟨rfl, ts2, ss2, hr3, ht3, hs3, hn3, ⟨ua', uc', ura', hnode3⟩, hi3, ho3⟩
      have hl4 : (ts2 ++ ss2).length + 1 ≤ 9223372036854775807 := by
        have := len_pulled (by simp) ht3 hs3
        have := HL.out.2
        omega
      have hpush := put_trial hr3 hnode3 hn3 hl4
      have hG : ∀ j, j ∈ (ts1 ++ (q, kq) :: rest).map (·.1) → j ∈ (ts ++ ss).map (·.1) := fun j hj => by
        obtain ⟨p, hp, rfl⟩ := List.mem_map.1 hj
        exact List.mem_map_of_mem ((HM.out.mem p).1 hp)
      have ho3' : Only (fun j => j = b ∨ j ∈ (ts ++ ss).map (·.1)) w w3 := HM.out.drew.only.trans (ho3.mono fun j hj => hj.imp id (hG j)) (Grows.refl _ _)
      have hq2 : q ∈ (ts ++ ss).map (·.1) := hG q (by simp)
      have hG2 : ∀ j, j ∈ (ts2 ++ ss2).map (·.1) → j ∈ (ts ++ ss).map (·.1) := fun j hj => by
        obtain ⟨p, hp, rfl⟩ := List.mem_map.1 hj
        exact hG _ (List.mem_map_of_mem ((hi3 p).1 hp).1)
      have H3 := Lib.hid (And.intro ht3 (And.intro hs3 (And.intro hi3 (And.intro ho3' (And.intro hq2 hG2)))))
      clear hr3 ht3 hs3 hn3 hnode3 hi3 ho3 hl4 ho3' hq2 hG2 hpull hG c0 c5 c7
      go_wp2_with fail
      refine hpush.mono ?_
      rintro e w4 ⟨rfl, hr4, ho4⟩
      have hres := HM.out.drew.hit1 (by rw [HLL.out]; exact HX.out) hr4 (H3.out.2.2.2.1.trans (ho4.mono fun j hj => by
        rcases hj with e | e | e
        · exact .inl e
        · exact .inr (e ▸ H3.out.2.2.2.2.1)
        · exact .inr (H3.out.2.2.2.2.2 j e)) (Grows.refl _ _)) H3.out.2.2.1 H3.out.1 H3.out.2.1
      have HR := Lib.hid hres
      clear hr4 ho4 hres hpush
      go_wp2_with fail
      go_ret
      exact HR.out)
  · have HX := Lib.hid hx
    have hL1 : 1 ≤ L := by rw [← HLL.out]; simp
    have hx1 : (L : Int) ≤ s.most := by omega
    have hx2 : (0 : Int) < s.most := by omega
    clear hx
    go_wp2_with fail
    go_region_held3 (fun W' : World => W'.cell? ⟨b, 7, none⟩ = some (.int .i64 (L : Nat)) ∧ W'.cell? ⟨b, 0, none⟩ = some (.int .i64 s.most)) (exact ⟨c7, c0⟩) (fail)
    all_goals (
      first | (exfalso; omega) | skip
      go_wp2_with fail
      go_ret
      exact HM.out.drew.hit0 (by rw [HLL.out]; exact Int.not_lt.2 HX.out))
end Go.Proofs.YteonjgnnpgpnnaaGreat.Slru

/- Layer 8: All: an iterator over the keys; Victim. -/
namespace Go.Proofs.YteonjgnnpgpnnaaGreat.Slru
open Go Go.RowKit Go.Shelf Go.Proofs.YteonjgnnpgpnnaaGreat.Mem Go.Proofs.YteonjgnnpgpnnaaGreat.Rng
attribute [local go_sem] Oper.semAt_some

def encS (x : ByteArray) : Array Value := #[.string x]
theorem pt_none : pt none = .pointer none := rfl
def cnt (ts ss : List Nd) (q : Nat) : Nat := if q = 0 then 0 else if q = 1 then ts.length else ts.length + ss.length
theorem drewn_own {J : Nat → World → Prop} {B k : Nat} {W : World} (hJ : OwnFrom B J) (h : J k W) (n : Nat) : J k (W.drewN n) :=
  have ho := (Only.refl (fun _ => False) W).drewN n
  hJ k W (W.drewN n) none h ⟨ho.os, ho.tape, ho.output, ho.size, fun j hj _ => ho.same j hj (fun e => e)⟩ fun r e => by cases e
set_option maxRecDepth 100000 in
set_option maxHeartbeats 2000000 in
theorem all_seq {w : World} {b mb Bx : Nat} {F : Nat → Prop} {s : St} {ts ss : List Nd} {ps : List (ByteArray × Value)} (h : AtW w b F s mb ts ss ps) (hbx : w.heap[Bx]? = some (.cells #[.pointer (some ⟨b, 0, none⟩)] 61 (0, 0))) :
    SeqI Tryz.prog 115 #[.pointer (some ⟨Bx, 0, none⟩)] encS (fun k => k = Bx ∨ F k) s.all w := by
  intro l J Jx W hW hJ hJx hY hj
  have hR : Rows W b mb s.most ts ss := (h.same (fun k hk => hW.block k (h.lt k hk)) hW.size).rows
  have hx : W.heap[Bx]? = some (.cells #[.pointer (some ⟨b, 0, none⟩)] 61 (0, 0)) := (hW.block Bx (Array.getElem?_eq_some_iff.1 hbx).1).trans hbx
  have hKB : ∀ {W' : World}, Keep (fun k => k = Bx ∨ F k) W W' → Rows W' b mb s.most ts ss := fun hk => hR.same fun j hj => hk j (.inr (hj.elim (fun e => e ▸ h.fb) (h.fn j)))
  have hall : s.all = (ts ++ ss).map (·.2) := h.all
  have e0 := Mem.box_cell hx
  have hJ' := hJ
  have HH := Lib.hid (And.intro (@hKB) (And.intro hall hR))
  clear hW hJ hJx hR hx hbx hKB hall
  refine callsIn_of_wp Tryz.func115 rfl trivial ?_ rfl
  simp only [Tryz.ntmps115, List.size_toArray, List.length_cons, List.length_nil, Nat.reduceAdd, Nat.reduceSub, Array.replicate_succ, Array.replicate_zero, List.push_toArray, List.append_toArray, List.nil_append, List.cons_append]
  gi_wp2
  gi_quiet (fail)
  gi_wp2
  have hj0 : J 0 (W.drewN nq) := drewn_own hJ' hj nq
  have hk0 : Keep (fun k => k = Bx ∨ F k) W (W.drewN nq) := fun k _ => rfl
  clear hj hJ'
  generalize W.drewN nq = W2 at *
  have hY := Lib.hid @hY
  gi_loopg [4, 5, 13] 2 (fun g _ _ i wr => ∃ q : Nat, i = .int .i64 q ∧ g + q = 2 ∧ J (cnt ts ss q) wr ∧ Keep (fun k => k = Bx ∨ F k) W wr)
  case atStart => exact ⟨0, rfl, rfl, hj0, hk0⟩
  case round =>
    obtain ⟨q, rfl, hq, hjr, hkr⟩ := hrel
    clear hj0 hk0 e0
    by_cases hq2 : q < 2
    · have hrows := HH.out.1 hkr
      obtain ⟨o, xs, ho, hxs, hch, hcnt, hfl⟩ : ∃ (o : Nat) (xs : List Nd), (∀ W : World, (Instr.index 188 (.agg #[.pointer (some ⟨b, 2, none⟩), .pointer (some ⟨b, 5, none⟩)]) (.int .i64 q)).run Tryz.prog W = .ok (.pointer (some ⟨b, o, none⟩)) W) ∧
          wr.cell? ⟨b, o, none⟩ = some (pt (fst xs)) ∧ (∀ W', Keep (fun k => k = Bx ∨ F k) W W' → Chain W' ⟨b, o, none⟩ xs) ∧ cnt ts ss (q + 1) = cnt ts ss q + xs.length ∧ (∀ i k, xs[i]?.map (·.2) = some k → s.all[cnt ts ss q + i]? = some k) := by
        have c2 := Mem.row_cell hrows.blk 2
        have c5 := Mem.row_cell hrows.blk 5
        simp only [listArr, List.getElem?_toArray, List.getElem?_cons_zero, List.getElem?_cons_succ] at c2 c5
        rcases (show q = 0 ∨ q = 1 by omega) with rfl | rfl
        · refine ⟨2, ts, fun W => by kernel_rfl, c2, fun W' hk => (HH.out.1 hk).ct, by simp [cnt], fun i k hi => ?_⟩
          rw [HH.out.2.1, List.getElem?_map, cnt, if_pos rfl, Nat.zero_add, List.getElem?_append_left]
          · exact hi
          · rcases hxi : ts[i]? with _ | p
            · rw [hxi] at hi; cases hi
            · exact (List.getElem?_eq_some_iff.1 hxi).1
        · refine ⟨5, ss, fun W => by kernel_rfl, c5, fun W' hk => (HH.out.1 hk).cs, by simp [cnt], fun i k hi => ?_⟩
          rw [HH.out.2.1, List.getElem?_map, cnt, if_neg (by decide), if_pos rfl, List.getElem?_append_right (by omega), show ts.length + i - ts.length = i from by omega]
          exact hi
      have ho' := ho wr
      obtain ⟨xp, hxp⟩ : ∃ xp, pt (fst xs) = .pointer xp := ⟨_, rfl⟩
      rw [hxp] at hxs
      have HO := Lib.hid (And.intro hcnt (And.intro hfl (And.intro hxp (And.intro hkr (And.intro hjr hq)))))
      have hch := Lib.hid hch
      have hqi : (q : Int) < 2 := by omega
      clear hcnt hfl hxp hkr hjr hrows hq ho
      gi_wp2
      gi_loopg [5] xs.length (fun g n wr => ∃ d rest, n = pt (fst rest) ∧ g = rest.length ∧ Hid (xs = d ++ rest) ∧ J (cnt ts ss q + d.length) wr ∧ Keep (fun k => k = Bx ∨ F k) W wr)
      case atStart => exact ⟨[], xs, HO.out.2.2.1.symm, rfl, Lib.hid rfl, HO.out.2.2.2.2.1, HO.out.2.2.2.1⟩
      case round =>
        obtain ⟨d, rest, rfl, hg, hx, hj2, hk2⟩ := hrel
        cases rest with
        | nil =>
          rw [show pt (fst []) = Value.pointer none from rfl]
          gi_wp2
          gi_roundg (2 - (q + 1))
          case measure => have := HO.out.2.2.2.2.2; omega
          case rel =>
            refine ⟨q + 1, by go_num, by have := HO.out.2.2.2.2.2; omega, ?_, hk2⟩
            have : xs = d := by simpa using hx.out
            rw [HO.out.1, this]; exact hj2
        | cons p rest =>
          obtain ⟨m, km⟩ := p
          have hnode := hch.out _ hk2 d m km rest hx.out
          have n0 := Mem.row_cell hnode 0
          simp only [List.getElem?_toArray, List.getElem?_cons_zero] at n0
          have hfull := HO.out.2.1 d.length km (by rw [hx.out]; simp)
          obtain ⟨fn, tmps, assign, body, hy, hR⟩ := hY.out _ _ wr hj2 hfull
          simp only [encS] at hy
          have hpm : pt (fst ((m, km) :: rest)) = .pointer (some ⟨m, 0, none⟩) := rfl
          rw [hpm]
          have HF := Lib.hid (And.intro hk2 (And.intro hfull hg))
          clear hk2 hfull hg hnode hj2 hpm
          gi_wp2
          refine (any_depth hR).mono ?_
          rintro e W' (⟨rfl, hJ', hk'⟩ | ⟨rfl, hJx'⟩)
          · have hkW := HF.out.1.trans hk'
            have hnode' := hch.out _ hkW d m km rest hx.out
            have n2 := Mem.row_cell hnode' 2
            simp only [List.getElem?_toArray, List.getElem?_cons_zero, List.getElem?_cons_succ] at n2
            obtain ⟨xr, hxr⟩ : ∃ xr, pt (fst rest) = .pointer xr := ⟨_, rfl⟩
            rw [hxr] at n2
            have HX := Lib.hid (And.intro hxr (And.intro hkW hJ'))
            clear hxr hkW hJ' hk' hnode' hR hy n0
            gi_wp2
            gi_roundg rest.length
            case measure => have := HF.out.2.2; simp at this; omega
            case rel => exact ⟨d ++ [(m, km)], rest, HX.out.1.symm, rfl, Lib.hid (by rw [hx.out]; simp), by rw [List.length_append]; exact HX.out.2.2, HX.out.2.1⟩
          · gi_wp2
            refine bodyPost_ret (results_none rfl _ _ _) rfl ?_
            refine ⟨⟨_, rfl⟩, .inr ⟨_, ?_, hJx'⟩⟩
            have := (List.getElem?_eq_some_iff.1 HF.out.2.1).1
            omega
    · have hqq : q = 2 := by omega
      subst hqq
      gi_wp2
      go_end0
      refine ⟨⟨_, rfl⟩, .inl ?_⟩
      rw [HH.out.2.1, List.length_map, List.length_append]
      exact hjr
end Go.Proofs.YteonjgnnpgpnnaaGreat.Slru

/- Layer 8: All's call, Victim. -/
namespace Go.Proofs.YteonjgnnpgpnnaaGreat.Slru
open Go Go.RowKit Go.Shelf Go.Proofs.YteonjgnnpgpnnaaGreat.Mem Go.Proofs.YteonjgnnpgpnnaaGreat.Rng
attribute [local go_sem] Oper.semAt_some

theorem all_any (b : Nat) (w : World) : Calls Tryz.prog 94 #[.pointer (some ⟨b, 0, none⟩)] w fun e w' =>
    e = .returned (.func (.func 115) #[] #[.pointer (some ⟨w.heap.size, 0, none⟩)]) ∧ w' = w.alloc (.cells #[.pointer (some ⟨b, 0, none⟩)] 61) := by
  go_enter Tryz.func94, Tryz.ntmps94
  go_wp2
  go_ret
  exact ⟨rfl, rfl⟩
/-- All: an iterator over the keys, in a world that has grown alone. -/
theorem all_gives {w : World} {b : Nat} {F : Nat → Prop} {s : St} (h : At w b F s) : Calls Tryz.prog 94 #[.pointer (some ⟨b, 0, none⟩)] w fun e w' =>
    ∃ (lb : Array Value) (K : Nat → Prop), e = .returned (.func (.func 115) #[] lb) ∧ SeqI Tryz.prog 115 lb encS K s.all w' ∧ Below w.heap.size w w' ∧ (∀ k, K k → (F k ∨ w.heap.size ≤ k) ∧ k < w'.heap.size) :=
  (all_any b w).mono fun e w' ⟨he, hw⟩ => by
    subst hw
    obtain ⟨mb, ts, ss, ps, h⟩ := h
    refine ⟨_, fun k => k = w.heap.size ∨ F k, he, all_seq (h.same (fun k hk => Below.heap_alloc _ _ _ (h.lt k hk)) (by simp)) (Mem.new_block w _), Mem.al (Below.refl _ _) _, fun k hk => ⟨?_, ?_⟩⟩
    · exact hk.elim (fun e => .inr (by omega)) .inl
    · rw [World.size_alloc]; exact hk.elim (fun e => by omega) (fun e => Nat.lt_succ_of_lt (h.lt k e))
theorem enters (args : Array Value) (w : World) : (callFunc 115 args).run Tryz.prog w = .ok (.enter 115 args) w := enters_of Tryz.func115 (by kernel_rfl) rfl args w

/-- What Victim answers. -/
def vic (s : St) (but : ByteArray) : ByteArray × Bool := match s.victim but with
  | some k => (k, true)
  | none => (ByteArray.empty, false)
def vblocks (B : Nat) (but k : ByteArray) (q : Bool) : List (Nat × Obj) := [Mem.box B 9 (.string but), Mem.box (B + 1) 9 (.string k), Mem.box (B + 1 + 1) 4 (.bool q)]
theorem vblocks_cells (B : Nat) (but k : ByteArray) (q : Bool) : ∀ p ∈ vblocks B but k q, p.2.isCells = true := by
  intro p hp
  simp only [vblocks, List.mem_cons, List.not_mem_nil, or_false] at hp
  rcases hp with rfl | rfl | rfl <;> rfl
theorem str_ne {a b : ByteArray} (h : a ≠ b) : (a.toList == b.toList) = false := by
  have := Maps.bytes_beq a b
  rw [← beq_toListBytes, this]; simpa using h
theorem str_eq (a : ByteArray) : (a.toList == a.toList) = true := by simp
theorem vic_some {s : St} {but k : ByteArray} {i : Nat} (h : s.all[i]? = some k) (hb : ∀ x ∈ s.all.take i, x = but) (hk : k ≠ but) : vic s but = (k, true) := by
  have hi := (List.getElem?_eq_some_iff.1 h).1
  have e : s.all = s.all.take i ++ k :: s.all.drop (i + 1) := by
    conv => lhs; rw [← List.take_append_drop i s.all, List.drop_eq_getElem_cons hi, (List.getElem?_eq_some_iff.1 h).2]
  have hv : s.victim but = some k := by
    unfold St.victim
    rw [e, List.find?_append, List.find?_eq_none.2 (fun x hx => by simpa using hb x hx)]
    simp [hk]
  unfold vic; rw [hv]
theorem vic_none {s : St} {but : ByteArray} (hb : ∀ x ∈ s.all, x = but) : vic s but = (ByteArray.empty, false) := by
  have hv : s.victim but = none := by
    unfold St.victim
    exact List.find?_eq_none.2 (fun x hx => by simpa using hb x hx)
  unfold vic; rw [hv]

set_option maxRecDepth 100000 in
set_option maxHeartbeats 1000000 in
theorem victim_any {w : World} {b : Nat} {F : Nat → Prop} {s : St} (h : At w b F s) (but : ByteArray) :
    Calls Tryz.prog 73 #[.pointer (some ⟨b, 0, none⟩), .string but] w fun e w' => e = .returned (.tuple #[.string (vic s but).1, .bool (vic s but).2]) ∧ Below w.heap.size w w' := by
  have hFl := h.lt
  obtain ⟨w1, hw1⟩ : ∃ w1, ((w.alloc (.cells #[.string but] 9)).alloc (.cells #[.string ⟨#[]⟩] 9)).alloc (.cells #[.bool false] 4) = w1 := ⟨_, rfl⟩
  have hb1 : Below w.heap.size w w1 := by rw [← hw1]; exact Mem.al (Mem.al (Mem.al (Below.refl _ _) _) _) _
  have hf1 : Fix w1 (vblocks w.heap.size but ⟨#[]⟩ false) := by
    rw [← hw1]
    exact Fix.cons (Mem.new_later (Mem.new_later (Mem.new_block w _) _) _) (Fix.cons (Mem.new_later (Mem.new_block2 w _ _) _) (Fix.cons (by
      have := Mem.new_block ((w.alloc (.cells #[.string but] 9)).alloc (.cells #[.string ⟨#[]⟩] 9)) (.cells #[.bool false] 4)
      simp only [World.size_alloc] at this
      exact this) (Fix.nil _)))
  have hz1 : w1.heap.size = w.heap.size + 3 := by rw [← hw1]; simp
  have hall := all_gives (h.below hb1)
  refine (callsIn_wide (n := 9)).1 (callsIn_of_wp_marks Tryz.func73 rfl trivial ?_ rfl)
  simp only [Tryz.ntmps73, List.size_toArray, List.length_cons, List.length_nil, Nat.reduceAdd, Nat.reduceSub, Array.replicate_succ, Array.replicate_zero, List.push_toArray, List.append_toArray, List.nil_append, List.cons_append]
  clear h
  gi_wp2_with fail
  refine ⟨trivial, ?_⟩
  refine (callsIn_wide.2 hall).mono ?_
  rintro e w2 ⟨lb, K, rfl, hseq, hbel, hK⟩
  have hb2 : Below w.heap.size w w2 := hb1.trans (hbel.mono hb1.size)
  have hf2 : Fix w2 (vblocks w.heap.size but ⟨#[]⟩ false) := hf1.below hbel (Nat.le_refl _)
  have hKw : ∀ j, K j → ¬ (w.heap.size ≤ j ∧ j < w.heap.size + 3) := fun j hj e => by
    have := hK j hj
    exact this.1.elim (fun e2 => by have := hFl j e2; omega) (fun e2 => by omega)
  have hz2 : w.heap.size + 3 ≤ w2.heap.size := by have := hbel.size; omega
  clear hbel hb1 hf1 hall hw1
  gi_wp2_with fail
  refine outer rfl enters hseq (Below.refl _ _) (fun k hk => (hK k hk).2) (fun _ => rfl)
    (fun i W => (Only (fun j => w.heap.size ≤ j) w2 W ∧ w2.heap.size ≤ W.heap.size) ∧ (Fix W (vblocks w.heap.size but ⟨#[]⟩ false) ∧ ∀ x ∈ s.all.take i, x = but))
    (fun c W => c = .ret ∧ Only (fun j => w.heap.size ≤ j) w2 W ∧ Fix W (vblocks w.heap.size but (vic s but).1 (vic s but).2))
    (((own_only (Nat.le_refl _)).and (own_size _ _)).and ((own_fix _ (fun _ => vblocks w.heap.size but ⟨#[]⟩ false) (fun _ => vblocks_cells _ _ _ _)).and (fun _ _ _ _ h _ _ => h)))
    (fun c W W' row h hg hr => ⟨h.1, own_only (β := Unit) (Nat.le_refl _) () W W' row h.2.1 hg hr, own_fix (β := Unit) _ (fun _ => vblocks w.heap.size but (vic s but).1 (vic s but).2) (fun _ => vblocks_cells _ _ _ _) () W W' row h.2.2 hg hr⟩)
    ⟨⟨Only.refl _ _, Nat.le_refl _⟩, hf2, by simp⟩ ?a1 ?assign ?body ?done ?stop
  case assign =>
    intro l x W Kc hKc
    simp only [encS]
    gi_wp2
    exact hKc
  case stop =>
    rintro D c W hD ⟨rfl, hO, hF⟩ hKD
    have HX := Lib.hid (And.intro hF (And.intro hO hKD))
    have c1 := Mem.box_cell hF.tail.head
    have c2 := Mem.box_cell hF.tail.tail.head
    clear hF hO hKD hseq hK hKw
    gi_wp2
    obtain ⟨hF, hO, hKD⟩ := HX.out
    refine ret1 rfl (v := .tuple #[.string (vic s but).1, .bool (vic s but).2]) hKD ?_ ⟨rfl, putObj_below (hb2.trans (hO.below hb2.size (fun _ e => e))) _ (by omega)⟩
    have q1 : (W.putObj D (.deferred none)).cell? ⟨w.heap.size + 1, 0, none⟩ = some (.string (vic s but).1) := by
      rw [putObj_cell _ (by simp; omega)]; exact c1
    have q2 : (W.putObj D (.deferred none)).cell? ⟨w.heap.size + 1 + 1, 0, none⟩ = some (.bool (vic s but).2) := by
      rw [putObj_cell _ (by simp; omega)]; exact c2
    simp [results, Tryz.results73, go_sem, q1, q2]
  case body =>
    rintro l i x W hl _ ⟨⟨hO, hZ⟩, hF, hT⟩ hx
    have c0 := Mem.box_cell hF.head
    have c1 := Mem.box_cell hF.tail.head
    have c2 := Mem.box_cell hF.tail.tail.head
    have f1 := Mem.box_free hF.tail.head
    have f2 := Mem.box_free hF.tail.tail.head
    have HX := Lib.hid (And.intro hF (And.intro hT (And.intro hx (And.intro hO hZ))))
    clear hF hT hx hO hZ hl
    by_cases hxb : x = but
    · have hse := str_eq but
      subst hxb
      gi_wp2
      obtain ⟨hF, hT, hx, hO, hZ⟩ := HX.out
      refine ⟨⟨Nat.le_refl _, fun _ _ _ h _ => h⟩, Keep.refl _ _, ⟨hO, hZ⟩, hF, fun y hy => ?_⟩
      rw [List.take_add_one, hx] at hy
      rcases List.mem_append.1 hy with hy | hy
      · exact hT y hy
      · simpa using hy
    · have hse := str_ne hxb
      have HN := Lib.hid hxb
      clear hxb
      gi_wp2
      obtain ⟨hF, hT, hx, hO, hZ⟩ := HX.out
      have hv := vic_some hx hT HN.out
      have hO1 : Only (fun j => j = w.heap.size + 1 ∨ j = w.heap.size + 1 + 1) W ((W.setCell ⟨w.heap.size + 1, 0, none⟩ (.string x)).setCell ⟨w.heap.size + 1 + 1, 0, none⟩ (.bool true)) :=
        ((Only.refl _ W).setCell (p := ⟨w.heap.size + 1, 0, none⟩) (.inl (.inl rfl)) _).setCell (p := ⟨w.heap.size + 1 + 1, 0, none⟩) (.inl (.inr rfl)) _
      refine ⟨hO1.keepsFrom (fun j e => by omega), rfl, hO.trans (hO1.mono fun j e => by omega) (Grows.refl _ _), ?_⟩
      rw [hv]
      have h0 : (W.setCell ⟨w.heap.size + 1, 0, none⟩ (.string x)).setCell ⟨w.heap.size + 1 + 1, 0, none⟩ (.bool true) = (W.setCell ⟨w.heap.size + 1, 0, none⟩ (.string x)).setCell ⟨w.heap.size + 1 + 1, 0, none⟩ (.bool true) := rfl
      refine Fix.cons ((set_far (by simp; omega)).trans ((set_far (by simp)).trans hF.head)) (Fix.cons ((set_far (by simp)).trans (Mem.box_set hF.tail.head (.string x))) (Fix.cons ?_ (Fix.nil _)))
      exact Mem.box_set (W := W.setCell ⟨w.heap.size + 1, 0, none⟩ (.string x)) ((set_far (by simp)).trans hF.tail.tail.head) (.bool true)
  case done =>
    rintro D W hD ⟨⟨hO, hZ⟩, hF, hT⟩ hKD
    rw [List.take_of_length_le (Nat.le_refl _)] at hT
    have hv := vic_none hT
    have c1 := Mem.box_cell hF.tail.head
    have c2 := Mem.box_cell hF.tail.tail.head
    have f1 := Mem.box_free hF.tail.head
    have f2 := Mem.box_free hF.tail.tail.head
    have HX := Lib.hid (And.intro hF (And.intro hO (And.intro hv hKD)))
    clear hF hT hO hv hKD hseq hK hKw
    gi_wp2
    obtain ⟨hF, hO, hv, hKD⟩ := HX.out
    have hO1 : Only (fun j => w.heap.size ≤ j) w2 ((W.setCell ⟨w.heap.size + 1, 0, none⟩ (.string ⟨#[]⟩)).setCell ⟨w.heap.size + 1 + 1, 0, none⟩ (.bool false)) :=
      (hO.setCell (p := ⟨w.heap.size + 1, 0, none⟩) (.inl (by simp)) _).setCell (p := ⟨w.heap.size + 1 + 1, 0, none⟩) (.inl (by simp; omega)) _
    have d1 : ((W.setCell ⟨w.heap.size + 1, 0, none⟩ (.string ⟨#[]⟩)).setCell ⟨w.heap.size + 1 + 1, 0, none⟩ (.bool false)).heap[w.heap.size + 1]? = some (.cells #[.string ⟨#[]⟩] 9 (0, 0)) := (set_far (by simp)).trans (Mem.box_set hF.tail.head _)
    have d2 : ((W.setCell ⟨w.heap.size + 1, 0, none⟩ (.string ⟨#[]⟩)).setCell ⟨w.heap.size + 1 + 1, 0, none⟩ (.bool false)).heap[w.heap.size + 1 + 1]? = some (.cells #[.bool false] 4 (0, 0)) :=
      Mem.box_set (W := W.setCell ⟨w.heap.size + 1, 0, none⟩ (.string ⟨#[]⟩)) ((set_far (by simp)).trans hF.tail.tail.head) _
    have d3 : ((W.setCell ⟨w.heap.size + 1, 0, none⟩ (.string ⟨#[]⟩)).setCell ⟨w.heap.size + 1 + 1, 0, none⟩ (.bool false)).heap[D]? = some (.deferred (some [])) := (set_far (by simp; omega)).trans ((set_far (by simp; omega)).trans hKD)
    generalize (W.setCell ⟨w.heap.size + 1, 0, none⟩ (.string ⟨#[]⟩)).setCell ⟨w.heap.size + 1 + 1, 0, none⟩ (.bool false) = W9 at *
    refine ret1 rfl (v := .tuple #[.string ⟨#[]⟩, .bool false]) d3 ?_ ⟨by rw [hv]; rfl, putObj_below (hb2.trans (hO1.below hb2.size (fun _ e => e))) _ (by omega)⟩
    have q1 : (W9.putObj D (.deferred none)).cell? ⟨w.heap.size + 1, 0, none⟩ = some (.string ⟨#[]⟩) := by
      rw [putObj_cell _ (by simp; omega)]; exact Mem.box_cell d1
    have q2 : (W9.putObj D (.deferred none)).cell? ⟨w.heap.size + 1 + 1, 0, none⟩ = some (.bool false) := by
      rw [putObj_cell _ (by simp; omega)]; exact Mem.box_cell d2
    simp [results, Tryz.results73, go_sem, q1, q2]
end Go.Proofs.YteonjgnnpgpnnaaGreat.Slru

/- Layer 8, the law's own functions: all (the keys as a slice). -/
namespace Go.Proofs.YteonjgnnpgpnnaaGreat.Slru
open Go Go.RowKit Go.Shelf Go.Proofs.YteonjgnnpgpnnaaGreat.Mem Go.Proofs.YteonjgnnpgpnnaaGreat.Rng
attribute [local go_sem] Oper.semAt_some

def cellsK (xs : List ByteArray) : List Value := xs.map Value.string
/-- Between two rounds: what came lies in a row of the loop's own. -/
def OutAt (B : Nat) (w2 : World) (most : Int) (xs : List ByteArray) (W : World) : Prop :=
  Only (fun j => B ≤ j) w2 W ∧ W.heap[B]? = some (.cells #[.int .i64 most] 3 (0, 0)) ∧ ∃ v, W.heap[B + 1]? = some (.cells #[v] 46 (0, 0)) ∧ W.ownsRow w2.heap.size 9 1 v xs.length (cellsK xs)
theorem row_kept {W W' : World} {row : Option Nat} {base : Nat} {e : TypeId} {size n : Nat} {v : Value} {xs : List Value} (h : W.ownsRow base e size v n xs) (hg : W.grownBy W' row) (hr : ∀ r, row = some r → ∃ o : Obj, W.heap[r]? = some o ∧ o.isCells = false) : W'.ownsRow base e size v n xs := by
  refine h.kept hg ?_
  rcases h.2 with ⟨rfl, _⟩ | ⟨g, cap, cur, rfl, _, hgb, _⟩
  · exact .inl rfl
  · refine .inr fun e' => ?_
    obtain ⟨o, ho, hw⟩ := hr g (by simpa [Value.ownBlock] using e'.symm)
    rw [hgb] at ho; cases ho; cases hw
theorem own_out (B : Nat) (w2 : World) (most : Int) (f : Nat → List ByteArray) : OwnFrom w2.heap.size (fun i W => OutAt B w2 most (f i) W) := fun s W W' row h hg hr => by
  obtain ⟨h1, h2, v, h3, h4⟩ := h
  have hf := own_fix (β := Unit) w2.heap.size (fun _ => [(B, .cells #[.int .i64 most] 3 (0, 0)), (B + 1, .cells #[v] 46 (0, 0))]) (fun _ p hp => by
    simp only [List.mem_cons, List.not_mem_nil, or_false] at hp
    rcases hp with rfl | rfl <;> rfl) () W W' row (Fix.cons (p := (B, .cells #[.int .i64 most] 3 (0, 0))) h2 (Fix.cons (p := (B + 1, .cells #[v] 46 (0, 0))) h3 (Fix.nil _))) hg hr
  exact ⟨own_only (β := Unit) (Nat.le_refl _) () W W' row h1 hg hr, hf.head, v, hf.tail.head, row_kept h4 hg fun r e => (hr r e).2⟩
theorem infoStr : (Tryz.prog.info? 9).map (fun i => (i.zero, i.size, i.bytes)) = some (some (.string ⟨#[]⟩), 1, 16) := by kernel_rfl
def allN (s : St) (most : Int) : List ByteArray := s.all.take most.toNat
theorem notNil (lb : Array Value) (w : World) : (binOp BinOp.eql 169 (.func (.func 115) #[] lb) .nilFunc).run Tryz.prog w = .ok (.bool false) w := by kernel_rfl
/-- A list of keys handed back in a row of the call's own. -/
def AllPost (w : World) (xs : List ByteArray) (e : Ending) (w' : World) : Prop := ∃ v, e = .returned v ∧ w'.ownsRow w.heap.size 9 1 v xs.length (cellsK xs) ∧ Below w.heap.size w w'

end Go.Proofs.YteonjgnnpgpnnaaGreat.Slru

/- layer 8's list of calls, as an argument. -/
namespace Go.Proofs.YteonjgnnpgpnnaaGreat.Slru
open Go Go.ChangeShapes Go.WideShapes Go.Deep Go.RowKit Go.Proofs.YteonjgnnpgpnnaaGreat.Ops

structure Op where
  kind : Int
  key : ByteArray
def encO (o : Op) : List Value := [.int .i64 o.kind, .string o.key]
def isI (n : Int) : Prop := -9223372036854775808 ≤ n ∧ n ≤ 9223372036854775807
structure OpOk (o : Op) : Prop where
  kind : isI o.kind
  key : o.key.size ≤ maxLen
theorem isI_of {n : Int} (h : (Lit.int .i64 n).wf = true) : isI n := by simpa [isI, Lit.wf, IntKind.min, IntKind.max, IntKind.signed, IntKind.bits] using h

section
variable {H : Type} {enc : TypeId × Value → H} {w : World} {base : Nat} {spare : Nat → Bool} {held : Bool}
end
end Go.Proofs.YteonjgnnpgpnnaaGreat.Slru

/- Layer 8, the law's own functions: short, Same, awake, played. -/
namespace Go.Proofs.YteonjgnnpgpnnaaGreat.Slru
open Go Go.RowKit Go.Proofs.YteonjgnnpgpnnaaGreat.Mem Go.Proofs.YteonjgnnpgpnnaaGreat.Ops

def shortB (l : List Op) : Bool := decide (l.length ≤ 200 ∧ ∀ o ∈ l, o.key.size ≤ 300)
/-- Keys that lie behind a slice's value. -/
def ReadsK (w : World) (v : Value) (xs : List ByteArray) : Prop := ∃ a c, v = .slice a xs.length c ∧ xs.length ≤ c ∧ ∀ i k, xs[i]? = some k → ∃ g, a = some ⟨g, 0, none⟩ ∧ g < w.heap.size ∧ w.cell? ⟨g, i, none⟩ = some (.string k)
theorem ReadsK.of_row {w : World} {base : Nat} {v : Value} {xs : List ByteArray} (h : w.ownsRow base 9 1 v xs.length (cellsK xs)) : ReadsK w v xs := by
  rcases h.2 with ⟨e1, e2⟩ | ⟨g, cap, cur, e1, _, e2, e3, _, e4, e5⟩
  · have : xs = [] := List.eq_nil_of_length_eq_zero (by omega)
    subst this
    exact ⟨none, 0, by rw [e1]; rfl, Nat.le_refl _, fun i k hi => by simp at hi⟩
  · refine ⟨some ⟨g, 0, none⟩, cap, e1, e3, fun i k hi => ⟨g, rfl, (Array.getElem?_eq_some_iff.1 e2).1, ?_⟩⟩
    rw [Mem.row_cell e2 i]
    have hil := (List.getElem?_eq_some_iff.1 hi).1
    have h1 : (cur.toList.take (xs.length * 1))[i]? = some (.string k) := by rw [e5, cellsK, List.getElem?_map, hi]; rfl
    rw [List.getElem?_take, if_pos (by omega)] at h1
    simpa using h1
theorem ReadsK.below {w w' : World} {v : Value} {xs : List ByteArray} (h : ReadsK w v xs) (hb : Below w.heap.size w w') : ReadsK w' v xs := by
  obtain ⟨a, c, h1, h2, h3⟩ := h
  refine ⟨a, c, h1, h2, fun i k hi => ?_⟩
  obtain ⟨g, e, hg, hc⟩ := h3 i k hi
  exact ⟨g, e, Nat.lt_of_lt_of_le hg hb.size, (World.cell?_of_block (hb.block g hg)).trans hc⟩
set_option maxRecDepth 100000 in
set_option maxHeartbeats 1000000 in
theorem same_any {w : World} {va vb : Value} {xs ys : List ByteArray} (ha : ReadsK w va xs) (hb : ReadsK w vb ys) (hl : xs.length ≤ 1000000000000) :
    Calls Tryz.prog 14 #[va, vb] w fun e w' => e = .returned (.bool (decide (xs = ys))) ∧ ∃ d, w' = w.drewN d := by
  obtain ⟨a, c, rfl, hac, ha⟩ := ha
  obtain ⟨a', c', rfl, hbc, hb⟩ := hb
  by_cases hlen : xs.length = ys.length
  case neg =>
    have e : decide (xs = ys) = false := by simp; exact fun e => hlen (by rw [e])
    rw [e]
    have hne : ((xs.length : Int) != ys.length) = true := by simp; omega
    clear ha hb e hlen
    go_enter Tryz.func14, Tryz.ntmps14
    go_wp2_with fail
    go_ret
    exact ⟨rfl, 0, rfl⟩
  have HH := Lib.hid (And.intro ha (And.intro hb hlen))
  have hbc' : xs.length ≤ c' := by omega
  rw [← hlen]
  have hee : ((xs.length : Int) != xs.length) = false := by simp
  clear ha hb hlen hbc
  go_enter Tryz.func14, Tryz.ntmps14
  go_wp2_with fail
  go_loopg [5] xs.length (fun g i wr => ∃ m : Nat, i = .int .i64 m ∧ g + m = xs.length ∧ Hid (xs.take m = ys.take m) ∧ ∃ d, wr = w.drewN d)
  case atStart => exact ⟨0, rfl, by omega, Lib.hid rfl, 0, rfl⟩
  case round =>
    obtain ⟨m, rfl, hg, hs, d, rfl⟩ := hrel
    have HG := Lib.hid hg
    clear hg
    by_cases hm : m < xs.length
    · obtain ⟨k, hk⟩ : ∃ k, xs[m]? = some k := ⟨_, List.getElem?_eq_getElem hm⟩
      obtain ⟨k', hk'⟩ : ∃ k, ys[m]? = some k := ⟨_, List.getElem?_eq_getElem (by have := HH.out.2.2; omega)⟩
      obtain ⟨g, rfl, hg, c0⟩ := HH.out.1 m k hk
      obtain ⟨g', rfl, hg', c0'⟩ := HH.out.2.1 m k' hk'
      have hmi : (m : Int) < xs.length := by omega
      have c0 : (w.drewN d).cell? ⟨g, m, none⟩ = some (.string k) := c0
      have c0' : (w.drewN d).cell? ⟨g', m, none⟩ = some (.string k') := c0'
      have HK := Lib.hid (And.intro hk hk')
      clear hk hk' hg hg'
      by_cases hkk : k = k'
      · subst hkk
        have hse := str_eq k
        go_wp2_with fail
        go_quiet (fail)
        go_wp2_with fail
        go_roundg (xs.length - (m + 1))
        case measure => have := HG.out; omega
        case rel => exact ⟨m + 1, by go_num, by have := HG.out; omega, Lib.hid (by rw [List.take_add_one, List.take_add_one, hs.out, HK.out.1, HK.out.2]), _, rfl⟩
      · have hse := str_ne hkk
        have e : decide (xs = ys) = false := by
          simp; intro e
          have h1 := HK.out.1
          rw [e, HK.out.2] at h1
          injection h1 with h1
          exact hkk h1.symm
        have HE := Lib.hid e
        clear hkk e
        go_wp2_with fail
        go_quiet (fail)
        go_wp2_with fail
        go_ret
        exact ⟨by rw [HE.out]; rfl, d + nq, by simp⟩
    · have hml : (xs.length : Int) ≤ m := by omega
      have e : decide (xs = ys) = true := by
        have h1 := hs.out
        rw [List.take_of_length_le (by omega), List.take_of_length_le (by have := HH.out.2.2; omega)] at h1
        simpa using h1
      have HE := Lib.hid e
      clear e
      go_wp2_with fail
      go_ret
      exact ⟨by rw [HE.out]; rfl, _, rfl⟩
end Go.Proofs.YteonjgnnpgpnnaaGreat.Slru

/- Layer 8: a list in a run; awake, played. -/
namespace Go.Proofs.YteonjgnnpgpnnaaGreat.Slru
open Go Go.RowKit Go.Proofs.YteonjgnnpgpnnaaGreat.Mem Go.Proofs.YteonjgnnpgpnnaaGreat.Ops

theorem add_len (s : St) (k : ByteArray) : (s.add k).2.all.length ≤ s.all.length + 1 := by
  unfold St.add; split
  · exact Nat.le_succ _
  · simp [St.all]; omega
theorem remove_len (s : St) (k : ByteArray) : (s.remove k).2.all.length ≤ s.all.length := by
  unfold St.remove; split
  · have h1 := without_len s.trial k
    have h2 := without_len s.safe k
    simp [St.all]; omega
  · exact Nat.le_refl _
theorem hit_len (s : St) (k : ByteArray) : (s.hit k).2.all.length ≤ s.all.length := by
  unfold St.hit; split
  · rename_i h
    have h1 := without_lt h
    unfold St.all at h1
    rw [without_app, List.length_append, List.length_append] at h1
    unfold St.moved
    split
    · simp only [St.all, List.length_append, List.length_take, List.length_drop, List.length_cons, List.length_nil]; omega
    · simp only [St.all, List.length_append, List.length_cons, List.length_nil]; omega
  · exact Nat.le_refl _
/-- A list in a run that began at W0. -/
structure Run (W0 w : World) (N b : Nat) (F : Nat → Prop) (s : St) : Prop where
  at_ : At w b F s
  low : ∀ k, F k → W0.heap.size ≤ k
  below : Below W0.heap.size W0 w
  len : s.all.length ≤ N
section
variable {W0 w w' : World} {N M b : Nat} {F F' : Nat → Prop} {s s' : St}
theorem Run.step (h : Run W0 w N b F s) (hb : Below w.heap.size w w') : Run W0 w' N b F s := ⟨h.at_.below hb, h.low, Mem.tr h.below hb, h.len⟩
theorem Run.drew (h : Run W0 w N b F s) : Run W0 w.drew N b F s := h.step (Below.drew (Below.refl _ _))
theorem Run.mono (h : Run W0 w N b F s) (hm : N ≤ M) : Run W0 w M b F s := ⟨h.at_, h.low, h.below, Nat.le_trans h.len hm⟩
theorem Run.post (h : Run W0 w N b F s) (ha : At w' b F' s') (ho : Only F w w') (hg : Grows w F F') (hm : s'.all.length ≤ M) : Run W0 w' M b F' s' :=
  ⟨ha, fun k hk => (hg k hk).elim (h.low k) (fun e => Nat.le_trans h.below.size e), h.below.trans (ho.below h.below.size h.low), hm⟩
theorem Run.lt (h : Run W0 w N b F s) : ∀ k, F k → k < w.heap.size := h.at_.lt
def RunPost (W0 : World) (N b : Nat) (y : Int × St) (e : Ending) (w' : World) : Prop := e = .returned (.int .i64 y.1) ∧ ∃ F', Run W0 w' N b F' y.2
theorem add_run (h : Run W0 w N b F s) (k : ByteArray) (hN : N + 1 ≤ 9223372036854775807) : Calls Tryz.prog 44 #[.pointer (some ⟨b, 0, none⟩), .string k] w (RunPost W0 (N + 1) b (s.add k)) :=
  (add_any h.at_ k (by have := h.len; omega)).mono fun e w' ⟨F', he, h1, h2, h3⟩ => ⟨he, F', h.post h1 h2 h3 (by have := add_len s k; have := h.len; omega)⟩
theorem hit_run (h : Run W0 w N b F s) (k : ByteArray) (hN : N ≤ 9223372036854775807) : Calls Tryz.prog 48 #[.pointer (some ⟨b, 0, none⟩), .string k] w (RunPost W0 N b (s.hit k)) :=
  (hit_any h.at_ k (by have := h.len; omega)).mono fun e w' ⟨F', he, h1, h2, h3⟩ => ⟨he, F', h.post h1 h2 h3 (by have := hit_len s k; have := h.len; omega)⟩
theorem remove_run (h : Run W0 w N b F s) (k : ByteArray) (hN : N ≤ 9223372036854775807) : Calls Tryz.prog 65 #[.pointer (some ⟨b, 0, none⟩), .string k] w (RunPost W0 N b (s.remove k)) :=
  (remove_any h.at_ k (by have := h.len; omega)).mono fun e w' ⟨F', he, h1, h2, h3⟩ => ⟨he, F', h.post h1 h2 h3 (by have := remove_len s k; have := h.len; omega)⟩
end
theorem new_run {W0 w : World} (hb : Below W0.heap.size W0 w) (most : Int) : Calls Tryz.prog 21 #[.int .i64 most] w fun e w' => ∃ (b : Nat) (F : Nat → Prop), e = .returned (.pointer (some ⟨b, 0, none⟩)) ∧ Run W0 w' 0 b F (new most) :=
  (new_gives most w).mono fun _ _ ⟨b, F, he, h1, h2, h3⟩ => ⟨b, F, he, h1, fun k hk => Nat.le_trans hb.size (h2 k hk), hb.trans (h3.mono hb.size), Nat.le_refl _⟩

def step (s : St) (o : Op) : St := if o.kind = 0 then (s.add o.key).2 else if o.kind = 1 then (s.hit o.key).2 else if o.kind = 2 then (s.remove o.key).2 else s
def play (most : Int) (l : List Op) : St := l.foldl step (new most)
theorem play_snoc (most : Int) {l : List Op} {m : Nat} {o : Op} (h : l[m]? = some o) : play most (l.take (m + 1)) = step (play most (l.take m)) o := by
  unfold play; rw [List.take_add_one, h]; simp
def PlayedPost (w : World) (most : Int) (l : List Op) (e : Ending) (w' : World) : Prop := ∃ b F, e = .returned (.pointer (some ⟨b, 0, none⟩)) ∧ Run w w' l.length b F (play most l)
end Go.Proofs.YteonjgnnpgpnnaaGreat.Slru

