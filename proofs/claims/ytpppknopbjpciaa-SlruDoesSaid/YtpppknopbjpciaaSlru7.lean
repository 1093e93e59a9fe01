/- Layer 8: All: an iterator over the keys; Victim. -/
import Derived.Test.YtpppknopbjpciaaSlru6
import Derived.Test.YtpppknopbjpciaaRange
import Derived.Test.YtpppknopbjpciaaStillIn
import Derived.Test.YtpppknopbjpciaaOnly
import Derived.Shelf.Abstract
import Derived.Shelf.RegionOpen
import Derived.OwnWalkIn
import Derived.TacticsInMore
import Derived.Sort.LoopGhostIn
import Derived.Sort.QuietIn
namespace Go.Proofs.Ytpppknopbjpciaa.Slru
open Go Go.RowKit Go.Shelf Go.Proofs.Ytpppknopbjpciaa.Mem Go.Proofs.Ytpppknopbjpciaa.Rng
attribute [local go_sem] Oper.semAt_some

def encS (x : ByteArray) : Array Value := #[.string x]
theorem pt_none : pt none = .pointer none := rfl
def cnt (ts ss : List Nd) (q : Nat) : Nat := if q = 0 then 0 else if q = 1 then ts.length else ts.length + ss.length
theorem drewn_own {J : Nat → World → Prop} {B k : Nat} {W : World} (hJ : OwnFrom B J) (h : J k W) (n : Nat) : J k (W.drewN n) :=
  have ho := (Only.refl (fun _ => False) W).drewN n
  hJ k W (W.drewN n) none h ⟨ho.os, ho.tape, ho.output, ho.size, fun j hj _ => ho.same j hj (fun e => e)⟩ fun r e => by cases e
set_option maxHeartbeats 2000000 in
theorem all_seq {w : World} {b mb Bx : Nat} {F : Nat → Prop} {s : St} {ts ss : List Nd} {ps : List (ByteArray × Value)} (h : AtW w b F s mb ts ss ps) (hbx : w.heap[Bx]? = some (.cells #[.pointer (some ⟨b, 0, none⟩)] 25 (0, 0))) :
    SeqI Try.prog 30 #[.pointer (some ⟨Bx, 0, none⟩)] encS (fun k => k = Bx ∨ F k) s.all w := by
  intro l J Jx W hW hJ hJx hY hj
  have hR : Rows W b mb s.most ts ss := (h.same (fun k hk => hW.block k (h.lt k hk)) hW.size).rows
  have hx : W.heap[Bx]? = some (.cells #[.pointer (some ⟨b, 0, none⟩)] 25 (0, 0)) := (hW.block Bx (Array.getElem?_eq_some_iff.1 hbx).1).trans hbx
  have hKB : ∀ {W' : World}, Keep (fun k => k = Bx ∨ F k) W W' → Rows W' b mb s.most ts ss := fun hk => hR.same fun j hj => hk j (.inr (hj.elim (fun e => e ▸ h.fb) (h.fn j)))
  have hall : s.all = (ts ++ ss).map (·.2) := h.all
  have e0 := Mem.box_cell hx
  have hJ' := hJ
  have HH := Lib.hid (And.intro (@hKB) (And.intro hall hR))
  clear hW hJ hJx hR hx hbx hKB hall
  refine callsIn_of_wp Try.func30 rfl trivial ?_ rfl
  simp only [Try.ntmps30, List.size_toArray, List.length_cons, List.length_nil, Nat.reduceAdd, Nat.reduceSub, Array.replicate_succ, Array.replicate_zero, List.push_toArray, List.append_toArray, List.nil_append, List.cons_append]
  gi_wp2
  gi_quiet (fail)
  gi_wp2
  have hj0 : J 0 (W.drewN nq) := drewn_own hJ' hj nq
  have hk0 : Keep (fun k => k = Bx ∨ F k) W (W.drewN nq) := fun k _ => rfl
  clear hj hJ'
  generalize W.drewN nq = W2 at *
  have hY := Lib.hid @hY
  gi_loopg [4, 5, 13] 2 (fun g _ _ i wr => ∃ q : Nat, i = .int .i64 q ∧ g + q = 2 ∧ J (cnt ts ss q) wr ∧ Keep (fun k => k = Bx ∨ F k) W wr)
  case atStart => exact ⟨0, rfl, rfl, hj0, hk0⟩
  case round =>
    obtain ⟨q, rfl, hq, hjr, hkr⟩ := hrel
    clear hj0 hk0 e0
    by_cases hq2 : q < 2
    · have hrows := HH.out.1 hkr
      obtain ⟨o, xs, ho, hxs, hch, hcnt, hfl⟩ : ∃ (o : Nat) (xs : List Nd), (∀ W : World, (Instr.index 61 (.agg #[.pointer (some ⟨b, 2, none⟩), .pointer (some ⟨b, 5, none⟩)]) (.int .i64 q)).run Try.prog W = .ok (.pointer (some ⟨b, o, none⟩)) W) ∧
          wr.cell? ⟨b, o, none⟩ = some (pt (fst xs)) ∧ (∀ W', Keep (fun k => k = Bx ∨ F k) W W' → Chain W' ⟨b, o, none⟩ xs) ∧ cnt ts ss (q + 1) = cnt ts ss q + xs.length ∧ (∀ i k, xs[i]?.map (·.2) = some k → s.all[cnt ts ss q + i]? = some k) := by
        have c2 := Mem.row_cell hrows.blk 2
        have c5 := Mem.row_cell hrows.blk 5
        simp only [listArr, List.getElem?_toArray, List.getElem?_cons_zero, List.getElem?_cons_succ] at c2 c5
        rcases (show q = 0 ∨ q = 1 by omega) with rfl | rfl
        · refine ⟨2, ts, fun W => by kernel_rfl, c2, fun W' hk => (HH.out.1 hk).ct, by simp [cnt], fun i k hi => ?_⟩
          rw [HH.out.2.1, List.getElem?_map, cnt, if_pos rfl, Nat.zero_add, List.getElem?_append_left]
          · exact hi
          · rcases hxi : ts[i]? with _ | p
            · rw [hxi] at hi; cases hi
            · exact (List.getElem?_eq_some_iff.1 hxi).1
        · refine ⟨5, ss, fun W => by kernel_rfl, c5, fun W' hk => (HH.out.1 hk).cs, by simp [cnt], fun i k hi => ?_⟩
          rw [HH.out.2.1, List.getElem?_map, cnt, if_neg (by decide), if_pos rfl, List.getElem?_append_right (by omega), show ts.length + i - ts.length = i from by omega]
          exact hi
      have ho' := ho wr
      obtain ⟨xp, hxp⟩ : ∃ xp, pt (fst xs) = .pointer xp := ⟨_, rfl⟩
      rw [hxp] at hxs
      have HO := Lib.hid (And.intro hcnt (And.intro hfl (And.intro hxp (And.intro hkr (And.intro hjr hq)))))
      have hch := Lib.hid hch
      have hqi : (q : Int) < 2 := by omega
      clear hcnt hfl hxp hkr hjr hrows hq ho
      gi_wp2
      gi_loopg [5] xs.length (fun g n wr => ∃ d rest, n = pt (fst rest) ∧ g = rest.length ∧ Hid (xs = d ++ rest) ∧ J (cnt ts ss q + d.length) wr ∧ Keep (fun k => k = Bx ∨ F k) W wr)
      case atStart => exact ⟨[], xs, HO.out.2.2.1.symm, rfl, Lib.hid rfl, HO.out.2.2.2.2.1, HO.out.2.2.2.1⟩
      case round =>
        obtain ⟨d, rest, rfl, hg, hx, hj2, hk2⟩ := hrel
        cases rest with
        | nil =>
          rw [show pt (fst []) = Value.pointer none from rfl]
          gi_wp2
          gi_roundg (2 - (q + 1))
          case measure => have := HO.out.2.2.2.2.2; omega
          case rel =>
            refine ⟨q + 1, by go_num, by have := HO.out.2.2.2.2.2; omega, ?_, hk2⟩
            have : xs = d := by simpa using hx.out
            rw [HO.out.1, this]; exact hj2
        | cons p rest =>
          obtain ⟨m, km⟩ := p
          have hnode := hch.out _ hk2 d m km rest hx.out
          have n0 := Mem.row_cell hnode 0
          simp only [List.getElem?_toArray, List.getElem?_cons_zero] at n0
          have hfull := HO.out.2.1 d.length km (by rw [hx.out]; simp)
          obtain ⟨fn, tmps, assign, body, hy, hR⟩ := hY.out _ _ wr hj2 hfull
          simp only [encS] at hy
          have hpm : pt (fst ((m, km) :: rest)) = .pointer (some ⟨m, 0, none⟩) := rfl
          rw [hpm]
          have HF := Lib.hid (And.intro hk2 (And.intro hfull hg))
          clear hk2 hfull hg hnode hj2 hpm
          gi_wp2
          refine (any_depth hR).mono ?_
          rintro e W' (⟨rfl, hJ', hk'⟩ | ⟨rfl, hJx'⟩)
          · have hkW := HF.out.1.trans hk'
            have hnode' := hch.out _ hkW d m km rest hx.out
            have n2 := Mem.row_cell hnode' 2
            simp only [List.getElem?_toArray, List.getElem?_cons_zero, List.getElem?_cons_succ] at n2
            obtain ⟨xr, hxr⟩ : ∃ xr, pt (fst rest) = .pointer xr := ⟨_, rfl⟩
            rw [hxr] at n2
            have HX := Lib.hid (And.intro hxr (And.intro hkW hJ'))
            clear hxr hkW hJ' hk' hnode' hR hy n0
            gi_wp2
            gi_roundg rest.length
            case measure => have := HF.out.2.2; simp at this; omega
            case rel => exact ⟨d ++ [(m, km)], rest, HX.out.1.symm, rfl, Lib.hid (by rw [hx.out]; simp), by rw [List.length_append]; exact HX.out.2.2, HX.out.2.1⟩
          · gi_wp2
            refine bodyPost_ret (results_none rfl _ _ _) rfl ?_
            refine ⟨⟨_, rfl⟩, .inr ⟨_, ?_, hJx'⟩⟩
            have := (List.getElem?_eq_some_iff.1 HF.out.2.1).1
            omega
    · have hqq : q = 2 := by omega
      subst hqq
      gi_wp2
      go_end0
      refine ⟨⟨_, rfl⟩, .inl ?_⟩
      rw [HH.out.2.1, List.length_map, List.length_append]
      exact hjr
end Go.Proofs.Ytpppknopbjpciaa.Slru
