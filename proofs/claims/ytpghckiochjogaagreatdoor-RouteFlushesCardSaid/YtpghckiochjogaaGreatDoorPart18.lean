/- Part18: Exec9e, one behind the other. -/
import Derived.Test.YtpghckiochjogaaGreatDoorPart14
/- Layer 12: without. -/
namespace Go.Proofs.YtpghckiochjogaaGreatDoor.Exec
set_option maxRecDepth 100000
open Go Go.RowKit Go.Proofs.YtpghckiochjogaaGreatDoor.Mem Go.Proofs.YtpghckiochjogaaGreatDoor.App Go.Proofs.YtpghckiochjogaaGreatDoor.Shard
section
variable {W w : World} {M b : Nat} {col : Col} {seed : Int} {s : St} {c : Cmd} {env : Env}
set_option maxHeartbeats 4000000 in
theorem without11 (h : Run W w M b col seed s) (hM : M + 1 ≤ 1050000) (hp : Pows w) {a : Option Addr} {n k : Nat} (hn : c.val.length = n) (hks : c.key.size ≤ 2000000) (hvs : c.val.length ≤ 2000000) (hv : Val w col (.slice a n k) c.val) (hi : 0 ≤ c.initial) (hi2 : c.initial < 18446744073709551616) (hop : c.op = 11) :
    Calls Tryz.prog 35 #[.agg (rarr b c (.slice a n k) env)] w (ExecP W w (M + 1) b col seed s.tab.L fun f => without c env f s) := by
  have HZ := Lib.hid hop
  have e5 : (c.op == 5) = false := by rw [hop]; rfl
  have e6 : (c.op == 6) = false := by rw [hop]; rfl
  have e7 : (c.op == 7) = false := by rw [hop]; rfl
  have e3 : (c.op == 3) = false := by rw [hop]; rfl
  have e4 : (c.op == 4) = false := by rw [hop]; rfl
  have e10 : (c.op == 10) = false := by rw [hop]; rfl
  have e11 : (c.op == 11) = true := by rw [hop]; rfl
  clear hop
  have hb2 : Below w.heap.size w ((w.alloc (.cells (rarr b c (.slice a n k) env) 86)).alloc (.cells (zeroR) 37)) := Mem.al (Mem.al (Below.refl _ _) _) _
  have n1 : ((w.alloc (.cells (rarr b c (.slice a n k) env) 86)).alloc (.cells (zeroR) 37)).heap[w.heap.size]? = some (.cells (rarr b c (.slice a n k) env) 86 (0, 0)) := Mem.new_later (Mem.new_block w _) _
  have n2 : ((w.alloc (.cells (rarr b c (.slice a n k) env) 86)).alloc (.cells (zeroR) 37)).heap[w.heap.size + 1]? = some (.cells (zeroR) 37 (0, 0)) := Mem.new_block2 w _ _
  have hz : ((w.alloc (.cells (rarr b c (.slice a n k) env) 86)).alloc (.cells (zeroR) 37)).heap.size = w.heap.size + 2 := by simp
  obtain ⟨w1, hw1⟩ : ∃ w1, ((w.alloc (.cells (rarr b c (.slice a n k) env) 86)).alloc (.cells (zeroR) 37)) = w1 := ⟨_, rfl⟩
  rw [hw1] at hb2 hz n1 n2
  have hin := In.start h hb2
  rw [hz] at hin
  have hcr := CellsR.of n1
  have hS : ∀ W', W'.heap[w.heap.size]? = w1.heap[w.heap.size]? → CellsR b c (.slice a n k) env w.heap.size W' := fun W' e => CellsR.of (e.trans n1)
  have hSd := hS w1.drew rfl
  have hat := fun w' => at_any b c (.slice a n k) env w'
  obtain ⟨f0, hf0⟩ := fresh_ex s.tab.L
  have HP := Lib.hid (And.intro (tabIs_below hp hb2) (And.intro hi (show c.initial.toNat < 18446744073709551616 by omega)))
  have HB := Lib.hid (And.intro hin (And.intro n1 (And.intro n2 (And.intro hz hf0))))
  have HK := Lib.hid (And.intro hM (And.intro (show (freshI c env c.val c.flags (atS c.exp env.now)).val.length = n from hn) (And.intro hks (And.intro (show (freshI c env c.val c.flags (atS c.exp env.now)).val.length ≤ 2000000 from hvs) (show Val w col (.slice a n k) (freshI c env c.val c.flags (atS c.exp env.now)).val from hv)))))
  clear hb2 n1 n2 hz hin h hM hn hks hvs hv hf0 hp hi hi2
  unfold CellsR at hcr hS hSd
  have HS := Lib.hid (And.intro hS hSd)
  clear hS hSd
  obtain ⟨r0, r1, r2, r3, r4, r5, r6, r7, r8, r9, r10, r11, r12, r13, r14⟩ := hcr
  have HR := Lib.hid r9
  unfold rarr zeroR at hw1
  unfold rarr at hat
  unfold rarr
  go_enter Tryz.func35, Tryz.ntmps35
  rcases (by cases c.makes <;> simp : c.makes = true ∨ c.makes = false) with hq | hq
  · have HQ := Lib.hid hq
    rw [hq] at r9
    clear hq
    have hnum : ∀ wA, Below w1.heap.size w1 wA → Calls Tryz.prog 54 #[.agg (rarr b c (.slice a n k) env), .int .u64 c.initial, .int .u32 0, .int .i64 (atS c.exp env.now)] wA (ExecP W wA (M + 1) b col seed s.tab.L fun f => number c env c.initial.toNat 0 (atS c.exp env.now) f s) := fun wA hbA => by
      have e := number_any (HB.out.1.below hbA).run HK.out.1 (tabIs_below HP.out.1 (hbA.mono (by have := HB.out.2.2.2.1; omega))) (c := c) (env := env) (.slice a n k) HK.out.2.2.1 c.initial.toNat HP.out.2.2 0 (atS c.exp env.now)
      rwa [Int.toNat_of_nonneg HP.out.2.1] at e
    unfold rarr at hnum
    go_upto_region 15 with (fail)
    obtain ⟨hS, hSd⟩ := HS.out
    clear r9
    have r9 := HR.out
    go_region_held3 (fun W' : World => W'.cell? ⟨w.heap.size, 0, none⟩ = some (.pointer (some ⟨b, 0, none⟩)) ∧ W'.cell? ⟨w.heap.size, 1, none⟩ = some (.int .i64 c.op) ∧ W'.cell? ⟨w.heap.size, 2, none⟩ = some (.string c.key) ∧ W'.cell? ⟨w.heap.size, 3, none⟩ = some (.slice a n k) ∧ W'.cell? ⟨w.heap.size, 4, none⟩ = some (.int .u32 c.flags) ∧ W'.cell? ⟨w.heap.size, 5, none⟩ = some (.int .i64 c.exp) ∧ W'.cell? ⟨w.heap.size, 6, none⟩ = some (.int .u64 c.cas) ∧ W'.cell? ⟨w.heap.size, 7, none⟩ = some (.int .u64 c.delta) ∧ W'.cell? ⟨w.heap.size, 8, none⟩ = some (.int .u64 c.initial) ∧ W'.cell? ⟨w.heap.size, 9, none⟩ = some (.bool c.makes) ∧ W'.cell? ⟨w.heap.size, 10, none⟩ = some (.bool c.sets) ∧ W'.cell? ⟨w.heap.size, 11, none⟩ = some (.int .i64 env.now) ∧ W'.cell? ⟨w.heap.size, 12, none⟩ = some (.int .u64 env.seq) ∧ W'.cell? ⟨w.heap.size, 13, none⟩ = some (.int .i64 env.flush) ∧ W'.cell? ⟨w.heap.size, 14, none⟩ = some (.int .u64 env.flushSeq)) (first
      | with_reducible exact hS _ ((set9 _ _ _ _ _ _ _ _ _ _ _ (by omega)).trans H3.out.2.1)
      | with_reducible exact hS _ H3.out.2.1
      | with_reducible exact hS _ (H1.out.block _ (by have := HB.out.2.2.2.1; omega))
      | with_reducible exact hSd) (first
      | (go_at_call 53; refine (hat _).mono ?_; rintro en wA ⟨rfl, hbA⟩; have H1 := Lib.hid (Mem.tr (Below.drew (Below.refl w1.heap.size w1)) hbA); clear hbA)
      | (go_at_call 54; refine (hnum _ H1.out).mono ?_; rintro en wT h9; obtain ⟨f, r, t, va, vn, vk, col', hf, hg, rfl, hvn, hinT, hfr, hval⟩ := h9.use (HB.out.1.below H1.out); have heT := (HB.out.1.below H1.out).row (by omega) (by omega) hfr ((H1.out.block w.heap.size (by have := HB.out.2.2.2.1; omega)).trans HB.out.2.1); have hzT := (HB.out.1.below H1.out).row (by omega) (by omega) hfr ((H1.out.block (w.heap.size + 1) (by have := HB.out.2.2.2.1; omega)).trans HB.out.2.2.1); have c0 := Mem.row_cell hzT 0; have f0 := Mem.row_free hzT 0; have c1 := Mem.row_cell hzT 1; have f1 := Mem.row_free hzT 1; have c2 := Mem.row_cell hzT 2; have f2 := Mem.row_free hzT 2; have c3 := Mem.row_cell hzT 3; have f3 := Mem.row_free hzT 3; have c4 := Mem.row_cell hzT 4; have f4 := Mem.row_free hzT 4; have c5 := Mem.row_cell hzT 5; have f5 := Mem.row_free hzT 5; have c6 := Mem.row_cell hzT 6; have f6 := Mem.row_free hzT 6; have c7 := Mem.row_cell hzT 7; have f7 := Mem.row_free hzT 7; have c8 := Mem.row_cell hzT 8; have f8 := Mem.row_free hzT 8; simp only [zeroR, List.getElem?_toArray, List.getElem?_cons_zero, List.getElem?_cons_succ] at c0 c1 c2 c3 c4 c5 c6 c7 c8; have H3 := Lib.hid (And.intro hinT (And.intro (heT.trans HB.out.2.1.symm) (And.intro hzT (And.intro hval (And.intro hf hg))))); clear h9 hf hg hinT heT hfr hval hzT hvn))
    all_goals (go_wp2_with fail)
    obtain ⟨p1, p2, p3⟩ := put9Z H3.out.1 H3.out.2.2.1 (by omega) (by omega) (.int .i64 r.status) (.slice va vn vk) (.int .u32 r.flags) (.int .u64 r.cas) (.int .i64 r.ttl) (.int .u64 r.number) (.bool r.stale) (.bool r.won) (.bool r.lost)
    refine bodyPost_ret (results_cell_row Tryz.results35 _ _ (w.heap.size + 1) _ _ _ _ rfl p2 Tryz.underlying37 rfl (res_size r (.slice va vn vk))) rfl ?_
    refine p1.stop (r := r) (v := .slice va vn vk) H3.out.2.2.2.2.1 ?_ (H3.out.2.2.2.1.void (number_val H3.out.2.2.2.2.2) p3.size)
    unfold without
    rw [if_neg (by have := HZ.out; omega), if_neg (by have := HZ.out; rintro ⟨e1, e2⟩; omega), if_neg (by have := HZ.out; omega), if_pos (by have := HZ.out; exact ⟨by omega, HQ.out⟩)]
    exact H3.out.2.2.2.2.2
  · have HQ := Lib.hid hq
    rw [hq] at r9
    clear hq
    go_wp2_with fail
    refine (only_any 1 _).mono ?_
    rintro e w3 ⟨rfl, hb3⟩
    have H3 := Lib.hid (And.intro (HB.out.1.below hb3) ((hb3.block _ (Array.getElem?_eq_some_iff.1 HB.out.2.2.1).1).trans HB.out.2.2.1))
    clear hb3
    unfold Res.arr only
    go_wp2_with (first
      | (refine wpList_store_row rfl 37 _ _ rfl (w.heap.size + 1) ((only 1).arr (.slice none 0 0)) rfl rfl 37 zeroR H3.out.2 (res_size _ _) rfl (res_one _ _ _ _) ?_)
      | fail)
    refine bodyPost_ret (results_cell_row Tryz.results35 _ _ (w.heap.size + 1) _ _ _ _ rfl (setRow_heap _ _ _ ((only 1).arr (.slice none 0 0)) _ _ H3.out.2) Tryz.underlying37 rfl (res_size _ _)) rfl ?_
    exact ((H3.out.1.more_n (Nat.le_succ _) HK.out.1).setRow (k := w.heap.size + 1) (by omega) (by omega) _).stop HB.out.2.2.2.2 (by unfold without; rw [if_neg (by have := HZ.out; omega), if_neg (by have := HZ.out; rintro ⟨e1, e2⟩; omega), if_neg (by have := HZ.out; omega), if_neg (fun e => absurd (HQ.out.symm.trans e.2) (by decide)), if_neg (by have := HZ.out; rintro ⟨e1, e2⟩; omega)]) (Val.nil _ _)
end
end Go.Proofs.YtpghckiochjogaaGreatDoor.Exec

