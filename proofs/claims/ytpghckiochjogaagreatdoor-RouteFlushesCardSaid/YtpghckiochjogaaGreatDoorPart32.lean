/- Part32: Exec14a, one behind the other. -/
import Derived.Test.YtpghckiochjogaaGreatDoorPart31
/- Layer 12: Do. -/
namespace Go.Proofs.YtpghckiochjogaaGreatDoor.Exec
set_option maxRecDepth 100000
open Go Go.RowKit Go.Proofs.YtpghckiochjogaaGreatDoor.Mem Go.Proofs.YtpghckiochjogaaGreatDoor.App Go.Proofs.YtpghckiochjogaaGreatDoor.Shard
theorem without_val {c : Cmd} {env : Env} {f : Nat} {s : St} {r : Res} {t : St} (h : without c env f s = (r, t)) : r.val = [] := by
  unfold without at h
  split at h
  · injection h with h1 h2
    rw [← h1]
    rfl
  split at h
  · injection h with h1 h2
    rw [← h1]
    rfl
  split at h
  · exact doStore_val h
  split at h
  · exact number_val h
  split at h
  · exact win_val h
  · injection h with h1 h2
    rw [← h1]
    rfl
section
variable {W w : World} {M b : Nat} {col : Col} {seed : Int} {s : St} {c : Cmd} {env : Env}
set_option maxHeartbeats 4000000 in
theorem do15 (h : Run W w M b col seed s) (hM : M + 2 ≤ 1050000) (hp : Pows W) (he : Errs W) {a : Option Addr} {n k : Nat} (hn : c.val.length = n) (hks : c.key.size ≤ 2000000) (hvs : c.val.length ≤ 1100000) (hv : Val w col (.slice a n k) c.val) (hi : 0 ≤ c.initial) (hi2 : c.initial < 18446744073709551616) (hd : 0 ≤ c.delta) (hd2 : c.delta < 18446744073709551616) (hop : c.op = 15) :
    Calls Tryz.prog 19 #[.pointer (some ⟨b, 0, none⟩), .agg (c.arr (.slice a n k)), .agg env.arr] w (ExecP W w (M + 2) b col seed (looked c env s).tab.L fun f => run c env f s) := by
  have e15 : (c.op == 15) = true := by rw [hop]; rfl
  have HZ := Lib.hid hop
  clear hop
  have hb2 : Below w.heap.size w (((w.alloc (.cells (c.arr (.slice a n k)) 33)).alloc (.cells (env.arr) 35)).alloc (.cells (zeroR) 37)) := Mem.al (Mem.al (Mem.al (Below.refl _ _) _) _) _
  have n1 : (((w.alloc (.cells (c.arr (.slice a n k)) 33)).alloc (.cells (env.arr) 35)).alloc (.cells (zeroR) 37)).heap[w.heap.size]? = some (.cells (c.arr (.slice a n k)) 33 (0, 0)) := Mem.new_later (Mem.new_later (Mem.new_block w _) _) _
  have n2 : (((w.alloc (.cells (c.arr (.slice a n k)) 33)).alloc (.cells (env.arr) 35)).alloc (.cells (zeroR) 37)).heap[w.heap.size + 1]? = some (.cells (env.arr) 35 (0, 0)) := Mem.new_later (Mem.new_block2 w _ _) _
  have n3 : (((w.alloc (.cells (c.arr (.slice a n k)) 33)).alloc (.cells (env.arr) 35)).alloc (.cells (zeroR) 37)).heap[w.heap.size + 1 + 1]? = some (.cells (zeroR) 37 (0, 0)) := new_block3 w _ _ _
  have hz : (((w.alloc (.cells (c.arr (.slice a n k)) 33)).alloc (.cells (env.arr) 35)).alloc (.cells (zeroR) 37)).heap.size = w.heap.size + 3 := by simp
  obtain ⟨w1, hw1⟩ : ∃ w1, (((w.alloc (.cells (c.arr (.slice a n k)) 33)).alloc (.cells (env.arr) 35)).alloc (.cells (zeroR) 37)) = w1 := ⟨_, rfl⟩
  rw [hw1] at hb2 hz n1 n2 n3
  have q0 := Mem.row_cell n1 0
  have q1 := Mem.row_cell n1 1
  have q2 := Mem.row_cell n1 2
  have q3 := Mem.row_cell n1 3
  have q4 := Mem.row_cell n1 4
  have q5 := Mem.row_cell n1 5
  have q6 := Mem.row_cell n1 6
  have q7 := Mem.row_cell n1 7
  have q8 := Mem.row_cell n1 8
  have q9 := Mem.row_cell n1 9
  simp only [Cmd.arr, List.getElem?_toArray, List.getElem?_cons_zero, List.getElem?_cons_succ] at q0 q1 q2 q3 q4 q5 q6 q7 q8 q9
  have v0 := Mem.row_cell n2 0
  have v1 := Mem.row_cell n2 1
  have v2 := Mem.row_cell n2 2
  have v3 := Mem.row_cell n2 3
  simp only [Shard.Env.arr, List.getElem?_toArray, List.getElem?_cons_zero, List.getElem?_cons_succ] at v0 v1 v2 v3
  have hin := In.start h hb2
  rw [hz] at hin
  have HB := Lib.hid (And.intro hin (And.intro n1 (And.intro n2 (And.intro n3 hz))))
  have HK := Lib.hid (And.intro hM (And.intro hn (And.intro hks (And.intro hvs (And.intro hv (And.intro hi (And.intro hi2 (And.intro hd (And.intro hd2 (And.intro hp he))))))))))
  clear hb2 n1 n2 n3 hz hin h hM hn hks hvs hv hi hi2 hd hd2 hp he
  unfold Cmd.arr Shard.Env.arr zeroR at hw1
  unfold Cmd.arr Shard.Env.arr
  go_enter Tryz.func19, Tryz.ntmps19
  go_wp2_with fail
  refine (only_any 11 _).mono ?_
  rintro e w3 ⟨rfl, hb3⟩
  have H3 := Lib.hid (And.intro (HB.out.1.below hb3) ((hb3.block _ (Array.getElem?_eq_some_iff.1 HB.out.2.2.2.1).1).trans HB.out.2.2.2.1))
  clear hb3
  unfold Res.arr only
  go_wp2_with (first
    | (refine wpList_store_row rfl 37 _ _ rfl (w.heap.size + 1 + 1) ((only 11).arr (.slice none 0 0)) rfl rfl 37 zeroR H3.out.2 (res_size _ _) rfl (res_one _ _ _ _) ?_)
    | fail)
  refine bodyPost_ret (results_cell_row Tryz.results19 _ _ (w.heap.size + 1 + 1) _ _ _ _ rfl (setRow_heap _ _ _ ((only 11).arr (.slice none 0 0)) _ _ H3.out.2) Tryz.underlying37 rfl (res_size _ _)) rfl ?_
  obtain ⟨f0, hf0⟩ := fresh_ex (looked c env s).tab.L
  exact ((H3.out.1.setRow (k := w.heap.size + 1 + 1) (by omega) (by omega) ((only 11).arr (.slice none 0 0))).more_n (Nat.le_add_right _ 2) HK.out.1).stop hf0 (by unfold run; rw [if_pos HZ.out]) (Val.nil _ _)
set_option maxHeartbeats 4000000 in
theorem do10 (h : Run W w M b col seed s) (hM : M + 2 ≤ 1050000) (hp : Pows W) (he : Errs W) {a : Option Addr} {n k : Nat} (hn : c.val.length = n) (hks : c.key.size ≤ 2000000) (hvs : c.val.length ≤ 1100000) (hv : Val w col (.slice a n k) c.val) (hi : 0 ≤ c.initial) (hi2 : c.initial < 18446744073709551616) (hd : 0 ≤ c.delta) (hd2 : c.delta < 18446744073709551616) (hop : c.op ≠ 15) (hkq : keyed c.op = false) :
    Calls Tryz.prog 19 #[.pointer (some ⟨b, 0, none⟩), .agg (c.arr (.slice a n k)), .agg env.arr] w (ExecP W w (M + 2) b col seed (looked c env s).tab.L fun f => run c env f s) := by
  have e15 : (c.op == 15) = false := by simpa using hop
  have HZ := Lib.hid (And.intro hop hkq)
  clear hop
  have hb2 : Below w.heap.size w (((w.alloc (.cells (c.arr (.slice a n k)) 33)).alloc (.cells (env.arr) 35)).alloc (.cells (zeroR) 37)) := Mem.al (Mem.al (Mem.al (Below.refl _ _) _) _) _
  have n1 : (((w.alloc (.cells (c.arr (.slice a n k)) 33)).alloc (.cells (env.arr) 35)).alloc (.cells (zeroR) 37)).heap[w.heap.size]? = some (.cells (c.arr (.slice a n k)) 33 (0, 0)) := Mem.new_later (Mem.new_later (Mem.new_block w _) _) _
  have n2 : (((w.alloc (.cells (c.arr (.slice a n k)) 33)).alloc (.cells (env.arr) 35)).alloc (.cells (zeroR) 37)).heap[w.heap.size + 1]? = some (.cells (env.arr) 35 (0, 0)) := Mem.new_later (Mem.new_block2 w _ _) _
  have n3 : (((w.alloc (.cells (c.arr (.slice a n k)) 33)).alloc (.cells (env.arr) 35)).alloc (.cells (zeroR) 37)).heap[w.heap.size + 1 + 1]? = some (.cells (zeroR) 37 (0, 0)) := new_block3 w _ _ _
  have hz : (((w.alloc (.cells (c.arr (.slice a n k)) 33)).alloc (.cells (env.arr) 35)).alloc (.cells (zeroR) 37)).heap.size = w.heap.size + 3 := by simp
  obtain ⟨w1, hw1⟩ : ∃ w1, (((w.alloc (.cells (c.arr (.slice a n k)) 33)).alloc (.cells (env.arr) 35)).alloc (.cells (zeroR) 37)) = w1 := ⟨_, rfl⟩
  rw [hw1] at hb2 hz n1 n2 n3
  have q0 := Mem.row_cell n1 0
  have q1 := Mem.row_cell n1 1
  have q2 := Mem.row_cell n1 2
  have q3 := Mem.row_cell n1 3
  have q4 := Mem.row_cell n1 4
  have q5 := Mem.row_cell n1 5
  have q6 := Mem.row_cell n1 6
  have q7 := Mem.row_cell n1 7
  have q8 := Mem.row_cell n1 8
  have q9 := Mem.row_cell n1 9
  simp only [Cmd.arr, List.getElem?_toArray, List.getElem?_cons_zero, List.getElem?_cons_succ] at q0 q1 q2 q3 q4 q5 q6 q7 q8 q9
  have v0 := Mem.row_cell n2 0
  have v1 := Mem.row_cell n2 1
  have v2 := Mem.row_cell n2 2
  have v3 := Mem.row_cell n2 3
  simp only [Shard.Env.arr, List.getElem?_toArray, List.getElem?_cons_zero, List.getElem?_cons_succ] at v0 v1 v2 v3
  have hin := In.start h hb2
  rw [hz] at hin
  have HB := Lib.hid (And.intro hin (And.intro n1 (And.intro n2 (And.intro n3 hz))))
  have HK := Lib.hid (And.intro hM (And.intro hn (And.intro hks (And.intro hvs (And.intro hv (And.intro hi (And.intro hi2 (And.intro hd (And.intro hd2 (And.intro hp he))))))))))
  clear hb2 n1 n2 n3 hz hin h hM hn hks hvs hv hi hi2 hd hd2 hp he
  unfold Cmd.arr Shard.Env.arr zeroR at hw1
  unfold Cmd.arr Shard.Env.arr
  go_enter Tryz.func19, Tryz.ntmps19
  go_wp2_with fail
  refine (keyed_any c.op _).mono ?_
  rintro e wk ⟨rfl, hwk⟩
  subst hwk
  rw [hkq]
  clear hkq
  go_wp2_with fail
  refine (only_any 10 _).mono ?_
  rintro e w3 ⟨rfl, hb3⟩
  have H3 := Lib.hid (And.intro (HB.out.1.below hb3) ((hb3.block _ (Array.getElem?_eq_some_iff.1 HB.out.2.2.2.1).1).trans HB.out.2.2.2.1))
  clear hb3
  unfold Res.arr only
  go_wp2_with (first
    | (refine wpList_store_row rfl 37 _ _ rfl (w.heap.size + 1 + 1) ((only 10).arr (.slice none 0 0)) rfl rfl 37 zeroR H3.out.2 (res_size _ _) rfl (res_one _ _ _ _) ?_)
    | fail)
  refine bodyPost_ret (results_cell_row Tryz.results19 _ _ (w.heap.size + 1 + 1) _ _ _ _ rfl (setRow_heap _ _ _ ((only 10).arr (.slice none 0 0)) _ _ H3.out.2) Tryz.underlying37 rfl (res_size _ _)) rfl ?_
  obtain ⟨f0, hf0⟩ := fresh_ex (looked c env s).tab.L
  exact ((H3.out.1.setRow (k := w.heap.size + 1 + 1) (by omega) (by omega) ((only 10).arr (.slice none 0 0))).more_n (Nat.le_add_right _ 2) HK.out.1).stop hf0 (by unfold run; rw [if_neg HZ.out.1, if_pos HZ.out.2]) (Val.nil _ _)
set_option maxHeartbeats 4000000 in
theorem doNone (h : Run W w M b col seed s) (hM : M + 2 ≤ 1050000) (hp : Pows W) (he : Errs W) {a : Option Addr} {n k : Nat} (hn : c.val.length = n) (hks : c.key.size ≤ 2000000) (hvs : c.val.length ≤ 1100000) (hv : Val w col (.slice a n k) c.val) (hi : 0 ≤ c.initial) (hi2 : c.initial < 18446744073709551616) (hd : 0 ≤ c.delta) (hd2 : c.delta < 18446744073709551616) (hop : c.op ≠ 15 ∧ keyed c.op = true) (hfd : (s.find c.key env).1 = none) :
    Calls Tryz.prog 19 #[.pointer (some ⟨b, 0, none⟩), .agg (c.arr (.slice a n k)), .agg env.arr] w (ExecP W w (M + 2) b col seed (looked c env s).tab.L fun f => run c env f s) := by
  have HF := Lib.hid hfd
  have hb2 : Below w.heap.size w (((w.alloc (.cells (c.arr (.slice a n k)) 33)).alloc (.cells (env.arr) 35)).alloc (.cells (zeroR) 37)) := Mem.al (Mem.al (Mem.al (Below.refl _ _) _) _) _
  have n1 : (((w.alloc (.cells (c.arr (.slice a n k)) 33)).alloc (.cells (env.arr) 35)).alloc (.cells (zeroR) 37)).heap[w.heap.size]? = some (.cells (c.arr (.slice a n k)) 33 (0, 0)) := Mem.new_later (Mem.new_later (Mem.new_block w _) _) _
  have n2 : (((w.alloc (.cells (c.arr (.slice a n k)) 33)).alloc (.cells (env.arr) 35)).alloc (.cells (zeroR) 37)).heap[w.heap.size + 1]? = some (.cells (env.arr) 35 (0, 0)) := Mem.new_later (Mem.new_block2 w _ _) _
  have n3 : (((w.alloc (.cells (c.arr (.slice a n k)) 33)).alloc (.cells (env.arr) 35)).alloc (.cells (zeroR) 37)).heap[w.heap.size + 1 + 1]? = some (.cells (zeroR) 37 (0, 0)) := new_block3 w _ _ _
  have hz : (((w.alloc (.cells (c.arr (.slice a n k)) 33)).alloc (.cells (env.arr) 35)).alloc (.cells (zeroR) 37)).heap.size = w.heap.size + 3 := by simp
  obtain ⟨w1, hw1⟩ : ∃ w1, (((w.alloc (.cells (c.arr (.slice a n k)) 33)).alloc (.cells (env.arr) 35)).alloc (.cells (zeroR) 37)) = w1 := ⟨_, rfl⟩
  rw [hw1] at hb2 hz n1 n2 n3
  have q0 := Mem.row_cell n1 0
  have q1 := Mem.row_cell n1 1
  have q2 := Mem.row_cell n1 2
  have q3 := Mem.row_cell n1 3
  have q4 := Mem.row_cell n1 4
  have q5 := Mem.row_cell n1 5
  have q6 := Mem.row_cell n1 6
  have q7 := Mem.row_cell n1 7
  have q8 := Mem.row_cell n1 8
  have q9 := Mem.row_cell n1 9
  simp only [Cmd.arr, List.getElem?_toArray, List.getElem?_cons_zero, List.getElem?_cons_succ] at q0 q1 q2 q3 q4 q5 q6 q7 q8 q9
  have v0 := Mem.row_cell n2 0
  have v1 := Mem.row_cell n2 1
  have v2 := Mem.row_cell n2 2
  have v3 := Mem.row_cell n2 3
  simp only [Shard.Env.arr, List.getElem?_toArray, List.getElem?_cons_zero, List.getElem?_cons_succ] at v0 v1 v2 v3
  have hin := In.start h hb2
  rw [hz] at hin
  have HB := Lib.hid (And.intro hin (And.intro n1 (And.intro n2 (And.intro n3 hz))))
  have HK := Lib.hid (And.intro hM (And.intro hn (And.intro hks (And.intro hvs (And.intro hv (And.intro hi (And.intro hi2 (And.intro hd (And.intro hd2 (And.intro hp he))))))))))
  clear hb2 n1 n2 n3 hz hin h hM hn hks hvs hv hi hi2 hd hd2 hp he
  unfold Cmd.arr Shard.Env.arr zeroR at hw1
  unfold Cmd.arr Shard.Env.arr
  go_enter Tryz.func19, Tryz.ntmps19
  have e15 : (c.op == 15) = false := by simpa using hop.1
  have HZ := Lib.hid hop
  have hkq := hop.2
  clear hop
  go_wp2_with fail
  refine (keyed_any c.op _).mono ?_
  rintro e wk ⟨rfl, hwk⟩
  subst hwk
  rw [hkq]
  clear hkq
  go_upto_region 6 with (fail)
  have nR := Mem.new_block w1 (.cells (rarr b c (.slice a n k) env) 86)
  have hbR := Mem.al (Below.refl w1.heap.size w1) (.cells (rarr b c (.slice a n k) env) 86)
  have hin2 := HB.out.1.more hbR (by have := HB.out.2.2.2.2; omega)
  have nZ := (hbR.block (w.heap.size + 1 + 1) (by have := HB.out.2.2.2.2; omega)).trans HB.out.2.2.2.1
  have nC := (hbR.block (w.heap.size) (by have := HB.out.2.2.2.2; omega)).trans HB.out.2.1
  have nE := (hbR.block (w.heap.size + 1) (by have := HB.out.2.2.2.2; omega)).trans HB.out.2.2.1
  rw [World.size_alloc] at hin2
  obtain ⟨w2, hw2⟩ : ∃ w2, w1.alloc (.cells (rarr b c (.slice a n k) env) 86) = w2 := ⟨_, rfl⟩
  rw [hw2] at nR hin2 nZ nC nE
  clear hbR q0 q1 q2 q3 q4 q5 q6 q7 q8 q9 v0 v1 v2 v3
  have q0 := Mem.row_cell nC 0
  have q1 := Mem.row_cell nC 1
  have q2 := Mem.row_cell nC 2
  have q3 := Mem.row_cell nC 3
  have q4 := Mem.row_cell nC 4
  have q5 := Mem.row_cell nC 5
  have q6 := Mem.row_cell nC 6
  have q7 := Mem.row_cell nC 7
  have q8 := Mem.row_cell nC 8
  have q9 := Mem.row_cell nC 9
  simp only [Cmd.arr, List.getElem?_toArray, List.getElem?_cons_zero, List.getElem?_cons_succ] at q0 q1 q2 q3 q4 q5 q6 q7 q8 q9
  have v0 := Mem.row_cell nE 0
  have v1 := Mem.row_cell nE 1
  have v2 := Mem.row_cell nE 2
  have v3 := Mem.row_cell nE 3
  simp only [Shard.Env.arr, List.getElem?_toArray, List.getElem?_cons_zero, List.getElem?_cons_succ] at v0 v1 v2 v3
  have H2 := Lib.hid (And.intro hin2 (And.intro nR (And.intro nZ nC)))
  clear hin2 nR nZ nC nE
  unfold rarr at hw2
  have hlk := look_run H2.out.1.run (Nat.le_of_succ_le HK.out.1) c.key env (by have := HK.out.2.2.1; unfold maxLen; omega)
  rw [hfd] at hlk
  unfold Shard.Env.arr Shard.zeroI at hlk
  go_wp2_with fail
  refine hlk.mono ?_
  rintro e wL ⟨hT, rfl⟩
  obtain ⟨colL, hinL, hfL⟩ := H2.out.1.turn hT
  have nR := H2.out.1.row (by have := HB.out.2.2.2.2; omega) (by omega) hfL H2.out.2.1
  have nZ := H2.out.1.row (by omega) (by have := HB.out.2.2.2.2; omega) hfL H2.out.2.2.1
  have nC := H2.out.1.row (by omega) (by have := HB.out.2.2.2.2; omega) hfL H2.out.2.2.2
  have HL := Lib.hid (And.intro hinL (And.intro nR (And.intro nZ nC)))
  clear hT hinL hfL nR nZ nC hlk q0 q1 q2 q3 q4 q5 q6 q7 q8 q9 v0 v1 v2 v3 hw2
  go_upto_region 7 with (fail)
  have hbI := Mem.al (Below.refl wL.heap.size wL) (.cells Shard.zeroI 51)
  have hinI := HL.out.1.below hbI
  have hlt := HL.out.1.hi
  have hlt1 := HB.out.2.2.2.2
  have nR := (hbI.block _ (by omega)).trans HL.out.2.1
  have nZ := (hbI.block _ (by omega)).trans HL.out.2.2.1
  have nC := (hbI.block _ (by omega)).trans HL.out.2.2.2
  obtain ⟨wI, hwI⟩ : ∃ wI, wL.alloc (.cells Shard.zeroI 51) = wI := ⟨_, rfl⟩
  rw [hwI] at hinI nR nZ nC
  have q1 := Mem.row_cell nC 1
  simp only [Cmd.arr, List.getElem?_toArray, List.getElem?_cons_zero, List.getElem?_cons_succ] at q1
  have hus := use_run hinI.run (by have := HK.out.1; omega) c.key (by have := HK.out.2.2.1; unfold maxLen; omega)
  have HI := Lib.hid (And.intro hinI (And.intro nR nZ))
  clear hinI nR nZ nC hlt hlt1 hbI
  unfold Shard.zeroI at hwI
  go_wp2_with fail
  refine hus.mono ?_
  rintro e wU ⟨rfl, hT⟩
  obtain ⟨colU, hinU, hfU⟩ := HI.out.1.turn hT
  have nR := HI.out.1.row (by have := HB.out.2.2.2.2; omega) (by omega) hfU HI.out.2.1
  have nZ := HI.out.1.row (by omega) (by have := HB.out.2.2.2.2; omega) hfU HI.out.2.2
  clear hwI q1 hus hT hfU
  have r0 := Mem.row_cell nR 0
  have r1 := Mem.row_cell nR 1
  have r2 := Mem.row_cell nR 2
  have r3 := Mem.row_cell nR 3
  have r4 := Mem.row_cell nR 4
  have r5 := Mem.row_cell nR 5
  have r6 := Mem.row_cell nR 6
  have r7 := Mem.row_cell nR 7
  have r8 := Mem.row_cell nR 8
  have r9 := Mem.row_cell nR 9
  have r10 := Mem.row_cell nR 10
  have r11 := Mem.row_cell nR 11
  have r12 := Mem.row_cell nR 12
  have r13 := Mem.row_cell nR 13
  have r14 := Mem.row_cell nR 14
  simp only [rarr, List.getElem?_toArray, List.getElem?_cons_zero, List.getElem?_cons_succ] at r0 r1 r2 r3 r4 r5 r6 r7 r8 r9 r10 r11 r12 r13 r14
  have hwt := without_any hinU.run HK.out.1 (tabIs_below HK.out.2.2.2.2.2.2.2.2.2.1 hinU.run.below) (c := c) (env := env) HK.out.2.1 HK.out.2.2.1 (by have := HK.out.2.2.2.1; omega) (hinU.val HK.out.2.2.2.2.1) HK.out.2.2.2.2.2.1 HK.out.2.2.2.2.2.2.1
  unfold rarr at hwt
  have HU := Lib.hid (And.intro hinU nZ)
  clear hinU nR nZ
  go_wp2_with fail
  refine hwt.mono ?_
  rintro en wT h9
  obtain ⟨f, r, t, va, vn, vk, col', hf, hg, rfl, hvn, hinT, hfr, hval⟩ := h9.use HU.out.1
  have hzT := HU.out.1.row (by omega) (by have := HB.out.2.2.2.2; omega) hfr HU.out.2
  have H3 := Lib.hid (And.intro hinT (And.intro hzT (And.intro hval (And.intro hf hg))))
  clear h9 hf hg hinT hfr hval hzT hvn hwt r0 r1 r2 r3 r4 r5 r6 r7 r8 r9 r10 r11 r12 r13 r14
  go_wp2_with (first
    | (refine wpList_store_row rfl 37 _ _ rfl (w.heap.size + 1 + 1) (r.arr (.slice va vn vk)) rfl rfl 37 zeroR H3.out.2.1 (res_size _ _) rfl (res_one _ _ _ _) ?_)
    | fail)
  refine bodyPost_ret (results_cell_row Tryz.results19 _ _ (w.heap.size + 1 + 1) _ _ _ _ rfl (setRow_heap _ _ _ (r.arr (.slice va vn vk)) _ _ H3.out.2.1) Tryz.underlying37 rfl (res_size _ _)) rfl ?_
  have hlt1 := HB.out.2.2.2.2
  refine (H3.out.1.setRow (k := w.heap.size + 1 + 1) (by omega) (by omega) _).stop (r := r) (v := .slice va vn vk) H3.out.2.2.2.1 ?_ (H3.out.2.2.1.void (without_val H3.out.2.2.2.2) (by simp))
  show run c env f s = _
  unfold run
  rw [if_neg HZ.out.1, if_neg (by rw [HZ.out.2]; decide), HF.out]
  exact H3.out.2.2.2.2
end
end Go.Proofs.YtpghckiochjogaaGreatDoor.Exec

