/- Part14: Exec9a, one behind the other. -/
import Derived.Test.YtpghckiochjogaaGreatDoorPart12
import Derived.Test.YtpghckiochjogaaGreatDoorPart13
/- Layer 12: without. -/
namespace Go.Proofs.YtpghckiochjogaaGreatDoor.Exec
set_option maxRecDepth 100000
open Go Go.RowKit Go.Proofs.YtpghckiochjogaaGreatDoor.Mem Go.Proofs.YtpghckiochjogaaGreatDoor.App Go.Proofs.YtpghckiochjogaaGreatDoor.Shard
section
variable {W w0 w : World} {M b B1 B2 : Nat} {col0 col : Col} {seed : Int} {s : St}
theorem put9Z {t9 : Nat} (h : In W w0 w M b col0 col seed s B1 B2) (ht : w.heap[t9]? = some (.cells zeroR 37 (0, 0))) (h1 : B1 ≤ t9) (h2 : t9 < B2) (v0 v1 v2 v3 v4 v5 v6 v7 v8 : Value) :
    In W w0 (((((((((w.setCell ⟨t9, 0, none⟩ v0).setCell ⟨t9, 1, none⟩ v1).setCell ⟨t9, 2, none⟩ v2).setCell ⟨t9, 3, none⟩ v3).setCell ⟨t9, 4, none⟩ v4).setCell ⟨t9, 5, none⟩ v5).setCell ⟨t9, 6, none⟩ v6).setCell ⟨t9, 7, none⟩ v7).setCell ⟨t9, 8, none⟩ v8) M b col0 col seed s B1 B2 ∧ (((((((((w.setCell ⟨t9, 0, none⟩ v0).setCell ⟨t9, 1, none⟩ v1).setCell ⟨t9, 2, none⟩ v2).setCell ⟨t9, 3, none⟩ v3).setCell ⟨t9, 4, none⟩ v4).setCell ⟨t9, 5, none⟩ v5).setCell ⟨t9, 6, none⟩ v6).setCell ⟨t9, 7, none⟩ v7).setCell ⟨t9, 8, none⟩ v8).heap[t9]? = some (.cells #[v0, v1, v2, v3, v4, v5, v6, v7, v8] 37 (0, 0)) ∧ Only (fun k => k = t9) w (((((((((w.setCell ⟨t9, 0, none⟩ v0).setCell ⟨t9, 1, none⟩ v1).setCell ⟨t9, 2, none⟩ v2).setCell ⟨t9, 3, none⟩ v3).setCell ⟨t9, 4, none⟩ v4).setCell ⟨t9, 5, none⟩ v5).setCell ⟨t9, 6, none⟩ v6).setCell ⟨t9, 7, none⟩ v7).setCell ⟨t9, 8, none⟩ v8) :=
  ⟨h.only h1 h2 (only_set (only_set (only_set (only_set (only_set (only_set (only_set (only_set (only_set (Only.refl (fun k => k = t9) w) 0 v0) 1 v1) 2 v2) 3 v3) 4 v4) 5 v5) 6 v6) 7 v7) 8 v8), set9_row ht v0 v1 v2 v3 v4 v5 v6 v7 v8, only_set (only_set (only_set (only_set (only_set (only_set (only_set (only_set (only_set (Only.refl (fun k => k = t9) w) 0 v0) 1 v1) 2 v2) 3 v3) 4 v4) 5 v5) 6 v6) 7 v7) 8 v8⟩
theorem Val.aside {w' : World} {v : Value} {xs : List UInt8} {k : Nat} (h : Val w col v xs) (ho : Only (fun j => j = k) w w') (hk : xs ≠ [] → v.ownBlock ≠ some k) : Val w' col v xs :=
  ⟨h.src.same (fun hx g e hg => ho.same g hg (fun e2 => hk hx (by rw [e, e2]))) ho.size, h.own⟩
theorem number_val {c : Cmd} {env : Env} {u : Nat} {flags exp : Int} {f : Nat} {r : Res} {t : St} (h : number c env u flags exp f s = (r, t)) : r.val = [] := by
  unfold number at h
  split at h
  · injection h with h1 h2
    rw [← h1]
    exact storeR_val _ _
  · exact doStore_val h
theorem win_val {c : Cmd} {env : Env} {f : Nat} {r : Res} {t : St} (h : win c env f s = (r, t)) : r.val = [] := by
  unfold win at h
  split at h
  · injection h with h1 h2
    rw [← h1]
    rfl
  · injection h with h1 h2
    rw [← h1]
    rfl
end
section
variable {W w : World} {M b : Nat} {col : Col} {seed : Int} {s : St} {c : Cmd} {env : Env}
set_option maxHeartbeats 4000000 in
theorem without5 (h : Run W w M b col seed s) (hM : M + 1 ≤ 1050000) (hp : Pows w) {a : Option Addr} {n k : Nat} (hn : c.val.length = n) (hks : c.key.size ≤ 2000000) (hvs : c.val.length ≤ 2000000) (hv : Val w col (.slice a n k) c.val) (hi : 0 ≤ c.initial) (hi2 : c.initial < 18446744073709551616) (hop : c.op = 5) :
    Calls Tryz.prog 35 #[.agg (rarr b c (.slice a n k) env)] w (ExecP W w (M + 1) b col seed s.tab.L fun f => without c env f s) := by
  have HZ := Lib.hid hop
  have e5 : (c.op == 5) = true := by rw [hop]; rfl
  clear hop
  have hb2 : Below w.heap.size w ((w.alloc (.cells (rarr b c (.slice a n k) env) 86)).alloc (.cells (zeroR) 37)) := Mem.al (Mem.al (Below.refl _ _) _) _
  have n1 : ((w.alloc (.cells (rarr b c (.slice a n k) env) 86)).alloc (.cells (zeroR) 37)).heap[w.heap.size]? = some (.cells (rarr b c (.slice a n k) env) 86 (0, 0)) := Mem.new_later (Mem.new_block w _) _
  have n2 : ((w.alloc (.cells (rarr b c (.slice a n k) env) 86)).alloc (.cells (zeroR) 37)).heap[w.heap.size + 1]? = some (.cells (zeroR) 37 (0, 0)) := Mem.new_block2 w _ _
  have hz : ((w.alloc (.cells (rarr b c (.slice a n k) env) 86)).alloc (.cells (zeroR) 37)).heap.size = w.heap.size + 2 := by simp
  obtain ⟨w1, hw1⟩ : ∃ w1, ((w.alloc (.cells (rarr b c (.slice a n k) env) 86)).alloc (.cells (zeroR) 37)) = w1 := ⟨_, rfl⟩
  rw [hw1] at hb2 hz n1 n2
  have hin := In.start h hb2
  rw [hz] at hin
  have hcr := CellsR.of n1
  have hS : ∀ W', W'.heap[w.heap.size]? = w1.heap[w.heap.size]? → CellsR b c (.slice a n k) env w.heap.size W' := fun W' e => CellsR.of (e.trans n1)
  have hSd := hS w1.drew rfl
  have hat := fun w' => at_any b c (.slice a n k) env w'
  obtain ⟨f0, hf0⟩ := fresh_ex s.tab.L
  have HP := Lib.hid (And.intro (tabIs_below hp hb2) (And.intro hi (show c.initial.toNat < 18446744073709551616 by omega)))
  have HB := Lib.hid (And.intro hin (And.intro n1 (And.intro n2 (And.intro hz hf0))))
  have HK := Lib.hid (And.intro hM (And.intro (show (freshI c env c.val c.flags (atS c.exp env.now)).val.length = n from hn) (And.intro hks (And.intro (show (freshI c env c.val c.flags (atS c.exp env.now)).val.length ≤ 2000000 from hvs) (show Val w col (.slice a n k) (freshI c env c.val c.flags (atS c.exp env.now)).val from hv)))))
  clear hb2 n1 n2 hz hin h hM hn hks hvs hv hf0 hp hi hi2
  unfold CellsR at hcr hS hSd
  have HS := Lib.hid (And.intro hS hSd)
  clear hS hSd
  obtain ⟨r0, r1, r2, r3, r4, r5, r6, r7, r8, r9, r10, r11, r12, r13, r14⟩ := hcr
  have HR := Lib.hid r9
  unfold rarr zeroR at hw1
  unfold rarr at hat
  unfold rarr
  go_enter Tryz.func35, Tryz.ntmps35
  go_wp2_with fail
  refine (only_any 3 _).mono ?_
  rintro e w3 ⟨rfl, hb3⟩
  have H3 := Lib.hid (And.intro (HB.out.1.below hb3) ((hb3.block _ (Array.getElem?_eq_some_iff.1 HB.out.2.2.1).1).trans HB.out.2.2.1))
  clear hb3
  unfold Res.arr only
  go_wp2_with (first
    | (refine wpList_store_row rfl 37 _ _ rfl (w.heap.size + 1) ((only 3).arr (.slice none 0 0)) rfl rfl 37 zeroR H3.out.2 (res_size _ _) rfl (res_one _ _ _ _) ?_)
    | fail)
  refine bodyPost_ret (results_cell_row Tryz.results35 _ _ (w.heap.size + 1) _ _ _ _ rfl (setRow_heap _ _ _ ((only 3).arr (.slice none 0 0)) _ _ H3.out.2) Tryz.underlying37 rfl (res_size _ _)) rfl ?_
  exact ((H3.out.1.more_n (Nat.le_succ _) HK.out.1).setRow (k := w.heap.size + 1) (by omega) (by omega) _).stop HB.out.2.2.2.2 (by unfold without; rw [if_pos (by have := HZ.out; omega)]) (Val.nil _ _)
set_option maxHeartbeats 4000000 in
theorem without6 (h : Run W w M b col seed s) (hM : M + 1 ≤ 1050000) (hp : Pows w) {a : Option Addr} {n k : Nat} (hn : c.val.length = n) (hks : c.key.size ≤ 2000000) (hvs : c.val.length ≤ 2000000) (hv : Val w col (.slice a n k) c.val) (hi : 0 ≤ c.initial) (hi2 : c.initial < 18446744073709551616) (hop : c.op = 6) :
    Calls Tryz.prog 35 #[.agg (rarr b c (.slice a n k) env)] w (ExecP W w (M + 1) b col seed s.tab.L fun f => without c env f s) := by
  have HZ := Lib.hid hop
  have e5 : (c.op == 5) = false := by rw [hop]; rfl
  have e6 : (c.op == 6) = true := by rw [hop]; rfl
  clear hop
  have hb2 : Below w.heap.size w ((w.alloc (.cells (rarr b c (.slice a n k) env) 86)).alloc (.cells (zeroR) 37)) := Mem.al (Mem.al (Below.refl _ _) _) _
  have n1 : ((w.alloc (.cells (rarr b c (.slice a n k) env) 86)).alloc (.cells (zeroR) 37)).heap[w.heap.size]? = some (.cells (rarr b c (.slice a n k) env) 86 (0, 0)) := Mem.new_later (Mem.new_block w _) _
  have n2 : ((w.alloc (.cells (rarr b c (.slice a n k) env) 86)).alloc (.cells (zeroR) 37)).heap[w.heap.size + 1]? = some (.cells (zeroR) 37 (0, 0)) := Mem.new_block2 w _ _
  have hz : ((w.alloc (.cells (rarr b c (.slice a n k) env) 86)).alloc (.cells (zeroR) 37)).heap.size = w.heap.size + 2 := by simp
  obtain ⟨w1, hw1⟩ : ∃ w1, ((w.alloc (.cells (rarr b c (.slice a n k) env) 86)).alloc (.cells (zeroR) 37)) = w1 := ⟨_, rfl⟩
  rw [hw1] at hb2 hz n1 n2
  have hin := In.start h hb2
  rw [hz] at hin
  have hcr := CellsR.of n1
  have hS : ∀ W', W'.heap[w.heap.size]? = w1.heap[w.heap.size]? → CellsR b c (.slice a n k) env w.heap.size W' := fun W' e => CellsR.of (e.trans n1)
  have hSd := hS w1.drew rfl
  have hat := fun w' => at_any b c (.slice a n k) env w'
  obtain ⟨f0, hf0⟩ := fresh_ex s.tab.L
  have HP := Lib.hid (And.intro (tabIs_below hp hb2) (And.intro hi (show c.initial.toNat < 18446744073709551616 by omega)))
  have HB := Lib.hid (And.intro hin (And.intro n1 (And.intro n2 (And.intro hz hf0))))
  have HK := Lib.hid (And.intro hM (And.intro (show (freshI c env c.val c.flags (atS c.exp env.now)).val.length = n from hn) (And.intro hks (And.intro (show (freshI c env c.val c.flags (atS c.exp env.now)).val.length ≤ 2000000 from hvs) (show Val w col (.slice a n k) (freshI c env c.val c.flags (atS c.exp env.now)).val from hv)))))
  clear hb2 n1 n2 hz hin h hM hn hks hvs hv hf0 hp hi hi2
  unfold CellsR at hcr hS hSd
  have HS := Lib.hid (And.intro hS hSd)
  clear hS hSd
  obtain ⟨r0, r1, r2, r3, r4, r5, r6, r7, r8, r9, r10, r11, r12, r13, r14⟩ := hcr
  have HR := Lib.hid r9
  unfold rarr zeroR at hw1
  unfold rarr at hat
  unfold rarr
  go_enter Tryz.func35, Tryz.ntmps35
  go_wp2_with fail
  refine (only_any 3 _).mono ?_
  rintro e w3 ⟨rfl, hb3⟩
  have H3 := Lib.hid (And.intro (HB.out.1.below hb3) ((hb3.block _ (Array.getElem?_eq_some_iff.1 HB.out.2.2.1).1).trans HB.out.2.2.1))
  clear hb3
  unfold Res.arr only
  go_wp2_with (first
    | (refine wpList_store_row rfl 37 _ _ rfl (w.heap.size + 1) ((only 3).arr (.slice none 0 0)) rfl rfl 37 zeroR H3.out.2 (res_size _ _) rfl (res_one _ _ _ _) ?_)
    | fail)
  refine bodyPost_ret (results_cell_row Tryz.results35 _ _ (w.heap.size + 1) _ _ _ _ rfl (setRow_heap _ _ _ ((only 3).arr (.slice none 0 0)) _ _ H3.out.2) Tryz.underlying37 rfl (res_size _ _)) rfl ?_
  exact ((H3.out.1.more_n (Nat.le_succ _) HK.out.1).setRow (k := w.heap.size + 1) (by omega) (by omega) _).stop HB.out.2.2.2.2 (by unfold without; rw [if_pos (by have := HZ.out; omega)]) (Val.nil _ _)
set_option maxHeartbeats 4000000 in
theorem without7 (h : Run W w M b col seed s) (hM : M + 1 ≤ 1050000) (hp : Pows w) {a : Option Addr} {n k : Nat} (hn : c.val.length = n) (hks : c.key.size ≤ 2000000) (hvs : c.val.length ≤ 2000000) (hv : Val w col (.slice a n k) c.val) (hi : 0 ≤ c.initial) (hi2 : c.initial < 18446744073709551616) (hop : c.op = 7) :
    Calls Tryz.prog 35 #[.agg (rarr b c (.slice a n k) env)] w (ExecP W w (M + 1) b col seed s.tab.L fun f => without c env f s) := by
  have HZ := Lib.hid hop
  have e5 : (c.op == 5) = false := by rw [hop]; rfl
  have e6 : (c.op == 6) = false := by rw [hop]; rfl
  have e7 : (c.op == 7) = true := by rw [hop]; rfl
  clear hop
  have hb2 : Below w.heap.size w ((w.alloc (.cells (rarr b c (.slice a n k) env) 86)).alloc (.cells (zeroR) 37)) := Mem.al (Mem.al (Below.refl _ _) _) _
  have n1 : ((w.alloc (.cells (rarr b c (.slice a n k) env) 86)).alloc (.cells (zeroR) 37)).heap[w.heap.size]? = some (.cells (rarr b c (.slice a n k) env) 86 (0, 0)) := Mem.new_later (Mem.new_block w _) _
  have n2 : ((w.alloc (.cells (rarr b c (.slice a n k) env) 86)).alloc (.cells (zeroR) 37)).heap[w.heap.size + 1]? = some (.cells (zeroR) 37 (0, 0)) := Mem.new_block2 w _ _
  have hz : ((w.alloc (.cells (rarr b c (.slice a n k) env) 86)).alloc (.cells (zeroR) 37)).heap.size = w.heap.size + 2 := by simp
  obtain ⟨w1, hw1⟩ : ∃ w1, ((w.alloc (.cells (rarr b c (.slice a n k) env) 86)).alloc (.cells (zeroR) 37)) = w1 := ⟨_, rfl⟩
  rw [hw1] at hb2 hz n1 n2
  have hin := In.start h hb2
  rw [hz] at hin
  have hcr := CellsR.of n1
  have hS : ∀ W', W'.heap[w.heap.size]? = w1.heap[w.heap.size]? → CellsR b c (.slice a n k) env w.heap.size W' := fun W' e => CellsR.of (e.trans n1)
  have hSd := hS w1.drew rfl
  have hat := fun w' => at_any b c (.slice a n k) env w'
  obtain ⟨f0, hf0⟩ := fresh_ex s.tab.L
  have HP := Lib.hid (And.intro (tabIs_below hp hb2) (And.intro hi (show c.initial.toNat < 18446744073709551616 by omega)))
  have HB := Lib.hid (And.intro hin (And.intro n1 (And.intro n2 (And.intro hz hf0))))
  have HK := Lib.hid (And.intro hM (And.intro (show (freshI c env c.val c.flags (atS c.exp env.now)).val.length = n from hn) (And.intro hks (And.intro (show (freshI c env c.val c.flags (atS c.exp env.now)).val.length ≤ 2000000 from hvs) (show Val w col (.slice a n k) (freshI c env c.val c.flags (atS c.exp env.now)).val from hv)))))
  clear hb2 n1 n2 hz hin h hM hn hks hvs hv hf0 hp hi hi2
  unfold CellsR at hcr hS hSd
  have HS := Lib.hid (And.intro hS hSd)
  clear hS hSd
  obtain ⟨r0, r1, r2, r3, r4, r5, r6, r7, r8, r9, r10, r11, r12, r13, r14⟩ := hcr
  have HR := Lib.hid r9
  unfold rarr zeroR at hw1
  unfold rarr at hat
  unfold rarr
  go_enter Tryz.func35, Tryz.ntmps35
  go_wp2_with fail
  refine (only_any 3 _).mono ?_
  rintro e w3 ⟨rfl, hb3⟩
  have H3 := Lib.hid (And.intro (HB.out.1.below hb3) ((hb3.block _ (Array.getElem?_eq_some_iff.1 HB.out.2.2.1).1).trans HB.out.2.2.1))
  clear hb3
  unfold Res.arr only
  go_wp2_with (first
    | (refine wpList_store_row rfl 37 _ _ rfl (w.heap.size + 1) ((only 3).arr (.slice none 0 0)) rfl rfl 37 zeroR H3.out.2 (res_size _ _) rfl (res_one _ _ _ _) ?_)
    | fail)
  refine bodyPost_ret (results_cell_row Tryz.results35 _ _ (w.heap.size + 1) _ _ _ _ rfl (setRow_heap _ _ _ ((only 3).arr (.slice none 0 0)) _ _ H3.out.2) Tryz.underlying37 rfl (res_size _ _)) rfl ?_
  exact ((H3.out.1.more_n (Nat.le_succ _) HK.out.1).setRow (k := w.heap.size + 1) (by omega) (by omega) _).stop HB.out.2.2.2.2 (by unfold without; rw [if_pos (by have := HZ.out; omega)]) (Val.nil _ _)
set_option maxHeartbeats 4000000 in
theorem withoutE (h : Run W w M b col seed s) (hM : M + 1 ≤ 1050000) (hp : Pows w) {a : Option Addr} {n k : Nat} (hn : c.val.length = n) (hks : c.key.size ≤ 2000000) (hvs : c.val.length ≤ 2000000) (hv : Val w col (.slice a n k) c.val) (hi : 0 ≤ c.initial) (hi2 : c.initial < 18446744073709551616) (h5 : c.op ≠ 5) (h6 : c.op ≠ 6) (h7 : c.op ≠ 7) (h3 : c.op ≠ 3) (h4 : c.op ≠ 4) (h10 : c.op ≠ 10) (h11 : c.op ≠ 11) (h12 : c.op ≠ 12) :
    Calls Tryz.prog 35 #[.agg (rarr b c (.slice a n k) env)] w (ExecP W w (M + 1) b col seed s.tab.L fun f => without c env f s) := by
  have e5 : (c.op == 5) = false := by simpa using h5
  have e6 : (c.op == 6) = false := by simpa using h6
  have e7 : (c.op == 7) = false := by simpa using h7
  have e3 : (c.op == 3) = false := by simpa using h3
  have e4 : (c.op == 4) = false := by simpa using h4
  have e10 : (c.op == 10) = false := by simpa using h10
  have e11 : (c.op == 11) = false := by simpa using h11
  have e12 : (c.op == 12) = false := by simpa using h12
  have HZ := Lib.hid (And.intro h5 (And.intro h6 (And.intro h7 (And.intro h3 (And.intro h4 (And.intro h10 (And.intro h11 h12)))))))
  clear h5 h6 h7 h3 h4 h10 h11 h12
  have hb2 : Below w.heap.size w ((w.alloc (.cells (rarr b c (.slice a n k) env) 86)).alloc (.cells (zeroR) 37)) := Mem.al (Mem.al (Below.refl _ _) _) _
  have n1 : ((w.alloc (.cells (rarr b c (.slice a n k) env) 86)).alloc (.cells (zeroR) 37)).heap[w.heap.size]? = some (.cells (rarr b c (.slice a n k) env) 86 (0, 0)) := Mem.new_later (Mem.new_block w _) _
  have n2 : ((w.alloc (.cells (rarr b c (.slice a n k) env) 86)).alloc (.cells (zeroR) 37)).heap[w.heap.size + 1]? = some (.cells (zeroR) 37 (0, 0)) := Mem.new_block2 w _ _
  have hz : ((w.alloc (.cells (rarr b c (.slice a n k) env) 86)).alloc (.cells (zeroR) 37)).heap.size = w.heap.size + 2 := by simp
  obtain ⟨w1, hw1⟩ : ∃ w1, ((w.alloc (.cells (rarr b c (.slice a n k) env) 86)).alloc (.cells (zeroR) 37)) = w1 := ⟨_, rfl⟩
  rw [hw1] at hb2 hz n1 n2
  have hin := In.start h hb2
  rw [hz] at hin
  have hcr := CellsR.of n1
  have hS : ∀ W', W'.heap[w.heap.size]? = w1.heap[w.heap.size]? → CellsR b c (.slice a n k) env w.heap.size W' := fun W' e => CellsR.of (e.trans n1)
  have hSd := hS w1.drew rfl
  have hat := fun w' => at_any b c (.slice a n k) env w'
  obtain ⟨f0, hf0⟩ := fresh_ex s.tab.L
  have HP := Lib.hid (And.intro (tabIs_below hp hb2) (And.intro hi (show c.initial.toNat < 18446744073709551616 by omega)))
  have HB := Lib.hid (And.intro hin (And.intro n1 (And.intro n2 (And.intro hz hf0))))
  have HK := Lib.hid (And.intro hM (And.intro (show (freshI c env c.val c.flags (atS c.exp env.now)).val.length = n from hn) (And.intro hks (And.intro (show (freshI c env c.val c.flags (atS c.exp env.now)).val.length ≤ 2000000 from hvs) (show Val w col (.slice a n k) (freshI c env c.val c.flags (atS c.exp env.now)).val from hv)))))
  clear hb2 n1 n2 hz hin h hM hn hks hvs hv hf0 hp hi hi2
  unfold CellsR at hcr hS hSd
  have HS := Lib.hid (And.intro hS hSd)
  clear hS hSd
  obtain ⟨r0, r1, r2, r3, r4, r5, r6, r7, r8, r9, r10, r11, r12, r13, r14⟩ := hcr
  have HR := Lib.hid r9
  unfold rarr zeroR at hw1
  unfold rarr at hat
  unfold rarr
  go_enter Tryz.func35, Tryz.ntmps35
  go_wp2_with fail
  refine (only_any 1 _).mono ?_
  rintro e w3 ⟨rfl, hb3⟩
  have H3 := Lib.hid (And.intro (HB.out.1.below hb3) ((hb3.block _ (Array.getElem?_eq_some_iff.1 HB.out.2.2.1).1).trans HB.out.2.2.1))
  clear hb3
  unfold Res.arr only
  go_wp2_with (first
    | (refine wpList_store_row rfl 37 _ _ rfl (w.heap.size + 1) ((only 1).arr (.slice none 0 0)) rfl rfl 37 zeroR H3.out.2 (res_size _ _) rfl (res_one _ _ _ _) ?_)
    | fail)
  refine bodyPost_ret (results_cell_row Tryz.results35 _ _ (w.heap.size + 1) _ _ _ _ rfl (setRow_heap _ _ _ ((only 1).arr (.slice none 0 0)) _ _ H3.out.2) Tryz.underlying37 rfl (res_size _ _)) rfl ?_
  exact ((H3.out.1.more_n (Nat.le_succ _) HK.out.1).setRow (k := w.heap.size + 1) (by omega) (by omega) _).stop HB.out.2.2.2.2 (by unfold without; rw [if_neg (by have := HZ.out; omega), if_neg (by have := HZ.out; rintro ⟨e1, e2⟩; omega), if_neg (by have := HZ.out; omega), if_neg (by have := HZ.out; rintro ⟨e1, e2⟩; omega), if_neg (by have := HZ.out; rintro ⟨e1, e2⟩; omega)]) (Val.nil _ _)
end
end Go.Proofs.YtpghckiochjogaaGreatDoor.Exec

