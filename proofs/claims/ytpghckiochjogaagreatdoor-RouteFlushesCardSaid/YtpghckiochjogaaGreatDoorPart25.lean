/- Part25: Exec12c, one behind the other. -/
import Derived.Test.YtpghckiochjogaaGreatDoorPart23
/- Layer 12: peaceful. -/
namespace Go.Proofs.YtpghckiochjogaaGreatDoor.Exec
set_option maxRecDepth 100000
open Go Go.RowKit Go.Proofs.YtpghckiochjogaaGreatDoor.Mem Go.Proofs.YtpghckiochjogaaGreatDoor.App Go.Proofs.YtpghckiochjogaaGreatDoor.Shard
section
variable {W w : World} {M b : Nat} {col : Col} {seed : Int} {s : St} {c : Cmd} {env : Env}
set_option maxHeartbeats 4000000 in
theorem peace2 (h : Run W w M b col seed s) (hM : M ≤ 1050000) {a : Option Addr} {n k : Nat} (it : Shard.Item) {a2 : Option Addr} {m2 k2 : Nat} (hm : it.val.length = m2) (hks : it.key.size ≤ 2000000) (hvs : it.val.length ≤ 2000000) (hv : Val w col (.slice a2 m2 k2) it.val) (hop : c.op = 2) :
    Calls Tryz.prog 56 #[.agg (rarr b c (.slice a n k) env), .agg (it.arr (.slice a2 m2 k2))] w (PeaceP W w M b col seed (.slice a2 m2 k2) it.val (only 6, (s.update { it with exp := atS c.exp env.now }).2)) := by
  have HZ := Lib.hid hop
  have e0 : (c.op == 0) = false := by rw [hop]; rfl
  have e1 : (c.op == 1) = false := by rw [hop]; rfl
  have e2 : (c.op == 2) = true := by rw [hop]; rfl
  clear hop
  have hb2 : Below w.heap.size w (((w.alloc (.cells (rarr b c (.slice a n k) env) 86)).alloc (.cells (it.arr (.slice a2 m2 k2)) 51)).alloc (.cells (zeroR) 37)) := Mem.al (Mem.al (Mem.al (Below.refl _ _) _) _) _
  have n1 : (((w.alloc (.cells (rarr b c (.slice a n k) env) 86)).alloc (.cells (it.arr (.slice a2 m2 k2)) 51)).alloc (.cells (zeroR) 37)).heap[w.heap.size]? = some (.cells (rarr b c (.slice a n k) env) 86 (0, 0)) := Mem.new_later (Mem.new_later (Mem.new_block w _) _) _
  have n2 : (((w.alloc (.cells (rarr b c (.slice a n k) env) 86)).alloc (.cells (it.arr (.slice a2 m2 k2)) 51)).alloc (.cells (zeroR) 37)).heap[w.heap.size + 1]? = some (.cells (it.arr (.slice a2 m2 k2)) 51 (0, 0)) := Mem.new_later (Mem.new_block2 w _ _) _
  have n3 : (((w.alloc (.cells (rarr b c (.slice a n k) env) 86)).alloc (.cells (it.arr (.slice a2 m2 k2)) 51)).alloc (.cells (zeroR) 37)).heap[w.heap.size + 1 + 1]? = some (.cells (zeroR) 37 (0, 0)) := new_block3 w _ _ _
  have hz : (((w.alloc (.cells (rarr b c (.slice a n k) env) 86)).alloc (.cells (it.arr (.slice a2 m2 k2)) 51)).alloc (.cells (zeroR) 37)).heap.size = w.heap.size + 3 := by simp
  obtain ⟨w1, hw1⟩ : ∃ w1, (((w.alloc (.cells (rarr b c (.slice a n k) env) 86)).alloc (.cells (it.arr (.slice a2 m2 k2)) 51)).alloc (.cells (zeroR) 37)) = w1 := ⟨_, rfl⟩
  rw [hw1] at hb2 hz n1 n2 n3
  have hin := In.start h hb2
  rw [hz] at hin
  have HB := Lib.hid (And.intro hin (And.intro n1 (And.intro n2 (And.intro n3 hz))))
  have HK := Lib.hid (And.intro hM (And.intro hm (And.intro hks (And.intro hvs hv))))
  have r0 := Mem.row_cell n1 0
  have r1 := Mem.row_cell n1 1
  have r2 := Mem.row_cell n1 2
  have r3 := Mem.row_cell n1 3
  have r4 := Mem.row_cell n1 4
  have r5 := Mem.row_cell n1 5
  have r6 := Mem.row_cell n1 6
  have r7 := Mem.row_cell n1 7
  have r8 := Mem.row_cell n1 8
  have r9 := Mem.row_cell n1 9
  have r10 := Mem.row_cell n1 10
  have r11 := Mem.row_cell n1 11
  have r12 := Mem.row_cell n1 12
  have r13 := Mem.row_cell n1 13
  have r14 := Mem.row_cell n1 14
  have i0 := Mem.row_cell n2 0
  have i1 := Mem.row_cell n2 1
  have i2 := Mem.row_cell n2 2
  have i3 := Mem.row_cell n2 3
  have i4 := Mem.row_cell n2 4
  have i5 := Mem.row_cell n2 5
  have i6 := Mem.row_cell n2 6
  have i7 := Mem.row_cell n2 7
  have i8 := Mem.row_cell n2 8
  have i9 := Mem.row_cell n2 9
  simp only [rarr, Item.arr, List.getElem?_toArray, List.getElem?_cons_zero, List.getElem?_cons_succ] at r0 r1 r2 r3 r4 r5 r6 r7 r8 r9 r10 r11 r12 r13 r14 i0 i1 i2 i3 i4 i5 i6 i7 i8 i9
  have hS : ∀ W' : World, W'.heap[w.heap.size]? = w1.heap[w.heap.size]? → W'.heap[w.heap.size + 1]? = w1.heap[w.heap.size + 1]? → W'.cell? ⟨w.heap.size, 0, none⟩ = some (.pointer (some ⟨b, 0, none⟩)) ∧ W'.cell? ⟨w.heap.size, 1, none⟩ = some (.int .i64 c.op) ∧ W'.cell? ⟨w.heap.size, 2, none⟩ = some (.string c.key) ∧ W'.cell? ⟨w.heap.size, 3, none⟩ = some (.slice a n k) ∧ W'.cell? ⟨w.heap.size, 4, none⟩ = some (.int .u32 c.flags) ∧ W'.cell? ⟨w.heap.size, 5, none⟩ = some (.int .i64 c.exp) ∧ W'.cell? ⟨w.heap.size, 6, none⟩ = some (.int .u64 c.cas) ∧ W'.cell? ⟨w.heap.size, 7, none⟩ = some (.int .u64 c.delta) ∧ W'.cell? ⟨w.heap.size, 8, none⟩ = some (.int .u64 c.initial) ∧ W'.cell? ⟨w.heap.size, 9, none⟩ = some (.bool c.makes) ∧ W'.cell? ⟨w.heap.size, 10, none⟩ = some (.bool c.sets) ∧ W'.cell? ⟨w.heap.size, 11, none⟩ = some (.int .i64 env.now) ∧ W'.cell? ⟨w.heap.size, 12, none⟩ = some (.int .u64 env.seq) ∧ W'.cell? ⟨w.heap.size, 13, none⟩ = some (.int .i64 env.flush) ∧ W'.cell? ⟨w.heap.size, 14, none⟩ = some (.int .u64 env.flushSeq) ∧ W'.cell? ⟨w.heap.size + 1, 0, none⟩ = some (.string it.key) ∧ W'.cell? ⟨w.heap.size + 1, 1, none⟩ = some (.slice a2 m2 k2) ∧ W'.cell? ⟨w.heap.size + 1, 2, none⟩ = some (.int .u32 it.flags) ∧ W'.cell? ⟨w.heap.size + 1, 3, none⟩ = some (.int .i64 it.exp) ∧ W'.cell? ⟨w.heap.size + 1, 4, none⟩ = some (.int .u64 it.cas) ∧ W'.cell? ⟨w.heap.size + 1, 5, none⟩ = some (.int .i64 it.sec) ∧ W'.cell? ⟨w.heap.size + 1, 6, none⟩ = some (.int .u64 it.seq) ∧ W'.cell? ⟨w.heap.size + 1, 7, none⟩ = some (.bool it.stale) ∧ W'.cell? ⟨w.heap.size + 1, 8, none⟩ = some (.bool it.won) ∧ W'.cell? ⟨w.heap.size + 1, 9, none⟩ = some (.bool it.seen) := fun W' e e2 => by
    obtain ⟨q0, q1, q2, q3, q4, q5, q6, q7, q8, q9, q10, q11, q12, q13, q14⟩ := CellsR.of (e.trans n1)
    exact ⟨q0, q1, q2, q3, q4, q5, q6, q7, q8, q9, q10, q11, q12, q13, q14, (World.cell?_of_block (a := ⟨w.heap.size + 1, 0, none⟩) e2).trans i0, (World.cell?_of_block (a := ⟨w.heap.size + 1, 1, none⟩) e2).trans i1, (World.cell?_of_block (a := ⟨w.heap.size + 1, 2, none⟩) e2).trans i2, (World.cell?_of_block (a := ⟨w.heap.size + 1, 3, none⟩) e2).trans i3, (World.cell?_of_block (a := ⟨w.heap.size + 1, 4, none⟩) e2).trans i4, (World.cell?_of_block (a := ⟨w.heap.size + 1, 5, none⟩) e2).trans i5, (World.cell?_of_block (a := ⟨w.heap.size + 1, 6, none⟩) e2).trans i6, (World.cell?_of_block (a := ⟨w.heap.size + 1, 7, none⟩) e2).trans i7, (World.cell?_of_block (a := ⟨w.heap.size + 1, 8, none⟩) e2).trans i8, (World.cell?_of_block (a := ⟨w.heap.size + 1, 9, none⟩) e2).trans i9⟩
  have hSd := hS w1.drew rfl rfl
  have HS := Lib.hid (And.intro hS hSd)
  clear hb2 n1 n2 n3 hz hin h hM hm hks hvs hv hS hSd
  unfold rarr Item.arr zeroR at hw1
  unfold rarr Item.arr
  go_enter Tryz.func56, Tryz.ntmps56
  obtain ⟨it2, hit2⟩ : ∃ it2 : Shard.Item, { it with exp := atS c.exp env.now } = it2 := ⟨_, rfl⟩
  have hup := update3_any HB.out.1.run HK.out.1 (c := c) (env := env) (.slice a n k) it HK.out.2.1 HK.out.2.2.1 HK.out.2.2.2.1 (HB.out.1.val HK.out.2.2.2.2) HB.out.2.1
  rw [hit2] at hup
  unfold UpdP rarr Item.arr at hup
  have HI := Lib.hid hit2
  clear hit2
  go_wp2_with fail
  refine hup.mono ?_
  rintro en w2 ⟨rfl, ht⟩
  obtain ⟨col2, hin2, hfr2⟩ := HB.out.1.turn ht
  have heZ := HB.out.1.row (by omega) (by omega) hfr2 HB.out.2.2.2.1
  have H1 := Lib.hid (And.intro hin2 heZ)
  clear ht hin2 hfr2 heZ hup
  go_wp2_with fail
  refine (only_any 6 _).mono ?_
  rintro e w3 ⟨rfl, hb3⟩
  have H3 := Lib.hid (And.intro (H1.out.1.below hb3) ((hb3.block _ (Array.getElem?_eq_some_iff.1 H1.out.2).1).trans H1.out.2))
  clear hb3
  unfold Res.arr only
  go_wp2_with (first
    | (refine wpList_store_row rfl 37 _ _ rfl (w.heap.size + 1 + 1) ((only 6).arr (.slice none 0 0)) rfl rfl 37 zeroR H3.out.2 (res_size _ _) rfl (res_one _ _ _ _) ?_)
    | fail)
  refine bodyPost_ret (results_two Tryz.results56 _ _ (w.heap.size + 1 + 1) _ _ _ _ rfl rfl (setRow_heap _ _ _ ((only 6).arr (.slice none 0 0)) _ _ H3.out.2) Tryz.underlying37 rfl (res_size _ _)) rfl ?_
  rw [HI.out]
  exact (H3.out.1.setRow (k := w.heap.size + 1 + 1) (by omega) (by omega) _).stopP (r := only 6) HK.out.2.2.2.2 (Val.nil w col) (by have := H3.out.1.fr.1.size; simpa using this) (.inl rfl)
set_option maxHeartbeats 4000000 in
theorem peace12 (h : Run W w M b col seed s) (hM : M ≤ 1050000) {a : Option Addr} {n k : Nat} (it : Shard.Item) {a2 : Option Addr} {m2 k2 : Nat} (hm : it.val.length = m2) (hks : it.key.size ≤ 2000000) (hvs : it.val.length ≤ 2000000) (hv : Val w col (.slice a2 m2 k2) it.val) (hop : c.op = 12) :
    Calls Tryz.prog 56 #[.agg (rarr b c (.slice a n k) env), .agg (it.arr (.slice a2 m2 k2))] w (PeaceP W w M b col seed (.slice a2 m2 k2) it.val (metaS c env it s)) := by
  have HZ := Lib.hid hop
  have e0 : (c.op == 0) = false := by rw [hop]; rfl
  have e1 : (c.op == 1) = false := by rw [hop]; rfl
  have e2 : (c.op == 2) = false := by rw [hop]; rfl
  have e12 : (c.op == 12) = true := by rw [hop]; rfl
  clear hop
  have hb2 : Below w.heap.size w (((w.alloc (.cells (rarr b c (.slice a n k) env) 86)).alloc (.cells (it.arr (.slice a2 m2 k2)) 51)).alloc (.cells (zeroR) 37)) := Mem.al (Mem.al (Mem.al (Below.refl _ _) _) _) _
  have n1 : (((w.alloc (.cells (rarr b c (.slice a n k) env) 86)).alloc (.cells (it.arr (.slice a2 m2 k2)) 51)).alloc (.cells (zeroR) 37)).heap[w.heap.size]? = some (.cells (rarr b c (.slice a n k) env) 86 (0, 0)) := Mem.new_later (Mem.new_later (Mem.new_block w _) _) _
  have n2 : (((w.alloc (.cells (rarr b c (.slice a n k) env) 86)).alloc (.cells (it.arr (.slice a2 m2 k2)) 51)).alloc (.cells (zeroR) 37)).heap[w.heap.size + 1]? = some (.cells (it.arr (.slice a2 m2 k2)) 51 (0, 0)) := Mem.new_later (Mem.new_block2 w _ _) _
  have n3 : (((w.alloc (.cells (rarr b c (.slice a n k) env) 86)).alloc (.cells (it.arr (.slice a2 m2 k2)) 51)).alloc (.cells (zeroR) 37)).heap[w.heap.size + 1 + 1]? = some (.cells (zeroR) 37 (0, 0)) := new_block3 w _ _ _
  have hz : (((w.alloc (.cells (rarr b c (.slice a n k) env) 86)).alloc (.cells (it.arr (.slice a2 m2 k2)) 51)).alloc (.cells (zeroR) 37)).heap.size = w.heap.size + 3 := by simp
  obtain ⟨w1, hw1⟩ : ∃ w1, (((w.alloc (.cells (rarr b c (.slice a n k) env) 86)).alloc (.cells (it.arr (.slice a2 m2 k2)) 51)).alloc (.cells (zeroR) 37)) = w1 := ⟨_, rfl⟩
  rw [hw1] at hb2 hz n1 n2 n3
  have hin := In.start h hb2
  rw [hz] at hin
  have HB := Lib.hid (And.intro hin (And.intro n1 (And.intro n2 (And.intro n3 hz))))
  have HK := Lib.hid (And.intro hM (And.intro hm (And.intro hks (And.intro hvs hv))))
  have r0 := Mem.row_cell n1 0
  have r1 := Mem.row_cell n1 1
  have r2 := Mem.row_cell n1 2
  have r3 := Mem.row_cell n1 3
  have r4 := Mem.row_cell n1 4
  have r5 := Mem.row_cell n1 5
  have r6 := Mem.row_cell n1 6
  have r7 := Mem.row_cell n1 7
  have r8 := Mem.row_cell n1 8
  have r9 := Mem.row_cell n1 9
  have r10 := Mem.row_cell n1 10
  have r11 := Mem.row_cell n1 11
  have r12 := Mem.row_cell n1 12
  have r13 := Mem.row_cell n1 13
  have r14 := Mem.row_cell n1 14
  have i0 := Mem.row_cell n2 0
  have i1 := Mem.row_cell n2 1
  have i2 := Mem.row_cell n2 2
  have i3 := Mem.row_cell n2 3
  have i4 := Mem.row_cell n2 4
  have i5 := Mem.row_cell n2 5
  have i6 := Mem.row_cell n2 6
  have i7 := Mem.row_cell n2 7
  have i8 := Mem.row_cell n2 8
  have i9 := Mem.row_cell n2 9
  simp only [rarr, Item.arr, List.getElem?_toArray, List.getElem?_cons_zero, List.getElem?_cons_succ] at r0 r1 r2 r3 r4 r5 r6 r7 r8 r9 r10 r11 r12 r13 r14 i0 i1 i2 i3 i4 i5 i6 i7 i8 i9
  have hS : ∀ W' : World, W'.heap[w.heap.size]? = w1.heap[w.heap.size]? → W'.heap[w.heap.size + 1]? = w1.heap[w.heap.size + 1]? → W'.cell? ⟨w.heap.size, 0, none⟩ = some (.pointer (some ⟨b, 0, none⟩)) ∧ W'.cell? ⟨w.heap.size, 1, none⟩ = some (.int .i64 c.op) ∧ W'.cell? ⟨w.heap.size, 2, none⟩ = some (.string c.key) ∧ W'.cell? ⟨w.heap.size, 3, none⟩ = some (.slice a n k) ∧ W'.cell? ⟨w.heap.size, 4, none⟩ = some (.int .u32 c.flags) ∧ W'.cell? ⟨w.heap.size, 5, none⟩ = some (.int .i64 c.exp) ∧ W'.cell? ⟨w.heap.size, 6, none⟩ = some (.int .u64 c.cas) ∧ W'.cell? ⟨w.heap.size, 7, none⟩ = some (.int .u64 c.delta) ∧ W'.cell? ⟨w.heap.size, 8, none⟩ = some (.int .u64 c.initial) ∧ W'.cell? ⟨w.heap.size, 9, none⟩ = some (.bool c.makes) ∧ W'.cell? ⟨w.heap.size, 10, none⟩ = some (.bool c.sets) ∧ W'.cell? ⟨w.heap.size, 11, none⟩ = some (.int .i64 env.now) ∧ W'.cell? ⟨w.heap.size, 12, none⟩ = some (.int .u64 env.seq) ∧ W'.cell? ⟨w.heap.size, 13, none⟩ = some (.int .i64 env.flush) ∧ W'.cell? ⟨w.heap.size, 14, none⟩ = some (.int .u64 env.flushSeq) ∧ W'.cell? ⟨w.heap.size + 1, 0, none⟩ = some (.string it.key) ∧ W'.cell? ⟨w.heap.size + 1, 1, none⟩ = some (.slice a2 m2 k2) ∧ W'.cell? ⟨w.heap.size + 1, 2, none⟩ = some (.int .u32 it.flags) ∧ W'.cell? ⟨w.heap.size + 1, 3, none⟩ = some (.int .i64 it.exp) ∧ W'.cell? ⟨w.heap.size + 1, 4, none⟩ = some (.int .u64 it.cas) ∧ W'.cell? ⟨w.heap.size + 1, 5, none⟩ = some (.int .i64 it.sec) ∧ W'.cell? ⟨w.heap.size + 1, 6, none⟩ = some (.int .u64 it.seq) ∧ W'.cell? ⟨w.heap.size + 1, 7, none⟩ = some (.bool it.stale) ∧ W'.cell? ⟨w.heap.size + 1, 8, none⟩ = some (.bool it.won) ∧ W'.cell? ⟨w.heap.size + 1, 9, none⟩ = some (.bool it.seen) := fun W' e e2 => by
    obtain ⟨q0, q1, q2, q3, q4, q5, q6, q7, q8, q9, q10, q11, q12, q13, q14⟩ := CellsR.of (e.trans n1)
    exact ⟨q0, q1, q2, q3, q4, q5, q6, q7, q8, q9, q10, q11, q12, q13, q14, (World.cell?_of_block (a := ⟨w.heap.size + 1, 0, none⟩) e2).trans i0, (World.cell?_of_block (a := ⟨w.heap.size + 1, 1, none⟩) e2).trans i1, (World.cell?_of_block (a := ⟨w.heap.size + 1, 2, none⟩) e2).trans i2, (World.cell?_of_block (a := ⟨w.heap.size + 1, 3, none⟩) e2).trans i3, (World.cell?_of_block (a := ⟨w.heap.size + 1, 4, none⟩) e2).trans i4, (World.cell?_of_block (a := ⟨w.heap.size + 1, 5, none⟩) e2).trans i5, (World.cell?_of_block (a := ⟨w.heap.size + 1, 6, none⟩) e2).trans i6, (World.cell?_of_block (a := ⟨w.heap.size + 1, 7, none⟩) e2).trans i7, (World.cell?_of_block (a := ⟨w.heap.size + 1, 8, none⟩) e2).trans i8, (World.cell?_of_block (a := ⟨w.heap.size + 1, 9, none⟩) e2).trans i9⟩
  have hSd := hS w1.drew rfl rfl
  have HS := Lib.hid (And.intro hS hSd)
  clear hb2 n1 n2 n3 hz hin h hM hm hks hvs hv hS hSd
  unfold rarr Item.arr zeroR at hw1
  unfold rarr Item.arr
  go_enter Tryz.func56, Tryz.ntmps56
  have hme := meta_any HB.out.1.run HK.out.1 (c := c) (env := env) (.slice a n k) it HK.out.2.1 HK.out.2.2.1 HK.out.2.2.2.1 (HB.out.1.val HK.out.2.2.2.2) [] ⟨0, fun p hp => by cases hp⟩
  unfold rarr Item.arr at hme
  go_wp2_with fail
  refine hme.mono ?_
  rintro en wT h9
  obtain ⟨f, r, t, va, vn, vk, col', hf, hg, rfl, hvn, hinT, hfr, hval, hq⟩ := h9.use HB.out.1
  have hzT := HB.out.1.row (by omega) (by omega) hfr HB.out.2.2.2.1
  have H3 := Lib.hid (And.intro hinT (And.intro hzT (And.intro hval (And.intro hq hg))))
  clear h9 hf hg hinT hfr hval hzT hvn hq hme
  go_wp2_with (first
    | (refine wpList_store_row rfl 37 _ _ rfl (w.heap.size + 1 + 1) (r.arr (.slice va vn vk)) rfl rfl 37 zeroR H3.out.2.1 (res_size _ _) rfl (res_one _ _ _ _) ?_)
    | fail)
  refine bodyPost_ret (results_two Tryz.results56 _ _ (w.heap.size + 1 + 1) _ _ _ _ rfl rfl (setRow_heap _ _ _ (r.arr (.slice va vn vk)) _ _ H3.out.2.1) Tryz.underlying37 rfl (res_size _ _)) rfl ?_
  rw [show metaS c env it s = (r, t) from H3.out.2.2.2.2]
  exact (H3.out.1.setRow (k := w.heap.size + 1 + 1) (by omega) (by omega) _).stopP (r := r) (v := .slice va vn vk) HK.out.2.2.2.2 H3.out.2.2.1 (by simp) H3.out.2.2.2.1
set_option maxHeartbeats 4000000 in
theorem peace4 (h : Run W w M b col seed s) (hM : M ≤ 1050000) {a : Option Addr} {n k : Nat} (it : Shard.Item) {a2 : Option Addr} {m2 k2 : Nat} (hm : it.val.length = m2) (hks : it.key.size ≤ 2000000) (hvs : it.val.length ≤ 2000000) (hv : Val w col (.slice a2 m2 k2) it.val) (hop : c.op = 4) :
    Calls Tryz.prog 56 #[.agg (rarr b c (.slice a n k) env), .agg (it.arr (.slice a2 m2 k2))] w (PeaceP W w M b col seed (.slice a2 m2 k2) it.val (only 3, s)) := by
  have HZ := Lib.hid hop
  have e0 : (c.op == 0) = false := by rw [hop]; rfl
  have e1 : (c.op == 1) = false := by rw [hop]; rfl
  have e2 : (c.op == 2) = false := by rw [hop]; rfl
  have e12 : (c.op == 12) = false := by rw [hop]; rfl
  have e4 : (c.op == 4) = true := by rw [hop]; rfl
  clear hop
  have hb2 : Below w.heap.size w (((w.alloc (.cells (rarr b c (.slice a n k) env) 86)).alloc (.cells (it.arr (.slice a2 m2 k2)) 51)).alloc (.cells (zeroR) 37)) := Mem.al (Mem.al (Mem.al (Below.refl _ _) _) _) _
  have n1 : (((w.alloc (.cells (rarr b c (.slice a n k) env) 86)).alloc (.cells (it.arr (.slice a2 m2 k2)) 51)).alloc (.cells (zeroR) 37)).heap[w.heap.size]? = some (.cells (rarr b c (.slice a n k) env) 86 (0, 0)) := Mem.new_later (Mem.new_later (Mem.new_block w _) _) _
  have n2 : (((w.alloc (.cells (rarr b c (.slice a n k) env) 86)).alloc (.cells (it.arr (.slice a2 m2 k2)) 51)).alloc (.cells (zeroR) 37)).heap[w.heap.size + 1]? = some (.cells (it.arr (.slice a2 m2 k2)) 51 (0, 0)) := Mem.new_later (Mem.new_block2 w _ _) _
  have n3 : (((w.alloc (.cells (rarr b c (.slice a n k) env) 86)).alloc (.cells (it.arr (.slice a2 m2 k2)) 51)).alloc (.cells (zeroR) 37)).heap[w.heap.size + 1 + 1]? = some (.cells (zeroR) 37 (0, 0)) := new_block3 w _ _ _
  have hz : (((w.alloc (.cells (rarr b c (.slice a n k) env) 86)).alloc (.cells (it.arr (.slice a2 m2 k2)) 51)).alloc (.cells (zeroR) 37)).heap.size = w.heap.size + 3 := by simp
  obtain ⟨w1, hw1⟩ : ∃ w1, (((w.alloc (.cells (rarr b c (.slice a n k) env) 86)).alloc (.cells (it.arr (.slice a2 m2 k2)) 51)).alloc (.cells (zeroR) 37)) = w1 := ⟨_, rfl⟩
  rw [hw1] at hb2 hz n1 n2 n3
  have hin := In.start h hb2
  rw [hz] at hin
  have HB := Lib.hid (And.intro hin (And.intro n1 (And.intro n2 (And.intro n3 hz))))
  have HK := Lib.hid (And.intro hM (And.intro hm (And.intro hks (And.intro hvs hv))))
  have r0 := Mem.row_cell n1 0
  have r1 := Mem.row_cell n1 1
  have r2 := Mem.row_cell n1 2
  have r3 := Mem.row_cell n1 3
  have r4 := Mem.row_cell n1 4
  have r5 := Mem.row_cell n1 5
  have r6 := Mem.row_cell n1 6
  have r7 := Mem.row_cell n1 7
  have r8 := Mem.row_cell n1 8
  have r9 := Mem.row_cell n1 9
  have r10 := Mem.row_cell n1 10
  have r11 := Mem.row_cell n1 11
  have r12 := Mem.row_cell n1 12
  have r13 := Mem.row_cell n1 13
  have r14 := Mem.row_cell n1 14
  have i0 := Mem.row_cell n2 0
  have i1 := Mem.row_cell n2 1
  have i2 := Mem.row_cell n2 2
  have i3 := Mem.row_cell n2 3
  have i4 := Mem.row_cell n2 4
  have i5 := Mem.row_cell n2 5
  have i6 := Mem.row_cell n2 6
  have i7 := Mem.row_cell n2 7
  have i8 := Mem.row_cell n2 8
  have i9 := Mem.row_cell n2 9
  simp only [rarr, Item.arr, List.getElem?_toArray, List.getElem?_cons_zero, List.getElem?_cons_succ] at r0 r1 r2 r3 r4 r5 r6 r7 r8 r9 r10 r11 r12 r13 r14 i0 i1 i2 i3 i4 i5 i6 i7 i8 i9
  have hS : ∀ W' : World, W'.heap[w.heap.size]? = w1.heap[w.heap.size]? → W'.heap[w.heap.size + 1]? = w1.heap[w.heap.size + 1]? → W'.cell? ⟨w.heap.size, 0, none⟩ = some (.pointer (some ⟨b, 0, none⟩)) ∧ W'.cell? ⟨w.heap.size, 1, none⟩ = some (.int .i64 c.op) ∧ W'.cell? ⟨w.heap.size, 2, none⟩ = some (.string c.key) ∧ W'.cell? ⟨w.heap.size, 3, none⟩ = some (.slice a n k) ∧ W'.cell? ⟨w.heap.size, 4, none⟩ = some (.int .u32 c.flags) ∧ W'.cell? ⟨w.heap.size, 5, none⟩ = some (.int .i64 c.exp) ∧ W'.cell? ⟨w.heap.size, 6, none⟩ = some (.int .u64 c.cas) ∧ W'.cell? ⟨w.heap.size, 7, none⟩ = some (.int .u64 c.delta) ∧ W'.cell? ⟨w.heap.size, 8, none⟩ = some (.int .u64 c.initial) ∧ W'.cell? ⟨w.heap.size, 9, none⟩ = some (.bool c.makes) ∧ W'.cell? ⟨w.heap.size, 10, none⟩ = some (.bool c.sets) ∧ W'.cell? ⟨w.heap.size, 11, none⟩ = some (.int .i64 env.now) ∧ W'.cell? ⟨w.heap.size, 12, none⟩ = some (.int .u64 env.seq) ∧ W'.cell? ⟨w.heap.size, 13, none⟩ = some (.int .i64 env.flush) ∧ W'.cell? ⟨w.heap.size, 14, none⟩ = some (.int .u64 env.flushSeq) ∧ W'.cell? ⟨w.heap.size + 1, 0, none⟩ = some (.string it.key) ∧ W'.cell? ⟨w.heap.size + 1, 1, none⟩ = some (.slice a2 m2 k2) ∧ W'.cell? ⟨w.heap.size + 1, 2, none⟩ = some (.int .u32 it.flags) ∧ W'.cell? ⟨w.heap.size + 1, 3, none⟩ = some (.int .i64 it.exp) ∧ W'.cell? ⟨w.heap.size + 1, 4, none⟩ = some (.int .u64 it.cas) ∧ W'.cell? ⟨w.heap.size + 1, 5, none⟩ = some (.int .i64 it.sec) ∧ W'.cell? ⟨w.heap.size + 1, 6, none⟩ = some (.int .u64 it.seq) ∧ W'.cell? ⟨w.heap.size + 1, 7, none⟩ = some (.bool it.stale) ∧ W'.cell? ⟨w.heap.size + 1, 8, none⟩ = some (.bool it.won) ∧ W'.cell? ⟨w.heap.size + 1, 9, none⟩ = some (.bool it.seen) := fun W' e e2 => by
    obtain ⟨q0, q1, q2, q3, q4, q5, q6, q7, q8, q9, q10, q11, q12, q13, q14⟩ := CellsR.of (e.trans n1)
    exact ⟨q0, q1, q2, q3, q4, q5, q6, q7, q8, q9, q10, q11, q12, q13, q14, (World.cell?_of_block (a := ⟨w.heap.size + 1, 0, none⟩) e2).trans i0, (World.cell?_of_block (a := ⟨w.heap.size + 1, 1, none⟩) e2).trans i1, (World.cell?_of_block (a := ⟨w.heap.size + 1, 2, none⟩) e2).trans i2, (World.cell?_of_block (a := ⟨w.heap.size + 1, 3, none⟩) e2).trans i3, (World.cell?_of_block (a := ⟨w.heap.size + 1, 4, none⟩) e2).trans i4, (World.cell?_of_block (a := ⟨w.heap.size + 1, 5, none⟩) e2).trans i5, (World.cell?_of_block (a := ⟨w.heap.size + 1, 6, none⟩) e2).trans i6, (World.cell?_of_block (a := ⟨w.heap.size + 1, 7, none⟩) e2).trans i7, (World.cell?_of_block (a := ⟨w.heap.size + 1, 8, none⟩) e2).trans i8, (World.cell?_of_block (a := ⟨w.heap.size + 1, 9, none⟩) e2).trans i9⟩
  have hSd := hS w1.drew rfl rfl
  have HS := Lib.hid (And.intro hS hSd)
  clear hb2 n1 n2 n3 hz hin h hM hm hks hvs hv hS hSd
  unfold rarr Item.arr zeroR at hw1
  unfold rarr Item.arr
  go_enter Tryz.func56, Tryz.ntmps56
  go_wp2_with fail
  refine (only_any 3 _).mono ?_
  rintro e w3 ⟨rfl, hb3⟩
  have H3 := Lib.hid (And.intro (HB.out.1.below hb3) ((hb3.block _ (Array.getElem?_eq_some_iff.1 HB.out.2.2.2.1).1).trans HB.out.2.2.2.1))
  clear hb3
  unfold Res.arr only
  go_wp2_with (first
    | (refine wpList_store_row rfl 37 _ _ rfl (w.heap.size + 1 + 1) ((only 3).arr (.slice none 0 0)) rfl rfl 37 zeroR H3.out.2 (res_size _ _) rfl (res_one _ _ _ _) ?_)
    | fail)
  refine bodyPost_ret (results_two Tryz.results56 _ _ (w.heap.size + 1 + 1) _ _ _ _ rfl rfl (setRow_heap _ _ _ ((only 3).arr (.slice none 0 0)) _ _ H3.out.2) Tryz.underlying37 rfl (res_size _ _)) rfl ?_
  exact (H3.out.1.setRow (k := w.heap.size + 1 + 1) (by omega) (by omega) _).stopP (r := only 3) HK.out.2.2.2.2 (Val.nil w col) (by have := H3.out.1.fr.1.size; simpa using this) (.inl rfl)
set_option maxHeartbeats 4000000 in
theorem peaceE (h : Run W w M b col seed s) (hM : M ≤ 1050000) {a : Option Addr} {n k : Nat} (it : Shard.Item) {a2 : Option Addr} {m2 k2 : Nat} (hm : it.val.length = m2) (hks : it.key.size ≤ 2000000) (hvs : it.val.length ≤ 2000000) (hv : Val w col (.slice a2 m2 k2) it.val) (h0 : c.op ≠ 0) (h1 : c.op ≠ 1) (h2 : c.op ≠ 2) (h12 : c.op ≠ 12) (h4 : c.op ≠ 4) :
    Calls Tryz.prog 56 #[.agg (rarr b c (.slice a n k) env), .agg (it.arr (.slice a2 m2 k2))] w (fun e w' => e = .returned (.tuple #[.agg zeroR, .bool false]) ∧ ∃ col', Run W w' M b col' seed s ∧ Fr col col' w w') := by
  have e0 : (c.op == 0) = false := by simpa using h0
  have e1 : (c.op == 1) = false := by simpa using h1
  have e2 : (c.op == 2) = false := by simpa using h2
  have e12 : (c.op == 12) = false := by simpa using h12
  have e4 : (c.op == 4) = false := by simpa using h4
  clear h0 h1 h2 h12 h4
  have hb2 : Below w.heap.size w (((w.alloc (.cells (rarr b c (.slice a n k) env) 86)).alloc (.cells (it.arr (.slice a2 m2 k2)) 51)).alloc (.cells (zeroR) 37)) := Mem.al (Mem.al (Mem.al (Below.refl _ _) _) _) _
  have n1 : (((w.alloc (.cells (rarr b c (.slice a n k) env) 86)).alloc (.cells (it.arr (.slice a2 m2 k2)) 51)).alloc (.cells (zeroR) 37)).heap[w.heap.size]? = some (.cells (rarr b c (.slice a n k) env) 86 (0, 0)) := Mem.new_later (Mem.new_later (Mem.new_block w _) _) _
  have n2 : (((w.alloc (.cells (rarr b c (.slice a n k) env) 86)).alloc (.cells (it.arr (.slice a2 m2 k2)) 51)).alloc (.cells (zeroR) 37)).heap[w.heap.size + 1]? = some (.cells (it.arr (.slice a2 m2 k2)) 51 (0, 0)) := Mem.new_later (Mem.new_block2 w _ _) _
  have n3 : (((w.alloc (.cells (rarr b c (.slice a n k) env) 86)).alloc (.cells (it.arr (.slice a2 m2 k2)) 51)).alloc (.cells (zeroR) 37)).heap[w.heap.size + 1 + 1]? = some (.cells (zeroR) 37 (0, 0)) := new_block3 w _ _ _
  have hz : (((w.alloc (.cells (rarr b c (.slice a n k) env) 86)).alloc (.cells (it.arr (.slice a2 m2 k2)) 51)).alloc (.cells (zeroR) 37)).heap.size = w.heap.size + 3 := by simp
  obtain ⟨w1, hw1⟩ : ∃ w1, (((w.alloc (.cells (rarr b c (.slice a n k) env) 86)).alloc (.cells (it.arr (.slice a2 m2 k2)) 51)).alloc (.cells (zeroR) 37)) = w1 := ⟨_, rfl⟩
  rw [hw1] at hb2 hz n1 n2 n3
  have hin := In.start h hb2
  rw [hz] at hin
  have HB := Lib.hid (And.intro hin (And.intro n1 (And.intro n2 (And.intro n3 hz))))
  have HK := Lib.hid (And.intro hM (And.intro hm (And.intro hks (And.intro hvs hv))))
  have r0 := Mem.row_cell n1 0
  have r1 := Mem.row_cell n1 1
  have r2 := Mem.row_cell n1 2
  have r3 := Mem.row_cell n1 3
  have r4 := Mem.row_cell n1 4
  have r5 := Mem.row_cell n1 5
  have r6 := Mem.row_cell n1 6
  have r7 := Mem.row_cell n1 7
  have r8 := Mem.row_cell n1 8
  have r9 := Mem.row_cell n1 9
  have r10 := Mem.row_cell n1 10
  have r11 := Mem.row_cell n1 11
  have r12 := Mem.row_cell n1 12
  have r13 := Mem.row_cell n1 13
  have r14 := Mem.row_cell n1 14
  have i0 := Mem.row_cell n2 0
  have i1 := Mem.row_cell n2 1
  have i2 := Mem.row_cell n2 2
  have i3 := Mem.row_cell n2 3
  have i4 := Mem.row_cell n2 4
  have i5 := Mem.row_cell n2 5
  have i6 := Mem.row_cell n2 6
  have i7 := Mem.row_cell n2 7
  have i8 := Mem.row_cell n2 8
  have i9 := Mem.row_cell n2 9
  simp only [rarr, Item.arr, List.getElem?_toArray, List.getElem?_cons_zero, List.getElem?_cons_succ] at r0 r1 r2 r3 r4 r5 r6 r7 r8 r9 r10 r11 r12 r13 r14 i0 i1 i2 i3 i4 i5 i6 i7 i8 i9
  have hS : ∀ W' : World, W'.heap[w.heap.size]? = w1.heap[w.heap.size]? → W'.heap[w.heap.size + 1]? = w1.heap[w.heap.size + 1]? → W'.cell? ⟨w.heap.size, 0, none⟩ = some (.pointer (some ⟨b, 0, none⟩)) ∧ W'.cell? ⟨w.heap.size, 1, none⟩ = some (.int .i64 c.op) ∧ W'.cell? ⟨w.heap.size, 2, none⟩ = some (.string c.key) ∧ W'.cell? ⟨w.heap.size, 3, none⟩ = some (.slice a n k) ∧ W'.cell? ⟨w.heap.size, 4, none⟩ = some (.int .u32 c.flags) ∧ W'.cell? ⟨w.heap.size, 5, none⟩ = some (.int .i64 c.exp) ∧ W'.cell? ⟨w.heap.size, 6, none⟩ = some (.int .u64 c.cas) ∧ W'.cell? ⟨w.heap.size, 7, none⟩ = some (.int .u64 c.delta) ∧ W'.cell? ⟨w.heap.size, 8, none⟩ = some (.int .u64 c.initial) ∧ W'.cell? ⟨w.heap.size, 9, none⟩ = some (.bool c.makes) ∧ W'.cell? ⟨w.heap.size, 10, none⟩ = some (.bool c.sets) ∧ W'.cell? ⟨w.heap.size, 11, none⟩ = some (.int .i64 env.now) ∧ W'.cell? ⟨w.heap.size, 12, none⟩ = some (.int .u64 env.seq) ∧ W'.cell? ⟨w.heap.size, 13, none⟩ = some (.int .i64 env.flush) ∧ W'.cell? ⟨w.heap.size, 14, none⟩ = some (.int .u64 env.flushSeq) ∧ W'.cell? ⟨w.heap.size + 1, 0, none⟩ = some (.string it.key) ∧ W'.cell? ⟨w.heap.size + 1, 1, none⟩ = some (.slice a2 m2 k2) ∧ W'.cell? ⟨w.heap.size + 1, 2, none⟩ = some (.int .u32 it.flags) ∧ W'.cell? ⟨w.heap.size + 1, 3, none⟩ = some (.int .i64 it.exp) ∧ W'.cell? ⟨w.heap.size + 1, 4, none⟩ = some (.int .u64 it.cas) ∧ W'.cell? ⟨w.heap.size + 1, 5, none⟩ = some (.int .i64 it.sec) ∧ W'.cell? ⟨w.heap.size + 1, 6, none⟩ = some (.int .u64 it.seq) ∧ W'.cell? ⟨w.heap.size + 1, 7, none⟩ = some (.bool it.stale) ∧ W'.cell? ⟨w.heap.size + 1, 8, none⟩ = some (.bool it.won) ∧ W'.cell? ⟨w.heap.size + 1, 9, none⟩ = some (.bool it.seen) := fun W' e e2 => by
    obtain ⟨q0, q1, q2, q3, q4, q5, q6, q7, q8, q9, q10, q11, q12, q13, q14⟩ := CellsR.of (e.trans n1)
    exact ⟨q0, q1, q2, q3, q4, q5, q6, q7, q8, q9, q10, q11, q12, q13, q14, (World.cell?_of_block (a := ⟨w.heap.size + 1, 0, none⟩) e2).trans i0, (World.cell?_of_block (a := ⟨w.heap.size + 1, 1, none⟩) e2).trans i1, (World.cell?_of_block (a := ⟨w.heap.size + 1, 2, none⟩) e2).trans i2, (World.cell?_of_block (a := ⟨w.heap.size + 1, 3, none⟩) e2).trans i3, (World.cell?_of_block (a := ⟨w.heap.size + 1, 4, none⟩) e2).trans i4, (World.cell?_of_block (a := ⟨w.heap.size + 1, 5, none⟩) e2).trans i5, (World.cell?_of_block (a := ⟨w.heap.size + 1, 6, none⟩) e2).trans i6, (World.cell?_of_block (a := ⟨w.heap.size + 1, 7, none⟩) e2).trans i7, (World.cell?_of_block (a := ⟨w.heap.size + 1, 8, none⟩) e2).trans i8, (World.cell?_of_block (a := ⟨w.heap.size + 1, 9, none⟩) e2).trans i9⟩
  have hSd := hS w1.drew rfl rfl
  have HS := Lib.hid (And.intro hS hSd)
  clear hb2 n1 n2 n3 hz hin h hM hm hks hvs hv hS hSd
  unfold rarr Item.arr zeroR at hw1
  unfold rarr Item.arr
  go_enter Tryz.func56, Tryz.ntmps56
  have hz3 := HB.out.2.2.2.1
  have c0 := Mem.row_cell hz3 0
  have f0 := Mem.row_free hz3 0
  have c1 := Mem.row_cell hz3 1
  have f1 := Mem.row_free hz3 1
  have c2 := Mem.row_cell hz3 2
  have f2 := Mem.row_free hz3 2
  have c3 := Mem.row_cell hz3 3
  have f3 := Mem.row_free hz3 3
  have c4 := Mem.row_cell hz3 4
  have f4 := Mem.row_free hz3 4
  have c5 := Mem.row_cell hz3 5
  have f5 := Mem.row_free hz3 5
  have c6 := Mem.row_cell hz3 6
  have f6 := Mem.row_free hz3 6
  have c7 := Mem.row_cell hz3 7
  have f7 := Mem.row_free hz3 7
  have c8 := Mem.row_cell hz3 8
  have f8 := Mem.row_free hz3 8
  simp only [zeroR, List.getElem?_toArray, List.getElem?_cons_zero, List.getElem?_cons_succ] at c0 c1 c2 c3 c4 c5 c6 c7 c8
  clear hz3
  go_wp2_with fail
  obtain ⟨p1, p2, p3⟩ := put9Z HB.out.1 HB.out.2.2.2.1 (by omega) (by omega) (.int .i64 0) (.slice none 0 0) (.int .u32 0) (.int .u64 0) (.int .i64 0) (.int .u64 0) (.bool false) (.bool false) (.bool false)
  refine bodyPost_ret (results_two Tryz.results56 _ _ (w.heap.size + 1 + 1) _ _ _ _ rfl rfl p2 Tryz.underlying37 rfl (res_size ⟨0, [], 0, 0, 0, 0, false, false, false⟩ (.slice none 0 0))) rfl ?_
  exact ⟨rfl, _, p1.run, p1.fr⟩
end
end Go.Proofs.YtpghckiochjogaaGreatDoor.Exec

