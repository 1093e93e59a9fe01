/- Part24: Exec12b, one behind the other. -/
import Derived.Test.YtpghckiochjogaaGreatDoorPart23
/- Layer 12: peaceful. -/
namespace Go.Proofs.YtpghckiochjogaaGreatDoor.Exec
set_option maxRecDepth 100000
open Go Go.RowKit Go.Proofs.YtpghckiochjogaaGreatDoor.Mem Go.Proofs.YtpghckiochjogaaGreatDoor.App Go.Proofs.YtpghckiochjogaaGreatDoor.Shard
section
variable {W w : World} {M b : Nat} {col : Col} {seed : Int} {s : St} {c : Cmd} {env : Env}
set_option maxHeartbeats 4000000 in
theorem peace1 (h : Run W w M b col seed s) (hM : M ≤ 1050000) {a : Option Addr} {n k : Nat} (it : Shard.Item) {a2 : Option Addr} {m2 k2 : Nat} (hm : it.val.length = m2) (hks : it.key.size ≤ 2000000) (hvs : it.val.length ≤ 2000000) (hv : Val w col (.slice a2 m2 k2) it.val) (hop : c.op = 1) :
    Calls Tryz.prog 56 #[.agg (rarr b c (.slice a n k) env), .agg (it.arr (.slice a2 m2 k2))] w (PeaceP W w M b col seed (.slice a2 m2 k2) it.val (view { it with seen := true, exp := atS c.exp env.now } env, (s.update { it with seen := true, exp := atS c.exp env.now }).2)) := by
  have HZ := Lib.hid hop
  have e0 : (c.op == 0) = false := by rw [hop]; rfl
  have e1 : (c.op == 1) = true := by rw [hop]; rfl
  clear hop
  have hb2 : Below w.heap.size w (((w.alloc (.cells (rarr b c (.slice a n k) env) 86)).alloc (.cells (it.arr (.slice a2 m2 k2)) 51)).alloc (.cells (zeroR) 37)) := Mem.al (Mem.al (Mem.al (Below.refl _ _) _) _) _
  have n1 : (((w.alloc (.cells (rarr b c (.slice a n k) env) 86)).alloc (.cells (it.arr (.slice a2 m2 k2)) 51)).alloc (.cells (zeroR) 37)).heap[w.heap.size]? = some (.cells (rarr b c (.slice a n k) env) 86 (0, 0)) := Mem.new_later (Mem.new_later (Mem.new_block w _) _) _
  have n2 : (((w.alloc (.cells (rarr b c (.slice a n k) env) 86)).alloc (.cells (it.arr (.slice a2 m2 k2)) 51)).alloc (.cells (zeroR) 37)).heap[w.heap.size + 1]? = some (.cells (it.arr (.slice a2 m2 k2)) 51 (0, 0)) := Mem.new_later (Mem.new_block2 w _ _) _
  have n3 : (((w.alloc (.cells (rarr b c (.slice a n k) env) 86)).alloc (.cells (it.arr (.slice a2 m2 k2)) 51)).alloc (.cells (zeroR) 37)).heap[w.heap.size + 1 + 1]? = some (.cells (zeroR) 37 (0, 0)) := new_block3 w _ _ _
  have hz : (((w.alloc (.cells (rarr b c (.slice a n k) env) 86)).alloc (.cells (it.arr (.slice a2 m2 k2)) 51)).alloc (.cells (zeroR) 37)).heap.size = w.heap.size + 3 := by simp
  obtain ⟨w1, hw1⟩ : ∃ w1, (((w.alloc (.cells (rarr b c (.slice a n k) env) 86)).alloc (.cells (it.arr (.slice a2 m2 k2)) 51)).alloc (.cells (zeroR) 37)) = w1 := ⟨_, rfl⟩
  rw [hw1] at hb2 hz n1 n2 n3
  have hin := In.start h hb2
  rw [hz] at hin
  have HB := Lib.hid (And.intro hin (And.intro n1 (And.intro n2 (And.intro n3 hz))))
  have HK := Lib.hid (And.intro hM (And.intro hm (And.intro hks (And.intro hvs hv))))
  have r0 := Mem.row_cell n1 0
  have r1 := Mem.row_cell n1 1
  have r2 := Mem.row_cell n1 2
  have r3 := Mem.row_cell n1 3
  have r4 := Mem.row_cell n1 4
  have r5 := Mem.row_cell n1 5
  have r6 := Mem.row_cell n1 6
  have r7 := Mem.row_cell n1 7
  have r8 := Mem.row_cell n1 8
  have r9 := Mem.row_cell n1 9
  have r10 := Mem.row_cell n1 10
  have r11 := Mem.row_cell n1 11
  have r12 := Mem.row_cell n1 12
  have r13 := Mem.row_cell n1 13
  have r14 := Mem.row_cell n1 14
  have i0 := Mem.row_cell n2 0
  have i1 := Mem.row_cell n2 1
  have i2 := Mem.row_cell n2 2
  have i3 := Mem.row_cell n2 3
  have i4 := Mem.row_cell n2 4
  have i5 := Mem.row_cell n2 5
  have i6 := Mem.row_cell n2 6
  have i7 := Mem.row_cell n2 7
  have i8 := Mem.row_cell n2 8
  have i9 := Mem.row_cell n2 9
  simp only [rarr, Item.arr, List.getElem?_toArray, List.getElem?_cons_zero, List.getElem?_cons_succ] at r0 r1 r2 r3 r4 r5 r6 r7 r8 r9 r10 r11 r12 r13 r14 i0 i1 i2 i3 i4 i5 i6 i7 i8 i9
  have hS : ∀ W' : World, W'.heap[w.heap.size]? = w1.heap[w.heap.size]? → W'.heap[w.heap.size + 1]? = w1.heap[w.heap.size + 1]? → W'.cell? ⟨w.heap.size, 0, none⟩ = some (.pointer (some ⟨b, 0, none⟩)) ∧ W'.cell? ⟨w.heap.size, 1, none⟩ = some (.int .i64 c.op) ∧ W'.cell? ⟨w.heap.size, 2, none⟩ = some (.string c.key) ∧ W'.cell? ⟨w.heap.size, 3, none⟩ = some (.slice a n k) ∧ W'.cell? ⟨w.heap.size, 4, none⟩ = some (.int .u32 c.flags) ∧ W'.cell? ⟨w.heap.size, 5, none⟩ = some (.int .i64 c.exp) ∧ W'.cell? ⟨w.heap.size, 6, none⟩ = some (.int .u64 c.cas) ∧ W'.cell? ⟨w.heap.size, 7, none⟩ = some (.int .u64 c.delta) ∧ W'.cell? ⟨w.heap.size, 8, none⟩ = some (.int .u64 c.initial) ∧ W'.cell? ⟨w.heap.size, 9, none⟩ = some (.bool c.makes) ∧ W'.cell? ⟨w.heap.size, 10, none⟩ = some (.bool c.sets) ∧ W'.cell? ⟨w.heap.size, 11, none⟩ = some (.int .i64 env.now) ∧ W'.cell? ⟨w.heap.size, 12, none⟩ = some (.int .u64 env.seq) ∧ W'.cell? ⟨w.heap.size, 13, none⟩ = some (.int .i64 env.flush) ∧ W'.cell? ⟨w.heap.size, 14, none⟩ = some (.int .u64 env.flushSeq) ∧ W'.cell? ⟨w.heap.size + 1, 0, none⟩ = some (.string it.key) ∧ W'.cell? ⟨w.heap.size + 1, 1, none⟩ = some (.slice a2 m2 k2) ∧ W'.cell? ⟨w.heap.size + 1, 2, none⟩ = some (.int .u32 it.flags) ∧ W'.cell? ⟨w.heap.size + 1, 3, none⟩ = some (.int .i64 it.exp) ∧ W'.cell? ⟨w.heap.size + 1, 4, none⟩ = some (.int .u64 it.cas) ∧ W'.cell? ⟨w.heap.size + 1, 5, none⟩ = some (.int .i64 it.sec) ∧ W'.cell? ⟨w.heap.size + 1, 6, none⟩ = some (.int .u64 it.seq) ∧ W'.cell? ⟨w.heap.size + 1, 7, none⟩ = some (.bool it.stale) ∧ W'.cell? ⟨w.heap.size + 1, 8, none⟩ = some (.bool it.won) ∧ W'.cell? ⟨w.heap.size + 1, 9, none⟩ = some (.bool it.seen) := fun W' e e2 => by
    obtain ⟨q0, q1, q2, q3, q4, q5, q6, q7, q8, q9, q10, q11, q12, q13, q14⟩ := CellsR.of (e.trans n1)
    exact ⟨q0, q1, q2, q3, q4, q5, q6, q7, q8, q9, q10, q11, q12, q13, q14, (World.cell?_of_block (a := ⟨w.heap.size + 1, 0, none⟩) e2).trans i0, (World.cell?_of_block (a := ⟨w.heap.size + 1, 1, none⟩) e2).trans i1, (World.cell?_of_block (a := ⟨w.heap.size + 1, 2, none⟩) e2).trans i2, (World.cell?_of_block (a := ⟨w.heap.size + 1, 3, none⟩) e2).trans i3, (World.cell?_of_block (a := ⟨w.heap.size + 1, 4, none⟩) e2).trans i4, (World.cell?_of_block (a := ⟨w.heap.size + 1, 5, none⟩) e2).trans i5, (World.cell?_of_block (a := ⟨w.heap.size + 1, 6, none⟩) e2).trans i6, (World.cell?_of_block (a := ⟨w.heap.size + 1, 7, none⟩) e2).trans i7, (World.cell?_of_block (a := ⟨w.heap.size + 1, 8, none⟩) e2).trans i8, (World.cell?_of_block (a := ⟨w.heap.size + 1, 9, none⟩) e2).trans i9⟩
  have hSd := hS w1.drew rfl rfl
  have HS := Lib.hid (And.intro hS hSd)
  clear hb2 n1 n2 n3 hz hin h hM hm hks hvs hv hS hSd
  unfold rarr Item.arr zeroR at hw1
  unfold rarr Item.arr
  go_enter Tryz.func56, Tryz.ntmps56
  obtain ⟨it2, hit2⟩ : ∃ it2 : Shard.Item, { it with seen := true, exp := atS c.exp env.now } = it2 := ⟨_, rfl⟩
  have hup := update2_any (HB.out.1.below (Below.drew (Below.refl w1.heap.size w1))).run HK.out.1 (c := c) (env := env) (.slice a n k) it HK.out.2.1 HK.out.2.2.1 HK.out.2.2.2.1 ((HB.out.1.below (Below.drew (Below.refl w1.heap.size w1))).val HK.out.2.2.2.2) HB.out.2.1
  rw [hit2] at hup
  have hn2 : it2.val.length = m2 := by rw [← hit2]; exact HK.out.2.1
  obtain ⟨r, hr⟩ : ∃ r, view it2 env = r := ⟨_, rfl⟩
  have hvi := fun W' => view_n b c (.slice a n k) env it2 (a := a2) (k := k2) hn2 W'
  rw [hr] at hvi
  have HI := Lib.hid (And.intro hit2 hr)
  clear hit2 hr hn2
  unfold UpdP rarr Item.arr at hup
  unfold rarr Item.arr Res.arr at hvi
  go_upto_region 5 with (fail)
  obtain ⟨hS, hSd⟩ := HS.out
  go_region_held3 (fun W' : World => W'.cell? ⟨w.heap.size, 0, none⟩ = some (.pointer (some ⟨b, 0, none⟩)) ∧ W'.cell? ⟨w.heap.size, 1, none⟩ = some (.int .i64 c.op) ∧ W'.cell? ⟨w.heap.size, 2, none⟩ = some (.string c.key) ∧ W'.cell? ⟨w.heap.size, 3, none⟩ = some (.slice a n k) ∧ W'.cell? ⟨w.heap.size, 4, none⟩ = some (.int .u32 c.flags) ∧ W'.cell? ⟨w.heap.size, 5, none⟩ = some (.int .i64 c.exp) ∧ W'.cell? ⟨w.heap.size, 6, none⟩ = some (.int .u64 c.cas) ∧ W'.cell? ⟨w.heap.size, 7, none⟩ = some (.int .u64 c.delta) ∧ W'.cell? ⟨w.heap.size, 8, none⟩ = some (.int .u64 c.initial) ∧ W'.cell? ⟨w.heap.size, 9, none⟩ = some (.bool c.makes) ∧ W'.cell? ⟨w.heap.size, 10, none⟩ = some (.bool c.sets) ∧ W'.cell? ⟨w.heap.size, 11, none⟩ = some (.int .i64 env.now) ∧ W'.cell? ⟨w.heap.size, 12, none⟩ = some (.int .u64 env.seq) ∧ W'.cell? ⟨w.heap.size, 13, none⟩ = some (.int .i64 env.flush) ∧ W'.cell? ⟨w.heap.size, 14, none⟩ = some (.int .u64 env.flushSeq) ∧ W'.cell? ⟨w.heap.size + 1, 0, none⟩ = some (.string it.key) ∧ W'.cell? ⟨w.heap.size + 1, 1, none⟩ = some (.slice a2 m2 k2) ∧ W'.cell? ⟨w.heap.size + 1, 2, none⟩ = some (.int .u32 it.flags) ∧ W'.cell? ⟨w.heap.size + 1, 3, none⟩ = some (.int .i64 it.exp) ∧ W'.cell? ⟨w.heap.size + 1, 4, none⟩ = some (.int .u64 it.cas) ∧ W'.cell? ⟨w.heap.size + 1, 5, none⟩ = some (.int .i64 it.sec) ∧ W'.cell? ⟨w.heap.size + 1, 6, none⟩ = some (.int .u64 it.seq) ∧ W'.cell? ⟨w.heap.size + 1, 7, none⟩ = some (.bool it.stale) ∧ W'.cell? ⟨w.heap.size + 1, 8, none⟩ = some (.bool it.won) ∧ W'.cell? ⟨w.heap.size + 1, 9, none⟩ = some (.bool it.seen)) (first
    | with_reducible exact hS _ ((set9 _ _ _ _ _ _ _ _ _ _ _ (by omega)).trans H2.out.2.1) ((set9 _ _ _ _ _ _ _ _ _ _ _ (by omega)).trans H2.out.2.2.1)
    | with_reducible exact hS _ H2.out.2.1 H2.out.2.2.1
    | with_reducible exact hS _ H1.out.2.1 H1.out.2.2.1
    | with_reducible exact hSd) (first
    | (go_at_call 58; refine hup.mono ?_; rintro en w2 ⟨rfl, ht⟩; obtain ⟨col2, hin2, hfr2⟩ := (HB.out.1.below (Below.drew (Below.refl w1.heap.size w1))).turn ht; have heR := (HB.out.1.below (Below.drew (Below.refl w1.heap.size w1))).row (by omega) (by omega) hfr2 (show w1.drew.heap[w.heap.size]? = _ from HB.out.2.1); have heI := (HB.out.1.below (Below.drew (Below.refl w1.heap.size w1))).row (by omega) (by omega) hfr2 (show w1.drew.heap[w.heap.size + 1]? = _ from HB.out.2.2.1); have heZ := (HB.out.1.below (Below.drew (Below.refl w1.heap.size w1))).row (by omega) (by omega) hfr2 (show w1.drew.heap[w.heap.size + 1 + 1]? = _ from HB.out.2.2.2.1); have H1 := Lib.hid (And.intro hin2 (And.intro (heR.trans HB.out.2.1.symm) (And.intro (heI.trans HB.out.2.2.1.symm) heZ))); clear ht hin2 hfr2 heR heI heZ)
    | (go_at_call 79; refine (hvi _).mono ?_; rintro en w3 ⟨rfl, hb3⟩; have hbG : Below w2.heap.size w2 w3 := (by with_reducible exact hb3); have hlt := H1.out.1.hi; have hzT := (hbG.block (w.heap.size + 1 + 1) (by omega)).trans H1.out.2.2.2; have c0 := Mem.row_cell hzT 0; have f0 := Mem.row_free hzT 0; have c1 := Mem.row_cell hzT 1; have f1 := Mem.row_free hzT 1; have c2 := Mem.row_cell hzT 2; have f2 := Mem.row_free hzT 2; have c3 := Mem.row_cell hzT 3; have f3 := Mem.row_free hzT 3; have c4 := Mem.row_cell hzT 4; have f4 := Mem.row_free hzT 4; have c5 := Mem.row_cell hzT 5; have f5 := Mem.row_free hzT 5; have c6 := Mem.row_cell hzT 6; have f6 := Mem.row_free hzT 6; have c7 := Mem.row_cell hzT 7; have f7 := Mem.row_free hzT 7; have c8 := Mem.row_cell hzT 8; have f8 := Mem.row_free hzT 8; simp only [zeroR, List.getElem?_toArray, List.getElem?_cons_zero, List.getElem?_cons_succ] at c0 c1 c2 c3 c4 c5 c6 c7 c8; have H2 := Lib.hid (And.intro (H1.out.1.below hbG) (And.intro ((hbG.block _ (by omega)).trans H1.out.2.1) (And.intro ((hbG.block _ (by omega)).trans H1.out.2.2.1) hzT))); clear hb3 hbG hlt hzT))
  all_goals (go_wp2_with fail)
  obtain ⟨p1, p2, p3⟩ := put9Z H2.out.1 H2.out.2.2.2 (by omega) (by omega) (.int .i64 r.status) (.slice a2 m2 k2) (.int .u32 r.flags) (.int .u64 r.cas) (.int .i64 r.ttl) (.int .u64 r.number) (.bool r.stale) (.bool r.won) (.bool r.lost)
  refine bodyPost_ret (results_two Tryz.results56 _ _ (w.heap.size + 1 + 1) _ _ _ _ rfl rfl p2 Tryz.underlying37 rfl (res_size r (.slice a2 m2 k2))) rfl ?_
  have ev : r.val = it.val := by
    rw [← HI.out.2, ← HI.out.1]
    rfl
  have hvf := p1.val HK.out.2.2.2.2
  rw [← ev] at hvf
  have e1 := p1.stopP (r := r) (v := .slice a2 m2 k2) HK.out.2.2.2.2 hvf (Nat.le_refl _) (.inr ⟨rfl, ev⟩)
  obtain ⟨q1, q2⟩ := HI.out
  clear HI
  subst q1
  subst q2
  exact e1
end
end Go.Proofs.YtpghckiochjogaaGreatDoor.Exec

