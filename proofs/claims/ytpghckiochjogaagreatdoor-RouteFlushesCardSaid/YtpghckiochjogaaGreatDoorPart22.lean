/- Part22: Exec11, one behind the other. -/
import Derived.Test.YtpghckiochjogaaGreatDoorPart20
import Derived.Test.YtpghckiochjogaaGreatDoorPart21
/- Layer 12: join. -/
namespace Go.Proofs.YtpghckiochjogaaGreatDoor.Exec
set_option maxRecDepth 100000
open Go Go.RowKit Go.Proofs.YtpghckiochjogaaGreatDoor.Mem Go.Proofs.YtpghckiochjogaaGreatDoor.App Go.Proofs.YtpghckiochjogaaGreatDoor.Shard
theorem ownB_val {W w w' : World} {M b base : Nat} {col : Col} {seed : Int} {s : St} {v : Value} {xs : List UInt8} (h : Run W w M b col seed s) (hb : w.heap.size ≤ base) (ho : OwnB w' base v xs) : Val w' col v xs :=
  ⟨SrcB.of_row ho, fun _ g e => Run.none h (by have := (own_block_lt ho g e).1; omega)⟩
section
variable {W w : World} {M b : Nat} {col : Col} {seed : Int} {s : St} {c : Cmd} {env : Env}
set_option maxHeartbeats 4000000 in
theorem join_any (h : Run W w M b col seed s) (hM : M + 1 ≤ 1050000) {a : Option Addr} {n k : Nat} (it : Shard.Item) {a2 : Option Addr} {m2 k2 : Nat} (hks : c.key.size ≤ 2000000) (xs ys : List UInt8) {a3 a4 : Option Addr} {m3 k3 m4 k4 : Nat} (hx : xs.length = m3) (hy : ys.length = m4) (hxs : xs.length ≤ 1100000) (hys : ys.length ≤ 1100000) (hvx : Val w col (.slice a3 m3 k3) xs) (hvy : Val w col (.slice a4 m4 k4) ys) :
    Calls Tryz.prog 57 #[.agg (rarr b c (.slice a n k) env), .agg (it.arr (.slice a2 m2 k2)), .slice a3 m3 k3, .slice a4 m4 k4] w (ExecP W w (M + 1) b col seed s.tab.L fun f => join c env it xs ys f s) := by
  have hb2 : Below w.heap.size w (((w.alloc (.cells (rarr b c (.slice a n k) env) 86)).alloc (.cells (it.arr (.slice a2 m2 k2)) 51)).alloc (.cells (zeroR) 37)) := Mem.al (Mem.al (Mem.al (Below.refl _ _) _) _) _
  have n1 : (((w.alloc (.cells (rarr b c (.slice a n k) env) 86)).alloc (.cells (it.arr (.slice a2 m2 k2)) 51)).alloc (.cells (zeroR) 37)).heap[w.heap.size]? = some (.cells (rarr b c (.slice a n k) env) 86 (0, 0)) := Mem.new_later (Mem.new_later (Mem.new_block w _) _) _
  have n2 : (((w.alloc (.cells (rarr b c (.slice a n k) env) 86)).alloc (.cells (it.arr (.slice a2 m2 k2)) 51)).alloc (.cells (zeroR) 37)).heap[w.heap.size + 1]? = some (.cells (it.arr (.slice a2 m2 k2)) 51 (0, 0)) := Mem.new_later (Mem.new_block2 w _ _) _
  have n3 : (((w.alloc (.cells (rarr b c (.slice a n k) env) 86)).alloc (.cells (it.arr (.slice a2 m2 k2)) 51)).alloc (.cells (zeroR) 37)).heap[w.heap.size + 1 + 1]? = some (.cells (zeroR) 37 (0, 0)) := new_block3 w _ _ _
  have hz : (((w.alloc (.cells (rarr b c (.slice a n k) env) 86)).alloc (.cells (it.arr (.slice a2 m2 k2)) 51)).alloc (.cells (zeroR) 37)).heap.size = w.heap.size + 3 := by simp
  obtain ⟨w1, hw1⟩ : ∃ w1, (((w.alloc (.cells (rarr b c (.slice a n k) env) 86)).alloc (.cells (it.arr (.slice a2 m2 k2)) 51)).alloc (.cells (zeroR) 37)) = w1 := ⟨_, rfl⟩
  rw [hw1] at hb2 hz n1 n2 n3
  have hin := In.start h hb2
  rw [hz] at hin
  obtain ⟨f0, hf0⟩ := fresh_ex s.tab.L
  have hba : Below w1.heap.size w1 (w1.alloc (.cells #[.slice a3 m3 k3, .slice a4 m4 k4] 30)).drew := Below.drew (Mem.al (Below.refl _ _) _)
  have hcc := concatB_any (w := (w1.alloc (.cells #[.slice a3 m3 k3, .slice a4 m4 k4] 30)).drew) (pb := w1.heap.size) ((hin.val hvx).src.below hba) ((hin.val hvy).src.below hba) (by omega) (by omega) (show (w1.alloc (.cells #[.slice a3 m3 k3, .slice a4 m4 k4] 30)).heap[w1.heap.size]? = some (.cells #[.slice a3 m3 k3, .slice a4 m4 k4] 30) from Mem.new_block w1 _)
  have hwr : IntKind.i64.wrap ((m3 : Int) + (m4 : Int)) = (m3 : Int) + (m4 : Int) := by rw [IntKind.wrap_i64]; omega
  have HX := Lib.hid (And.intro hx hy)
  have HB := Lib.hid (And.intro hin (And.intro n1 (And.intro n2 (And.intro n3 (And.intro hz hf0)))))
  have HK := Lib.hid (And.intro hM (And.intro hks trivial))
  have r0 := Mem.row_cell n1 0
  have r1 := Mem.row_cell n1 1
  have r2 := Mem.row_cell n1 2
  have r3 := Mem.row_cell n1 3
  have r4 := Mem.row_cell n1 4
  have r5 := Mem.row_cell n1 5
  have r6 := Mem.row_cell n1 6
  have r7 := Mem.row_cell n1 7
  have r8 := Mem.row_cell n1 8
  have r9 := Mem.row_cell n1 9
  have r10 := Mem.row_cell n1 10
  have r11 := Mem.row_cell n1 11
  have r12 := Mem.row_cell n1 12
  have r13 := Mem.row_cell n1 13
  have r14 := Mem.row_cell n1 14
  have i2 := Mem.row_cell n2 2
  have i3 := Mem.row_cell n2 3
  simp only [rarr, Item.arr, List.getElem?_toArray, List.getElem?_cons_zero, List.getElem?_cons_succ] at r0 r1 r2 r3 r4 r5 r6 r7 r8 r9 r10 r11 r12 r13 r14 i2 i3
  have hS : ∀ W' : World, W'.heap[w.heap.size]? = w1.heap[w.heap.size]? → W'.heap[w.heap.size + 1]? = w1.heap[w.heap.size + 1]? → W'.cell? ⟨w.heap.size, 0, none⟩ = some (.pointer (some ⟨b, 0, none⟩)) ∧ W'.cell? ⟨w.heap.size, 1, none⟩ = some (.int .i64 c.op) ∧ W'.cell? ⟨w.heap.size, 2, none⟩ = some (.string c.key) ∧ W'.cell? ⟨w.heap.size, 3, none⟩ = some (.slice a n k) ∧ W'.cell? ⟨w.heap.size, 4, none⟩ = some (.int .u32 c.flags) ∧ W'.cell? ⟨w.heap.size, 5, none⟩ = some (.int .i64 c.exp) ∧ W'.cell? ⟨w.heap.size, 6, none⟩ = some (.int .u64 c.cas) ∧ W'.cell? ⟨w.heap.size, 7, none⟩ = some (.int .u64 c.delta) ∧ W'.cell? ⟨w.heap.size, 8, none⟩ = some (.int .u64 c.initial) ∧ W'.cell? ⟨w.heap.size, 9, none⟩ = some (.bool c.makes) ∧ W'.cell? ⟨w.heap.size, 10, none⟩ = some (.bool c.sets) ∧ W'.cell? ⟨w.heap.size, 11, none⟩ = some (.int .i64 env.now) ∧ W'.cell? ⟨w.heap.size, 12, none⟩ = some (.int .u64 env.seq) ∧ W'.cell? ⟨w.heap.size, 13, none⟩ = some (.int .i64 env.flush) ∧ W'.cell? ⟨w.heap.size, 14, none⟩ = some (.int .u64 env.flushSeq) ∧ W'.cell? ⟨w.heap.size + 1, 2, none⟩ = some (.int .u32 it.flags) ∧ W'.cell? ⟨w.heap.size + 1, 3, none⟩ = some (.int .i64 it.exp) := fun W' e e2 => by
    obtain ⟨q0, q1, q2, q3, q4, q5, q6, q7, q8, q9, q10, q11, q12, q13, q14⟩ := CellsR.of (e.trans n1)
    exact ⟨q0, q1, q2, q3, q4, q5, q6, q7, q8, q9, q10, q11, q12, q13, q14, (World.cell?_of_block (a := ⟨w.heap.size + 1, 2, none⟩) e2).trans i2, (World.cell?_of_block (a := ⟨w.heap.size + 1, 3, none⟩) e2).trans i3⟩
  have hSd := hS w1.drew rfl rfl
  have hSa := hS (w1.alloc (.cells #[.slice a3 m3 k3, .slice a4 m4 k4] 30)).drew (Below.heap_alloc w1 _ _ (by omega)) (Below.heap_alloc w1 _ _ (by omega))
  have HS := Lib.hid (And.intro hS (And.intro hSd hSa))
  clear hb2 n1 n2 n3 hz hin h hM hks hf0 hx hy hxs hys hvx hvy hS hSd hSa
  unfold rarr Item.arr zeroR at hw1
  unfold rarr Item.arr
  go_enter Tryz.func57, Tryz.ntmps57
  by_cases hl : 1000 < m3 + m4
  · have hlb : decide ((1000 : Int) < (m3 : Int) + (m4 : Int)) = true := decide_eq_true (by omega)
    have HL := Lib.hid hl
    clear hl
    go_wp2_with fail
    refine (only_any 9 _).mono ?_
    rintro e w3 ⟨rfl, hb3⟩
    have H3 := Lib.hid (And.intro (HB.out.1.below hb3) ((hb3.block _ (Array.getElem?_eq_some_iff.1 HB.out.2.2.2.1).1).trans HB.out.2.2.2.1))
    clear hb3
    unfold Res.arr only
    go_wp2_with (first
      | (refine wpList_store_row rfl 37 _ _ rfl (w.heap.size + 1 + 1) ((only 9).arr (.slice none 0 0)) rfl rfl 37 zeroR H3.out.2 (res_size _ _) rfl (res_one _ _ _ _) ?_)
      | fail)
    refine bodyPost_ret (results_cell_row Tryz.results57 _ _ (w.heap.size + 1 + 1) _ _ _ _ rfl (setRow_heap _ _ _ ((only 9).arr (.slice none 0 0)) _ _ H3.out.2) Tryz.underlying37 rfl (res_size _ _)) rfl ?_
    exact ((H3.out.1.more_n (Nat.le_succ _) HK.out.1).setRow (k := w.heap.size + 1 + 1) (by omega) (by omega) _).stop HB.out.2.2.2.2.2 (by unfold join; exact if_pos (by have := HX.out.1; have := HX.out.2; have := HL.out; omega)) (Val.nil _ _)
  · have hlb : decide ((1000 : Int) < (m3 : Int) + (m4 : Int)) = false := decide_eq_false (by omega)
    have HL := Lib.hid (show ¬ 1000 < xs.length + ys.length by have := HX.out.1; have := HX.out.2; omega)
    clear hl
    obtain ⟨hS, hSd, hSa⟩ := HS.out
    go_upto_region 3 with (fail)
    go_region_held3 (fun W' : World => W'.cell? ⟨w.heap.size, 0, none⟩ = some (.pointer (some ⟨b, 0, none⟩)) ∧ W'.cell? ⟨w.heap.size, 1, none⟩ = some (.int .i64 c.op) ∧ W'.cell? ⟨w.heap.size, 2, none⟩ = some (.string c.key) ∧ W'.cell? ⟨w.heap.size, 3, none⟩ = some (.slice a n k) ∧ W'.cell? ⟨w.heap.size, 4, none⟩ = some (.int .u32 c.flags) ∧ W'.cell? ⟨w.heap.size, 5, none⟩ = some (.int .i64 c.exp) ∧ W'.cell? ⟨w.heap.size, 6, none⟩ = some (.int .u64 c.cas) ∧ W'.cell? ⟨w.heap.size, 7, none⟩ = some (.int .u64 c.delta) ∧ W'.cell? ⟨w.heap.size, 8, none⟩ = some (.int .u64 c.initial) ∧ W'.cell? ⟨w.heap.size, 9, none⟩ = some (.bool c.makes) ∧ W'.cell? ⟨w.heap.size, 10, none⟩ = some (.bool c.sets) ∧ W'.cell? ⟨w.heap.size, 11, none⟩ = some (.int .i64 env.now) ∧ W'.cell? ⟨w.heap.size, 12, none⟩ = some (.int .u64 env.seq) ∧ W'.cell? ⟨w.heap.size, 13, none⟩ = some (.int .i64 env.flush) ∧ W'.cell? ⟨w.heap.size, 14, none⟩ = some (.int .u64 env.flushSeq) ∧ W'.cell? ⟨w.heap.size + 1, 2, none⟩ = some (.int .u32 it.flags) ∧ W'.cell? ⟨w.heap.size + 1, 3, none⟩ = some (.int .i64 it.exp)) (first
      | with_reducible exact hS _ ((set9 _ _ _ _ _ _ _ _ _ _ _ (by omega)).trans H3.out.2.1) ((set9 _ _ _ _ _ _ _ _ _ _ _ (by omega)).trans H3.out.2.2.1)
      | with_reducible exact hS _ H3.out.2.1 H3.out.2.2.1
      | with_reducible exact hS _ (H2.out.1.block _ (by have := HB.out.2.2.2.2.1; omega)) (H2.out.1.block _ (by have := HB.out.2.2.2.2.1; omega))
      | with_reducible exact hS _ (H1.out.1.block _ (by have := HB.out.2.2.2.2.1; omega)) (H1.out.1.block _ (by have := HB.out.2.2.2.2.1; omega))
      | with_reducible exact hSa
      | with_reducible exact hSd) (first
      | (go_at_call 84; refine hcc.mono ?_; rintro en wC ⟨v, rfl, hown, hbC⟩; obtain ⟨av, kv, rfl⟩ := (SrcB.of_row hown).shape; have hvC := ownB_val HB.out.1.run (show w1.heap.size ≤ (w1.alloc (.cells #[.slice a3 m3 k3, .slice a4 m4 k4] 30)).heap.size by rw [World.size_alloc]; omega) hown; obtain ⟨m, hm⟩ : ∃ m, (xs ++ ys).length = m := ⟨_, rfl⟩; rw [hm] at hvC; have H1 := Lib.hid (And.intro (Mem.tr hba hbC) (And.intro hm hvC)); rw [hm]; clear hbC hown hvC hm)
      | (go_at_call 52; refine (fresh_any b c (.slice a n k) env (xs ++ ys) _ _ _ it.flags it.exp _).mono ?_; rintro en wF ⟨rfl, hbF⟩; have hbG : Below wC.heap.size wC wF := (by with_reducible exact hbF); have H2 := Lib.hid (And.intro (Mem.tr H1.out.1 hbG) (H1.out.2.2.below hbG)); clear hbF hbG)
      | (go_at_call 51; refine (store_n (HB.out.1.below H2.out.1).run HK.out.1 (c := c) (env := env) (.slice a n k) (freshI c env (xs ++ ys) it.flags it.exp) H1.out.2.1 HK.out.2.1 (show (xs ++ ys).length ≤ 2000000 by rw [List.length_append]; have := HL.out; omega) H2.out.2).mono ?_; rintro en wT h9; obtain ⟨f, r, t, va, vn, vk, col', hf, hg, rfl, hvn, hinT, hfr, hval⟩ := h9.use (HB.out.1.below H2.out.1); have heT := (HB.out.1.below H2.out.1).row (by omega) (by omega) hfr ((H2.out.1.block w.heap.size (by have := HB.out.2.2.2.2.1; omega)).trans HB.out.2.1); have heI := (HB.out.1.below H2.out.1).row (by omega) (by omega) hfr ((H2.out.1.block (w.heap.size + 1) (by have := HB.out.2.2.2.2.1; omega)).trans HB.out.2.2.1); have hzT := (HB.out.1.below H2.out.1).row (by omega) (by omega) hfr ((H2.out.1.block (w.heap.size + 1 + 1) (by have := HB.out.2.2.2.2.1; omega)).trans HB.out.2.2.2.1); have c0 := Mem.row_cell hzT 0; have f0 := Mem.row_free hzT 0; have c1 := Mem.row_cell hzT 1; have f1 := Mem.row_free hzT 1; have c2 := Mem.row_cell hzT 2; have f2 := Mem.row_free hzT 2; have c3 := Mem.row_cell hzT 3; have f3 := Mem.row_free hzT 3; have c4 := Mem.row_cell hzT 4; have f4 := Mem.row_free hzT 4; have c5 := Mem.row_cell hzT 5; have f5 := Mem.row_free hzT 5; have c6 := Mem.row_cell hzT 6; have f6 := Mem.row_free hzT 6; have c7 := Mem.row_cell hzT 7; have f7 := Mem.row_free hzT 7; have c8 := Mem.row_cell hzT 8; have f8 := Mem.row_free hzT 8; simp only [zeroR, List.getElem?_toArray, List.getElem?_cons_zero, List.getElem?_cons_succ] at c0 c1 c2 c3 c4 c5 c6 c7 c8; have H3 := Lib.hid (And.intro hinT (And.intro (heT.trans HB.out.2.1.symm) (And.intro (heI.trans HB.out.2.2.1.symm) (And.intro hzT (And.intro hval (And.intro hf hg)))))); clear h9 hf hg hinT heT heI hfr hval hzT hvn))
    all_goals (go_wp2_with fail)
    obtain ⟨p1, p2, p3⟩ := put9Z H3.out.1 H3.out.2.2.2.1 (by omega) (by omega) (.int .i64 r.status) (.slice va vn vk) (.int .u32 r.flags) (.int .u64 r.cas) (.int .i64 r.ttl) (.int .u64 r.number) (.bool r.stale) (.bool r.won) (.bool r.lost)
    refine bodyPost_ret (results_cell_row Tryz.results57 _ _ (w.heap.size + 1 + 1) _ _ _ _ rfl p2 Tryz.underlying37 rfl (res_size r (.slice va vn vk))) rfl ?_
    refine p1.stop (r := r) (v := .slice va vn vk) H3.out.2.2.2.2.2.1 ?_ (H3.out.2.2.2.2.1.void (doStore_val H3.out.2.2.2.2.2.2) p3.size)
    unfold join
    rw [if_neg (by have := HL.out; omega)]
    exact H3.out.2.2.2.2.2.2
end
end Go.Proofs.YtpghckiochjogaaGreatDoor.Exec

