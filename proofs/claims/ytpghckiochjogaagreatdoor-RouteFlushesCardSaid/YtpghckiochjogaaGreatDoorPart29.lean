/- Part29: Exec13d, one behind the other. -/
import Derived.Test.YtpghckiochjogaaGreatDoorPart26
/- Layer 12: with. -/
namespace Go.Proofs.YtpghckiochjogaaGreatDoor.Exec
set_option maxRecDepth 100000
open Go Go.RowKit Go.Proofs.YtpghckiochjogaaGreatDoor.Mem Go.Proofs.YtpghckiochjogaaGreatDoor.App Go.Proofs.YtpghckiochjogaaGreatDoor.Shard
section
variable {W w : World} {M b : Nat} {col : Col} {seed : Int} {s : St} {c : Cmd} {env : Env}
set_option maxHeartbeats 4000000 in
theorem with3 (h : Run W w M b col seed s) (hM : M + 1 ≤ 1050000) {a : Option Addr} {n k : Nat} (it : Shard.Item) {a2 : Option Addr} {m2 k2 : Nat} (hm : it.val.length = m2) (hks : it.key.size ≤ 2000000) (hvs : it.val.length ≤ 1100000) (hv : Val w col (.slice a2 m2 k2) it.val) (hn : c.val.length = n) (hcks : c.key.size ≤ 2000000) (hcvs : c.val.length ≤ 1100000) (hcv : Val w col (.slice a n k) c.val) (hd : 0 ≤ c.delta) (hd2 : c.delta < 18446744073709551616) (hp : Pows W) (he : Errs W) (hop : c.op = 3) :
    Calls Tryz.prog 36 #[.agg (rarr b c (.slice a n k) env), .agg (it.arr (.slice a2 m2 k2))] w (ExecQ W w (M + 1) b col seed s.tab.L (.slice a2 m2 k2) it.val fun f => withI c env it f s) := by
  have HZ := Lib.hid hop
  have e3 : (c.op == 3) = true := by rw [hop]; rfl
  have hb2 : Below w.heap.size w (((w.alloc (.cells (rarr b c (.slice a n k) env) 86)).alloc (.cells (it.arr (.slice a2 m2 k2)) 51)).alloc (.cells (zeroR) 37)) := Mem.al (Mem.al (Mem.al (Below.refl _ _) _) _) _
  have n1 : (((w.alloc (.cells (rarr b c (.slice a n k) env) 86)).alloc (.cells (it.arr (.slice a2 m2 k2)) 51)).alloc (.cells (zeroR) 37)).heap[w.heap.size]? = some (.cells (rarr b c (.slice a n k) env) 86 (0, 0)) := Mem.new_later (Mem.new_later (Mem.new_block w _) _) _
  have n2 : (((w.alloc (.cells (rarr b c (.slice a n k) env) 86)).alloc (.cells (it.arr (.slice a2 m2 k2)) 51)).alloc (.cells (zeroR) 37)).heap[w.heap.size + 1]? = some (.cells (it.arr (.slice a2 m2 k2)) 51 (0, 0)) := Mem.new_later (Mem.new_block2 w _ _) _
  have n3 : (((w.alloc (.cells (rarr b c (.slice a n k) env) 86)).alloc (.cells (it.arr (.slice a2 m2 k2)) 51)).alloc (.cells (zeroR) 37)).heap[w.heap.size + 1 + 1]? = some (.cells (zeroR) 37 (0, 0)) := new_block3 w _ _ _
  have hz : (((w.alloc (.cells (rarr b c (.slice a n k) env) 86)).alloc (.cells (it.arr (.slice a2 m2 k2)) 51)).alloc (.cells (zeroR) 37)).heap.size = w.heap.size + 3 := by simp
  obtain ⟨w1, hw1⟩ : ∃ w1, (((w.alloc (.cells (rarr b c (.slice a n k) env) 86)).alloc (.cells (it.arr (.slice a2 m2 k2)) 51)).alloc (.cells (zeroR) 37)) = w1 := ⟨_, rfl⟩
  rw [hw1] at hb2 hz n1 n2 n3
  have hin := In.start h hb2
  rw [hz] at hin
  have hpc := peaceE hin.run (by omega) (c := c) (env := env) (a := a) (n := n) (k := k) it hm hks (by omega) (hin.val hv) (by omega) (by omega) (by omega) (by omega) (by omega)
  have HB := Lib.hid (And.intro hin (And.intro n1 (And.intro n2 (And.intro n3 hz))))
  have HK := Lib.hid (And.intro hM (And.intro hm (And.intro hks (And.intro hvs (And.intro hv (And.intro hn (And.intro hcks (And.intro hcvs (And.intro hcv (And.intro hd (And.intro hd2 (And.intro hp he))))))))))))
  have r0 := Mem.row_cell n1 0
  have r1 := Mem.row_cell n1 1
  have r2 := Mem.row_cell n1 2
  have r3 := Mem.row_cell n1 3
  have r4 := Mem.row_cell n1 4
  have r5 := Mem.row_cell n1 5
  have r6 := Mem.row_cell n1 6
  have r7 := Mem.row_cell n1 7
  have r8 := Mem.row_cell n1 8
  have r9 := Mem.row_cell n1 9
  have r10 := Mem.row_cell n1 10
  have r11 := Mem.row_cell n1 11
  have r12 := Mem.row_cell n1 12
  have r13 := Mem.row_cell n1 13
  have r14 := Mem.row_cell n1 14
  have i0 := Mem.row_cell n2 0
  have i1 := Mem.row_cell n2 1
  have i2 := Mem.row_cell n2 2
  have i3 := Mem.row_cell n2 3
  have i4 := Mem.row_cell n2 4
  have i5 := Mem.row_cell n2 5
  have i6 := Mem.row_cell n2 6
  have i7 := Mem.row_cell n2 7
  have i8 := Mem.row_cell n2 8
  have i9 := Mem.row_cell n2 9
  simp only [rarr, Item.arr, List.getElem?_toArray, List.getElem?_cons_zero, List.getElem?_cons_succ] at r0 r1 r2 r3 r4 r5 r6 r7 r8 r9 r10 r11 r12 r13 r14 i0 i1 i2 i3 i4 i5 i6 i7 i8 i9
  clear hb2 n1 n2 n3 hz hin h hM hm hks hvs hv hn hcks hcvs hcv hd hd2 hp he
  clear hop
  unfold rarr Item.arr zeroR at hpc
  unfold rarr Item.arr zeroR at hw1
  unfold rarr Item.arr
  go_enter Tryz.func36, Tryz.ntmps36
  go_wp2_with fail
  refine hpc.mono ?_
  rintro e wP ⟨rfl, colP, hrP, hfP⟩
  clear hpc r0 r1 r2 r3 r4 r5 r6 r7 r8 r9 r10 r11 r12 r13 r14 i0 i1 i2 i3 i4 i5 i6 i7 i8 i9
  have HP := Lib.hid (And.intro hrP hfP)
  clear hrP hfP
  go_upto_region 4 with (fail)
  obtain ⟨hrP, hfP⟩ := HP.out
  have hbX := Mem.al (Below.refl wP.heap.size wP) (.cells zeroR 37)
  have hin5 := (HB.out.1.turn2 hrP hfP).below hbX
  have hhi := (HB.out.1.turn2 hrP hfP).hi
  have nR := (hbX.block _ (by omega)).trans (HB.out.1.row (by omega) (by omega) hfP HB.out.2.1)
  have nI := (hbX.block _ (by omega)).trans (HB.out.1.row (by omega) (by omega) hfP HB.out.2.2.1)
  have nZ := (hbX.block _ (by omega)).trans (HB.out.1.row (by omega) (by omega) hfP HB.out.2.2.2.1)
  obtain ⟨w5, hw5⟩ : ∃ w5, wP.alloc (.cells zeroR 37) = w5 := ⟨_, rfl⟩
  rw [hw5] at hin5 nR nI nZ
  have hpw : Pows w5 ∧ Errs w5 := ⟨tabIs_below HK.out.2.2.2.2.2.2.2.2.2.2.2.1 hin5.run.below, HK.out.2.2.2.2.2.2.2.2.2.2.2.2.below hin5.run.below⟩
  have H5 := Lib.hid (And.intro hin5 (And.intro nR (And.intro nI nZ)))
  have HW := Lib.hid hpw
  have hS : ∀ W', W'.heap[w.heap.size]? = w5.heap[w.heap.size]? → CellsR b c (.slice a n k) env w.heap.size W' := fun W' e => CellsR.of (e.trans H5.out.2.1)
  have hSd := hS w5.drew rfl
  have hat := fun w' => at_any b c (.slice a n k) env w'
  unfold CellsR at hS hSd
  have HS := Lib.hid (And.intro hS hSd)
  clear hS hSd hrP hfP HP hin5 hbX hhi hpw
  unfold zeroR at hw5
  unfold rarr at hat
  rw [hw5]
  have r0 := Mem.row_cell nR 0
  have r1 := Mem.row_cell nR 1
  have r2 := Mem.row_cell nR 2
  have r3 := Mem.row_cell nR 3
  have r4 := Mem.row_cell nR 4
  have r5 := Mem.row_cell nR 5
  have r6 := Mem.row_cell nR 6
  have r7 := Mem.row_cell nR 7
  have r8 := Mem.row_cell nR 8
  have r9 := Mem.row_cell nR 9
  have r10 := Mem.row_cell nR 10
  have r11 := Mem.row_cell nR 11
  have r12 := Mem.row_cell nR 12
  have r13 := Mem.row_cell nR 13
  have r14 := Mem.row_cell nR 14
  have i0 := Mem.row_cell nI 0
  have i1 := Mem.row_cell nI 1
  have i2 := Mem.row_cell nI 2
  have i3 := Mem.row_cell nI 3
  have i4 := Mem.row_cell nI 4
  have i5 := Mem.row_cell nI 5
  have i6 := Mem.row_cell nI 6
  have i7 := Mem.row_cell nI 7
  have i8 := Mem.row_cell nI 8
  have i9 := Mem.row_cell nI 9
  simp only [rarr, Item.arr, List.getElem?_toArray, List.getElem?_cons_zero, List.getElem?_cons_succ] at r0 r1 r2 r3 r4 r5 r6 r7 r8 r9 r10 r11 r12 r13 r14 i0 i1 i2 i3 i4 i5 i6 i7 i8 i9
  clear nR nI nZ
  go_cut [26] from 15 to 25 (fun p wx => ∃ q : Bool, p = .bool q ∧ Hid (wx = w5 ∧ (q = true ↔ c.cas ≠ 0 ∧ c.cas ≠ it.cas)))
  case first =>
    by_cases h0 : c.cas = 0
    · have hc0 : (c.cas != 0) = false := by rw [h0]; rfl
      have H0 := Lib.hid h0
      clear h0
      go_wp2_with fail
      go_meet
      exact ⟨_, rfl, Lib.hid ⟨rfl, by simp [H0.out]⟩⟩
    · have hc0 : (c.cas != 0) = true := by simpa using h0
      by_cases h1 : c.cas = it.cas
      · have hc1 : (c.cas != it.cas) = false := by rw [h1]; simp
        have H0 := Lib.hid h1
        clear h0 h1
        go_wp2_with fail
        go_meet
        exact ⟨_, rfl, Lib.hid ⟨rfl, by simp [H0.out]⟩⟩
      · have hc1 : (c.cas != it.cas) = true := by simpa using h1
        have H0 := Lib.hid (And.intro h0 h1)
        clear h0 h1
        go_wp2_with fail
        go_meet
        exact ⟨_, rfl, Lib.hid ⟨rfl, by simp [H0.out.1, H0.out.2]⟩⟩
  case rest =>
    obtain ⟨q, rfl, HQ⟩ := hcut
    obtain ⟨hwq, hqc⟩ := HQ.out
    clear HQ
    replace hwq := hwq.symm
    subst hwq
    rcases q with _ | _
    · have HN := Lib.hid (show ¬ (c.cas ≠ 0 ∧ c.cas ≠ it.cas) from fun e => by simpa using hqc.2 e)
      clear hqc
      have hstr := fun (wF : World) (hbF : Below w5.heap.size w5 wF) => store_n (H5.out.1.below hbF).run HK.out.1 (c := c) (env := env) (.slice a n k) (freshI c env c.val c.flags (atS c.exp env.now)) HK.out.2.2.2.2.2.1 HK.out.2.2.2.2.2.2.1 (show c.val.length ≤ 2000000 by have := HK.out.2.2.2.2.2.2.2.1; omega) ((H5.out.1.below hbF).val HK.out.2.2.2.2.2.2.2.2.1)
      unfold rarr Item.arr at hstr
      have hfr := fun w' => fresh_any b c (.slice a n k) env c.val a n k c.flags (atS c.exp env.now) w'
      unfold rarr Item.arr at hfr
      go_upto_region 9 with (fail)
      obtain ⟨hS, hSd⟩ := HS.out
      go_region_held3 (fun W' : World => W'.cell? ⟨w.heap.size, 0, none⟩ = some (.pointer (some ⟨b, 0, none⟩)) ∧ W'.cell? ⟨w.heap.size, 1, none⟩ = some (.int .i64 c.op) ∧ W'.cell? ⟨w.heap.size, 2, none⟩ = some (.string c.key) ∧ W'.cell? ⟨w.heap.size, 3, none⟩ = some (.slice a n k) ∧ W'.cell? ⟨w.heap.size, 4, none⟩ = some (.int .u32 c.flags) ∧ W'.cell? ⟨w.heap.size, 5, none⟩ = some (.int .i64 c.exp) ∧ W'.cell? ⟨w.heap.size, 6, none⟩ = some (.int .u64 c.cas) ∧ W'.cell? ⟨w.heap.size, 7, none⟩ = some (.int .u64 c.delta) ∧ W'.cell? ⟨w.heap.size, 8, none⟩ = some (.int .u64 c.initial) ∧ W'.cell? ⟨w.heap.size, 9, none⟩ = some (.bool c.makes) ∧ W'.cell? ⟨w.heap.size, 10, none⟩ = some (.bool c.sets) ∧ W'.cell? ⟨w.heap.size, 11, none⟩ = some (.int .i64 env.now) ∧ W'.cell? ⟨w.heap.size, 12, none⟩ = some (.int .u64 env.seq) ∧ W'.cell? ⟨w.heap.size, 13, none⟩ = some (.int .i64 env.flush) ∧ W'.cell? ⟨w.heap.size, 14, none⟩ = some (.int .u64 env.flushSeq)) (first
        | with_reducible exact hS _ ((set9 _ _ _ _ _ _ _ _ _ _ _ (by omega)).trans H3.out.2.1)
        | with_reducible exact hS _ H3.out.2.1
        | with_reducible exact hS _ (H2.out.block _ (by have := H5.out.1.hi; omega))
        | with_reducible exact hS _ (H1.out.block _ (by have := H5.out.1.hi; omega))
        | with_reducible exact hSd) (first
        | (go_at_call 53; refine (hat _).mono ?_; rintro en wA ⟨rfl, hbA⟩; have H1 := Lib.hid (Mem.tr (Below.drew (Below.refl w5.heap.size w5)) hbA); clear hbA)
        | (go_at_call 52; refine (hfr _).mono ?_; rintro en wF ⟨rfl, hbF⟩; have hbG : Below wA.heap.size wA wF := (by with_reducible exact hbF); have H2 := Lib.hid (Mem.tr H1.out hbG); clear hbF hbG)
        | (go_at_call 51; refine (hstr _ H2.out).mono ?_; rintro en wT h9; obtain ⟨f, r, t, va, vn, vk, col', hf, hg, rfl, hvn, hinT, hfr, hval⟩ := h9.use (H5.out.1.below H2.out); have heT := (H5.out.1.below H2.out).row (by omega) (by omega) hfr ((H2.out.block w.heap.size (by have := H5.out.1.hi; omega)).trans H5.out.2.1); have hzT := (H5.out.1.below H2.out).row (by omega) (by omega) hfr ((H2.out.block (w.heap.size + 1 + 1) (by have := H5.out.1.hi; omega)).trans H5.out.2.2.2); have c0 := Mem.row_cell hzT 0; have f0 := Mem.row_free hzT 0; have c1 := Mem.row_cell hzT 1; have f1 := Mem.row_free hzT 1; have c2 := Mem.row_cell hzT 2; have f2 := Mem.row_free hzT 2; have c3 := Mem.row_cell hzT 3; have f3 := Mem.row_free hzT 3; have c4 := Mem.row_cell hzT 4; have f4 := Mem.row_free hzT 4; have c5 := Mem.row_cell hzT 5; have f5 := Mem.row_free hzT 5; have c6 := Mem.row_cell hzT 6; have f6 := Mem.row_free hzT 6; have c7 := Mem.row_cell hzT 7; have f7 := Mem.row_free hzT 7; have c8 := Mem.row_cell hzT 8; have f8 := Mem.row_free hzT 8; simp only [zeroR, List.getElem?_toArray, List.getElem?_cons_zero, List.getElem?_cons_succ] at c0 c1 c2 c3 c4 c5 c6 c7 c8; have H3 := Lib.hid (And.intro hinT (And.intro (heT.trans H5.out.2.1.symm) (And.intro hzT (And.intro hval (And.intro hf hg))))); clear h9 hf hg hinT heT hfr hval hzT hvn))
      all_goals (go_wp2_with fail)
      obtain ⟨p1, p2, p3⟩ := put9Z H3.out.1 H3.out.2.2.1 (by omega) (by omega) (.int .i64 r.status) (.slice va vn vk) (.int .u32 r.flags) (.int .u64 r.cas) (.int .i64 r.ttl) (.int .u64 r.number) (.bool r.stale) (.bool r.won) (.bool r.lost)
      refine bodyPost_ret (results_cell_row Tryz.results36 _ _ (w.heap.size + 1 + 1) _ _ _ _ rfl p2 Tryz.underlying37 rfl (res_size r (.slice va vn vk))) rfl ?_
      have hv0 := doStore_val H3.out.2.2.2.2.2
      refine p1.stopQ (r := r) (v := .slice va vn vk) HK.out.2.2.2.2.1 H3.out.2.2.2.2.1 ?_ H3.out.2.2.2.1 p3.size (.inl hv0)
      show withI c env it _ s = _
      unfold withI
      rw [if_neg (by have := HZ.out; omega), if_neg (by have := HZ.out; omega), if_neg (by have := HZ.out; omega), if_neg (by have := HZ.out; omega), if_neg (by have := HZ.out; omega), if_neg HN.out, if_pos (by have := HZ.out; omega)]
      exact H3.out.2.2.2.2.2
    · have HY := Lib.hid (hqc.1 rfl)
      clear hqc
      go_wp2_with fail
      refine (only_any 4 _).mono ?_
      rintro e w3 ⟨rfl, hb3⟩
      have H3 := Lib.hid (And.intro (H5.out.1.below hb3) ((hb3.block _ (Array.getElem?_eq_some_iff.1 H5.out.2.2.2).1).trans H5.out.2.2.2))
      clear hb3
      unfold Res.arr only
      go_wp2_with (first
        | (refine wpList_store_row rfl 37 _ _ rfl (w.heap.size + 1 + 1) ((only 4).arr (.slice none 0 0)) rfl rfl 37 zeroR H3.out.2 (res_size _ _) rfl (res_one _ _ _ _) ?_)
        | fail)
      refine bodyPost_ret (results_cell_row Tryz.results36 _ _ (w.heap.size + 1 + 1) _ _ _ _ rfl (setRow_heap _ _ _ ((only 4).arr (.slice none 0 0)) _ _ H3.out.2) Tryz.underlying37 rfl (res_size _ _)) rfl ?_
      obtain ⟨f0, hf0⟩ := fresh_ex s.tab.L
      refine ((H3.out.1.setRow (k := w.heap.size + 1 + 1) (by omega) (by omega) ((only 4).arr (.slice none 0 0))).more_n (Nat.le_succ _) HK.out.1).stopQ (r := only 4) (v := .slice none 0 0) HK.out.2.2.2.2.1 hf0 ?_ (Val.nil w col) (by have := H3.out.1.fr.1.size; simpa using this) (.inl rfl)
      show withI c env it _ s = _
      unfold withI
      rw [if_neg (by have := HZ.out; omega), if_neg (by have := HZ.out; omega), if_neg (by have := HZ.out; omega), if_neg (by have := HZ.out; omega), if_neg (by have := HZ.out; omega), if_pos HY.out]
end
end Go.Proofs.YtpghckiochjogaaGreatDoor.Exec

