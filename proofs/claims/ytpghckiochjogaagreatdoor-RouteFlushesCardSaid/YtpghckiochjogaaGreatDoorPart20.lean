/- Part20: Exec10, one behind the other. -/
import Derived.Test.YtpghckiochjogaaGreatDoorPart19
import Derived.Test.YtpghckiochjogaaGreatDoorPart10
/- Layer 12: reckon. -/
namespace Go.Proofs.YtpghckiochjogaaGreatDoor.Exec
set_option maxRecDepth 100000
open Go Go.RowKit Go.Proofs.YtpghckiochjogaaGreatDoor.Mem Go.Proofs.YtpghckiochjogaaGreatDoor.App Go.Proofs.YtpghckiochjogaaGreatDoor.Shard
section
variable {W w : World} {M b : Nat} {col : Col} {seed : Int} {s : St} {c : Cmd} {env : Env}
set_option maxHeartbeats 4000000 in
theorem reckon_any (h : Run W w M b col seed s) (hM : M + 1 ≤ 1050000) (hp : Pows w) (he : Errs w) {a : Option Addr} {n k : Nat} (it : Shard.Item) {a2 : Option Addr} {m2 k2 : Nat} (hn : it.val.length = m2) (hks : c.key.size ≤ 2000000) (hvs : it.val.length ≤ 2000000) (hv : Val w col (.slice a2 m2 k2) it.val) (hi : 0 ≤ c.delta) (hi2 : c.delta < 18446744073709551616) :
    Calls Tryz.prog 61 #[.agg (rarr b c (.slice a n k) env), .agg (it.arr (.slice a2 m2 k2))] w (ExecP W w (M + 1) b col seed s.tab.L fun f => reckon c env it f s) := by
  have hb2 : Below w.heap.size w (((w.alloc (.cells (rarr b c (.slice a n k) env) 86)).alloc (.cells (it.arr (.slice a2 m2 k2)) 51)).alloc (.cells (zeroR) 37)) := Mem.al (Mem.al (Mem.al (Below.refl _ _) _) _) _
  have n1 : (((w.alloc (.cells (rarr b c (.slice a n k) env) 86)).alloc (.cells (it.arr (.slice a2 m2 k2)) 51)).alloc (.cells (zeroR) 37)).heap[w.heap.size]? = some (.cells (rarr b c (.slice a n k) env) 86 (0, 0)) := Mem.new_later (Mem.new_later (Mem.new_block w _) _) _
  have n2 : (((w.alloc (.cells (rarr b c (.slice a n k) env) 86)).alloc (.cells (it.arr (.slice a2 m2 k2)) 51)).alloc (.cells (zeroR) 37)).heap[w.heap.size + 1]? = some (.cells (it.arr (.slice a2 m2 k2)) 51 (0, 0)) := Mem.new_later (Mem.new_block2 w _ _) _
  have n3 : (((w.alloc (.cells (rarr b c (.slice a n k) env) 86)).alloc (.cells (it.arr (.slice a2 m2 k2)) 51)).alloc (.cells (zeroR) 37)).heap[w.heap.size + 1 + 1]? = some (.cells (zeroR) 37 (0, 0)) := new_block3 w _ _ _
  have hz : (((w.alloc (.cells (rarr b c (.slice a n k) env) 86)).alloc (.cells (it.arr (.slice a2 m2 k2)) 51)).alloc (.cells (zeroR) 37)).heap.size = w.heap.size + 3 := by simp
  obtain ⟨w1, hw1⟩ : ∃ w1, (((w.alloc (.cells (rarr b c (.slice a n k) env) 86)).alloc (.cells (it.arr (.slice a2 m2 k2)) 51)).alloc (.cells (zeroR) 37)) = w1 := ⟨_, rfl⟩
  rw [hw1] at hb2 hz n1 n2 n3
  have hin := In.start h hb2
  rw [hz] at hin
  obtain ⟨f0, hf0⟩ := fresh_ex s.tab.L
  have hcv := conv_any (hin.val hv).src
  have hdec := decimal_any (bs it.val) (by show it.val.toArray.size ≤ _; rw [List.size_toArray]; omega) w1 (he.below hb2)
  rw [show (bs it.val).data.toList = it.val from by simp [bs]] at hdec
  have HP := Lib.hid (And.intro (tabIs_below hp hb2) trivial)
  have HB := Lib.hid (And.intro hin (And.intro n1 (And.intro n2 (And.intro n3 (And.intro hz hf0)))))
  have HK := Lib.hid (And.intro hM (And.intro hks (And.intro hvs (And.intro hn (And.intro hi hi2)))))
  have r0 := Mem.row_cell n1 0
  have r1 := Mem.row_cell n1 1
  have r2 := Mem.row_cell n1 2
  have r3 := Mem.row_cell n1 3
  have r4 := Mem.row_cell n1 4
  have r5 := Mem.row_cell n1 5
  have r6 := Mem.row_cell n1 6
  have r7 := Mem.row_cell n1 7
  have r8 := Mem.row_cell n1 8
  have r9 := Mem.row_cell n1 9
  have r10 := Mem.row_cell n1 10
  have r11 := Mem.row_cell n1 11
  have r12 := Mem.row_cell n1 12
  have r13 := Mem.row_cell n1 13
  have r14 := Mem.row_cell n1 14
  have i0 := Mem.row_cell n2 0
  have i1 := Mem.row_cell n2 1
  have i2 := Mem.row_cell n2 2
  have i3 := Mem.row_cell n2 3
  have i4 := Mem.row_cell n2 4
  have i5 := Mem.row_cell n2 5
  have i6 := Mem.row_cell n2 6
  have i7 := Mem.row_cell n2 7
  have i8 := Mem.row_cell n2 8
  have i9 := Mem.row_cell n2 9
  simp only [rarr, Item.arr, List.getElem?_toArray, List.getElem?_cons_zero, List.getElem?_cons_succ] at r0 r1 r2 r3 r4 r5 r6 r7 r8 r9 r10 r11 r12 r13 r14 i0 i1 i2 i3 i4 i5 i6 i7 i8 i9
  clear hb2 n1 n2 n3 hin h hM hn hks hvs hv hf0 hp hi hi2 he
  obtain ⟨sv, hsv⟩ : ∃ sv, bs it.val = sv := ⟨_, rfl⟩
  rw [hsv] at hcv hdec
  clear hsv
  unfold rarr Item.arr zeroR at hw1
  unfold rarr Item.arr
  go_enter Tryz.func61, Tryz.ntmps61
  have hw64 : ∀ z : Int, 0 ≤ IntKind.u64.wrap z ∧ IntKind.u64.wrap z < 18446744073709551616 := fun z => by rw [IntKind.wrap_u64]; omega
  rcases hd : decS it.val with _ | u
  · have HD := Lib.hid hd
    have hdv : decV it.val = .tuple #[.int .u64 0, .bool false] := by unfold decV; rw [hd]
    rw [hdv] at hdec
    clear hd hdv hw64
    go_wp2_with fail
    refine hdec.mono ?_
    rintro e wD ⟨rfl, hbD⟩
    have HC := Lib.hid (And.intro (HB.out.1.below hbD) ((hbD.block _ (Array.getElem?_eq_some_iff.1 HB.out.2.2.2.1).1).trans HB.out.2.2.2.1))
    clear hbD
    go_wp2_with fail
    refine (only_any 8 _).mono ?_
    rintro e w3 ⟨rfl, hb3⟩
    have H3 := Lib.hid (And.intro (HC.out.1.below hb3) ((hb3.block _ (Array.getElem?_eq_some_iff.1 HC.out.2).1).trans HC.out.2))
    clear hb3
    unfold Res.arr only
    go_wp2_with (first
      | (refine wpList_store_row rfl 37 _ _ rfl (w.heap.size + 1 + 1) ((only 8).arr (.slice none 0 0)) rfl rfl 37 zeroR H3.out.2 (res_size _ _) rfl (res_one _ _ _ _) ?_)
      | fail)
    refine bodyPost_ret (results_cell_row Tryz.results61 _ _ (w.heap.size + 1 + 1) _ _ _ _ rfl (setRow_heap _ _ _ ((only 8).arr (.slice none 0 0)) _ _ H3.out.2) Tryz.underlying37 rfl (res_size _ _)) rfl ?_
    exact ((H3.out.1.more_n (Nat.le_succ _) HK.out.1).setRow (k := w.heap.size + 1 + 1) (by omega) (by omega) _).stop HB.out.2.2.2.2.2 (by unfold reckon; rw [HD.out]) (Val.nil _ _)
  · have hdv : decV it.val = .tuple #[.int .u64 u, .bool true] := by unfold decV; rw [hd]
    rw [hdv] at hdec
    have hu := (dec_lt hd).1
    have HD := Lib.hid hd
    clear hd hdv
    by_cases hl : 20 < m2
    · have hlb : decide ((20 : Int) < (m2 : Int)) = true := decide_eq_true (by omega)
      have HL := Lib.hid hl
      clear hl hw64 hu
      go_wp2_with fail
      refine hdec.mono ?_
      rintro e wD ⟨rfl, hbD⟩
      have i1 := (World.cell?_of_block (a := ⟨w.heap.size + 1, 1, none⟩) (hbD.block _ (block_lt_of_cell i1))).trans i1
      have HC := Lib.hid (And.intro (HB.out.1.below hbD) ((hbD.block _ (Array.getElem?_eq_some_iff.1 HB.out.2.2.2.1).1).trans HB.out.2.2.2.1))
      clear hbD
      go_wp2_with fail
      refine (only_any 8 _).mono ?_
      rintro e w3 ⟨rfl, hb3⟩
      have H3 := Lib.hid (And.intro (HC.out.1.below hb3) ((hb3.block _ (Array.getElem?_eq_some_iff.1 HC.out.2).1).trans HC.out.2))
      clear hb3
      unfold Res.arr only
      go_wp2_with (first
        | (refine wpList_store_row rfl 37 _ _ rfl (w.heap.size + 1 + 1) ((only 8).arr (.slice none 0 0)) rfl rfl 37 zeroR H3.out.2 (res_size _ _) rfl (res_one _ _ _ _) ?_)
        | fail)
      refine bodyPost_ret (results_cell_row Tryz.results61 _ _ (w.heap.size + 1 + 1) _ _ _ _ rfl (setRow_heap _ _ _ ((only 8).arr (.slice none 0 0)) _ _ H3.out.2) Tryz.underlying37 rfl (res_size _ _)) rfl ?_
      exact ((H3.out.1.more_n (Nat.le_succ _) HK.out.1).setRow (k := w.heap.size + 1 + 1) (by omega) (by omega) _).stop HB.out.2.2.2.2.2 (by unfold reckon; rw [HD.out]; exact if_pos (by have := HK.out.2.2.2.1; have := HL.out; omega)) (Val.nil _ _)
    · have hlb : decide ((20 : Int) < (m2 : Int)) = false := decide_eq_false (by omega)
      have HL := Lib.hid hl
      clear hl
      by_cases h10 : c.op = 10
      · have hopb : (c.op == 10) = true := by rw [h10]; rfl
        have HO := Lib.hid h10
        clear h10
        obtain ⟨z, hz⟩ : ∃ z, IntKind.u64.wrap (u + c.delta) = z := ⟨_, rfl⟩
        have hzr := hw64 (u + c.delta)
        rw [hz] at hzr
        go_wp2_with fail
        refine hdec.mono ?_
        rintro e wD ⟨rfl, hbD⟩
        have hblk := fun j (hj : j < w1.heap.size) => hbD.block j hj
        have nR := (hbD.block _ (Array.getElem?_eq_some_iff.1 HB.out.2.1).1).trans HB.out.2.1
        have nI := (hbD.block _ (Array.getElem?_eq_some_iff.1 HB.out.2.2.1).1).trans HB.out.2.2.1
        have HC := Lib.hid (And.intro (HB.out.1.below hbD) ((hbD.block _ (Array.getElem?_eq_some_iff.1 HB.out.2.2.2.1).1).trans HB.out.2.2.2.1))
        clear r0 r1 r2 r3 r4 r5 r6 r7 r8 r9 r10 r11 r12 r13 r14 i0 i1 i2 i3 i4 i5 i6 i7 i8 i9 hblk
        have r0 := Mem.row_cell nR 0
        have r1 := Mem.row_cell nR 1
        have r2 := Mem.row_cell nR 2
        have r3 := Mem.row_cell nR 3
        have r4 := Mem.row_cell nR 4
        have r5 := Mem.row_cell nR 5
        have r6 := Mem.row_cell nR 6
        have r7 := Mem.row_cell nR 7
        have r8 := Mem.row_cell nR 8
        have r9 := Mem.row_cell nR 9
        have r10 := Mem.row_cell nR 10
        have r11 := Mem.row_cell nR 11
        have r12 := Mem.row_cell nR 12
        have r13 := Mem.row_cell nR 13
        have r14 := Mem.row_cell nR 14
        have i0 := Mem.row_cell nI 0
        have i1 := Mem.row_cell nI 1
        have i2 := Mem.row_cell nI 2
        have i3 := Mem.row_cell nI 3
        have i4 := Mem.row_cell nI 4
        have i5 := Mem.row_cell nI 5
        have i6 := Mem.row_cell nI 6
        have i7 := Mem.row_cell nI 7
        have i8 := Mem.row_cell nI 8
        have i9 := Mem.row_cell nI 9
        simp only [rarr, Item.arr, List.getElem?_toArray, List.getElem?_cons_zero, List.getElem?_cons_succ] at r0 r1 r2 r3 r4 r5 r6 r7 r8 r9 r10 r11 r12 r13 r14 i0 i1 i2 i3 i4 i5 i6 i7 i8 i9
        clear nR nI
        have hnum := number_any HC.out.1.run HK.out.1 (tabIs_below HP.out.1 (hbD.mono (by omega))) (c := c) (env := env) (.slice a n k) HK.out.2.1 z.toNat (by omega) it.flags it.exp
        rw [Int.toNat_of_nonneg hzr.1] at hnum
        have HZ := Lib.hid hz
        clear hw64 hu hzr
        unfold rarr at hnum
        clear hbD
        go_wp2_with fail
        refine hnum.mono ?_
        rintro en wT h9
        obtain ⟨f, r, t, va, vn, vk, col', hf, hg, rfl, hvn, hinT, hfr, hval⟩ := h9.use HC.out.1
        have hzT := HC.out.1.row (by omega) (by omega) hfr HC.out.2
        have H3 := Lib.hid (And.intro hinT (And.intro hzT (And.intro hval (And.intro hf hg))))
        clear h9 hf hg hinT hfr hval hzT hvn hnum
        go_wp2_with (first
          | (refine wpList_store_row rfl 37 _ _ rfl (w.heap.size + 1 + 1) (r.arr (.slice va vn vk)) rfl rfl 37 zeroR H3.out.2.1 (res_size _ _) rfl (res_one _ _ _ _) ?_)
          | fail)
        refine bodyPost_ret (results_cell_row Tryz.results61 _ _ (w.heap.size + 1 + 1) _ _ _ _ rfl (setRow_heap _ _ _ (r.arr (.slice va vn vk)) _ _ H3.out.2.1) Tryz.underlying37 rfl (res_size _ _)) rfl ?_
        refine (H3.out.1.setRow (k := w.heap.size + 1 + 1) (by omega) (by omega) _).stop (r := r) (v := .slice va vn vk) H3.out.2.2.2.1 ?_ (H3.out.2.2.1.void (number_val H3.out.2.2.2.2) (by simp))
        unfold reckon
        rw [HD.out]
        show (if 20 < it.val.length then _ else _) = _
        rw [if_neg (by have := HK.out.2.2.2.1; have := HL.out; omega), if_pos HO.out, HZ.out]
        exact H3.out.2.2.2.2
      · have hopb : (c.op == 10) = false := by simpa using h10
        have HO := Lib.hid h10
        clear h10
        have hmin : ((u - min u c.delta.toNat : Nat) : Int) = IntKind.u64.wrap ((u : Int) - min (u : Int) c.delta) := by
          rw [IntKind.wrap_u64]
          have := HK.out.2.2.2.2.1
          have := HK.out.2.2.2.2.2
          omega
        go_wp2_with fail
        refine hdec.mono ?_
        rintro e wD ⟨rfl, hbD⟩
        have nR := (hbD.block _ (Array.getElem?_eq_some_iff.1 HB.out.2.1).1).trans HB.out.2.1
        have nI := (hbD.block _ (Array.getElem?_eq_some_iff.1 HB.out.2.2.1).1).trans HB.out.2.2.1
        have HC := Lib.hid (And.intro (HB.out.1.below hbD) ((hbD.block _ (Array.getElem?_eq_some_iff.1 HB.out.2.2.2.1).1).trans HB.out.2.2.2.1))
        clear r0 r1 r2 r3 r4 r5 r6 r7 r8 r9 r10 r11 r12 r13 r14 i0 i1 i2 i3 i4 i5 i6 i7 i8 i9
        have r0 := Mem.row_cell nR 0
        have r1 := Mem.row_cell nR 1
        have r2 := Mem.row_cell nR 2
        have r3 := Mem.row_cell nR 3
        have r4 := Mem.row_cell nR 4
        have r5 := Mem.row_cell nR 5
        have r6 := Mem.row_cell nR 6
        have r7 := Mem.row_cell nR 7
        have r8 := Mem.row_cell nR 8
        have r9 := Mem.row_cell nR 9
        have r10 := Mem.row_cell nR 10
        have r11 := Mem.row_cell nR 11
        have r12 := Mem.row_cell nR 12
        have r13 := Mem.row_cell nR 13
        have r14 := Mem.row_cell nR 14
        have i0 := Mem.row_cell nI 0
        have i1 := Mem.row_cell nI 1
        have i2 := Mem.row_cell nI 2
        have i3 := Mem.row_cell nI 3
        have i4 := Mem.row_cell nI 4
        have i5 := Mem.row_cell nI 5
        have i6 := Mem.row_cell nI 6
        have i7 := Mem.row_cell nI 7
        have i8 := Mem.row_cell nI 8
        have i9 := Mem.row_cell nI 9
        simp only [rarr, Item.arr, List.getElem?_toArray, List.getElem?_cons_zero, List.getElem?_cons_succ] at r0 r1 r2 r3 r4 r5 r6 r7 r8 r9 r10 r11 r12 r13 r14 i0 i1 i2 i3 i4 i5 i6 i7 i8 i9
        clear nR nI
        have hnum := number_any HC.out.1.run HK.out.1 (tabIs_below HP.out.1 (hbD.mono (by omega))) (c := c) (env := env) (.slice a n k) HK.out.2.1 (u - min u c.delta.toNat) (by omega) it.flags it.exp
        rw [hmin] at hnum
        clear hw64 hu hmin
        unfold rarr at hnum
        clear hbD
        go_wp2_with fail
        refine hnum.mono ?_
        rintro en wT h9
        obtain ⟨f, r, t, va, vn, vk, col', hf, hg, rfl, hvn, hinT, hfr, hval⟩ := h9.use HC.out.1
        have hzT := HC.out.1.row (by omega) (by omega) hfr HC.out.2
        have H3 := Lib.hid (And.intro hinT (And.intro hzT (And.intro hval (And.intro hf hg))))
        clear h9 hf hg hinT hfr hval hzT hvn hnum
        go_wp2_with (first
          | (refine wpList_store_row rfl 37 _ _ rfl (w.heap.size + 1 + 1) (r.arr (.slice va vn vk)) rfl rfl 37 zeroR H3.out.2.1 (res_size _ _) rfl (res_one _ _ _ _) ?_)
          | fail)
        refine bodyPost_ret (results_cell_row Tryz.results61 _ _ (w.heap.size + 1 + 1) _ _ _ _ rfl (setRow_heap _ _ _ (r.arr (.slice va vn vk)) _ _ H3.out.2.1) Tryz.underlying37 rfl (res_size _ _)) rfl ?_
        refine (H3.out.1.setRow (k := w.heap.size + 1 + 1) (by omega) (by omega) _).stop (r := r) (v := .slice va vn vk) H3.out.2.2.2.1 ?_ (H3.out.2.2.1.void (number_val H3.out.2.2.2.2) (by simp))
        unfold reckon
        rw [HD.out]
        show (if 20 < it.val.length then _ else _) = _
        rw [if_neg (by have := HK.out.2.2.2.1; have := HL.out; omega), if_neg HO.out]
        exact H3.out.2.2.2.2
end
end Go.Proofs.YtpghckiochjogaaGreatDoor.Exec

