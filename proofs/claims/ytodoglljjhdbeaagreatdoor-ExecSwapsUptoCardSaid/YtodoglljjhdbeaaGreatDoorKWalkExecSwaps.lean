/- KWalkExecSwaps: WalkExecSwaps, one behind the other. -/
import Derived.Test.YtodoglljjhdbeaaGreatDoorPart35
import Derived.StillTailTactics
import Derived.BigQuiet
/- ExecSwaps answers true for every list of commands, key and number. Conditions: the numbers are of their kinds; no text of a command has more than 2000000 letters. -/
namespace Go.Proofs.YtodoglljjhdbeaaGreatDoor.ExecSwaps
set_option maxRecDepth 100000
open Go Go.RowKit Go.Proofs.YtodoglljjhdbeaaGreatDoor.Mem Go.Proofs.YtodoglljjhdbeaaGreatDoor.App Go.Proofs.YtodoglljjhdbeaaGreatDoor.Ops Go.Proofs.YtodoglljjhdbeaaGreatDoor.Shard Go.Proofs.YtodoglljjhdbeaaGreatDoor.Exec

set_option maxHeartbeats 4000000 in
theorem walk (W : World) (hp : Pows W) (he : Errs W) (x : Option Addr) (n0 c : Nat) (l : List Exec.Op) (key : ByteArray) (seq : Int) (hl : n0 = l.length ∧ n0 ≤ maxLen ∧ (∀ a ∈ l, Exec.OpOk W a) ∧ Lies W 14 Exec.encO x l) (hsm : Small l) (hkey : key.size ≤ maxLen) (_hseq : 0 ≤ seq ∧ seq ≤ 18446744073709551615) :
    Calls Tryz.prog 9 #[.slice x n0 c, .string key, .int .u64 seq] W fun e W' => e = .returned (.bool true) ∧ Below W.heap.size W W' := by
  obtain ⟨rfl, hml, hok, hlies⟩ := hl
  have hlen : l.length ≤ 500000 := hsm.1
  have HW := Lib.hid (And.intro hp he)
  have HL0 := Lib.hid (And.intro hok (And.intro hlies (And.intro hsm hml)))
  clear hml hok hlies hsm hp he
  unfold maxLen at hkey
  clear _hseq
  go_enter Tryz.func9, Tryz.ntmps9
  go_wp2_with fail
  refine (awake_any W HW.out.1 HW.out.2).mono ?_
  rintro e w1 ⟨rfl, hb1⟩
  have hfew := few_any (c := c) (HL0.out.2.1.same hb1) HL0.out.2.2.2 HL0.out.1
  generalize fewB l = q at *
  have H1 := Lib.hid hb1
  clear hb1
  go_wp2_with fail
  refine hfew.mono ?_
  rintro e w2 ⟨rfl, hb2⟩
  have hdn := done_any (c := c) HL0.out.2.1 (Mem.tr H1.out hb2) HL0.out.2.2.1 HL0.out.1 HW.out.1 HW.out.2
  clear hfew hb2
  go_wp2_with fail
  refine hdn.mono ?_
  rintro e w3 ⟨b, s, rfl, hL⟩
  have HL := Lib.hid hL
  clear hdn hL
  have HLN := Lib.hid hlen
  clear hlen
  cases q with
  | false =>
    go_wp2_with fail
    go_ret
    exact ⟨rfl, HL.out.low⟩
  | true =>
    by_cases hg : 250 < key.size
    · have hgi : (250 : Int) < key.size := by omega
      clear hg
      go_wp2_with fail
      go_ret
      exact ⟨rfl, HL.out.low⟩
    have hgi : (key.size : Int) ≤ 250 := by omega
    have HKS := Lib.hid (show key.size ≤ 250 by omega)
    clear hg hkey
    by_cases hg : seq < 1000
    · have hgi : seq < 1000 := hg
      clear hg
      go_wp2_with fail
      go_ret
      exact ⟨rfl, HL.out.low⟩
    have g1 : 1000 ≤ seq := by omega
    clear hg
    by_cases hg : 1152921504606846976 < seq
    · have hgi : 1152921504606846976 < seq := hg
      clear hg
      go_wp2_with fail
      go_ret
      exact ⟨rfl, HL.out.low⟩
    have g2 : seq ≤ 1152921504606846976 := by omega
    clear hg
    have hw1 : IntKind.u64.wrap (seq + 1) = seq + 1 := by rw [IntKind.wrap_u64]; omega
    have hw2 : IntKind.u64.wrap (seq + 2) = seq + 2 := by rw [IntKind.wrap_u64]; omega
    have hw3 : IntKind.u64.wrap (seq + 3) = seq + 3 := by rw [IntKind.wrap_u64]; omega
    have hw4 : IntKind.u64.wrap (seq + 4) = seq + 4 := by rw [IntKind.wrap_u64]; omega
    have hw5 : IntKind.u64.wrap (seq + 5) = seq + 5 := by rw [IntKind.wrap_u64]; omega
    have HSQ := Lib.hid (And.intro g1 g2)
    go_upto_region 6 with (fail)
    have hB := HL.out.fresh (Mem.al (Below.refl w3.heap.size w3) (.cells #[.int .u8 49] 5 (1, 2))) (lit_src w3 49 5 1) (fun g e => Nat.le_of_eq (by simpa [Value.ownBlock] using e))
    obtain ⟨wB, hwB⟩ : ∃ wB, w3.alloc (.cells #[.int .u8 49] 5 (1, 2)) = wB := ⟨_, rfl⟩
    have hcv := lit_conv w3 49
    rw [hwB] at hB hcv
    clear HL
    have HL := Lib.hid hB
    clear hB
    have hdo := calls_args (args' := #[.pointer (some ⟨b, 0, none⟩), .agg #[.int .i64 3, .string key, .slice (some ⟨w3.heap.size, 0, none⟩) 1 1, .int .u32 0, .int .i64 0, .int .u64 0, .int .u64 0, .int .u64 0, .bool false, .bool false], .agg #[.int .i64 5, .int .u64 seq, .int .i64 0, .int .u64 0]]) (do_law HL.out (by have := HLN.out; omega) HW.out.1 HW.out.2 (setC key [49]) (env0 5 seq) rfl (show key.size ≤ 2000000 by have := HKS.out; omega) (show ([0] : List UInt8).length ≤ 1100000 by decide) (.inl (List.Mem.head _)) ⟨by show (0 : Int) ≤ 0; decide, by show (0 : Int) ≤ 18446744073709551615; decide⟩ ⟨by show (0 : Int) ≤ 0; decide, by show (0 : Int) ≤ 18446744073709551615; decide⟩) rfl
    go_wp2_with fail
    clear hwB hcv
    refine hdo.mono ?_
    rintro e wD ⟨f1, r1, t1, a1, n1, k1, hf, hr, rfl, hn, hL⟩
    have HR1 := Lib.hid (And.intro hf (And.intro hr (And.intro hn HL.out.inv)))
    have HC1 := Lib.hid HL.out.2
    clear HL
    have HL := Lib.hid hL
    clear hf hr hn hL hdo  
    go_upto_region 7 with (fail)
    have hA := HL.out.alloc (.cells (r1.arr (.slice a1 n1 k1)) 37)
    obtain ⟨w1, hw1⟩ : ∃ w1, wD.alloc (.cells (r1.arr (.slice a1 n1 k1)) 37) = w1 := ⟨_, rfl⟩
    obtain ⟨p1, hp1⟩ : ∃ p1, wD.heap.size = p1 := ⟨_, rfl⟩
    rw [hw1, hp1] at hA
    unfold Res.arr at hw1
    rw [hw1, hp1]
    clear hw1 hp1 HL
    have HL := Lib.hid hA
    clear hA
    have hdo := calls_args (args' := #[.pointer (some ⟨b, 0, none⟩), .agg #[.int .i64 0, .string key, .slice none 0 0, .int .u32 0, .int .i64 0, .int .u64 0, .int .u64 0, .int .u64 0, .bool false, .bool false], .agg #[.int .i64 5, .int .u64 (seq + 1), .int .i64 0, .int .u64 0]]) (do_law HL.out (by have := HLN.out; omega) HW.out.1 HW.out.2 (cmd 0 key) (env0 5 (seq + 1)) rfl (show key.size ≤ 2000000 by have := HKS.out; omega) (show ([] : List UInt8).length ≤ 1100000 by decide) (.inr ⟨rfl, rfl⟩) ⟨by show (0 : Int) ≤ 0; decide, by show (0 : Int) ≤ 18446744073709551615; decide⟩ ⟨by show (0 : Int) ≤ 0; decide, by show (0 : Int) ≤ 18446744073709551615; decide⟩) rfl
    go_wp2_with fail
    refine hdo.mono ?_
    rintro e wD ⟨f2, r2, t2, a2, n2, k2, hf, hr, rfl, hn, hL⟩
    have HR2 := Lib.hid (And.intro hf (And.intro hr (And.intro hn HL.out.inv)))
    have HC2 := Lib.hid HL.out.2
    clear HL
    have HL := Lib.hid hL
    clear hf hr hn hL hdo  
    go_upto_region 8 with (fail)
    have hA := HL.out.alloc (.cells (r2.arr (.slice a2 n2 k2)) 37)
    obtain ⟨w2, hw2⟩ : ∃ w2, wD.alloc (.cells (r2.arr (.slice a2 n2 k2)) 37) = w2 := ⟨_, rfl⟩
    obtain ⟨p2, hp2⟩ : ∃ p2, wD.heap.size = p2 := ⟨_, rfl⟩
    rw [hw2, hp2] at hA
    unfold Res.arr at hw2
    rw [hw2, hp2]
    clear hw2 hp2 HL
    have HL := Lib.hid hA
    clear hA
    have hbx := HL.out.row (List.Mem.tail _ (List.Mem.head _))
    have a0 := Mem.row_cell hbx 0
    simp only [Res.arr, List.getElem?_toArray, List.getElem?_cons_zero] at a0
    clear hbx
    by_cases h2 : r1.status = 2
    · have H2 := Lib.hid h2
      rw [h2] at a0
      clear h2
      go_upto_region 10 with (fail)
      clear a0
      have hB := HL.out.fresh (Mem.al (Below.refl w2.heap.size w2) (.cells #[.int .u8 50] 5 (1, 2))) (lit_src w2 50 5 1) (fun g e => Nat.le_of_eq (by simpa [Value.ownBlock] using e))
      obtain ⟨wB, hwB⟩ : ∃ wB, w2.alloc (.cells #[.int .u8 50] 5 (1, 2)) = wB := ⟨_, rfl⟩
      have hcv := lit_conv w2 50
      rw [hwB] at hB hcv
      clear HL
      have HL := Lib.hid hB
      clear hB
      have hdo := calls_args (args' := #[.pointer (some ⟨b, 0, none⟩), .agg #[.int .i64 3, .string key, .slice (some ⟨w2.heap.size, 0, none⟩) 1 1, .int .u32 0, .int .i64 0, .int .u64 r2.cas, .int .u64 0, .int .u64 0, .bool false, .bool false], .agg #[.int .i64 5, .int .u64 (seq + 2), .int .i64 0, .int .u64 0]]) (do_law HL.out (by have := HLN.out; omega) HW.out.1 HW.out.2 ({ setC key [50] with cas := r2.cas }) (env0 5 (seq + 2)) rfl (show key.size ≤ 2000000 by have := HKS.out; omega) (show ([0] : List UInt8).length ≤ 1100000 by decide) (.inl (List.Mem.head _)) ⟨by show (0 : Int) ≤ 0; decide, by show (0 : Int) ≤ 18446744073709551615; decide⟩ ⟨by show (0 : Int) ≤ 0; decide, by show (0 : Int) ≤ 18446744073709551615; decide⟩) rfl
      have hbx := HL.out.row (List.Mem.head _)
      have g3 := Mem.row_cell hbx 3
      simp only [Res.arr, List.getElem?_toArray, List.getElem?_cons_zero, List.getElem?_cons_succ] at g3
      clear hbx
      go_wp2_with fail
      clear hwB hcv
      refine hdo.mono ?_
      rintro e wD ⟨f3, r3, t3, a3, n3, k3, hf, hr, rfl, hn, hL⟩
      have HR3 := Lib.hid (And.intro hf (And.intro hr (And.intro hn HL.out.inv)))
      have HC3 := Lib.hid HL.out.2
      clear HL
      have HL := Lib.hid hL
      clear hf hr hn hL hdo g3 
      go_upto_region 11 with (fail)
      have hA := HL.out.alloc (.cells (r3.arr (.slice a3 n3 k3)) 37)
      obtain ⟨w3, hw3⟩ : ∃ w3, wD.alloc (.cells (r3.arr (.slice a3 n3 k3)) 37) = w3 := ⟨_, rfl⟩
      obtain ⟨p3, hp3⟩ : ∃ p3, wD.heap.size = p3 := ⟨_, rfl⟩
      rw [hw3, hp3] at hA
      unfold Res.arr at hw3
      rw [hw3, hp3]
      clear hw3 hp3 HL
      have HL := Lib.hid hA
      clear hA
      have hB := HL.out.fresh (Mem.al (Below.refl w3.heap.size w3) (.cells #[.int .u8 51] 5 (1, 2))) (lit_src w3 51 5 1) (fun g e => Nat.le_of_eq (by simpa [Value.ownBlock] using e))
      obtain ⟨wC, hwB⟩ : ∃ wC, w3.alloc (.cells #[.int .u8 51] 5 (1, 2)) = wC := ⟨_, rfl⟩
      have hcv := lit_conv w3 51
      rw [hwB] at hB hcv
      clear HL
      have HL := Lib.hid hB
      clear hB
      have hdo := calls_args (args' := #[.pointer (some ⟨b, 0, none⟩), .agg #[.int .i64 3, .string key, .slice (some ⟨w3.heap.size, 0, none⟩) 1 1, .int .u32 0, .int .i64 0, .int .u64 r2.cas, .int .u64 0, .int .u64 0, .bool false, .bool false], .agg #[.int .i64 5, .int .u64 (seq + 3), .int .i64 0, .int .u64 0]]) (do_law HL.out (by have := HLN.out; omega) HW.out.1 HW.out.2 ({ setC key [51] with cas := r2.cas }) (env0 5 (seq + 3)) rfl (show key.size ≤ 2000000 by have := HKS.out; omega) (show ([0] : List UInt8).length ≤ 1100000 by decide) (.inl (List.Mem.head _)) ⟨by show (0 : Int) ≤ 0; decide, by show (0 : Int) ≤ 18446744073709551615; decide⟩ ⟨by show (0 : Int) ≤ 0; decide, by show (0 : Int) ≤ 18446744073709551615; decide⟩) rfl
      have hbx := HL.out.row (List.Mem.tail _ (List.Mem.head _))
      have g3 := Mem.row_cell hbx 3
      simp only [Res.arr, List.getElem?_toArray, List.getElem?_cons_zero, List.getElem?_cons_succ] at g3
      clear hbx
      go_wp2_with fail
      clear hwB hcv
      refine hdo.mono ?_
      rintro e wD ⟨f4, r4, t4, a4, n4, k4, hf, hr, rfl, hn, hL⟩
      have HR4 := Lib.hid (And.intro hf (And.intro hr (And.intro hn HL.out.inv)))
      have HC4 := Lib.hid HL.out.2
      clear HL
      have HL := Lib.hid hL
      clear hf hr hn hL hdo g3 
      go_upto_region 12 with (fail)
      have hA := HL.out.alloc (.cells (r4.arr (.slice a4 n4 k4)) 37)
      obtain ⟨w4, hw4⟩ : ∃ w4, wD.alloc (.cells (r4.arr (.slice a4 n4 k4)) 37) = w4 := ⟨_, rfl⟩
      obtain ⟨p4, hp4⟩ : ∃ p4, wD.heap.size = p4 := ⟨_, rfl⟩
      rw [hw4, hp4] at hA
      unfold Res.arr at hw4
      rw [hw4, hp4]
      clear hw4 hp4 HL
      have HL := Lib.hid hA
      clear hA
      have hdo := calls_args (args' := #[.pointer (some ⟨b, 0, none⟩), .agg #[.int .i64 8, .string key, .slice none 0 0, .int .u32 0, .int .i64 0, .int .u64 r2.cas, .int .u64 0, .int .u64 0, .bool false, .bool false], .agg #[.int .i64 5, .int .u64 (seq + 4), .int .i64 0, .int .u64 0]]) (do_law HL.out (by have := HLN.out; omega) HW.out.1 HW.out.2 ({ cmd 8 key with cas := r2.cas }) (env0 5 (seq + 4)) rfl (show key.size ≤ 2000000 by have := HKS.out; omega) (show ([] : List UInt8).length ≤ 1100000 by decide) (.inr ⟨rfl, rfl⟩) ⟨by show (0 : Int) ≤ 0; decide, by show (0 : Int) ≤ 18446744073709551615; decide⟩ ⟨by show (0 : Int) ≤ 0; decide, by show (0 : Int) ≤ 18446744073709551615; decide⟩) rfl
      have hbx := HL.out.row (List.Mem.tail _ (List.Mem.tail _ (List.Mem.head _)))
      have g3 := Mem.row_cell hbx 3
      simp only [Res.arr, List.getElem?_toArray, List.getElem?_cons_zero, List.getElem?_cons_succ] at g3
      clear hbx
      go_wp2_with fail
      refine hdo.mono ?_
      rintro e wD ⟨f5, r5, t5, a5, n5, k5, hf, hr, rfl, hn, hL⟩
      have HR5 := Lib.hid (And.intro hf (And.intro hr (And.intro hn HL.out.inv)))
      have HC5 := Lib.hid HL.out.2
      clear HL
      have HL := Lib.hid hL
      clear hf hr hn hL hdo g3 
      go_upto_region 13 with (fail)
      have hA := HL.out.alloc (.cells (r5.arr (.slice a5 n5 k5)) 37)
      obtain ⟨w5, hw5⟩ : ∃ w5, wD.alloc (.cells (r5.arr (.slice a5 n5 k5)) 37) = w5 := ⟨_, rfl⟩
      obtain ⟨p5, hp5⟩ : ∃ p5, wD.heap.size = p5 := ⟨_, rfl⟩
      rw [hw5, hp5] at hA
      unfold Res.arr at hw5
      rw [hw5, hp5]
      clear hw5 hp5 HL
      have HL := Lib.hid hA
      clear hA
      have hdo := calls_args (args' := #[.pointer (some ⟨b, 0, none⟩), .agg #[.int .i64 0, .string key, .slice none 0 0, .int .u32 0, .int .i64 0, .int .u64 0, .int .u64 0, .int .u64 0, .bool false, .bool false], .agg #[.int .i64 5, .int .u64 (seq + 5), .int .i64 0, .int .u64 0]]) (do_law HL.out (by have := HLN.out; omega) HW.out.1 HW.out.2 (cmd 0 key) (env0 5 (seq + 5)) rfl (show key.size ≤ 2000000 by have := HKS.out; omega) (show ([] : List UInt8).length ≤ 1100000 by decide) (.inr ⟨rfl, rfl⟩) ⟨by show (0 : Int) ≤ 0; decide, by show (0 : Int) ≤ 18446744073709551615; decide⟩ ⟨by show (0 : Int) ≤ 0; decide, by show (0 : Int) ≤ 18446744073709551615; decide⟩) rfl
      go_wp2_with fail
      refine hdo.mono ?_
      rintro e wD ⟨f6, r6, t6, a6, n6, k6, hf, hr, rfl, hn, hL⟩
      have HR6 := Lib.hid (And.intro hf (And.intro hr (And.intro hn HL.out.inv)))
      have HC6 := Lib.hid HL.out.2
      clear HL
      have HL := Lib.hid hL
      clear hf hr hn hL hdo  
      go_upto_region 14 with (fail)
      have hA := HL.out.alloc (.cells (r6.arr (.slice a6 n6 k6)) 37)
      obtain ⟨w6, hw6⟩ : ∃ w6, wD.alloc (.cells (r6.arr (.slice a6 n6 k6)) 37) = w6 := ⟨_, rfl⟩
      obtain ⟨p6, hp6⟩ : ∃ p6, wD.heap.size = p6 := ⟨_, rfl⟩
      rw [hw6, hp6] at hA
      unfold Res.arr at hw6
      rw [hw6, hp6]
      clear hw6 hp6 HL
      have HL := Lib.hid hA
      clear hA
      have hpl := swaps_law (f1 := f1) (f2 := f2) (f3 := f3) (f4 := f4) (f5 := f5) (f6 := f6) (s1 := t1) (s2 := t2) (s3 := t3) (s4 := t4) (s5 := t5) (cas := r2.cas) HR1.out.2.2.2.choose_spec.choose_spec (B := 4000) (by decide) key (Nat.le_trans HKS.out (by decide)) seq HSQ.out [49] [50] [51] (by decide) HR1.out.1 HR3.out.1 (by rw [HR1.out.2.1]) HR2.out.2.2.2 (by rw [HR2.out.2.1]) HR3.out.2.2.2 HC3.out (by rw [HR2.out.2.1]) (by rw [HR3.out.2.1]) HR4.out.2.2.2 (by rw [HR4.out.2.1]) HR5.out.2.2.2 (by rw [HR5.out.2.1]) HR6.out.2.2.2 (by rw [HR1.out.2.1]; exact H2.out)
      rw [HR3.out.2.1, HR4.out.2.1, HR5.out.2.1, HR6.out.2.1] at hpl
      have k1 : r2.cas = seq + 1 := hpl.1
      have k2 : r3.status = 2 := hpl.2.1
      have k3 : r4.status = 4 := hpl.2.2.1
      have k4 : r5.status = 4 := hpl.2.2.2.1
      have k5 : r6.val = [50] := hpl.2.2.2.2
      clear hpl
      have hcv := conv_any (HL.out.src (List.Mem.head _))
      simp only [k5] at hcv
      replace hcv : (convert 23 9 (.slice a6 n6 k6)).run Tryz.prog w6 = .ok (.string ⟨#[50]⟩) w6 := hcv
      clear k5
      have hbx := HL.out.row (List.Mem.tail _ (List.Mem.tail _ (List.Mem.tail _ (List.Mem.tail _ (List.Mem.head _)))))
      have g3 := Mem.row_cell hbx 3
      simp only [Res.arr, List.getElem?_toArray, List.getElem?_cons_zero, List.getElem?_cons_succ] at g3
      clear hbx
      have hbx := HL.out.row (List.Mem.tail _ (List.Mem.tail _ (List.Mem.tail _ (List.Mem.head _))))
      have b0 := Mem.row_cell hbx 0
      simp only [Res.arr, List.getElem?_toArray, List.getElem?_cons_zero] at b0
      clear hbx
      have hbx := HL.out.row (List.Mem.tail _ (List.Mem.tail _ (List.Mem.head _)))
      have c0 := Mem.row_cell hbx 0
      simp only [Res.arr, List.getElem?_toArray, List.getElem?_cons_zero] at c0
      clear hbx
      have hbx := HL.out.row (List.Mem.tail _ (List.Mem.head _))
      have d0 := Mem.row_cell hbx 0
      simp only [Res.arr, List.getElem?_toArray, List.getElem?_cons_zero] at d0
      clear hbx
      have hbx := HL.out.row (List.Mem.head _)
      have h1 := Mem.row_cell hbx 1
      simp only [Res.arr, List.getElem?_toArray, List.getElem?_cons_zero, List.getElem?_cons_succ] at h1
      clear hbx
      rw [k1] at g3
      rw [k2] at b0
      rw [k3] at c0
      rw [k4] at d0
      have q1 : (seq + 1 == seq + 1) = true := by simp
      clear k1 k2 k3 k4
      go_wp2_with fail
      go_ret
      exact ⟨rfl, HL.out.low⟩
    · have h2b : (r1.status != 2) = true := by simpa using h2
      clear h2
      go_wp2_with fail
      go_ret
      exact ⟨rfl, HL.out.low⟩
end Go.Proofs.YtodoglljjhdbeaaGreatDoor.ExecSwaps

