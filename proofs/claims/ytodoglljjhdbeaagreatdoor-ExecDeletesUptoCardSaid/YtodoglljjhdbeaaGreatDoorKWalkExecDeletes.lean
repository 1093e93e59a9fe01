/- KWalkExecDeletes: WalkExecDeletes, one behind the other. -/
import Derived.Test.YtodoglljjhdbeaaGreatDoorPart35
import Derived.StillTailTactics
import Derived.BigQuiet
/- ExecDeletes answers true for every list of commands and every key. Conditions: the numbers are of their kinds; no text of a command has more than 2000000 letters. -/
namespace Go.Proofs.YtodoglljjhdbeaaGreatDoor.ExecDeletes
set_option maxRecDepth 100000
open Go Go.RowKit Go.Proofs.YtodoglljjhdbeaaGreatDoor.Mem Go.Proofs.YtodoglljjhdbeaaGreatDoor.App Go.Proofs.YtodoglljjhdbeaaGreatDoor.Ops Go.Proofs.YtodoglljjhdbeaaGreatDoor.Shard Go.Proofs.YtodoglljjhdbeaaGreatDoor.Exec

set_option maxHeartbeats 4000000 in
theorem walk (W : World) (hp : Pows W) (he : Errs W) (x : Option Addr) (n0 c : Nat) (l : List Exec.Op) (key : ByteArray) (hl : n0 = l.length ∧ n0 ≤ maxLen ∧ (∀ a ∈ l, Exec.OpOk W a) ∧ Lies W 14 Exec.encO x l) (hsm : Small l) (hkey : key.size ≤ maxLen) :
    Calls Tryz.prog 8 #[.slice x n0 c, .string key] W fun e W' => e = .returned (.bool true) ∧ Below W.heap.size W W' := by
  obtain ⟨rfl, hml, hok, hlies⟩ := hl
  have hlen : l.length ≤ 500000 := hsm.1
  have HW := Lib.hid (And.intro hp he)
  have HL0 := Lib.hid (And.intro hok (And.intro hlies (And.intro hsm hml)))
  clear hml hok hlies hsm hp he
  unfold maxLen at hkey
  go_enter Tryz.func8, Tryz.ntmps8
  go_wp2_with fail
  refine (awake_any W HW.out.1 HW.out.2).mono ?_
  rintro e w1 ⟨rfl, hb1⟩
  have hfew := few_any (c := c) (HL0.out.2.1.same hb1) HL0.out.2.2.2 HL0.out.1
  generalize fewB l = q at *
  have H1 := Lib.hid hb1
  clear hb1
  go_wp2_with fail
  refine hfew.mono ?_
  rintro e w2 ⟨rfl, hb2⟩
  have hdn := done_any (c := c) HL0.out.2.1 (Mem.tr H1.out hb2) HL0.out.2.2.1 HL0.out.1 HW.out.1 HW.out.2
  clear hfew hb2
  go_wp2_with fail
  refine hdn.mono ?_
  rintro e w3 ⟨b, s, rfl, hL⟩
  have HL := Lib.hid hL
  clear hdn hL
  have HLN := Lib.hid hlen
  clear hlen
  cases q with
  | false =>
    go_wp2_with fail
    go_ret
    exact ⟨rfl, HL.out.low⟩
  | true =>
    by_cases hg : 250 < key.size
    · have hgi : (250 : Int) < key.size := by omega
      clear hg
      go_wp2_with fail
      go_ret
      exact ⟨rfl, HL.out.low⟩
    have hgi : (key.size : Int) ≤ 250 := by omega
    have HKS := Lib.hid (show key.size ≤ 250 by omega)
    clear hg hkey
    go_upto_region 7 with (fail)
    have hA := HL.out.alloc (.cells (env0 (5) (0)).arr 29)
    obtain ⟨wE, hwE⟩ : ∃ wE, w3.alloc (.cells (env0 (5) (0)).arr 29) = wE := ⟨_, rfl⟩
    obtain ⟨q0, hq0⟩ : ∃ q0, w3.heap.size = q0 := ⟨_, rfl⟩
    rw [hwE, hq0] at hA
    unfold Shard.Env.arr env0 at hwE
    rw [hwE, hq0]
    clear hwE hq0 HL
    have HL := Lib.hid hA
    clear hA
    have hev := HL.out.row (List.Mem.head _)
    have v0 := Mem.row_cell hev 0
    have v1 := Mem.row_cell hev 1
    have v2 := Mem.row_cell hev 2
    have v3 := Mem.row_cell hev 3
    simp only [Shard.Env.arr, env0, List.getElem?_toArray, List.getElem?_cons_zero, List.getElem?_cons_succ] at v0 v1 v2 v3
    have hdo := calls_args (args' := #[.pointer (some ⟨b, 0, none⟩), .agg #[.int .i64 8, .string key, .slice none 0 0, .int .u32 0, .int .i64 0, .int .u64 0, .int .u64 0, .int .u64 0, .bool false, .bool false], .agg #[.int .i64 5, .int .u64 0, .int .i64 0, .int .u64 0]]) (do_law HL.out (by have := HLN.out; omega) HW.out.1 HW.out.2 (cmd 8 key) (env0 5 0) rfl (show key.size ≤ 2000000 by have := HKS.out; omega) (show ([] : List UInt8).length ≤ 1100000 by decide) (.inr ⟨rfl, rfl⟩) ⟨by show (0 : Int) ≤ 0; decide, by show (0 : Int) ≤ 18446744073709551615; decide⟩ ⟨by show (0 : Int) ≤ 0; decide, by show (0 : Int) ≤ 18446744073709551615; decide⟩) rfl
    go_wp2_with fail
    refine hdo.mono ?_
    rintro e wD ⟨f1, r1, t1, a1, n1, k1, hf, hr, rfl, hn, hL⟩
    have HR1 := Lib.hid (And.intro hf (And.intro hr (And.intro hn HL.out.inv)))
    have HC1 := Lib.hid HL.out.2
    clear HL
    have HL := Lib.hid hL
    clear hf hr hn hL hdo v0 v1 v2 v3 hev
    go_upto_region 8 with (fail)
    have hA := HL.out.alloc (.cells (r1.arr (.slice a1 n1 k1)) 37)
    obtain ⟨w1, hw1⟩ : ∃ w1, wD.alloc (.cells (r1.arr (.slice a1 n1 k1)) 37) = w1 := ⟨_, rfl⟩
    obtain ⟨p1, hp1⟩ : ∃ p1, wD.heap.size = p1 := ⟨_, rfl⟩
    rw [hw1, hp1] at hA
    unfold Res.arr at hw1
    rw [hw1, hp1]
    clear hw1 hp1 HL
    have HL := Lib.hid hA
    clear hA
    have hev := HL.out.row (List.Mem.tail _ (List.Mem.head _))
    have v0 := Mem.row_cell hev 0
    have v1 := Mem.row_cell hev 1
    have v2 := Mem.row_cell hev 2
    have v3 := Mem.row_cell hev 3
    simp only [Shard.Env.arr, env0, List.getElem?_toArray, List.getElem?_cons_zero, List.getElem?_cons_succ] at v0 v1 v2 v3
    have hdo := calls_args (args' := #[.pointer (some ⟨b, 0, none⟩), .agg #[.int .i64 0, .string key, .slice none 0 0, .int .u32 0, .int .i64 0, .int .u64 0, .int .u64 0, .int .u64 0, .bool false, .bool false], .agg #[.int .i64 5, .int .u64 0, .int .i64 0, .int .u64 0]]) (do_law HL.out (by have := HLN.out; omega) HW.out.1 HW.out.2 (cmd 0 key) (env0 5 0) rfl (show key.size ≤ 2000000 by have := HKS.out; omega) (show ([] : List UInt8).length ≤ 1100000 by decide) (.inr ⟨rfl, rfl⟩) ⟨by show (0 : Int) ≤ 0; decide, by show (0 : Int) ≤ 18446744073709551615; decide⟩ ⟨by show (0 : Int) ≤ 0; decide, by show (0 : Int) ≤ 18446744073709551615; decide⟩) rfl
    go_wp2_with fail
    refine hdo.mono ?_
    rintro e wD ⟨f2, r2, t2, a2, n2, k2, hf, hr, rfl, hn, hL⟩
    have HR2 := Lib.hid (And.intro hf (And.intro hr (And.intro hn HL.out.inv)))
    have HC2 := Lib.hid HL.out.2
    clear HL
    have HL := Lib.hid hL
    clear hf hr hn hL hdo v0 v1 v2 v3 hev
    go_upto_region 9 with (fail)
    have hA := HL.out.alloc (.cells (r2.arr (.slice a2 n2 k2)) 37)
    obtain ⟨w2, hw2⟩ : ∃ w2, wD.alloc (.cells (r2.arr (.slice a2 n2 k2)) 37) = w2 := ⟨_, rfl⟩
    obtain ⟨p2, hp2⟩ : ∃ p2, wD.heap.size = p2 := ⟨_, rfl⟩
    rw [hw2, hp2] at hA
    unfold Res.arr at hw2
    rw [hw2, hp2]
    clear hw2 hp2 HL
    have HL := Lib.hid hA
    clear hA
    have hev := HL.out.row (List.Mem.tail _ (List.Mem.tail _ (List.Mem.head _)))
    have v0 := Mem.row_cell hev 0
    have v1 := Mem.row_cell hev 1
    have v2 := Mem.row_cell hev 2
    have v3 := Mem.row_cell hev 3
    simp only [Shard.Env.arr, env0, List.getElem?_toArray, List.getElem?_cons_zero, List.getElem?_cons_succ] at v0 v1 v2 v3
    have hdo := calls_args (args' := #[.pointer (some ⟨b, 0, none⟩), .agg #[.int .i64 8, .string key, .slice none 0 0, .int .u32 0, .int .i64 0, .int .u64 0, .int .u64 0, .int .u64 0, .bool false, .bool false], .agg #[.int .i64 5, .int .u64 0, .int .i64 0, .int .u64 0]]) (do_law HL.out (by have := HLN.out; omega) HW.out.1 HW.out.2 (cmd 8 key) (env0 5 0) rfl (show key.size ≤ 2000000 by have := HKS.out; omega) (show ([] : List UInt8).length ≤ 1100000 by decide) (.inr ⟨rfl, rfl⟩) ⟨by show (0 : Int) ≤ 0; decide, by show (0 : Int) ≤ 18446744073709551615; decide⟩ ⟨by show (0 : Int) ≤ 0; decide, by show (0 : Int) ≤ 18446744073709551615; decide⟩) rfl
    go_wp2_with fail
    refine hdo.mono ?_
    rintro e wD ⟨f3, r3, t3, a3, n3, k3, hf, hr, rfl, hn, hL⟩
    have HR3 := Lib.hid (And.intro hf (And.intro hr (And.intro hn HL.out.inv)))
    have HC3 := Lib.hid HL.out.2
    clear HL
    have HL := Lib.hid hL
    clear hf hr hn hL hdo v0 v1 v2 v3 hev
    go_upto_region 10 with (fail)
    have hA := HL.out.alloc (.cells (r3.arr (.slice a3 n3 k3)) 37)
    obtain ⟨w3, hw3⟩ : ∃ w3, wD.alloc (.cells (r3.arr (.slice a3 n3 k3)) 37) = w3 := ⟨_, rfl⟩
    obtain ⟨p3, hp3⟩ : ∃ p3, wD.heap.size = p3 := ⟨_, rfl⟩
    rw [hw3, hp3] at hA
    unfold Res.arr at hw3
    rw [hw3, hp3]
    clear hw3 hp3 HL
    have HL := Lib.hid hA
    clear hA
    have hev := HL.out.row (List.Mem.tail _ (List.Mem.tail _ (List.Mem.tail _ (List.Mem.head _))))
    have v0 := Mem.row_cell hev 0
    have v1 := Mem.row_cell hev 1
    have v2 := Mem.row_cell hev 2
    have v3 := Mem.row_cell hev 3
    simp only [Shard.Env.arr, env0, List.getElem?_toArray, List.getElem?_cons_zero, List.getElem?_cons_succ] at v0 v1 v2 v3
    have hdo := calls_args (args' := #[.pointer (some ⟨b, 0, none⟩), .agg #[.int .i64 5, .string key, .slice none 0 0, .int .u32 0, .int .i64 0, .int .u64 0, .int .u64 0, .int .u64 0, .bool false, .bool false], .agg #[.int .i64 5, .int .u64 0, .int .i64 0, .int .u64 0]]) (do_law HL.out (by have := HLN.out; omega) HW.out.1 HW.out.2 (cmd 5 key) (env0 5 0) rfl (show key.size ≤ 2000000 by have := HKS.out; omega) (show ([] : List UInt8).length ≤ 1100000 by decide) (.inr ⟨rfl, rfl⟩) ⟨by show (0 : Int) ≤ 0; decide, by show (0 : Int) ≤ 18446744073709551615; decide⟩ ⟨by show (0 : Int) ≤ 0; decide, by show (0 : Int) ≤ 18446744073709551615; decide⟩) rfl
    go_wp2_with fail
    refine hdo.mono ?_
    rintro e wD ⟨f4, r4, t4, a4, n4, k4, hf, hr, rfl, hn, hL⟩
    have HR4 := Lib.hid (And.intro hf (And.intro hr (And.intro hn HL.out.inv)))
    have HC4 := Lib.hid HL.out.2
    clear HL
    have HL := Lib.hid hL
    clear hf hr hn hL hdo v0 v1 v2 v3 hev
    go_upto_region 11 with (fail)
    have hA := HL.out.alloc (.cells (r4.arr (.slice a4 n4 k4)) 37)
    obtain ⟨w4, hw4⟩ : ∃ w4, wD.alloc (.cells (r4.arr (.slice a4 n4 k4)) 37) = w4 := ⟨_, rfl⟩
    obtain ⟨p4, hp4⟩ : ∃ p4, wD.heap.size = p4 := ⟨_, rfl⟩
    rw [hw4, hp4] at hA
    unfold Res.arr at hw4
    rw [hw4, hp4]
    clear hw4 hp4 HL
    have HL := Lib.hid hA
    clear hA
    have hev := HL.out.row (List.Mem.tail _ (List.Mem.tail _ (List.Mem.tail _ (List.Mem.tail _ (List.Mem.head _)))))
    have v0 := Mem.row_cell hev 0
    have v1 := Mem.row_cell hev 1
    have v2 := Mem.row_cell hev 2
    have v3 := Mem.row_cell hev 3
    simp only [Shard.Env.arr, env0, List.getElem?_toArray, List.getElem?_cons_zero, List.getElem?_cons_succ] at v0 v1 v2 v3
    have hdo := calls_args (args' := #[.pointer (some ⟨b, 0, none⟩), .agg #[.int .i64 2, .string key, .slice none 0 0, .int .u32 0, .int .i64 5, .int .u64 0, .int .u64 0, .int .u64 0, .bool false, .bool false], .agg #[.int .i64 5, .int .u64 0, .int .i64 0, .int .u64 0]]) (do_law HL.out (by have := HLN.out; omega) HW.out.1 HW.out.2 ({ cmd 2 key with exp := 5 }) (env0 5 0) rfl (show key.size ≤ 2000000 by have := HKS.out; omega) (show ([] : List UInt8).length ≤ 1100000 by decide) (.inr ⟨rfl, rfl⟩) ⟨by show (0 : Int) ≤ 0; decide, by show (0 : Int) ≤ 18446744073709551615; decide⟩ ⟨by show (0 : Int) ≤ 0; decide, by show (0 : Int) ≤ 18446744073709551615; decide⟩) rfl
    go_wp2_with fail
    refine hdo.mono ?_
    rintro e wD ⟨f5, r5, t5, a5, n5, k5, hf, hr, rfl, hn, hL⟩
    have HR5 := Lib.hid (And.intro hf (And.intro hr (And.intro hn HL.out.inv)))
    have HC5 := Lib.hid HL.out.2
    clear HL
    have HL := Lib.hid hL
    clear hf hr hn hL hdo v0 v1 v2 v3 hev
    go_upto_region 12 with (fail)
    have hA := HL.out.alloc (.cells (r5.arr (.slice a5 n5 k5)) 37)
    obtain ⟨w5, hw5⟩ : ∃ w5, wD.alloc (.cells (r5.arr (.slice a5 n5 k5)) 37) = w5 := ⟨_, rfl⟩
    obtain ⟨p5, hp5⟩ : ∃ p5, wD.heap.size = p5 := ⟨_, rfl⟩
    rw [hw5, hp5] at hA
    unfold Res.arr at hw5
    rw [hw5, hp5]
    clear hw5 hp5 HL
    have HL := Lib.hid hA
    clear hA
    have hev := HL.out.row (List.Mem.tail _ (List.Mem.tail _ (List.Mem.tail _ (List.Mem.tail _ (List.Mem.tail _ (List.Mem.head _))))))
    have v0 := Mem.row_cell hev 0
    have v1 := Mem.row_cell hev 1
    have v2 := Mem.row_cell hev 2
    have v3 := Mem.row_cell hev 3
    simp only [Shard.Env.arr, env0, List.getElem?_toArray, List.getElem?_cons_zero, List.getElem?_cons_succ] at v0 v1 v2 v3
    have hdo := calls_args (args' := #[.pointer (some ⟨b, 0, none⟩), .agg #[.int .i64 9, .string key, .slice none 0 0, .int .u32 0, .int .i64 0, .int .u64 0, .int .u64 0, .int .u64 0, .bool false, .bool false], .agg #[.int .i64 5, .int .u64 0, .int .i64 0, .int .u64 0]]) (do_law HL.out (by have := HLN.out; omega) HW.out.1 HW.out.2 (cmd 9 key) (env0 5 0) rfl (show key.size ≤ 2000000 by have := HKS.out; omega) (show ([] : List UInt8).length ≤ 1100000 by decide) (.inr ⟨rfl, rfl⟩) ⟨by show (0 : Int) ≤ 0; decide, by show (0 : Int) ≤ 18446744073709551615; decide⟩ ⟨by show (0 : Int) ≤ 0; decide, by show (0 : Int) ≤ 18446744073709551615; decide⟩) rfl
    go_wp2_with fail
    refine hdo.mono ?_
    rintro e wD ⟨f6, r6, t6, a6, n6, k6, hf, hr, rfl, hn, hL⟩
    have HR6 := Lib.hid (And.intro hf (And.intro hr (And.intro hn HL.out.inv)))
    have HC6 := Lib.hid HL.out.2
    clear HL
    have HL := Lib.hid hL
    clear hf hr hn hL hdo v0 v1 v2 v3 hev
    go_upto_region 13 with (fail)
    have hA := HL.out.alloc (.cells (r6.arr (.slice a6 n6 k6)) 37)
    obtain ⟨w6, hw6⟩ : ∃ w6, wD.alloc (.cells (r6.arr (.slice a6 n6 k6)) 37) = w6 := ⟨_, rfl⟩
    obtain ⟨p6, hp6⟩ : ∃ p6, wD.heap.size = p6 := ⟨_, rfl⟩
    rw [hw6, hp6] at hA
    unfold Res.arr at hw6
    rw [hw6, hp6]
    clear hw6 hp6 HL
    have HL := Lib.hid hA
    clear hA
    have hpl := deletes_law HR1.out.2.2.2.choose_spec.choose_spec key (env0 5 0) (c5 := { cmd 2 key with exp := 5 }) ⟨rfl, rfl⟩ rfl rfl rfl rfl rfl (by rw [HR1.out.2.1]; exact HR2.out.2.2.2) (by rw [HR1.out.2.1, HR2.out.2.1]; exact HR3.out.2.2.2) (by rw [HR1.out.2.1, HR2.out.2.1, HR3.out.2.1]; exact HR4.out.2.2.2) (by rw [HR1.out.2.1, HR2.out.2.1, HR3.out.2.1, HR4.out.2.1]; exact HR5.out.2.2.2) (by rw [HR1.out.2.1, HR2.out.2.1, HR3.out.2.1, HR4.out.2.1, HR5.out.2.1]; exact HR6.out.2.2.2) (f6 := f6)
    rw [HR1.out.2.1, HR2.out.2.1, HR3.out.2.1, HR4.out.2.1, HR5.out.2.1, HR6.out.2.1] at hpl
    have g1 : r1.status = 5 ∨ r1.status = 1 := hpl.1
    have g2 : r2.status = 1 := hpl.2.1
    have g3 : r3.status = 1 := hpl.2.2.1
    have g4 : r4.status = 3 := hpl.2.2.2.1
    have g5 : r5.status = 1 := hpl.2.2.2.2.1
    have g6 : r6.status = 1 := hpl.2.2.2.2.2
    clear hpl
    have hbx := HL.out.row (List.Mem.tail _ (List.Mem.tail _ (List.Mem.tail _ (List.Mem.tail _ (List.Mem.tail _ (List.Mem.head _))))))
    have a0 := Mem.row_cell hbx 0
    simp only [Res.arr, List.getElem?_toArray, List.getElem?_cons_zero] at a0
    clear hbx
    have hbx := HL.out.row (List.Mem.tail _ (List.Mem.tail _ (List.Mem.tail _ (List.Mem.tail _ (List.Mem.head _)))))
    have b0 := Mem.row_cell hbx 0
    simp only [Res.arr, List.getElem?_toArray, List.getElem?_cons_zero] at b0
    clear hbx
    have hbx := HL.out.row (List.Mem.tail _ (List.Mem.tail _ (List.Mem.tail _ (List.Mem.head _))))
    have c0 := Mem.row_cell hbx 0
    simp only [Res.arr, List.getElem?_toArray, List.getElem?_cons_zero] at c0
    clear hbx
    have hbx := HL.out.row (List.Mem.tail _ (List.Mem.tail _ (List.Mem.head _)))
    have d0 := Mem.row_cell hbx 0
    simp only [Res.arr, List.getElem?_toArray, List.getElem?_cons_zero] at d0
    clear hbx
    have hbx := HL.out.row (List.Mem.tail _ (List.Mem.head _))
    have e0 := Mem.row_cell hbx 0
    simp only [Res.arr, List.getElem?_toArray, List.getElem?_cons_zero] at e0
    clear hbx
    have hbx := HL.out.row (List.Mem.head _)
    have f0 := Mem.row_cell hbx 0
    simp only [Res.arr, List.getElem?_toArray, List.getElem?_cons_zero] at f0
    clear hbx
    rw [g2] at b0
    rw [g3] at c0
    rw [g4] at d0
    rw [g5] at e0
    rw [g6] at f0
    clear g2 g3 g4 g5 g6
    rcases g1 with g1 | g1
    all_goals rw [g1] at a0
    all_goals clear g1
    all_goals go_wp2_with fail
    all_goals go_ret
    all_goals exact ⟨rfl, HL.out.low⟩
end Go.Proofs.YtodoglljjhdbeaaGreatDoor.ExecDeletes

