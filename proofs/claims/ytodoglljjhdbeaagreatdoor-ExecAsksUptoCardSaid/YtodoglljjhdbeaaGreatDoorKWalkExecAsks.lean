/- KWalkExecAsks: WalkExecAsks, one behind the other. -/
import Derived.Test.YtodoglljjhdbeaaGreatDoorPart35
import Derived.Test.YtodoglljjhdbeaaGreatDoorPartX1
import Derived.StillTailTactics
import Derived.BigQuiet
/- ExecAsks answers true for every list of commands, two keys and second. Conditions: the numbers are of their kinds; no text of a command has more than 2000000 letters. -/
namespace Go.Proofs.YtodoglljjhdbeaaGreatDoor.ExecAsks
set_option maxRecDepth 100000
open Go Go.RowKit Go.Proofs.YtodoglljjhdbeaaGreatDoor.Mem Go.Proofs.YtodoglljjhdbeaaGreatDoor.App Go.Proofs.YtodoglljjhdbeaaGreatDoor.Ops Go.Proofs.YtodoglljjhdbeaaGreatDoor.Shard Go.Proofs.YtodoglljjhdbeaaGreatDoor.Exec

set_option maxHeartbeats 4000000 in
theorem walk (W : World) (hp : Pows W) (he : Errs W) (x : Option Addr) (n0 c : Nat) (l : List Exec.Op) (key other : ByteArray) (now : Int) (hl : n0 = l.length ∧ n0 ≤ maxLen ∧ (∀ a ∈ l, Exec.OpOk W a) ∧ Lies W 14 Exec.encO x l) (hsm : Small l) (hkey : key.size ≤ maxLen) (hoth : other.size ≤ maxLen) (_hnow : -9223372036854775808 ≤ now ∧ now ≤ 9223372036854775807) :
    Calls Tryz.prog 4 #[.slice x n0 c, .string key, .string other, .int .i64 now] W fun e W' => e = .returned (.bool true) ∧ Below W.heap.size W W' := by
  obtain ⟨rfl, hml, hok, hlies⟩ := hl
  have hlen : l.length ≤ 500000 := hsm.1
  have HW := Lib.hid (And.intro hp he)
  have HL0 := Lib.hid (And.intro hok (And.intro hlies (And.intro hsm hml)))
  clear hml hok hlies hsm hp he
  unfold maxLen at hkey hoth
  clear _hnow
  go_enter Tryz.func4, Tryz.ntmps4
  go_wp2_with fail
  refine (awake_any W HW.out.1 HW.out.2).mono ?_
  rintro e w1 ⟨rfl, hb1⟩
  have hfew := few_any (c := c) (HL0.out.2.1.same hb1) HL0.out.2.2.2 HL0.out.1
  generalize fewB l = q at *
  have H1 := Lib.hid hb1
  clear hb1
  go_wp2_with fail
  refine hfew.mono ?_
  rintro e w2 ⟨rfl, hb2⟩
  have hdn := done_any (c := c) HL0.out.2.1 (Mem.tr H1.out hb2) HL0.out.2.2.1 HL0.out.1 HW.out.1 HW.out.2
  clear hfew hb2
  go_wp2_with fail
  refine hdn.mono ?_
  rintro e w3 ⟨b, s, rfl, hL⟩
  have HL := Lib.hid hL
  clear hdn hL
  have HLN := Lib.hid hlen
  clear hlen
  cases q with
  | false =>
    go_wp2_with fail
    go_ret
    exact ⟨rfl, HL.out.low⟩
  | true =>
    by_cases hg : 300 < key.size
    · have hgi : (300 : Int) < key.size := by omega
      clear hg
      go_wp2_with fail
      go_ret
      exact ⟨rfl, HL.out.low⟩
    have hgi : (key.size : Int) ≤ 300 := by omega
    have HKS := Lib.hid (show key.size ≤ 300 by omega)
    clear hg hkey
    by_cases hg : 300 < other.size
    · have hgj : (300 : Int) < other.size := by omega
      clear hg
      go_wp2_with fail
      go_ret
      exact ⟨rfl, HL.out.low⟩
    have hgj : (other.size : Int) ≤ 300 := by omega
    have HOS := Lib.hid (show other.size ≤ 300 by omega)
    clear hg hoth
    by_cases hg : now < 1
    · have hgi : now < 1 := hg
      clear hg
      go_wp2_with fail
      go_ret
      exact ⟨rfl, HL.out.low⟩
    have g1 : 1 ≤ now := by omega
    clear hg
    by_cases hg : 1099511627776 < now
    · have hgi : 1099511627776 < now := hg
      clear hg
      go_wp2_with fail
      go_ret
      exact ⟨rfl, HL.out.low⟩
    have g2 : now ≤ 1099511627776 := by omega
    clear hg
    go_upto_region 7 with (fail)
    have hA := HL.out.alloc (.cells (env0 (now) (0)).arr 29)
    obtain ⟨wE, hwE⟩ : ∃ wE, w3.alloc (.cells (env0 (now) (0)).arr 29) = wE := ⟨_, rfl⟩
    obtain ⟨q0, hq0⟩ : ∃ q0, w3.heap.size = q0 := ⟨_, rfl⟩
    rw [hwE, hq0] at hA
    unfold Shard.Env.arr env0 at hwE
    rw [hwE, hq0]
    clear hwE hq0 HL
    have HL := Lib.hid hA
    clear hA
    have hev := HL.out.row (List.Mem.head _)
    have v0 := Mem.row_cell hev 0
    have v1 := Mem.row_cell hev 1
    have v2 := Mem.row_cell hev 2
    have v3 := Mem.row_cell hev 3
    simp only [Shard.Env.arr, env0, List.getElem?_toArray, List.getElem?_cons_zero, List.getElem?_cons_succ] at v0 v1 v2 v3
    have hdo := calls_args (args' := #[.pointer (some ⟨b, 0, none⟩), .agg #[.int .i64 0, .string key, .slice none 0 0, .int .u32 0, .int .i64 0, .int .u64 0, .int .u64 0, .int .u64 0, .bool false, .bool false], .agg #[.int .i64 now, .int .u64 0, .int .i64 0, .int .u64 0]]) (do_law HL.out (by have := HLN.out; omega) HW.out.1 HW.out.2 (cmd 0 key) (env0 now 0) rfl (show key.size ≤ 2000000 by have := HKS.out; omega) (show ([] : List UInt8).length ≤ 1100000 by decide) (.inr ⟨rfl, rfl⟩) ⟨by show (0 : Int) ≤ 0; decide, by show (0 : Int) ≤ 18446744073709551615; decide⟩ ⟨by show (0 : Int) ≤ 0; decide, by show (0 : Int) ≤ 18446744073709551615; decide⟩) rfl
    go_wp2_with fail
    refine hdo.mono ?_
    rintro e wD ⟨f1, r1, t1, a1, n1, k1, hf, hr, rfl, hn, hL⟩
    have HR1 := Lib.hid (And.intro hf (And.intro hr (And.intro hn HL.out.inv)))
    have HC1 := Lib.hid HL.out.2
    clear HL
    have HL := Lib.hid hL
    clear hf hr hn hL hdo  v0 v1 v2 v3 hev
    go_upto_region 8 with (fail)
    have hA := HL.out.alloc (.cells (r1.arr (.slice a1 n1 k1)) 37)
    obtain ⟨w1, hw1⟩ : ∃ w1, wD.alloc (.cells (r1.arr (.slice a1 n1 k1)) 37) = w1 := ⟨_, rfl⟩
    obtain ⟨p1, hp1⟩ : ∃ p1, wD.heap.size = p1 := ⟨_, rfl⟩
    rw [hw1, hp1] at hA
    unfold Res.arr at hw1
    rw [hw1, hp1]
    clear hw1 hp1 HL
    have HL := Lib.hid hA
    clear hA
    have hev := HL.out.row (List.Mem.tail _ (List.Mem.head _))
    have v0 := Mem.row_cell hev 0
    have v1 := Mem.row_cell hev 1
    have v2 := Mem.row_cell hev 2
    have v3 := Mem.row_cell hev 3
    simp only [Shard.Env.arr, env0, List.getElem?_toArray, List.getElem?_cons_zero, List.getElem?_cons_succ] at v0 v1 v2 v3
    have hdo := calls_args (args' := #[.pointer (some ⟨b, 0, none⟩), .agg #[.int .i64 0, .string other, .slice none 0 0, .int .u32 0, .int .i64 0, .int .u64 0, .int .u64 0, .int .u64 0, .bool false, .bool false], .agg #[.int .i64 now, .int .u64 0, .int .i64 0, .int .u64 0]]) (do_law HL.out (by have := HLN.out; omega) HW.out.1 HW.out.2 (cmd 0 other) (env0 now 0) rfl (show other.size ≤ 2000000 by have := HOS.out; omega) (show ([] : List UInt8).length ≤ 1100000 by decide) (.inr ⟨rfl, rfl⟩) ⟨by show (0 : Int) ≤ 0; decide, by show (0 : Int) ≤ 18446744073709551615; decide⟩ ⟨by show (0 : Int) ≤ 0; decide, by show (0 : Int) ≤ 18446744073709551615; decide⟩) rfl
    go_wp2_with fail
    refine hdo.mono ?_
    rintro e wD ⟨f2, r2, t2, a2, n2, k2, hf, hr, rfl, hn, hL⟩
    have HR2 := Lib.hid (And.intro hf (And.intro hr (And.intro hn HL.out.inv)))
    have HC2 := Lib.hid HL.out.2
    clear HL
    have HL := Lib.hid hL
    clear hf hr hn hL hdo  v0 v1 v2 v3 hev
    have hev := HL.out.row (List.Mem.tail _ (List.Mem.head _))
    have v0 := Mem.row_cell hev 0
    have v1 := Mem.row_cell hev 1
    have v2 := Mem.row_cell hev 2
    have v3 := Mem.row_cell hev 3
    simp only [Shard.Env.arr, env0, List.getElem?_toArray, List.getElem?_cons_zero, List.getElem?_cons_succ] at v0 v1 v2 v3
    have hdo := calls_args (args' := #[.pointer (some ⟨b, 0, none⟩), .agg #[.int .i64 14, .string ⟨#[]⟩, .slice none 0 0, .int .u32 0, .int .i64 0, .int .u64 0, .int .u64 0, .int .u64 0, .bool false, .bool false], .agg #[.int .i64 now, .int .u64 0, .int .i64 0, .int .u64 0]]) (do_law HL.out (by have := HLN.out; omega) HW.out.1 HW.out.2 (cmd 14 ⟨#[]⟩) (env0 now 0) rfl (show (⟨#[]⟩ : ByteArray).size ≤ 2000000 by decide) (show ([] : List UInt8).length ≤ 1100000 by decide) (.inr ⟨rfl, rfl⟩) ⟨by show (0 : Int) ≤ 0; decide, by show (0 : Int) ≤ 18446744073709551615; decide⟩ ⟨by show (0 : Int) ≤ 0; decide, by show (0 : Int) ≤ 18446744073709551615; decide⟩) rfl
    go_wp2_with fail
    refine hdo.mono ?_
    rintro e wD ⟨f3, r3, t3, a3, n3, k3, hf, hr, rfl, hn, hL⟩
    have HR3 := Lib.hid (And.intro hf (And.intro hr (And.intro hn HL.out.inv)))
    have HC3 := Lib.hid HL.out.2
    clear HL
    have HL := Lib.hid hL
    clear hf hr hn hL hdo  v0 v1 v2 v3 hev
    have hev := HL.out.row (List.Mem.tail _ (List.Mem.head _))
    have v0 := Mem.row_cell hev 0
    have v1 := Mem.row_cell hev 1
    have v2 := Mem.row_cell hev 2
    have v3 := Mem.row_cell hev 3
    simp only [Shard.Env.arr, env0, List.getElem?_toArray, List.getElem?_cons_zero, List.getElem?_cons_succ] at v0 v1 v2 v3
    have hdo := calls_args (args' := #[.pointer (some ⟨b, 0, none⟩), .agg #[.int .i64 15, .string ⟨#[]⟩, .slice none 0 0, .int .u32 0, .int .i64 0, .int .u64 0, .int .u64 0, .int .u64 0, .bool false, .bool false], .agg #[.int .i64 now, .int .u64 0, .int .i64 0, .int .u64 0]]) (do_law HL.out (by have := HLN.out; omega) HW.out.1 HW.out.2 (cmd 15 ⟨#[]⟩) (env0 now 0) rfl (show (⟨#[]⟩ : ByteArray).size ≤ 2000000 by decide) (show ([] : List UInt8).length ≤ 1100000 by decide) (.inr ⟨rfl, rfl⟩) ⟨by show (0 : Int) ≤ 0; decide, by show (0 : Int) ≤ 18446744073709551615; decide⟩ ⟨by show (0 : Int) ≤ 0; decide, by show (0 : Int) ≤ 18446744073709551615; decide⟩) rfl
    go_wp2_with fail
    refine hdo.mono ?_
    rintro e wD ⟨f4, r4, t4, a4, n4, k4, hf, hr, rfl, hn, hL⟩
    have HR4 := Lib.hid (And.intro hf (And.intro hr (And.intro hn HL.out.inv)))
    have HC4 := Lib.hid HL.out.2
    clear HL
    have HL := Lib.hid hL
    clear hf hr hn hL hdo  v0 v1 v2 v3 hev
    have hev := HL.out.row (List.Mem.tail _ (List.Mem.head _))
    have v0 := Mem.row_cell hev 0
    have v1 := Mem.row_cell hev 1
    have v2 := Mem.row_cell hev 2
    have v3 := Mem.row_cell hev 3
    simp only [Shard.Env.arr, env0, List.getElem?_toArray, List.getElem?_cons_zero, List.getElem?_cons_succ] at v0 v1 v2 v3
    have hdo := calls_args (args' := #[.pointer (some ⟨b, 0, none⟩), .agg #[.int .i64 0, .string key, .slice none 0 0, .int .u32 0, .int .i64 0, .int .u64 0, .int .u64 0, .int .u64 0, .bool false, .bool false], .agg #[.int .i64 now, .int .u64 0, .int .i64 0, .int .u64 0]]) (do_law HL.out (by have := HLN.out; omega) HW.out.1 HW.out.2 (cmd 0 key) (env0 now 0) rfl (show key.size ≤ 2000000 by have := HKS.out; omega) (show ([] : List UInt8).length ≤ 1100000 by decide) (.inr ⟨rfl, rfl⟩) ⟨by show (0 : Int) ≤ 0; decide, by show (0 : Int) ≤ 18446744073709551615; decide⟩ ⟨by show (0 : Int) ≤ 0; decide, by show (0 : Int) ≤ 18446744073709551615; decide⟩) rfl
    go_wp2_with fail
    refine hdo.mono ?_
    rintro e wD ⟨f5, r5, t5, a5, n5, k5, hf, hr, rfl, hn, hL⟩
    have HR5 := Lib.hid (And.intro hf (And.intro hr (And.intro hn HL.out.inv)))
    have HC5 := Lib.hid HL.out.2
    clear HL
    have HL := Lib.hid hL
    clear hf hr hn hL hdo  v0 v1 v2 v3 hev
    go_upto_region 12 with (fail)
    have hA := HL.out.alloc (.cells (r5.arr (.slice a5 n5 k5)) 37)
    obtain ⟨w5, hw5⟩ : ∃ w5, wD.alloc (.cells (r5.arr (.slice a5 n5 k5)) 37) = w5 := ⟨_, rfl⟩
    obtain ⟨p5, hp5⟩ : ∃ p5, wD.heap.size = p5 := ⟨_, rfl⟩
    rw [hw5, hp5] at hA
    unfold Res.arr at hw5
    rw [hw5, hp5]
    clear hw5 hp5 HL
    have HL := Lib.hid hA
    clear hA
    have e3 : t3 = t2 := by
      have h : (only 10, t2) = (r3, t3) := HR3.out.2.1
      exact (congrArg Prod.snd h).symm
    have e4 : t4 = t2 := by
      have h : (only 11, t3) = (r4, t4) := HR4.out.2.1
      rw [← e3]
      exact (congrArg Prod.snd h).symm
    have hpl := asks_law (f1 := f1) (f2 := f2) (f5 := f5) (s1 := t1) (s2 := t2) HR1.out.2.2.2.choose_spec.choose_spec key other (env0 now 0) (by rw [HR1.out.2.1]) (by rw [HR2.out.2.1]) HR2.out.2.2.2 HR3.out.2.2.2
    have h5 := HR5.out.2.1
    rw [e4] at h5
    rw [h5, HR1.out.2.1] at hpl
    have er : r5 = r1 := hpl.1
    have k1 : r1.status = 0 ∨ r1.status = 1 := hpl.2
    have n5 : n5 = r5.val.length := HR5.out.2.2.1
    clear hpl h5 e3 e4 HR5
    subst er
    have hsm := same_eq r5 (HL.out.src (List.Mem.tail _ (List.Mem.tail _ (List.Mem.tail _ (List.Mem.tail _ (List.Mem.head _)))))) (HL.out.src (List.Mem.head _))
    unfold Res.arr at hsm
    clear n5
    have hbx := HL.out.row (List.Mem.tail _ (List.Mem.head _))
    have a0 := Mem.row_cell hbx 0
    have a1 := Mem.row_cell hbx 1
    have a2 := Mem.row_cell hbx 2
    have a3 := Mem.row_cell hbx 3
    have a4 := Mem.row_cell hbx 4
    have a5 := Mem.row_cell hbx 5
    have a6 := Mem.row_cell hbx 6
    have a7 := Mem.row_cell hbx 7
    have a8 := Mem.row_cell hbx 8
    simp only [Res.arr, List.getElem?_toArray, List.getElem?_cons_zero, List.getElem?_cons_succ] at a0 a1 a2 a3 a4 a5 a6 a7 a8
    clear hbx
    have hbx := HL.out.row (List.Mem.head _)
    have b0 := Mem.row_cell hbx 0
    have b1 := Mem.row_cell hbx 1
    have b2 := Mem.row_cell hbx 2
    have b3 := Mem.row_cell hbx 3
    have b4 := Mem.row_cell hbx 4
    have b5 := Mem.row_cell hbx 5
    have b6 := Mem.row_cell hbx 6
    have b7 := Mem.row_cell hbx 7
    have b8 := Mem.row_cell hbx 8
    simp only [Res.arr, List.getElem?_toArray, List.getElem?_cons_zero, List.getElem?_cons_succ] at b0 b1 b2 b3 b4 b5 b6 b7 b8
    clear hbx
    go_wp2_with fail
    refine hsm.mono ?_
    rintro e wS ⟨rfl, hbS⟩
    have HS := Lib.hid hbS
    have a0 := below_cell hbS a0
    clear hbS hsm
    rcases k1 with k1 | k1
    all_goals rw [k1] at a0
    all_goals clear k1
    all_goals go_wp2_with fail
    all_goals go_ret
    all_goals exact ⟨rfl, Mem.tr HL.out.low HS.out⟩
end Go.Proofs.YtodoglljjhdbeaaGreatDoor.ExecAsks

