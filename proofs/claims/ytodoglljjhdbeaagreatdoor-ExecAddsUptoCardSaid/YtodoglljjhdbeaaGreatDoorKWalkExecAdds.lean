/- KWalkExecAdds: WalkExecAdds, one behind the other. -/
import Derived.Test.YtodoglljjhdbeaaGreatDoorPart35
import Derived.StillTailTactics
import Derived.BigQuiet
/- ExecAdds answers true for every list of commands, key, number, sum and second. Conditions: the numbers are of their kinds; no text of a command has more than 2000000 letters. -/
namespace Go.Proofs.YtodoglljjhdbeaaGreatDoor.ExecAdds
set_option maxRecDepth 100000
open Go Go.RowKit Go.Proofs.YtodoglljjhdbeaaGreatDoor.Mem Go.Proofs.YtodoglljjhdbeaaGreatDoor.App Go.Proofs.YtodoglljjhdbeaaGreatDoor.Ops Go.Proofs.YtodoglljjhdbeaaGreatDoor.Shard Go.Proofs.YtodoglljjhdbeaaGreatDoor.Exec

set_option maxHeartbeats 4000000 in
theorem walk (W : World) (hp : Pows W) (he : Errs W) (x : Option Addr) (n0 c : Nat) (l : List Exec.Op) (key : ByteArray) (n delta now : Int) (hl : n0 = l.length ∧ n0 ≤ maxLen ∧ (∀ a ∈ l, Exec.OpOk W a) ∧ Lies W 14 Exec.encO x l) (hsm : Small l) (hkey : key.size ≤ maxLen) (hn : 0 ≤ n ∧ n ≤ 18446744073709551615) (hdl : 0 ≤ delta ∧ delta ≤ 18446744073709551615) (_hnow : -9223372036854775808 ≤ now ∧ now ≤ 9223372036854775807) :
    Calls Tryz.prog 6 #[.slice x n0 c, .string key, .int .u64 n, .int .u64 delta, .int .i64 now] W fun e W' => e = .returned (.bool true) ∧ Below W.heap.size W W' := by
  obtain ⟨rfl, hml, hok, hlies⟩ := hl
  have hlen : l.length ≤ 500000 := hsm.1
  have HW := Lib.hid (And.intro hp he)
  have HL0 := Lib.hid (And.intro hok (And.intro hlies (And.intro hsm hml)))
  clear hml hok hlies hsm hp he
  unfold maxLen at hkey
  have HN := Lib.hid (And.intro hn hdl)
  clear _hnow hn hdl
  go_enter Tryz.func6, Tryz.ntmps6
  go_wp2_with fail
  refine (awake_any W HW.out.1 HW.out.2).mono ?_
  rintro e w1 ⟨rfl, hb1⟩
  have hfew := few_any (c := c) (HL0.out.2.1.same hb1) HL0.out.2.2.2 HL0.out.1
  generalize fewB l = q at *
  have H1 := Lib.hid hb1
  clear hb1
  go_wp2_with fail
  refine hfew.mono ?_
  rintro e w2 ⟨rfl, hb2⟩
  have hdn := done_any (c := c) HL0.out.2.1 (Mem.tr H1.out hb2) HL0.out.2.2.1 HL0.out.1 HW.out.1 HW.out.2
  clear hfew hb2
  go_wp2_with fail
  refine hdn.mono ?_
  rintro e w3 ⟨b, s, rfl, hL⟩
  have HL := Lib.hid hL
  clear hdn hL
  have HLN := Lib.hid hlen
  clear hlen
  cases q with
  | false =>
    go_wp2_with fail
    go_ret
    exact ⟨rfl, HL.out.low⟩
  | true =>
    by_cases hg : 250 < key.size
    · have hgi : (250 : Int) < key.size := by omega
      clear hg
      go_wp2_with fail
      go_ret
      exact ⟨rfl, HL.out.low⟩
    have hgi : (key.size : Int) ≤ 250 := by omega
    have HKS := Lib.hid (show key.size ≤ 250 by omega)
    clear hg hkey
    by_cases hg : now < 1
    · have hgi : now < 1 := hg
      clear hg
      go_wp2_with fail
      go_ret
      exact ⟨rfl, HL.out.low⟩
    have g1 : 1 ≤ now := by omega
    clear hg
    by_cases hg : 1099511627776 < now
    · have hgi : 1099511627776 < now := hg
      clear hg
      go_wp2_with fail
      go_ret
      exact ⟨rfl, HL.out.low⟩
    have g2 : now ≤ 1099511627776 := by omega
    clear hg
    go_upto_region 7 with (fail)
    have hA := HL.out.alloc (.cells (env0 (now) (0)).arr 29)
    obtain ⟨wE, hwE⟩ : ∃ wE, w3.alloc (.cells (env0 (now) (0)).arr 29) = wE := ⟨_, rfl⟩
    obtain ⟨q0, hq0⟩ : ∃ q0, w3.heap.size = q0 := ⟨_, rfl⟩
    rw [hwE, hq0] at hA
    unfold Shard.Env.arr env0 at hwE
    rw [hwE, hq0]
    clear hwE hq0 HL
    have HL := Lib.hid hA
    clear hA
    have hev := HL.out.row (List.Mem.head _)
    have v0 := Mem.row_cell hev 0
    have v1 := Mem.row_cell hev 1
    have v2 := Mem.row_cell hev 2
    have v3 := Mem.row_cell hev 3
    simp only [Shard.Env.arr, env0, List.getElem?_toArray, List.getElem?_cons_zero, List.getElem?_cons_succ] at v0 v1 v2 v3
    have hdo := calls_args (args' := #[.pointer (some ⟨b, 0, none⟩), .agg #[.int .i64 8, .string key, .slice none 0 0, .int .u32 0, .int .i64 0, .int .u64 0, .int .u64 0, .int .u64 0, .bool false, .bool false], .agg #[.int .i64 now, .int .u64 0, .int .i64 0, .int .u64 0]]) (do_law HL.out (by have := HLN.out; omega) HW.out.1 HW.out.2 (cmd 8 key) (env0 now 0) rfl (show key.size ≤ 2000000 by have := HKS.out; omega) (show ([] : List UInt8).length ≤ 1100000 by decide) (.inr ⟨rfl, rfl⟩) ⟨by show (0 : Int) ≤ 0; decide, by show (0 : Int) ≤ 18446744073709551615; decide⟩ ⟨by show (0 : Int) ≤ 0; decide, by show (0 : Int) ≤ 18446744073709551615; decide⟩) rfl
    go_wp2_with fail
    refine hdo.mono ?_
    rintro e wD ⟨f1, r1, t1, a1, n1, k1, hf, hr, rfl, hn, hL⟩
    have HR1 := Lib.hid (And.intro hf (And.intro hr (And.intro hn HL.out.inv)))
    have HC1 := Lib.hid HL.out.2
    clear HL
    have HL := Lib.hid hL
    clear hf hr hn hL hdo v0 v1 v2 v3 hev
    go_upto_region 8 with (fail)
    have hA := HL.out.alloc (.cells (r1.arr (.slice a1 n1 k1)) 37)
    obtain ⟨w1, hw1⟩ : ∃ w1, wD.alloc (.cells (r1.arr (.slice a1 n1 k1)) 37) = w1 := ⟨_, rfl⟩
    obtain ⟨p1, hp1⟩ : ∃ p1, wD.heap.size = p1 := ⟨_, rfl⟩
    rw [hw1, hp1] at hA
    unfold Res.arr at hw1
    rw [hw1, hp1]
    clear hw1 hp1 HL
    have HL := Lib.hid hA
    clear hA
    have hev := HL.out.row (List.Mem.tail _ (List.Mem.head _))
    have v0 := Mem.row_cell hev 0
    have v1 := Mem.row_cell hev 1
    have v2 := Mem.row_cell hev 2
    have v3 := Mem.row_cell hev 3
    simp only [Shard.Env.arr, env0, List.getElem?_toArray, List.getElem?_cons_zero, List.getElem?_cons_succ] at v0 v1 v2 v3
    have hdo := calls_args (args' := #[.pointer (some ⟨b, 0, none⟩), .agg #[.int .i64 10, .string key, .slice none 0 0, .int .u32 0, .int .i64 0, .int .u64 0, .int .u64 0, .int .u64 n, .bool true, .bool false], .agg #[.int .i64 now, .int .u64 0, .int .i64 0, .int .u64 0]]) (do_law HL.out (by have := HLN.out; omega) HW.out.1 HW.out.2 ({ cmd 10 key with makes := true, initial := n }) (env0 now 0) rfl (show key.size ≤ 2000000 by have := HKS.out; omega) (show ([] : List UInt8).length ≤ 1100000 by decide) (.inr ⟨rfl, rfl⟩) (show isU n from HN.out.1) ⟨by show (0 : Int) ≤ 0; decide, by show (0 : Int) ≤ 18446744073709551615; decide⟩) rfl
    go_wp2_with fail
    refine hdo.mono ?_
    rintro e wD ⟨f2, r2, t2, a2, n2, k2, hf, hr, rfl, hn, hL⟩
    have HR2 := Lib.hid (And.intro hf (And.intro hr (And.intro hn HL.out.inv)))
    have HC2 := Lib.hid HL.out.2
    clear HL
    have HL := Lib.hid hL
    clear hf hr hn hL hdo v0 v1 v2 v3 hev
    go_upto_region 9 with (fail)
    have hA := HL.out.alloc (.cells (r2.arr (.slice a2 n2 k2)) 37)
    obtain ⟨w2, hw2⟩ : ∃ w2, wD.alloc (.cells (r2.arr (.slice a2 n2 k2)) 37) = w2 := ⟨_, rfl⟩
    obtain ⟨p2, hp2⟩ : ∃ p2, wD.heap.size = p2 := ⟨_, rfl⟩
    rw [hw2, hp2] at hA
    unfold Res.arr at hw2
    rw [hw2, hp2]
    clear hw2 hp2 HL
    have HL := Lib.hid hA
    clear hA
    have hev := HL.out.row (List.Mem.tail _ (List.Mem.tail _ (List.Mem.head _)))
    have v0 := Mem.row_cell hev 0
    have v1 := Mem.row_cell hev 1
    have v2 := Mem.row_cell hev 2
    have v3 := Mem.row_cell hev 3
    simp only [Shard.Env.arr, env0, List.getElem?_toArray, List.getElem?_cons_zero, List.getElem?_cons_succ] at v0 v1 v2 v3
    have hdo := calls_args (args' := #[.pointer (some ⟨b, 0, none⟩), .agg #[.int .i64 10, .string key, .slice none 0 0, .int .u32 0, .int .i64 0, .int .u64 0, .int .u64 delta, .int .u64 0, .bool false, .bool false], .agg #[.int .i64 now, .int .u64 0, .int .i64 0, .int .u64 0]]) (do_law HL.out (by have := HLN.out; omega) HW.out.1 HW.out.2 ({ cmd 10 key with delta := delta }) (env0 now 0) rfl (show key.size ≤ 2000000 by have := HKS.out; omega) (show ([] : List UInt8).length ≤ 1100000 by decide) (.inr ⟨rfl, rfl⟩) ⟨by show (0 : Int) ≤ 0; decide, by show (0 : Int) ≤ 18446744073709551615; decide⟩ (show isU delta from HN.out.2)) rfl
    go_wp2_with fail
    refine hdo.mono ?_
    rintro e wD ⟨f3, r3, t3, a3, n3, k3, hf, hr, rfl, hn, hL⟩
    have HR3 := Lib.hid (And.intro hf (And.intro hr (And.intro hn HL.out.inv)))
    have HC3 := Lib.hid HL.out.2
    clear HL
    have HL := Lib.hid hL
    clear hf hr hn hL hdo v0 v1 v2 v3 hev
    go_upto_region 10 with (fail)
    have hA := HL.out.alloc (.cells (r3.arr (.slice a3 n3 k3)) 37)
    obtain ⟨w3, hw3⟩ : ∃ w3, wD.alloc (.cells (r3.arr (.slice a3 n3 k3)) 37) = w3 := ⟨_, rfl⟩
    obtain ⟨p3, hp3⟩ : ∃ p3, wD.heap.size = p3 := ⟨_, rfl⟩
    rw [hw3, hp3] at hA
    unfold Res.arr at hw3
    rw [hw3, hp3]
    clear hw3 hp3 HL
    have HL := Lib.hid hA
    clear hA
    have hev := HL.out.row (List.Mem.tail _ (List.Mem.tail _ (List.Mem.tail _ (List.Mem.head _))))
    have v0 := Mem.row_cell hev 0
    have v1 := Mem.row_cell hev 1
    have v2 := Mem.row_cell hev 2
    have v3 := Mem.row_cell hev 3
    simp only [Shard.Env.arr, env0, List.getElem?_toArray, List.getElem?_cons_zero, List.getElem?_cons_succ] at v0 v1 v2 v3
    have hdo := calls_args (args' := #[.pointer (some ⟨b, 0, none⟩), .agg #[.int .i64 11, .string key, .slice none 0 0, .int .u32 0, .int .i64 0, .int .u64 0, .int .u64 delta, .int .u64 0, .bool false, .bool false], .agg #[.int .i64 now, .int .u64 0, .int .i64 0, .int .u64 0]]) (do_law HL.out (by have := HLN.out; omega) HW.out.1 HW.out.2 ({ cmd 11 key with delta := delta }) (env0 now 0) rfl (show key.size ≤ 2000000 by have := HKS.out; omega) (show ([] : List UInt8).length ≤ 1100000 by decide) (.inr ⟨rfl, rfl⟩) ⟨by show (0 : Int) ≤ 0; decide, by show (0 : Int) ≤ 18446744073709551615; decide⟩ (show isU delta from HN.out.2)) rfl
    go_wp2_with fail
    refine hdo.mono ?_
    rintro e wD ⟨f4, r4, t4, a4, n4, k4, hf, hr, rfl, hn, hL⟩
    have HR4 := Lib.hid (And.intro hf (And.intro hr (And.intro hn HL.out.inv)))
    have HC4 := Lib.hid HL.out.2
    clear HL
    have HL := Lib.hid hL
    clear hf hr hn hL hdo v0 v1 v2 v3 hev
    go_upto_region 11 with (fail)
    have hA := HL.out.alloc (.cells (r4.arr (.slice a4 n4 k4)) 37)
    obtain ⟨w4, hw4⟩ : ∃ w4, wD.alloc (.cells (r4.arr (.slice a4 n4 k4)) 37) = w4 := ⟨_, rfl⟩
    obtain ⟨p4, hp4⟩ : ∃ p4, wD.heap.size = p4 := ⟨_, rfl⟩
    rw [hw4, hp4] at hA
    unfold Res.arr at hw4
    rw [hw4, hp4]
    clear hw4 hp4 HL
    have HL := Lib.hid hA
    clear hA
    have hst := adds_start (f1 := f1) (f2 := f2) (s1 := t1) HR1.out.2.2.2.choose_spec.choose_spec key (Nat.le_trans HKS.out (by decide)) n.toNat now (c2 := { cmd 10 key with makes := true, initial := n }) (by rw [Int.toNat_of_nonneg HN.out.1.1]) (by rw [HR1.out.2.1]) HR2.out.2.2.2 HR2.out.1
    rw [HR1.out.2.1, HR2.out.2.1, Int.toNat_of_nonneg HN.out.1.1] at hst
    have k1 : r1.status = 5 ∨ r1.status = 1 := hst.1
    have k2 : r2.status = 7 → r2.number = n ∧ NumHas t2 key n.toNat := hst.2
    clear hst
    have hbx := HL.out.row (List.Mem.tail _ (List.Mem.tail _ (List.Mem.head _)))
    have b0 := Mem.row_cell hbx 0
    have b5 := Mem.row_cell hbx 5
    simp only [Res.arr, List.getElem?_toArray, List.getElem?_cons_zero, List.getElem?_cons_succ] at b0 b5
    clear hbx
    by_cases h7 : r2.status = 7
    · obtain ⟨k2, hN⟩ := k2 h7
      clear k1
      rw [h7] at b0
      rw [k2] at b5
      clear h7 k2
      obtain ⟨m3, hm3, hv3, hs3, hu3, hN3⟩ := reckon_hit (c := { cmd 10 key with delta := delta }) (f := f3) HR3.out.2.2.2.choose_spec.choose_spec HC3.out (by decide) (.inl rfl) rfl (Nat.le_trans HKS.out (by decide)) HN.out.2 now HR3.out.1 (m := n.toNat) (by have := HN.out.1; omega) hN
      rw [HR3.out.2.1] at hs3 hu3 hN3
      obtain ⟨m4, hm4, hv4, hs4, hu4, hN4⟩ := reckon_hit (c := { cmd 11 key with delta := delta }) (f := f4) HR4.out.2.2.2.choose_spec.choose_spec HC4.out (by decide) (.inr rfl) rfl (Nat.le_trans HKS.out (by decide)) HN.out.2 now HR4.out.1 (m := m3) hm3 hN3
      rw [HR4.out.2.1] at hs4 hu4
      replace hv3 : (m3 : Int) = IntKind.u64.wrap (((n.toNat : Nat) : Int) + delta) := hv3
      replace hv4 : (m4 : Int) = (m3 : Int) - min (m3 : Int) delta := hv4
      rw [Int.toNat_of_nonneg HN.out.1.1] at hv3
      have hbk := adds_back HN.out.1 HN.out.2 hv3 hv4
      replace hs3 : r3.status = 7 := hs3
      replace hu3 : r3.number = (m3 : Int) := hu3
      replace hs4 : r4.status = 7 := hs4
      replace hu4 : r4.number = (m4 : Int) := hu4
      obtain ⟨z, hz⟩ : ∃ z, IntKind.u64.wrap (n + delta) = z := ⟨_, rfl⟩
      rw [hv3, hz] at hu3 hbk
      clear hN hN3 hN4 hm3 hm4 hv4 hv3
      have hbx := HL.out.row (List.Mem.tail _ (List.Mem.head _))
      have d0 := Mem.row_cell hbx 0
      have d5 := Mem.row_cell hbx 5
      simp only [Res.arr, List.getElem?_toArray, List.getElem?_cons_zero, List.getElem?_cons_succ] at d0 d5
      clear hbx
      have hbx := HL.out.row (List.Mem.head _)
      have e0 := Mem.row_cell hbx 0
      have e5 := Mem.row_cell hbx 5
      simp only [Res.arr, List.getElem?_toArray, List.getElem?_cons_zero, List.getElem?_cons_succ] at e0 e5
      clear hbx
      rw [hs3] at d0
      rw [hu3] at d5
      rw [hs4] at e0
      rw [hu4] at e5
      clear hs3 hu3 hs4 hu4
      have q1 : (n == n) = true := by simp
      have q2 : (z == z) = true := by simp
      by_cases hlt : z < n
      · have k := hbk.1 hlt
        rw [k] at e5
        clear hbk k
        have hd : decide (z < n) = true := decide_eq_true hlt
        go_wp2_with fail
        go_ret
        exact ⟨rfl, HL.out.low⟩
      · have k := hbk.2 hlt
        rw [k] at e5
        clear hbk k
        have hd : decide (z < n) = false := decide_eq_false hlt
        clear hlt
        go_wp2_with fail
        go_ret
        exact ⟨rfl, HL.out.low⟩
    · clear k2
      have h7b : (r2.status != 7) = true := by simpa using h7
      clear h7
      have hbx := HL.out.row (List.Mem.tail _ (List.Mem.tail _ (List.Mem.tail _ (List.Mem.head _))))
      have a0 := Mem.row_cell hbx 0
      simp only [Res.arr, List.getElem?_toArray, List.getElem?_cons_zero] at a0
      clear hbx
      rcases k1 with k1 | k1
      all_goals rw [k1] at a0
      all_goals clear k1
      all_goals go_wp2_with fail
      all_goals go_ret
      all_goals exact ⟨rfl, HL.out.low⟩
end Go.Proofs.YtodoglljjhdbeaaGreatDoor.ExecAdds

