/- KWalkExecWins: WalkExecWins, one behind the other. -/
import Derived.Test.YtodoglljjhdbeaaGreatDoorPart35
import Derived.Test.YtodoglljjhdbeaaGreatDoorPartX1
import Derived.StillTailTactics
import Derived.BigQuiet
/- ExecWins answers true for every list of commands, key, number and second. Conditions: the numbers are of their kinds; no text of a command has more than 2000000 letters. -/
namespace Go.Proofs.YtodoglljjhdbeaaGreatDoor.ExecWins
set_option maxRecDepth 100000
open Go Go.RowKit Go.Proofs.YtodoglljjhdbeaaGreatDoor.Mem Go.Proofs.YtodoglljjhdbeaaGreatDoor.App Go.Proofs.YtodoglljjhdbeaaGreatDoor.Ops Go.Proofs.YtodoglljjhdbeaaGreatDoor.Shard Go.Proofs.YtodoglljjhdbeaaGreatDoor.Exec

set_option maxHeartbeats 4000000 in
theorem walk (W : World) (hp : Pows W) (he : Errs W) (x : Option Addr) (n0 c : Nat) (l : List Exec.Op) (key : ByteArray) (n now : Int) (hl : n0 = l.length ∧ n0 ≤ maxLen ∧ (∀ a ∈ l, Exec.OpOk W a) ∧ Lies W 14 Exec.encO x l) (hsm : Small l) (hkey : key.size ≤ maxLen) (_hn : -9223372036854775808 ≤ n ∧ n ≤ 9223372036854775807) (_hnow : -9223372036854775808 ≤ now ∧ now ≤ 9223372036854775807) :
    Calls Tryz.prog 5 #[.slice x n0 c, .string key, .int .i64 n, .int .i64 now] W fun e W' => e = .returned (.bool true) ∧ Below W.heap.size W W' := by
  obtain ⟨rfl, hml, hok, hlies⟩ := hl
  have hlen : l.length ≤ 500000 := hsm.1
  have HW := Lib.hid (And.intro hp he)
  have HL0 := Lib.hid (And.intro hok (And.intro hlies (And.intro hsm hml)))
  clear hml hok hlies hsm hp he
  unfold maxLen at hkey
  clear _hnow _hn
  go_enter Tryz.func5, Tryz.ntmps5
  go_wp2_with fail
  refine (awake_any W HW.out.1 HW.out.2).mono ?_
  rintro e w1 ⟨rfl, hb1⟩
  have hfew := few_any (c := c) (HL0.out.2.1.same hb1) HL0.out.2.2.2 HL0.out.1
  generalize fewB l = q at *
  have H1 := Lib.hid hb1
  clear hb1
  go_wp2_with fail
  refine hfew.mono ?_
  rintro e w2 ⟨rfl, hb2⟩
  have hdn := done_any (c := c) HL0.out.2.1 (Mem.tr H1.out hb2) HL0.out.2.2.1 HL0.out.1 HW.out.1 HW.out.2
  clear hfew hb2
  go_wp2_with fail
  refine hdn.mono ?_
  rintro e w3 ⟨b, s, rfl, hL⟩
  have HL := Lib.hid hL
  clear hdn hL
  have HLN := Lib.hid hlen
  clear hlen
  cases q with
  | false =>
    go_wp2_with fail
    go_ret
    exact ⟨rfl, HL.out.low⟩
  | true =>
    by_cases hg : 250 < key.size
    · have hgi : (250 : Int) < key.size := by omega
      clear hg
      go_wp2_with fail
      go_ret
      exact ⟨rfl, HL.out.low⟩
    have hgi : (key.size : Int) ≤ 250 := by omega
    have HKS := Lib.hid (show key.size ≤ 250 by omega)
    clear hg hkey
    by_cases hg : n < 1
    · have hgi : n < 1 := hg
      clear hg
      go_wp2_with fail
      go_ret
      exact ⟨rfl, HL.out.low⟩
    have g1 : 1 ≤ n := by omega
    clear hg
    by_cases hg : 20 < n
    · have hgi : 20 < n := hg
      clear hg
      go_wp2_with fail
      go_ret
      exact ⟨rfl, HL.out.low⟩
    have g2 : n ≤ 20 := by omega
    clear hg
    by_cases hg : now < 1
    · have hgi : now < 1 := hg
      clear hg
      go_wp2_with fail
      go_ret
      exact ⟨rfl, HL.out.low⟩
    have g3 : 1 ≤ now := by omega
    clear hg
    by_cases hg : 1099511627776 < now
    · have hgi : 1099511627776 < now := hg
      clear hg
      go_wp2_with fail
      go_ret
      exact ⟨rfl, HL.out.low⟩
    have g4 : now ≤ 1099511627776 := by omega
    clear hg
    have HN := Lib.hid (And.intro g1 g2)
    go_upto_region 7 with (fail)
    have hA := HL.out.alloc (.cells (env0 (now) (0)).arr 29)
    obtain ⟨wE, hwE⟩ : ∃ wE, w3.alloc (.cells (env0 (now) (0)).arr 29) = wE := ⟨_, rfl⟩
    obtain ⟨q0, hq0⟩ : ∃ q0, w3.heap.size = q0 := ⟨_, rfl⟩
    rw [hwE, hq0] at hA
    unfold Shard.Env.arr env0 at hwE
    rw [hwE, hq0]
    clear hwE hq0 HL
    have HL := Lib.hid hA
    clear hA
    have hB := HL.out.fresh (Mem.al (Below.refl wE.heap.size wE) (.cells #[.int .u8 118] 5 (1, 2))) (lit_src wE 118 5 1) (fun g e => Nat.le_of_eq (by simpa [Value.ownBlock] using e))
    obtain ⟨wB, hwB⟩ : ∃ wB, wE.alloc (.cells #[.int .u8 118] 5 (1, 2)) = wB := ⟨_, rfl⟩
    have hcv := lit_conv wE 118
    rw [hwB] at hB hcv
    clear HL
    have HL := Lib.hid hB
    clear hB
    have hev := HL.out.row (List.Mem.head _)
    have v0 := Mem.row_cell hev 0
    have v1 := Mem.row_cell hev 1
    have v2 := Mem.row_cell hev 2
    have v3 := Mem.row_cell hev 3
    simp only [Shard.Env.arr, env0, List.getElem?_toArray, List.getElem?_cons_zero, List.getElem?_cons_succ] at v0 v1 v2 v3
    have hdo := calls_args (args' := #[.pointer (some ⟨b, 0, none⟩), .agg #[.int .i64 3, .string key, .slice (some ⟨wE.heap.size, 0, none⟩) 1 1, .int .u32 0, .int .i64 0, .int .u64 0, .int .u64 0, .int .u64 0, .bool false, .bool false], .agg #[.int .i64 now, .int .u64 0, .int .i64 0, .int .u64 0]]) (do_law HL.out (by have := HLN.out; omega) HW.out.1 HW.out.2 (setC key [118]) (env0 now 0) rfl (show key.size ≤ 2000000 by have := HKS.out; omega) (show ([0] : List UInt8).length ≤ 1100000 by decide) (.inl (List.Mem.head _)) ⟨by show (0 : Int) ≤ 0; decide, by show (0 : Int) ≤ 18446744073709551615; decide⟩ ⟨by show (0 : Int) ≤ 0; decide, by show (0 : Int) ≤ 18446744073709551615; decide⟩) rfl
    go_wp2_with fail
    clear hwB hcv
    refine hdo.mono ?_
    rintro e wD ⟨f1, r1, t1, a1, n1, k1, hf, hr, rfl, hn, hL⟩
    have HR1 := Lib.hid (And.intro hf (And.intro hr (And.intro hn HL.out.inv)))
    have HC1 := Lib.hid HL.out.2
    clear HL
    have HL := Lib.hid hL
    clear hf hr hn hL hdo  v0 v1 v2 v3 hev
    go_upto_region 8 with (fail)
    have hA := HL.out.alloc (.cells (r1.arr (.slice a1 n1 k1)) 37)
    obtain ⟨w1, hw1⟩ : ∃ w1, wD.alloc (.cells (r1.arr (.slice a1 n1 k1)) 37) = w1 := ⟨_, rfl⟩
    obtain ⟨p1, hp1⟩ : ∃ p1, wD.heap.size = p1 := ⟨_, rfl⟩
    rw [hw1, hp1] at hA
    unfold Res.arr at hw1
    rw [hw1, hp1]
    clear hw1 hp1 HL
    have HL := Lib.hid hA
    clear hA
    have hev := HL.out.row (List.Mem.tail _ (List.Mem.head _))
    have v0 := Mem.row_cell hev 0
    have v1 := Mem.row_cell hev 1
    have v2 := Mem.row_cell hev 2
    have v3 := Mem.row_cell hev 3
    simp only [Shard.Env.arr, env0, List.getElem?_toArray, List.getElem?_cons_zero, List.getElem?_cons_succ] at v0 v1 v2 v3
    have hdo := calls_args (args' := #[.pointer (some ⟨b, 0, none⟩), .agg #[.int .i64 9, .string key, .slice none 0 0, .int .u32 0, .int .i64 0, .int .u64 0, .int .u64 0, .int .u64 0, .bool false, .bool false], .agg #[.int .i64 now, .int .u64 0, .int .i64 0, .int .u64 0]]) (do_law HL.out (by have := HLN.out; omega) HW.out.1 HW.out.2 (cmd 9 key) (env0 now 0) rfl (show key.size ≤ 2000000 by have := HKS.out; omega) (show ([] : List UInt8).length ≤ 1100000 by decide) (.inr ⟨rfl, rfl⟩) ⟨by show (0 : Int) ≤ 0; decide, by show (0 : Int) ≤ 18446744073709551615; decide⟩ ⟨by show (0 : Int) ≤ 0; decide, by show (0 : Int) ≤ 18446744073709551615; decide⟩) rfl
    go_wp2_with fail
    refine hdo.mono ?_
    rintro e wD ⟨f2, r2, t2, a2, n2, k2, hf, hr, rfl, hn, hL⟩
    have HR2 := Lib.hid (And.intro hf (And.intro hr (And.intro hn HL.out.inv)))
    have HC2 := Lib.hid HL.out.2
    clear HL
    have HL := Lib.hid hL
    clear hf hr hn hL hdo  v0 v1 v2 v3 hev
    go_upto_region 9 with (fail)
    have hA := HL.out.alloc (.cells (r2.arr (.slice a2 n2 k2)) 37)
    obtain ⟨w2, hw2⟩ : ∃ w2, wD.alloc (.cells (r2.arr (.slice a2 n2 k2)) 37) = w2 := ⟨_, rfl⟩
    obtain ⟨p2, hp2⟩ : ∃ p2, wD.heap.size = p2 := ⟨_, rfl⟩
    rw [hw2, hp2] at hA
    unfold Res.arr at hw2
    rw [hw2, hp2]
    clear hw2 hp2 HL
    have HL := Lib.hid hA
    clear hA
    have hst := wins_start (f1 := f1) (f2 := f2) (s1 := t1) HR1.out.2.2.2.choose_spec.choose_spec key (Nat.le_trans HKS.out (by decide)) [118] now HR1.out.1 (by rw [HR1.out.2.1]) HR2.out.2.2.2
    rw [HR1.out.2.1, HR2.out.2.1] at hst
    have k1 : r2.status = 1 ∨ r2.status = 5 := hst.1
    have kk2 : r1.status = 2 → r2.status = 5 ∧ StaleHas t2 key false := hst.2
    clear hst
    have hbx := HL.out.row (List.Mem.tail _ (List.Mem.head _))
    have a0 := Mem.row_cell hbx 0
    simp only [Res.arr, List.getElem?_toArray, List.getElem?_cons_zero] at a0
    clear hbx
    by_cases h2 : r1.status = 2
    · obtain ⟨h5, hsh⟩ := kk2 h2
      rw [h2] at a0
      have H5 := Lib.hid h5
      have HH := Lib.hid hsh
      clear h2 k1 kk2 h5 hsh
      go_wp2_with fail
      clear a0
      go_loopg [15, 16, 17] n.toNat (fun g won i _ wr => ∃ (m : Nat) (t : St) (z : Int), won = .int .i64 z ∧ i = .int .i64 m ∧ g + m = n.toNat ∧ Hid ((m = 0 → z = 0) ∧ (0 < m → z = 1)) ∧ Hid (LS 7 4000 W wr (2 * l.length + 4 + 2 * m) b t [(p2, .cells (r2.arr (.slice a2 n2 k2)) 37), (q0, .cells (env0 now 0).arr 29)] [] ∧ StaleHas t key (decide (0 < m))))
      case atStart =>
        refine ⟨0, t2, 0, rfl, rfl, by omega, Lib.hid ⟨fun _ => rfl, fun h => by omega⟩, Lib.hid ⟨(HL.out.more (by omega) (by have := HLN.out; omega)).sub (fun p hp => ?_) (fun _ hp => (nomatch hp)), HH.out⟩⟩
        rcases hp with _ | ⟨_, hp⟩
        · exact List.Mem.head _
        · rcases hp with _ | ⟨_, hp⟩
          · exact List.Mem.tail _ (List.Mem.tail _ (List.Mem.head _))
          · exact nomatch hp
      case round =>
        obtain ⟨m, t, z, rfl, rfl, hg, HZ, HS⟩ := hrel
        have HG := Lib.hid hg
        clear hg HL
        have HL := Lib.hid HS.out.1
        by_cases hm : m < n.toNat
        · have hmi : (m : Int) < n := by omega
          have hev := HL.out.row (List.Mem.tail _ (List.Mem.head _))
          have v0 := Mem.row_cell hev 0
          have v1 := Mem.row_cell hev 1
          have v2 := Mem.row_cell hev 2
          have v3 := Mem.row_cell hev 3
          simp only [Shard.Env.arr, env0, List.getElem?_toArray, List.getElem?_cons_zero, List.getElem?_cons_succ] at v0 v1 v2 v3
          have hdo := calls_args (args' := #[.pointer (some ⟨b, 0, none⟩), .agg #[.int .i64 12, .string key, .slice none 0 0, .int .u32 0, .int .i64 0, .int .u64 0, .int .u64 0, .int .u64 0, .bool false, .bool false], .agg #[.int .i64 now, .int .u64 0, .int .i64 0, .int .u64 0]]) (do_law HL.out (by have := HLN.out; have := HG.out; have := HN.out; omega) HW.out.1 HW.out.2 (cmd 12 key) (env0 now 0) rfl (show key.size ≤ 2000000 by have := HKS.out; omega) (show ([] : List UInt8).length ≤ 1100000 by decide) (.inr ⟨rfl, rfl⟩) ⟨by show (0 : Int) ≤ 0; decide, by show (0 : Int) ≤ 18446744073709551615; decide⟩ ⟨by show (0 : Int) ≤ 0; decide, by show (0 : Int) ≤ 18446744073709551615; decide⟩) rfl
          go_wp2_with fail
          refine hdo.mono ?_
          rintro e wD ⟨f3, r3, t3, a3, n3, k3, hf, hr, rfl, hn, hL⟩
          have HR3 := Lib.hid (And.intro hf (And.intro hr (And.intro hn HL.out.inv)))
          have HC3 := Lib.hid HL.out.2
          clear HL
          have HL := Lib.hid hL
          clear hf hr hn hL hdo  v0 v1 v2 v3 hev
          go_upto_region 16 with (fail)
          have hA := HL.out.alloc (.cells (r3.arr (.slice a3 n3 k3)) 37)
          obtain ⟨w3, hw3⟩ : ∃ w3, wD.alloc (.cells (r3.arr (.slice a3 n3 k3)) 37) = w3 := ⟨_, rfl⟩
          obtain ⟨p3, hp3⟩ : ∃ p3, wD.heap.size = p3 := ⟨_, rfl⟩
          rw [hw3, hp3] at hA
          unfold Res.arr at hw3
          rw [hw3, hp3]
          clear hw3 hp3 HL
          have HL := Lib.hid hA
          clear hA
          have hms := meta_step (f := f3) HR3.out.2.2.2.choose_spec.choose_spec HS.out.2 now
          rw [HR3.out.2.1] at hms
          have j1 : r3.status = 0 := hms.1
          have j2 : r3.stale = true := hms.2.1
          have j3 : r3.won = !(decide (0 < m)) := hms.2.2.1
          have j4 : r3.lost = decide (0 < m) := hms.2.2.2.1
          have j5 : StaleHas t3 key true := hms.2.2.2.2
          clear hms
          have hbx := HL.out.row (List.Mem.head _)
          have x0 := Mem.row_cell hbx 0
          have x6 := Mem.row_cell hbx 6
          have x7 := Mem.row_cell hbx 7
          have x8 := Mem.row_cell hbx 8
          simp only [Res.arr, List.getElem?_toArray, List.getElem?_cons_zero, List.getElem?_cons_succ] at x0 x6 x7 x8
          clear hbx
          rw [j1] at x0
          rw [j2] at x6
          rw [j3] at x7
          rw [j4] at x8
          have HJ := Lib.hid j5
          clear j1 j2 j3 j4 j5
          have HM := Lib.hid (HL.out.more (M' := 2 * l.length + 4 + 2 * (m + 1)) (by omega) (by have := HLN.out; have := HG.out; have := HN.out; omega))
          by_cases hm0 : m = 0
          · subst hm0
            have hz : z = 0 := HZ.out.1 rfl
            subst hz
            simp only [Nat.lt_irrefl, decide_false, Bool.not_false] at x7 x8
            go_wp2_with fail
            go_roundg (n.toNat - 1)
            case measure => have := HG.out; have := HN.out; omega
            case rel =>
              refine ⟨1, t3, 1, rfl, rfl, by have := HN.out; omega, Lib.hid ⟨fun h => by omega, fun _ => rfl⟩, Lib.hid ⟨HM.out.sub (fun p hp => List.Mem.tail _ hp) (fun _ hp => (nomatch hp)), HJ.out⟩⟩
          · have hz : z = 1 := HZ.out.2 (by omega)
            subst hz
            have hd : decide (0 < m) = true := decide_eq_true (by omega)
            rw [hd] at x7 x8
            simp only [Bool.not_true] at x7
            have hmp : (0 : Int) < (m : Int) := by omega
            clear hd
            go_wp2_with fail
            go_roundg (n.toNat - (m + 1))
            case measure => have := HG.out; omega
            case rel =>
              refine ⟨m + 1, t3, 1, rfl, by go_num, by have := HG.out; omega, Lib.hid ⟨fun h => by omega, fun _ => rfl⟩, Lib.hid ⟨HM.out.sub (fun p hp => List.Mem.tail _ hp) (fun _ hp => (nomatch hp)), ?_⟩⟩
              rw [decide_eq_true (Nat.succ_pos m)]
              exact HJ.out
        · have hml : n ≤ (m : Int) := by omega
          have hz : z = 1 := HZ.out.2 (by have := HN.out; omega)
          subst hz
          clear hm
          go_upto_region 20 with (fail)
          have hB := HL.out.fresh (Mem.al (Below.refl wr.heap.size wr) (.cells #[.int .u8 119] 5 (1, 2))) (lit_src wr 119 5 1) (fun g e => Nat.le_of_eq (by simpa [Value.ownBlock] using e))
          obtain ⟨wC, hwB⟩ : ∃ wC, wr.alloc (.cells #[.int .u8 119] 5 (1, 2)) = wC := ⟨_, rfl⟩
          have hcv := lit_conv wr 119
          rw [hwB] at hB hcv
          clear HL
          have HL := Lib.hid hB
          clear hB
          have hev := HL.out.row (List.Mem.tail _ (List.Mem.head _))
          have v0 := Mem.row_cell hev 0
          have v1 := Mem.row_cell hev 1
          have v2 := Mem.row_cell hev 2
          have v3 := Mem.row_cell hev 3
          simp only [Shard.Env.arr, env0, List.getElem?_toArray, List.getElem?_cons_zero, List.getElem?_cons_succ] at v0 v1 v2 v3
          have hdo := calls_args (args' := #[.pointer (some ⟨b, 0, none⟩), .agg #[.int .i64 3, .string key, .slice (some ⟨wr.heap.size, 0, none⟩) 1 1, .int .u32 0, .int .i64 0, .int .u64 0, .int .u64 0, .int .u64 0, .bool false, .bool false], .agg #[.int .i64 now, .int .u64 0, .int .i64 0, .int .u64 0]]) (do_law HL.out (by have := HLN.out; have := HG.out; have := HN.out; omega) HW.out.1 HW.out.2 (setC key [119]) (env0 now 0) rfl (show key.size ≤ 2000000 by have := HKS.out; omega) (show ([0] : List UInt8).length ≤ 1100000 by decide) (.inl (List.Mem.head _)) ⟨by show (0 : Int) ≤ 0; decide, by show (0 : Int) ≤ 18446744073709551615; decide⟩ ⟨by show (0 : Int) ≤ 0; decide, by show (0 : Int) ≤ 18446744073709551615; decide⟩) rfl
          go_wp2_with fail
          clear hwB hcv
          refine hdo.mono ?_
          rintro e wD ⟨f4, r4, t4, a4, n4, k4, hf, hr, rfl, hn, hL⟩
          have HR4 := Lib.hid (And.intro hf (And.intro hr (And.intro hn HL.out.inv)))
          have HC4 := Lib.hid HL.out.2
          clear HL
          have HL := Lib.hid hL
          clear hf hr hn hL hdo  v0 v1 v2 v3 hev
          go_upto_region 21 with (fail)
          have hA := HL.out.alloc (.cells (r4.arr (.slice a4 n4 k4)) 37)
          obtain ⟨w4, hw4⟩ : ∃ w4, wD.alloc (.cells (r4.arr (.slice a4 n4 k4)) 37) = w4 := ⟨_, rfl⟩
          obtain ⟨p4, hp4⟩ : ∃ p4, wD.heap.size = p4 := ⟨_, rfl⟩
          rw [hw4, hp4] at hA
          unfold Res.arr at hw4
          rw [hw4, hp4]
          clear hw4 hp4 HL
          have HL := Lib.hid hA
          clear hA
          have hev := HL.out.row (List.Mem.tail _ (List.Mem.tail _ (List.Mem.head _)))
          have v0 := Mem.row_cell hev 0
          have v1 := Mem.row_cell hev 1
          have v2 := Mem.row_cell hev 2
          have v3 := Mem.row_cell hev 3
          simp only [Shard.Env.arr, env0, List.getElem?_toArray, List.getElem?_cons_zero, List.getElem?_cons_succ] at v0 v1 v2 v3
          have hdo := calls_args (args' := #[.pointer (some ⟨b, 0, none⟩), .agg #[.int .i64 12, .string key, .slice none 0 0, .int .u32 0, .int .i64 0, .int .u64 0, .int .u64 0, .int .u64 0, .bool false, .bool false], .agg #[.int .i64 now, .int .u64 0, .int .i64 0, .int .u64 0]]) (do_law HL.out (by have := HLN.out; have := HG.out; have := HN.out; omega) HW.out.1 HW.out.2 (cmd 12 key) (env0 now 0) rfl (show key.size ≤ 2000000 by have := HKS.out; omega) (show ([] : List UInt8).length ≤ 1100000 by decide) (.inr ⟨rfl, rfl⟩) ⟨by show (0 : Int) ≤ 0; decide, by show (0 : Int) ≤ 18446744073709551615; decide⟩ ⟨by show (0 : Int) ≤ 0; decide, by show (0 : Int) ≤ 18446744073709551615; decide⟩) rfl
          go_wp2_with fail
          refine hdo.mono ?_
          rintro e wD ⟨f5, r5, t5, a5, n5, k5, hf, hr, rfl, hn, hL⟩
          have HR5 := Lib.hid (And.intro hf (And.intro hr (And.intro hn HL.out.inv)))
          have HC5 := Lib.hid HL.out.2
          clear HL
          have HL := Lib.hid hL
          clear hf hr hn hL hdo  v0 v1 v2 v3 hev
          go_upto_region 22 with (fail)
          have hA := HL.out.alloc (.cells (r5.arr (.slice a5 n5 k5)) 37)
          obtain ⟨w5, hw5⟩ : ∃ w5, wD.alloc (.cells (r5.arr (.slice a5 n5 k5)) 37) = w5 := ⟨_, rfl⟩
          obtain ⟨p5, hp5⟩ : ∃ p5, wD.heap.size = p5 := ⟨_, rfl⟩
          rw [hw5, hp5] at hA
          unfold Res.arr at hw5
          rw [hw5, hp5]
          clear hw5 hp5 HL
          have HL := Lib.hid hA
          clear hA
          have hwe := wins_end (f1 := f4) (f2 := f5) (s1 := t4) HR4.out.2.2.2.choose_spec.choose_spec HC4.out (by decide) (Nat.le_trans HKS.out (by decide)) HS.out.2 [119] (by decide) now HR4.out.1 (by rw [HR4.out.2.1]) HR5.out.2.2.2
          rw [HR4.out.2.1, HR5.out.2.1] at hwe
          have j1 : r4.status = 2 := hwe.1
          have j2 : r5.stale = false := hwe.2.1
          have j3 : r5.won = false := hwe.2.2.1
          have j4 : r5.lost = false := hwe.2.2.2
          clear hwe
          have hbx := HL.out.row (List.Mem.tail _ (List.Mem.tail _ (List.Mem.head _)))
          have b0 := Mem.row_cell hbx 0
          simp only [Res.arr, List.getElem?_toArray, List.getElem?_cons_zero] at b0
          clear hbx
          have hbx := HL.out.row (List.Mem.tail _ (List.Mem.head _))
          have c0 := Mem.row_cell hbx 0
          simp only [Res.arr, List.getElem?_toArray, List.getElem?_cons_zero] at c0
          clear hbx
          have hbx := HL.out.row (List.Mem.head _)
          have d6 := Mem.row_cell hbx 6
          have d7 := Mem.row_cell hbx 7
          have d8 := Mem.row_cell hbx 8
          simp only [Res.arr, List.getElem?_toArray, List.getElem?_cons_zero, List.getElem?_cons_succ] at d6 d7 d8
          clear hbx
          rw [H5.out] at b0
          rw [j1] at c0
          rw [j2] at d6
          rw [j3] at d7
          rw [j4] at d8
          clear j1 j2 j3 j4
          go_wp2_with fail
          go_ret
          exact ⟨rfl, HL.out.low⟩
    · clear kk2
      have h2b : (r1.status != 2) = true := by simpa using h2
      clear h2
      have hbx := HL.out.row (List.Mem.head _)
      have b0 := Mem.row_cell hbx 0
      simp only [Res.arr, List.getElem?_toArray, List.getElem?_cons_zero] at b0
      clear hbx
      rcases k1 with k1 | k1
      all_goals rw [k1] at b0
      all_goals clear k1
      all_goals go_wp2_with fail
      all_goals go_ret
      all_goals exact ⟨rfl, HL.out.low⟩
end Go.Proofs.YtodoglljjhdbeaaGreatDoor.ExecWins

