/- KWalkExecJoins: WalkExecJoins, one behind the other. -/
import Derived.Test.YtodoglljjhdbeaaGreatDoorPart35
import Derived.Test.YtodoglljjhdbeaaGreatDoorPartX1
import Derived.StillTailTactics
import Derived.BigQuiet
/- ExecJoins answers true for every list of commands, key and three texts. Conditions: the numbers are of their kinds; no text of a command has more than 2000000 letters. -/
namespace Go.Proofs.YtodoglljjhdbeaaGreatDoor.ExecJoins
set_option maxRecDepth 100000
open Go Go.RowKit Go.Proofs.YtodoglljjhdbeaaGreatDoor.Mem Go.Proofs.YtodoglljjhdbeaaGreatDoor.App Go.Proofs.YtodoglljjhdbeaaGreatDoor.Ops Go.Proofs.YtodoglljjhdbeaaGreatDoor.Shard Go.Proofs.YtodoglljjhdbeaaGreatDoor.Exec

set_option maxHeartbeats 4000000 in
theorem walk (W : World) (hp : Pows W) (he : Errs W) (x : Option Addr) (n0 c : Nat) (l : List Exec.Op) (key : ByteArray) (xa : List UInt8) (pav : Option Addr) (cav : Nat) (xb : List UInt8) (pbv : Option Addr) (cbv : Nat) (xd : List UInt8) (pdv : Option Addr) (cdv : Nat) (hl : n0 = l.length ∧ n0 ≤ maxLen ∧ (∀ a ∈ l, Exec.OpOk W a) ∧ Lies W 14 Exec.encO x l) (hsm : Small l) (hkey : key.size ≤ maxLen) (ha : xa.length ≤ 1048576 ∧ SrcB W (.slice pav xa.length cav) xa) (hb : xb.length ≤ 1048576 ∧ SrcB W (.slice pbv xb.length cbv) xb) (hd : xd.length ≤ 1048576 ∧ SrcB W (.slice pdv xd.length cdv) xd) :
    Calls Tryz.prog 7 #[.slice x n0 c, .string key, .slice pav xa.length cav, .slice pbv xb.length cbv, .slice pdv xd.length cdv] W fun e W' => e = .returned (.bool true) ∧ Below W.heap.size W W' := by
  obtain ⟨rfl, hml, hok, hlies⟩ := hl
  have hlen : l.length ≤ 500000 := hsm.1
  have HW := Lib.hid (And.intro hp he)
  have HL0 := Lib.hid (And.intro hok (And.intro hlies (And.intro hsm hml)))
  clear hml hok hlies hsm hp he
  unfold maxLen at hkey
  obtain ⟨ma, hma⟩ : ∃ ma, xa.length = ma := ⟨_, rfl⟩
  rw [hma] at ha ⊢
  obtain ⟨mb, hmb⟩ : ∃ mb, xb.length = mb := ⟨_, rfl⟩
  rw [hmb] at hb ⊢
  obtain ⟨md, hmd⟩ : ∃ md, xd.length = md := ⟨_, rfl⟩
  rw [hmd] at hd ⊢
  have HV := Lib.hid (And.intro (And.intro hma ha.2) (And.intro (And.intro hmb hb.2) (And.intro hmd hd.2)))
  clear ha hb hd hma hmb hmd
  go_enter Tryz.func7, Tryz.ntmps7
  go_wp2_with fail
  refine (awake_any W HW.out.1 HW.out.2).mono ?_
  rintro e w1 ⟨rfl, hb1⟩
  have hfew := few_any (c := c) (HL0.out.2.1.same hb1) HL0.out.2.2.2 HL0.out.1
  generalize fewB l = q at *
  have H1 := Lib.hid hb1
  clear hb1
  go_wp2_with fail
  refine hfew.mono ?_
  rintro e w2 ⟨rfl, hb2⟩
  have hdn := done_any (c := c) HL0.out.2.1 (Mem.tr H1.out hb2) HL0.out.2.2.1 HL0.out.1 HW.out.1 HW.out.2
  clear hfew hb2
  go_wp2_with fail
  refine hdn.mono ?_
  rintro e w3 ⟨b, s, rfl, hL⟩
  have HL := Lib.hid hL
  clear hdn hL
  have HLN := Lib.hid hlen
  clear hlen
  cases q with
  | false =>
    go_wp2_with fail
    go_ret
    exact ⟨rfl, HL.out.low⟩
  | true =>
    by_cases hg : 250 < key.size
    · have hgi : (250 : Int) < key.size := by omega
      clear hg
      go_wp2_with fail
      go_ret
      exact ⟨rfl, HL.out.low⟩
    have hgi : (key.size : Int) ≤ 250 := by omega
    have HKS := Lib.hid (show key.size ≤ 250 by omega)
    clear hg hkey
    by_cases hg : 300 < ma
    · have hgj : (300 : Int) < ma := by omega
      clear hg
      go_wp2_with fail
      go_ret
      exact ⟨rfl, HL.out.low⟩
    have hga : (ma : Int) ≤ 300 := by omega
    have HMa := Lib.hid (show ma ≤ 300 by omega)
    clear hg
    by_cases hg : 300 < mb
    · have hgj : (300 : Int) < mb := by omega
      clear hg
      go_wp2_with fail
      go_ret
      exact ⟨rfl, HL.out.low⟩
    have hgb : (mb : Int) ≤ 300 := by omega
    have HMb := Lib.hid (show mb ≤ 300 by omega)
    clear hg
    by_cases hg : 300 < md
    · have hgj : (300 : Int) < md := by omega
      clear hg
      go_wp2_with fail
      go_ret
      exact ⟨rfl, HL.out.low⟩
    have hgd : (md : Int) ≤ 300 := by omega
    have HMd := Lib.hid (show md ≤ 300 by omega)
    clear hg
    have hA := HL.out
    replace hA := hA.val (HV.out.1.2.below hA.low) (src_low HV.out.1.2)
    replace hA := hA.val (HV.out.2.1.2.below hA.low) (src_low HV.out.2.1.2)
    replace hA := hA.val (HV.out.2.2.2.below hA.low) (src_low HV.out.2.2.2)
    clear HL
    have HL := Lib.hid hA
    clear hA
    go_upto_region 7 with (fail)
    have hA := HL.out.alloc (.cells (env0 (5) (0)).arr 29)
    obtain ⟨wE, hwE⟩ : ∃ wE, w3.alloc (.cells (env0 (5) (0)).arr 29) = wE := ⟨_, rfl⟩
    obtain ⟨q0, hq0⟩ : ∃ q0, w3.heap.size = q0 := ⟨_, rfl⟩
    rw [hwE, hq0] at hA
    unfold Shard.Env.arr env0 at hwE
    rw [hwE, hq0]
    clear hwE hq0 HL
    have HL := Lib.hid hA
    clear hA
    have hev := HL.out.row (List.Mem.head _)
    have v0 := Mem.row_cell hev 0
    have v1 := Mem.row_cell hev 1
    have v2 := Mem.row_cell hev 2
    have v3 := Mem.row_cell hev 3
    simp only [Shard.Env.arr, env0, List.getElem?_toArray, List.getElem?_cons_zero, List.getElem?_cons_succ] at v0 v1 v2 v3
    have hdo := calls_args (args' := #[.pointer (some ⟨b, 0, none⟩), .agg #[.int .i64 3, .string key, .slice pav ma cav, .int .u32 9, .int .i64 60, .int .u64 0, .int .u64 0, .int .u64 0, .bool false, .bool false], .agg #[.int .i64 5, .int .u64 0, .int .i64 0, .int .u64 0]]) (do_law HL.out (by have := HLN.out; omega) HW.out.1 HW.out.2 ({ setC key xa with flags := 9, exp := 60 }) (env0 5 0) HV.out.1.1 (show key.size ≤ 2000000 by have := HKS.out; omega) (show xa.length ≤ 1100000 by have := HV.out.1.1; have := HMa.out; omega) (.inl (List.Mem.tail _ (List.Mem.tail _ (List.Mem.head _)))) ⟨by show (0 : Int) ≤ 0; decide, by show (0 : Int) ≤ 18446744073709551615; decide⟩ ⟨by show (0 : Int) ≤ 0; decide, by show (0 : Int) ≤ 18446744073709551615; decide⟩) rfl
    go_wp2_with fail
    refine hdo.mono ?_
    rintro e wD ⟨f1, r1, t1, a1, n1, k1, hf, hr, rfl, hn, hL⟩
    have HR1 := Lib.hid (And.intro hf (And.intro hr (And.intro hn HL.out.inv)))
    have HC1 := Lib.hid HL.out.2
    clear HL
    have HL := Lib.hid hL
    clear hf hr hn hL hdo  v0 v1 v2 v3 hev
    go_upto_region 8 with (fail)
    have hA := HL.out.alloc (.cells (r1.arr (.slice a1 n1 k1)) 37)
    obtain ⟨w1, hw1⟩ : ∃ w1, wD.alloc (.cells (r1.arr (.slice a1 n1 k1)) 37) = w1 := ⟨_, rfl⟩
    obtain ⟨p1, hp1⟩ : ∃ p1, wD.heap.size = p1 := ⟨_, rfl⟩
    rw [hw1, hp1] at hA
    unfold Res.arr at hw1
    rw [hw1, hp1]
    clear hw1 hp1 HL
    have HL := Lib.hid hA
    clear hA
    have hev := HL.out.row (List.Mem.tail _ (List.Mem.head _))
    have v0 := Mem.row_cell hev 0
    have v1 := Mem.row_cell hev 1
    have v2 := Mem.row_cell hev 2
    have v3 := Mem.row_cell hev 3
    simp only [Shard.Env.arr, env0, List.getElem?_toArray, List.getElem?_cons_zero, List.getElem?_cons_succ] at v0 v1 v2 v3
    have hdo := calls_args (args' := #[.pointer (some ⟨b, 0, none⟩), .agg #[.int .i64 6, .string key, .slice pbv mb cbv, .int .u32 1, .int .i64 2, .int .u64 0, .int .u64 0, .int .u64 0, .bool false, .bool false], .agg #[.int .i64 5, .int .u64 0, .int .i64 0, .int .u64 0]]) (do_law HL.out (by have := HLN.out; omega) HW.out.1 HW.out.2 ({ cmd 6 key with val := xb, flags := 1, exp := 2 }) (env0 5 0) HV.out.2.1.1 (show key.size ≤ 2000000 by have := HKS.out; omega) (show xb.length ≤ 1100000 by have := HV.out.2.1.1; have := HMb.out; omega) (.inl (List.Mem.tail _ (List.Mem.tail _ (List.Mem.head _)))) ⟨by show (0 : Int) ≤ 0; decide, by show (0 : Int) ≤ 18446744073709551615; decide⟩ ⟨by show (0 : Int) ≤ 0; decide, by show (0 : Int) ≤ 18446744073709551615; decide⟩) rfl
    go_wp2_with fail
    refine hdo.mono ?_
    rintro e wD ⟨f2, r2, t2, a2, n2, k2, hf, hr, rfl, hn, hL⟩
    have HR2 := Lib.hid (And.intro hf (And.intro hr (And.intro hn HL.out.inv)))
    have HC2 := Lib.hid HL.out.2
    clear HL
    have HL := Lib.hid hL
    clear hf hr hn hL hdo  v0 v1 v2 v3 hev
    go_upto_region 9 with (fail)
    have hA := HL.out.alloc (.cells (r2.arr (.slice a2 n2 k2)) 37)
    obtain ⟨w2, hw2⟩ : ∃ w2, wD.alloc (.cells (r2.arr (.slice a2 n2 k2)) 37) = w2 := ⟨_, rfl⟩
    obtain ⟨p2, hp2⟩ : ∃ p2, wD.heap.size = p2 := ⟨_, rfl⟩
    rw [hw2, hp2] at hA
    unfold Res.arr at hw2
    rw [hw2, hp2]
    clear hw2 hp2 HL
    have HL := Lib.hid hA
    clear hA
    have hev := HL.out.row (List.Mem.tail _ (List.Mem.tail _ (List.Mem.head _)))
    have v0 := Mem.row_cell hev 0
    have v1 := Mem.row_cell hev 1
    have v2 := Mem.row_cell hev 2
    have v3 := Mem.row_cell hev 3
    simp only [Shard.Env.arr, env0, List.getElem?_toArray, List.getElem?_cons_zero, List.getElem?_cons_succ] at v0 v1 v2 v3
    have hdo := calls_args (args' := #[.pointer (some ⟨b, 0, none⟩), .agg #[.int .i64 7, .string key, .slice pdv md cdv, .int .u32 2, .int .i64 3, .int .u64 0, .int .u64 0, .int .u64 0, .bool false, .bool false], .agg #[.int .i64 5, .int .u64 0, .int .i64 0, .int .u64 0]]) (do_law HL.out (by have := HLN.out; omega) HW.out.1 HW.out.2 ({ cmd 7 key with val := xd, flags := 2, exp := 3 }) (env0 5 0) HV.out.2.2.1 (show key.size ≤ 2000000 by have := HKS.out; omega) (show xd.length ≤ 1100000 by have := HV.out.2.2.1; have := HMd.out; omega) (.inl (List.Mem.tail _ (List.Mem.tail _ (List.Mem.head _)))) ⟨by show (0 : Int) ≤ 0; decide, by show (0 : Int) ≤ 18446744073709551615; decide⟩ ⟨by show (0 : Int) ≤ 0; decide, by show (0 : Int) ≤ 18446744073709551615; decide⟩) rfl
    go_wp2_with fail
    refine hdo.mono ?_
    rintro e wD ⟨f3, r3, t3, a3, n3, k3, hf, hr, rfl, hn, hL⟩
    have HR3 := Lib.hid (And.intro hf (And.intro hr (And.intro hn HL.out.inv)))
    have HC3 := Lib.hid HL.out.2
    clear HL
    have HL := Lib.hid hL
    clear hf hr hn hL hdo  v0 v1 v2 v3 hev
    go_upto_region 10 with (fail)
    have hA := HL.out.alloc (.cells (r3.arr (.slice a3 n3 k3)) 37)
    obtain ⟨w3, hw3⟩ : ∃ w3, wD.alloc (.cells (r3.arr (.slice a3 n3 k3)) 37) = w3 := ⟨_, rfl⟩
    obtain ⟨p3, hp3⟩ : ∃ p3, wD.heap.size = p3 := ⟨_, rfl⟩
    rw [hw3, hp3] at hA
    unfold Res.arr at hw3
    rw [hw3, hp3]
    clear hw3 hp3 HL
    have HL := Lib.hid hA
    clear hA
    have hbx := HL.out.row (List.Mem.tail _ (List.Mem.tail _ (List.Mem.head _)))
    have a0 := Mem.row_cell hbx 0
    simp only [Res.arr, List.getElem?_toArray, List.getElem?_cons_zero] at a0
    clear hbx
    have hbx := HL.out.row (List.Mem.tail _ (List.Mem.head _))
    have b0 := Mem.row_cell hbx 0
    simp only [Res.arr, List.getElem?_toArray, List.getElem?_cons_zero] at b0
    clear hbx
    have hbx := HL.out.row (List.Mem.head _)
    have c0 := Mem.row_cell hbx 0
    simp only [Res.arr, List.getElem?_toArray, List.getElem?_cons_zero] at c0
    clear hbx
    by_cases h1 : r1.status = 2
    case neg =>
      have hb : (r1.status != 2) = true := by simpa using h1
      clear h1
      go_wp2_with fail
      go_ret
      exact ⟨rfl, HL.out.low⟩
    have S1 := Lib.hid h1
    rw [h1] at a0
    clear h1
    by_cases h2 : r2.status = 2
    case neg =>
      have hb : (r2.status != 2) = true := by simpa using h2
      clear h2
      go_wp2_with fail
      go_ret
      exact ⟨rfl, HL.out.low⟩
    have S2 := Lib.hid h2
    rw [h2] at b0
    clear h2
    by_cases h3 : r3.status = 2
    case neg =>
      have hb : (r3.status != 2) = true := by simpa using h3
      clear h3
      go_wp2_with fail
      go_ret
      exact ⟨rfl, HL.out.low⟩
    have S3 := Lib.hid h3
    rw [h3] at c0
    clear h3
    go_upto_region 12 with (fail)
    clear a0 b0 c0
    have hev := HL.out.row (List.Mem.tail _ (List.Mem.tail _ (List.Mem.tail _ (List.Mem.head _))))
    have v0 := Mem.row_cell hev 0
    have v1 := Mem.row_cell hev 1
    have v2 := Mem.row_cell hev 2
    have v3 := Mem.row_cell hev 3
    simp only [Shard.Env.arr, env0, List.getElem?_toArray, List.getElem?_cons_zero, List.getElem?_cons_succ] at v0 v1 v2 v3
    have hdo := calls_args (args' := #[.pointer (some ⟨b, 0, none⟩), .agg #[.int .i64 0, .string key, .slice none 0 0, .int .u32 0, .int .i64 0, .int .u64 0, .int .u64 0, .int .u64 0, .bool false, .bool false], .agg #[.int .i64 5, .int .u64 0, .int .i64 0, .int .u64 0]]) (do_law HL.out (by have := HLN.out; omega) HW.out.1 HW.out.2 (cmd 0 key) (env0 5 0) rfl (show key.size ≤ 2000000 by have := HKS.out; omega) (show ([] : List UInt8).length ≤ 1100000 by decide) (.inr ⟨rfl, rfl⟩) ⟨by show (0 : Int) ≤ 0; decide, by show (0 : Int) ≤ 18446744073709551615; decide⟩ ⟨by show (0 : Int) ≤ 0; decide, by show (0 : Int) ≤ 18446744073709551615; decide⟩) rfl
    go_wp2_with fail
    refine hdo.mono ?_
    rintro e wD ⟨f4, r4, t4, a4, n4, k4, hf, hr, rfl, hn, hL⟩
    have HR4 := Lib.hid (And.intro hf (And.intro hr (And.intro hn HL.out.inv)))
    have HC4 := Lib.hid HL.out.2
    clear HL
    have HL := Lib.hid hL
    clear hf hr hn hL hdo  v0 v1 v2 v3 hev
    go_upto_region 13 with (fail)
    have hA := HL.out.alloc (.cells (r4.arr (.slice a4 n4 k4)) 37)
    obtain ⟨w4, hw4⟩ : ∃ w4, wD.alloc (.cells (r4.arr (.slice a4 n4 k4)) 37) = w4 := ⟨_, rfl⟩
    obtain ⟨p4, hp4⟩ : ∃ p4, wD.heap.size = p4 := ⟨_, rfl⟩
    rw [hw4, hp4] at hA
    unfold Res.arr at hw4
    rw [hw4, hp4]
    clear hw4 hp4 HL
    have HL := Lib.hid hA
    clear hA
    have hpl := joins_law (f1 := f1) (f2 := f2) (f3 := f3) (f4 := f4) (s1 := t1) (s2 := t2) (s3 := t3) HR1.out.2.2.2.choose_spec.choose_spec key (Nat.le_trans HKS.out (by decide)) xa xb xd rfl rfl rfl HR1.out.1 HR2.out.1 HR3.out.1 (by rw [HR1.out.2.1]) HR2.out.2.2.2 (by rw [HR2.out.2.1]) HR3.out.2.2.2 (by rw [HR3.out.2.1]) HR4.out.2.2.2 (by rw [HR1.out.2.1]; exact S1.out) (by rw [HR2.out.2.1]; exact S2.out) (by rw [HR3.out.2.1]; exact S3.out)
    rw [HR4.out.2.1] at hpl
    have k1 : r4.status = 0 := hpl.1
    have k2 : r4.val = xd ++ (xa ++ xb) := hpl.2.1
    have k3 : r4.flags = 9 := hpl.2.2.1
    have k4 : r4.ttl = 60 := hpl.2.2.2
    clear hpl
    have hcg := conv_any (HL.out.src (List.Mem.head _))
    have hcd := conv_any (HL.out.src (List.Mem.tail _ (List.Mem.tail _ (List.Mem.tail _ (List.Mem.tail _ (List.Mem.head _))))))
    have hcb := conv_any (HL.out.src (List.Mem.tail _ (List.Mem.tail _ (List.Mem.tail _ (List.Mem.tail _ (List.Mem.tail _ (List.Mem.head _)))))))
    have hca := conv_any (HL.out.src (List.Mem.tail _ (List.Mem.tail _ (List.Mem.tail _ (List.Mem.tail _ (List.Mem.tail _ (List.Mem.tail _ (List.Mem.head _))))))))
    simp only [k2] at hcg
    rw [← List.append_assoc, bs_append, bs_append] at hcg
    clear k2
    have hz1 : ¬ 9223372036854775807 < (bs xd).size + (bs xa).size := by
      rw [bs_size, bs_size]
      have := HV.out.1.1
      have := HV.out.2.2.1
      have := HMa.out
      have := HMd.out
      omega
    have hz2 : ¬ 9223372036854775807 < (bs xd).size + (bs xa).size + (bs xb).size := by
      rw [bs_size, bs_size, bs_size]
      have := HV.out.1.1
      have := HV.out.2.1.1
      have := HV.out.2.2.1
      have := HMa.out
      have := HMb.out
      have := HMd.out
      omega
    have hbx := HL.out.row (List.Mem.head _)
    have g0 := Mem.row_cell hbx 0
    have g1 := Mem.row_cell hbx 1
    have g2 := Mem.row_cell hbx 2
    have g4 := Mem.row_cell hbx 4
    simp only [Res.arr, List.getElem?_toArray, List.getElem?_cons_zero, List.getElem?_cons_succ] at g0 g1 g2 g4
    clear hbx
    rw [k1] at g0
    rw [k3] at g2
    rw [k4] at g4
    clear k1 k3 k4
    go_wp2_with fail
    go_ret
    exact ⟨rfl, HL.out.low⟩
end Go.Proofs.YtodoglljjhdbeaaGreatDoor.ExecJoins

