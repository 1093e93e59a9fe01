/- KWalkExecTouches: WalkExecTouches, one behind the other. -/
import Derived.Test.YtodoglljjhdbeaaGreatDoorPart35
import Derived.StillTailTactics
import Derived.BigQuiet
/- ExecTouches answers true for every list of commands, key and time. Conditions: the numbers are of their kinds; no text of a command has more than 2000000 letters. -/
namespace Go.Proofs.YtodoglljjhdbeaaGreatDoor.ExecTouches
set_option maxRecDepth 100000
open Go Go.RowKit Go.Proofs.YtodoglljjhdbeaaGreatDoor.Mem Go.Proofs.YtodoglljjhdbeaaGreatDoor.App Go.Proofs.YtodoglljjhdbeaaGreatDoor.Ops Go.Proofs.YtodoglljjhdbeaaGreatDoor.Shard Go.Proofs.YtodoglljjhdbeaaGreatDoor.Exec

set_option maxHeartbeats 4000000 in
theorem walk (W : World) (hp : Pows W) (he : Errs W) (x : Option Addr) (n0 c : Nat) (l : List Exec.Op) (key : ByteArray) (exp later : Int) (gat : Bool) (hl : n0 = l.length ∧ n0 ≤ maxLen ∧ (∀ a ∈ l, Exec.OpOk W a) ∧ Lies W 14 Exec.encO x l) (hsm : Small l) (hkey : key.size ≤ maxLen) (_hexp : -9223372036854775808 ≤ exp ∧ exp ≤ 9223372036854775807) (_hlat : -9223372036854775808 ≤ later ∧ later ≤ 9223372036854775807) :
    Calls Tryz.prog 10 #[.slice x n0 c, .string key, .int .i64 exp, .int .i64 later, .bool gat] W fun e W' => e = .returned (.bool true) ∧ Below W.heap.size W W' := by
  obtain ⟨rfl, hml, hok, hlies⟩ := hl
  have hlen : l.length ≤ 500000 := hsm.1
  have HW := Lib.hid (And.intro hp he)
  have HL0 := Lib.hid (And.intro hok (And.intro hlies (And.intro hsm hml)))
  clear hml hok hlies hsm hp he
  unfold maxLen at hkey
  clear _hexp _hlat
  go_enter Tryz.func10, Tryz.ntmps10
  go_wp2_with fail
  refine (awake_any W HW.out.1 HW.out.2).mono ?_
  rintro e w1 ⟨rfl, hb1⟩
  have hfew := few_any (c := c) (HL0.out.2.1.same hb1) HL0.out.2.2.2 HL0.out.1
  generalize fewB l = q at *
  have H1 := Lib.hid hb1
  clear hb1
  go_wp2_with fail
  refine hfew.mono ?_
  rintro e w2 ⟨rfl, hb2⟩
  have hdn := done_any (c := c) HL0.out.2.1 (Mem.tr H1.out hb2) HL0.out.2.2.1 HL0.out.1 HW.out.1 HW.out.2
  clear hfew hb2
  go_wp2_with fail
  refine hdn.mono ?_
  rintro e w3 ⟨b, s, rfl, hL⟩
  have HL := Lib.hid hL
  clear hdn hL
  have HLN := Lib.hid hlen
  clear hlen
  cases q with
  | false =>
    go_wp2_with fail
    go_ret
    exact ⟨rfl, HL.out.low⟩
  | true =>
    by_cases hg : 250 < key.size
    · have hgi : (250 : Int) < key.size := by omega
      clear hg
      go_wp2_with fail
      go_ret
      exact ⟨rfl, HL.out.low⟩
    have hgi : (key.size : Int) ≤ 250 := by omega
    have HKS := Lib.hid (show key.size ≤ 250 by omega)
    clear hg hkey
    by_cases hg : exp < 1
    · have hgi : exp < 1 := hg
      clear hg
      go_wp2_with fail
      go_ret
      exact ⟨rfl, HL.out.low⟩
    have g1 : 1 ≤ exp := by omega
    clear hg
    by_cases hg : 2592000 < exp
    · have hgi : 2592000 < exp := hg
      clear hg
      go_wp2_with fail
      go_ret
      exact ⟨rfl, HL.out.low⟩
    have g2 : exp ≤ 2592000 := by omega
    clear hg
    by_cases hg : later < 0
    · have hgi : later < 0 := hg
      clear hg
      go_wp2_with fail
      go_ret
      exact ⟨rfl, HL.out.low⟩
    have g3 : 0 ≤ later := by omega
    clear hg
    by_cases hg : 5184000 < later
    · have hgi : 5184000 < later := hg
      clear hg
      go_wp2_with fail
      go_ret
      exact ⟨rfl, HL.out.low⟩
    have g4 : later ≤ 5184000 := by omega
    clear hg
    have hwr : IntKind.i64.wrap (5 + later) = 5 + later := by rw [IntKind.wrap_i64]; omega
    have hws : IntKind.i64.wrap (exp - later) = exp - later := by rw [IntKind.wrap_i64]; omega
    have HE := Lib.hid (And.intro (And.intro g1 g2) (And.intro g3 g4))
    have hdo := calls_args (args' := #[.pointer (some ⟨b, 0, none⟩), .agg #[.int .i64 3, .string key, .slice none 0 0, .int .u32 0, .int .i64 0, .int .u64 0, .int .u64 0, .int .u64 0, .bool false, .bool false], .agg #[.int .i64 5, .int .u64 0, .int .i64 0, .int .u64 0]]) (do_law HL.out (by have := HLN.out; omega) HW.out.1 HW.out.2 (cmd 3 key) (env0 5 0) rfl (show key.size ≤ 2000000 by have := HKS.out; omega) (show ([] : List UInt8).length ≤ 1100000 by decide) (.inr ⟨rfl, rfl⟩) ⟨by show (0 : Int) ≤ 0; decide, by show (0 : Int) ≤ 18446744073709551615; decide⟩ ⟨by show (0 : Int) ≤ 0; decide, by show (0 : Int) ≤ 18446744073709551615; decide⟩) rfl
    go_wp2_with fail
    refine hdo.mono ?_
    rintro e wD ⟨f1, r1, t1, a1, n1, k1, hf, hr, rfl, hn, hL⟩
    have HR1 := Lib.hid (And.intro hf (And.intro hr (And.intro hn HL.out.inv)))
    have HC1 := Lib.hid HL.out.2
    clear HL
    have HL := Lib.hid hL
    clear hf hr hn hL hdo 
    go_upto_region 7 with (fail)
    have hA := HL.out.alloc (.cells (r1.arr (.slice a1 n1 k1)) 37)
    obtain ⟨w1, hw1⟩ : ∃ w1, wD.alloc (.cells (r1.arr (.slice a1 n1 k1)) 37) = w1 := ⟨_, rfl⟩
    obtain ⟨p1, hp1⟩ : ∃ p1, wD.heap.size = p1 := ⟨_, rfl⟩
    rw [hw1, hp1] at hA
    unfold Res.arr at hw1
    rw [hw1, hp1]
    clear hw1 hp1 HL
    have HL := Lib.hid hA
    clear hA
    cases gat
    · have hdo := calls_args (args' := #[.pointer (some ⟨b, 0, none⟩), .agg #[.int .i64 2, .string key, .slice none 0 0, .int .u32 0, .int .i64 exp, .int .u64 0, .int .u64 0, .int .u64 0, .bool false, .bool false], .agg #[.int .i64 5, .int .u64 0, .int .i64 0, .int .u64 0]]) (do_law HL.out (by have := HLN.out; omega) HW.out.1 HW.out.2 ({ cmd 2 key with exp := exp }) (env0 5 0) rfl (show key.size ≤ 2000000 by have := HKS.out; omega) (show ([] : List UInt8).length ≤ 1100000 by decide) (.inr ⟨rfl, rfl⟩) ⟨by show (0 : Int) ≤ 0; decide, by show (0 : Int) ≤ 18446744073709551615; decide⟩ ⟨by show (0 : Int) ≤ 0; decide, by show (0 : Int) ≤ 18446744073709551615; decide⟩) rfl
      go_wp2_with fail
      refine hdo.mono ?_
      rintro e wD ⟨f2, r2, t2, a2, n2, k2, hf, hr, rfl, hn, hL⟩
      have HR2 := Lib.hid (And.intro hf (And.intro hr (And.intro hn HL.out.inv)))
      have HC2 := Lib.hid HL.out.2
      clear HL
      have HL := Lib.hid hL
      clear hf hr hn hL hdo 
      go_upto_region 11 with (fail)
      have hA := HL.out.alloc (.cells (r2.arr (.slice a2 n2 k2)) 37)
      obtain ⟨w2, hw2⟩ : ∃ w2, wD.alloc (.cells (r2.arr (.slice a2 n2 k2)) 37) = w2 := ⟨_, rfl⟩
      obtain ⟨p2, hp2⟩ : ∃ p2, wD.heap.size = p2 := ⟨_, rfl⟩
      rw [hw2, hp2] at hA
      unfold Res.arr at hw2
      rw [hw2, hp2]
      clear hw2 hp2 HL
      have HL := Lib.hid hA
      clear hA
      have hdo := calls_args (args' := #[.pointer (some ⟨b, 0, none⟩), .agg #[.int .i64 0, .string key, .slice none 0 0, .int .u32 0, .int .i64 0, .int .u64 0, .int .u64 0, .int .u64 0, .bool false, .bool false], .agg #[.int .i64 (5 + later), .int .u64 0, .int .i64 0, .int .u64 0]]) (do_law HL.out (by have := HLN.out; omega) HW.out.1 HW.out.2 (cmd 0 key) (env0 (5 + later) 0) rfl (show key.size ≤ 2000000 by have := HKS.out; omega) (show ([] : List UInt8).length ≤ 1100000 by decide) (.inr ⟨rfl, rfl⟩) ⟨by show (0 : Int) ≤ 0; decide, by show (0 : Int) ≤ 18446744073709551615; decide⟩ ⟨by show (0 : Int) ≤ 0; decide, by show (0 : Int) ≤ 18446744073709551615; decide⟩) rfl
      go_wp2_with fail
      refine hdo.mono ?_
      rintro e wD ⟨f3, r3, t3, a3, n3, k3, hf, hr, rfl, hn, hL⟩
      have HR3 := Lib.hid (And.intro hf (And.intro hr (And.intro hn HL.out.inv)))
      have HC3 := Lib.hid HL.out.2
      clear HL
      have HL := Lib.hid hL
      clear hf hr hn hL hdo 
      go_upto_region 12 with (fail)
      have hA := HL.out.alloc (.cells (r3.arr (.slice a3 n3 k3)) 37)
      obtain ⟨w3, hw3⟩ : ∃ w3, wD.alloc (.cells (r3.arr (.slice a3 n3 k3)) 37) = w3 := ⟨_, rfl⟩
      obtain ⟨p3, hp3⟩ : ∃ p3, wD.heap.size = p3 := ⟨_, rfl⟩
      rw [hw3, hp3] at hA
      unfold Res.arr at hw3
      rw [hw3, hp3]
      clear hw3 hp3 HL
      have HL := Lib.hid hA
      clear hA
      have hbx := HL.out.row (List.Mem.tail _ (List.Mem.tail _ (List.Mem.head _)))
      have a0 := Mem.row_cell hbx 0
      simp only [Res.arr, List.getElem?_toArray, List.getElem?_cons_zero] at a0
      clear hbx
      by_cases h2 : r1.status = 2
      · have hpl := touches_law (s1 := t1) (s2 := t2) (f1 := f1) (f2 := f2) (f3 := f3) HR1.out.2.2.2.choose_spec.choose_spec key (Nat.le_trans HKS.out (by decide)) exp later HE.out.1 HE.out.2 false HR1.out.1 (by rw [HR1.out.2.1]) HR2.out.2.2.2 (show t2 = (run { cmd 2 key with exp := exp } (env0 5 0) f2 t1).2 by rw [HR2.out.2.1]) HR3.out.2.2.2 (by rw [HR1.out.2.1]; exact h2)
        have k1 : (run { cmd 2 key with exp := exp } (env0 5 0) f2 t1).1.status = 6 := hpl.1
        have k2 : false = true → (run { cmd 2 key with exp := exp } (env0 5 0) f2 t1).1.ttl = exp := hpl.2.1
        rw [HR2.out.2.1] at k1 k2
        replace k1 : r2.status = 6 := k1
        rw [HR3.out.2.1] at hpl
        have k3 : r3.status = if exp ≤ later then 1 else 0 := hpl.2.2.1
        have k4 : ¬ exp ≤ later → r3.ttl = exp - later := hpl.2.2.2
        clear hpl
        rw [h2] at a0
        clear h2
        have hbx := HL.out.row (List.Mem.tail _ (List.Mem.head _))
        have b0 := Mem.row_cell hbx 0
        simp only [Res.arr, List.getElem?_toArray, List.getElem?_cons_zero] at b0
        clear hbx
        rw [k1] at b0
        clear k1
        clear k2
        by_cases hle : exp ≤ later
        · rw [if_pos hle] at k3
          have hbx := HL.out.row (List.Mem.head _)
          have d0 := Mem.row_cell hbx 0
          simp only [Res.arr, List.getElem?_toArray, List.getElem?_cons_zero] at d0
          clear hbx
          rw [k3] at d0
          clear k3 k4
          go_wp2_with fail
          go_ret
          exact ⟨rfl, HL.out.low⟩
        · rw [if_neg hle] at k3
          have k5 := k4 hle
          have hbx := HL.out.row (List.Mem.head _)
          have d0 := Mem.row_cell hbx 0
          have d4 := Mem.row_cell hbx 4
          simp only [Res.arr, List.getElem?_toArray, List.getElem?_cons_zero, List.getElem?_cons_succ] at d0 d4
          clear hbx
          rw [k3] at d0
          rw [k5] at d4
          clear k3 k4 k5
          have hlt : later < exp := by omega
          have hyy : (exp - later == exp - later) = true := by simp
          clear hle
          go_wp2_with fail
          go_ret
          exact ⟨rfl, HL.out.low⟩
      · have h2b : (r1.status != 2) = true := by simpa using h2
        clear h2
        go_wp2_with fail
        go_ret
        exact ⟨rfl, HL.out.low⟩
    · have hdo := calls_args (args' := #[.pointer (some ⟨b, 0, none⟩), .agg #[.int .i64 1, .string key, .slice none 0 0, .int .u32 0, .int .i64 exp, .int .u64 0, .int .u64 0, .int .u64 0, .bool false, .bool false], .agg #[.int .i64 5, .int .u64 0, .int .i64 0, .int .u64 0]]) (do_law HL.out (by have := HLN.out; omega) HW.out.1 HW.out.2 ({ cmd 1 key with exp := exp }) (env0 5 0) rfl (show key.size ≤ 2000000 by have := HKS.out; omega) (show ([] : List UInt8).length ≤ 1100000 by decide) (.inr ⟨rfl, rfl⟩) ⟨by show (0 : Int) ≤ 0; decide, by show (0 : Int) ≤ 18446744073709551615; decide⟩ ⟨by show (0 : Int) ≤ 0; decide, by show (0 : Int) ≤ 18446744073709551615; decide⟩) rfl
      go_wp2_with fail
      refine hdo.mono ?_
      rintro e wD ⟨f2, r2, t2, a2, n2, k2, hf, hr, rfl, hn, hL⟩
      have HR2 := Lib.hid (And.intro hf (And.intro hr (And.intro hn HL.out.inv)))
      have HC2 := Lib.hid HL.out.2
      clear HL
      have HL := Lib.hid hL
      clear hf hr hn hL hdo 
      go_upto_region 11 with (fail)
      have hA := HL.out.alloc (.cells (r2.arr (.slice a2 n2 k2)) 37)
      obtain ⟨w2, hw2⟩ : ∃ w2, wD.alloc (.cells (r2.arr (.slice a2 n2 k2)) 37) = w2 := ⟨_, rfl⟩
      obtain ⟨p2, hp2⟩ : ∃ p2, wD.heap.size = p2 := ⟨_, rfl⟩
      rw [hw2, hp2] at hA
      unfold Res.arr at hw2
      rw [hw2, hp2]
      clear hw2 hp2 HL
      have HL := Lib.hid hA
      clear hA
      have hdo := calls_args (args' := #[.pointer (some ⟨b, 0, none⟩), .agg #[.int .i64 0, .string key, .slice none 0 0, .int .u32 0, .int .i64 0, .int .u64 0, .int .u64 0, .int .u64 0, .bool false, .bool false], .agg #[.int .i64 (5 + later), .int .u64 0, .int .i64 0, .int .u64 0]]) (do_law HL.out (by have := HLN.out; omega) HW.out.1 HW.out.2 (cmd 0 key) (env0 (5 + later) 0) rfl (show key.size ≤ 2000000 by have := HKS.out; omega) (show ([] : List UInt8).length ≤ 1100000 by decide) (.inr ⟨rfl, rfl⟩) ⟨by show (0 : Int) ≤ 0; decide, by show (0 : Int) ≤ 18446744073709551615; decide⟩ ⟨by show (0 : Int) ≤ 0; decide, by show (0 : Int) ≤ 18446744073709551615; decide⟩) rfl
      go_wp2_with fail
      refine hdo.mono ?_
      rintro e wD ⟨f3, r3, t3, a3, n3, k3, hf, hr, rfl, hn, hL⟩
      have HR3 := Lib.hid (And.intro hf (And.intro hr (And.intro hn HL.out.inv)))
      have HC3 := Lib.hid HL.out.2
      clear HL
      have HL := Lib.hid hL
      clear hf hr hn hL hdo 
      go_upto_region 12 with (fail)
      have hA := HL.out.alloc (.cells (r3.arr (.slice a3 n3 k3)) 37)
      obtain ⟨w3, hw3⟩ : ∃ w3, wD.alloc (.cells (r3.arr (.slice a3 n3 k3)) 37) = w3 := ⟨_, rfl⟩
      obtain ⟨p3, hp3⟩ : ∃ p3, wD.heap.size = p3 := ⟨_, rfl⟩
      rw [hw3, hp3] at hA
      unfold Res.arr at hw3
      rw [hw3, hp3]
      clear hw3 hp3 HL
      have HL := Lib.hid hA
      clear hA
      have hbx := HL.out.row (List.Mem.tail _ (List.Mem.tail _ (List.Mem.head _)))
      have a0 := Mem.row_cell hbx 0
      simp only [Res.arr, List.getElem?_toArray, List.getElem?_cons_zero] at a0
      clear hbx
      by_cases h2 : r1.status = 2
      · have hpl := touches_law (s1 := t1) (s2 := t2) (f1 := f1) (f2 := f2) (f3 := f3) HR1.out.2.2.2.choose_spec.choose_spec key (Nat.le_trans HKS.out (by decide)) exp later HE.out.1 HE.out.2 true HR1.out.1 (by rw [HR1.out.2.1]) HR2.out.2.2.2 (show t2 = (run { cmd 1 key with exp := exp } (env0 5 0) f2 t1).2 by rw [HR2.out.2.1]) HR3.out.2.2.2 (by rw [HR1.out.2.1]; exact h2)
        have k1 : (run { cmd 1 key with exp := exp } (env0 5 0) f2 t1).1.status = 0 := hpl.1
        have k2 : true = true → (run { cmd 1 key with exp := exp } (env0 5 0) f2 t1).1.ttl = exp := hpl.2.1
        rw [HR2.out.2.1] at k1 k2
        replace k1 : r2.status = 0 := k1
        rw [HR3.out.2.1] at hpl
        have k3 : r3.status = if exp ≤ later then 1 else 0 := hpl.2.2.1
        have k4 : ¬ exp ≤ later → r3.ttl = exp - later := hpl.2.2.2
        clear hpl
        rw [h2] at a0
        clear h2
        have hbx := HL.out.row (List.Mem.tail _ (List.Mem.head _))
        have b0 := Mem.row_cell hbx 0
        have b4 := Mem.row_cell hbx 4
        simp only [Res.arr, List.getElem?_toArray, List.getElem?_cons_zero, List.getElem?_cons_succ] at b0 b4
        clear hbx
        rw [k1] at b0
        clear k1
        have k2 : r2.ttl = exp := k2 rfl
        rw [k2] at b4
        clear k2
        have hxx : (exp != exp) = false := by simp
        by_cases hle : exp ≤ later
        · rw [if_pos hle] at k3
          have hbx := HL.out.row (List.Mem.head _)
          have d0 := Mem.row_cell hbx 0
          simp only [Res.arr, List.getElem?_toArray, List.getElem?_cons_zero] at d0
          clear hbx
          rw [k3] at d0
          clear k3 k4
          go_wp2_with fail
          go_ret
          exact ⟨rfl, HL.out.low⟩
        · rw [if_neg hle] at k3
          have k5 := k4 hle
          have hbx := HL.out.row (List.Mem.head _)
          have d0 := Mem.row_cell hbx 0
          have d4 := Mem.row_cell hbx 4
          simp only [Res.arr, List.getElem?_toArray, List.getElem?_cons_zero, List.getElem?_cons_succ] at d0 d4
          clear hbx
          rw [k3] at d0
          rw [k5] at d4
          clear k3 k4 k5
          have hlt : later < exp := by omega
          have hyy : (exp - later == exp - later) = true := by simp
          clear hle
          go_wp2_with fail
          go_ret
          exact ⟨rfl, HL.out.low⟩
      · have h2b : (r1.status != 2) = true := by simpa using h2
        clear h2
        go_wp2_with fail
        go_ret
        exact ⟨rfl, HL.out.low⟩
end Go.Proofs.YtodoglljjhdbeaaGreatDoor.ExecTouches

