/- BloomApart answers true for every seed, list of calls and text. Conditions: the numbers are of their types. -/
import Derived.Test.YtncdaadiadeeiaaBloom4
import Derived.Test.YtncdaadiadeeiaaBloom5
namespace Go.Proofs.Ytncdaadiadeeiaa.BloomApart
open Go Go.RowKit Go.Proofs.Ytncdaadiadeeiaa.Bloom Go.Proofs.Ytncdaadiadeeiaa.Mem Go.Proofs.Ytncdaadiadeeiaa.Ops

set_option maxRecDepth 20000 in
set_option maxHeartbeats 4000000 in
theorem walk (W : World) (seed : Int) (x : Option Addr) (n c : Nat) (l : List Bloom.Op) (s : ByteArray) (hseed : 0 ≤ seed ∧ seed ≤ 18446744073709551615) (hl : n = l.length ∧ n ≤ maxLen ∧ (∀ a ∈ l, OpOk a) ∧ Lies W 2 encO x l) (hs : s.size ≤ maxLen) :
    Calls Try.prog 12 #[.int .u64 seed, .slice x n c, .string s] W fun e W' => e = .returned (.bool true) ∧ Below W.heap.size W W' := by
  obtain ⟨rfl, hn, hok, hlies⟩ := hl
  have HL := Lib.hid (And.intro hlies (And.intro hok hs))
  unfold maxLen at hn hs
  clear hlies hok
  go_enter Try.func12, Try.ntmps12
  go_wp2_with fail
  refine (awake_any _).mono ?_
  rintro e w1 ⟨rfl, hb1⟩
  go_wp2_with fail
  refine (short_any c 100 hn HL.out.2.1 (HL.out.1.same hb1)).mono ?_
  rintro e w2 ⟨⟨q, rfl, hq⟩, rfl⟩
  go_wp2_with fail
  refine (new_run hseed hb1).mono ?_
  rintro e w2 ⟨b, rfl, r0, -, -⟩
  clear hb1
  have H0 := Lib.hid r0
  have HQ := Lib.hid hq
  clear r0 hq
  cases q
  · go_wp2_with fail
    go_ret
    exact ⟨rfl, H0.out.below⟩
  by_cases hs3 : 300 < s.size
  · have hsi : (300 : Int) < s.size := by omega
    go_wp2_with fail
    go_ret
    exact ⟨rfl, H0.out.below⟩
  have hsi : (s.size : Int) ≤ 300 := by omega
  obtain ⟨h100, hops⟩ := HQ.out.1 rfl
  have HO := Lib.hid hops
  clear hops
  go_wp2_with fail
  go_loopg [10] l.length (fun g i wr => ∃ (m : Nat) (k : St), i = .int .i64 m ∧ g + m = l.length ∧ Hid (Run W wr b k))
  case atStart => exact ⟨0, new seed, rfl, by omega, H0⟩
  case round =>
    obtain ⟨m, k, rfl, hg, HR⟩ := hrel
    clear H0
    by_cases hm : m < l.length
    · obtain ⟨o, ho⟩ : ∃ o, l[m]? = some o := ⟨_, List.getElem?_eq_getElem hm⟩
      obtain ⟨B, off, rfl, hB, hc⟩ := HL.out.1 m o ho
      have hos := HO.out o (List.mem_of_getElem? ho)
      have hsz : o.s.size ≤ maxLen := by unfold maxLen; omega
      have hmi : (m : Int) < l.length := by omega
      have cs := (World.cell?_of_block (HR.out.below.block B hB)).trans (hc 1 _ rfl)
      have HG := Lib.hid hg
      clear hg hc ho hB
      go_wp2_with fail
      refine (add_run HR.out o.s hsz).mono ?_
      rintro e w4 ⟨rfl, hR4, -⟩
      generalize k.has o.s.data.toList = q at *
      have H4 := Lib.hid hR4
      clear hR4 cs
      go_wp2_with fail
      go_roundg (l.length - (m + 1))
      case measure => have := HG.out; omega
      case rel => exact ⟨m + 1, _, by go_num, by have := HG.out; omega, H4⟩
    · have hml : (l.length : Int) ≤ m := by omega
      have hss := HL.out.2.2
      have hge := (add_ones k s.data.toList).1
      obtain ⟨u, hu0⟩ : ∃ u, k.ones = u := ⟨_, rfl⟩
      obtain ⟨v, hv0⟩ : ∃ v, (k.add s.data.toList).ones = v := ⟨_, rfl⟩
      obtain ⟨q, hq0⟩ : ∃ q, k.has s.data.toList = q := ⟨_, rfl⟩
      rw [hu0, hv0] at hge
      have hgei : (u : Int) ≤ v := by omega
      have HV := Lib.hid (And.intro hu0 (And.intro hv0 hq0))
      clear hu0 hv0 hq0 hg hge HL
      have hqq : (q == q) = true := by cases q <;> rfl
      go_wp2_with fail
      refine (ones_run HR.out).mono ?_
      rintro e w4 ⟨rfl, rfl⟩
      rw [HV.out.1]
      go_wp2_with fail
      refine (has_run HR.out s hss).mono ?_
      rintro e w4 ⟨rfl, hR4, -⟩
      rw [HV.out.2.2]
      have H4 := Lib.hid hR4
      clear hR4 HR
      go_wp2_with fail
      refine (copy_run H4.out).mono ?_
      rintro e w5 ⟨b1, rfl, hR5, hC5, hl5, -⟩
      have H5 := Lib.hid (And.intro hR5 (And.intro hC5 (show b < b1 by have := H4.out.at_.lt; omega)))
      clear hR5 hC5 hl5 H4
      go_wp2_with fail
      refine (copy_run H5.out.1).mono ?_
      rintro e w6 ⟨b2, rfl, hR6, hC6, hl6, hb6⟩
      have H6 := Lib.hid (And.intro hR6 (And.intro (H5.out.2.1.step hb6) (And.intro hC6 (show b1 < b2 by have := H5.out.2.1.at_.lt; omega))))
      clear hR6 hC6 hl6 hb6
      go_wp2_with fail
      refine (add_run H6.out.2.1 s hss).mono ?_
      rintro e w7 ⟨rfl, hR7, ho7⟩
      rw [HV.out.2.2]
      have H7 := Lib.hid (And.intro (H6.out.1.other ho7 (fun j e => by subst e; exact ⟨by have := H5.out.2.2; omega, H5.out.2.1.low⟩)) (And.intro hR7 (H6.out.2.2.1.other ho7 (fun j e => by subst e; exact ⟨by have := H6.out.2.2.2; omega, H5.out.2.1.low⟩))))
      clear hR7 ho7
      go_wp2_with fail
      refine (clear_run H7.out.2.2).mono ?_
      rintro e w8 ⟨rfl, hR8, ho8⟩
      have H8 := Lib.hid (And.intro (H7.out.1.other ho8 (fun j e => by subst e; exact ⟨by have := H5.out.2.2; have := H6.out.2.2.2; omega, H6.out.2.2.1.low⟩)) (And.intro (H7.out.2.1.other ho8 (fun j e => by subst e; exact ⟨by have := H6.out.2.2.2; omega, H6.out.2.2.1.low⟩)) hR8))
      clear hR8 ho8
      go_wp2_with fail
      refine (ones_run H8.out.1).mono ?_
      rintro e w9 ⟨rfl, rfl⟩
      rw [HV.out.1]
      go_wp2_with fail
      refine (has_run H8.out.1 s hss).mono ?_
      rintro e w9 ⟨rfl, hR9, hb9⟩
      rw [HV.out.2.2]
      have H9 := Lib.hid (And.intro hR9 (And.intro (H8.out.2.1.step hb9) (H8.out.2.2.step hb9)))
      clear hR9 hb9
      have hhas := has_run H9.out.2.1 s hss
      rw [has_add] at hhas
      go_wp2_with fail
      refine hhas.mono ?_
      rintro e w10 ⟨rfl, hR10, hb10⟩
      have H10 := Lib.hid (And.intro hR10 (H9.out.2.2.step hb10))
      clear hR10 hb10 hhas
      go_wp2_with fail
      refine (ones_run H10.out.1).mono ?_
      rintro e w11 ⟨rfl, rfl⟩
      rw [HV.out.2.1]
      have hones := ones_run H10.out.2
      rw [ones_clear] at hones
      go_wp2_with fail
      refine hones.mono ?_
      rintro e w12 ⟨rfl, rfl⟩
      go_wp2_with fail
      go_ret
      exact ⟨rfl, H10.out.1.below⟩
end Go.Proofs.Ytncdaadiadeeiaa.BloomApart
