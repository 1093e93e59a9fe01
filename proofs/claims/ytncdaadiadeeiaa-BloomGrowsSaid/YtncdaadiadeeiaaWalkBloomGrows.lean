/- BloomGrows answers true for every seed and list of calls. Conditions: the numbers are of their types. -/
import Derived.Test.YtncdaadiadeeiaaBloom4
import Derived.Test.YtncdaadiadeeiaaBloom5
namespace Go.Proofs.Ytncdaadiadeeiaa.BloomGrows
open Go Go.RowKit Go.Proofs.Ytncdaadiadeeiaa.Bloom Go.Proofs.Ytncdaadiadeeiaa.Mem Go.Proofs.Ytncdaadiadeeiaa.Ops

set_option maxRecDepth 20000 in
set_option maxHeartbeats 4000000 in
theorem walk (W : World) (seed : Int) (x : Option Addr) (n c : Nat) (l : List Bloom.Op) (hseed : 0 ≤ seed ∧ seed ≤ 18446744073709551615) (hl : n = l.length ∧ n ≤ maxLen ∧ (∀ a ∈ l, OpOk a) ∧ Lies W 2 encO x l) :
    Calls Try.prog 9 #[.int .u64 seed, .slice x n c] W fun e W' => e = .returned (.bool true) ∧ Below W.heap.size W W' := by
  obtain ⟨rfl, hn, hok, hlies⟩ := hl
  have HL := Lib.hid (And.intro hlies hok)
  unfold maxLen at hn
  clear hlies hok
  go_enter Try.func9, Try.ntmps9
  go_wp2_with fail
  refine (awake_any _).mono ?_
  rintro e w1 ⟨rfl, hb1⟩
  go_wp2_with fail
  refine (short_any c 100 hn HL.out.2 (HL.out.1.same hb1)).mono ?_
  rintro e w2 ⟨⟨q, rfl, hq⟩, rfl⟩
  go_wp2_with fail
  refine (new_run hseed hb1).mono ?_
  rintro e w2 ⟨b, rfl, r0, -, -⟩
  clear hb1
  have H0 := Lib.hid r0
  have HQ := Lib.hid hq
  clear r0 hq
  cases q
  · go_wp2_with fail
    go_ret
    exact ⟨rfl, H0.out.below⟩
  obtain ⟨h100, hops⟩ := HQ.out.1 rfl
  have HO := Lib.hid hops
  clear hops
  go_wp2_with fail
  go_loopg [8] l.length (fun g i wr => ∃ (m : Nat) (k : St), i = .int .i64 m ∧ g + m = l.length ∧ Hid (Run W wr b k))
  case atStart => exact ⟨0, new seed, rfl, by omega, H0⟩
  case round =>
    obtain ⟨m, k, rfl, hg, HR⟩ := hrel
    clear H0
    by_cases hm : m < l.length
    · obtain ⟨o, ho⟩ : ∃ o, l[m]? = some o := ⟨_, List.getElem?_eq_getElem hm⟩
      obtain ⟨B, off, rfl, hB, hc⟩ := HL.out.1 m o ho
      have hos := HO.out o (List.mem_of_getElem? ho)
      have HG := Lib.hid (And.intro hg ho)
      have HC := Lib.hid (And.intro hB hc)
      have hmi : (m : Int) < l.length := by omega
      clear hg hc ho
      obtain ⟨a1, a2, a3⟩ := add_ones k o.s.data.toList
      have hle := ones_le k.w 512
      have hsz : o.s.size ≤ maxLen := by unfold maxLen; omega
      have cs := (World.cell?_of_block (HR.out.below.block B HC.out.1)).trans (HC.out.2 1 _ rfl)
      obtain ⟨u, hu⟩ : ∃ u, k.ones = u := ⟨_, rfl⟩
      obtain ⟨v, hv⟩ : ∃ v, (k.add o.s.data.toList).ones = v := ⟨_, rfl⟩
      obtain ⟨q, hq⟩ : ∃ q, k.has o.s.data.toList = q := ⟨_, rfl⟩
      rw [hu] at a1 a2 a3
      rw [hv] at a1 a2 a3
      rw [hq] at a3
      have hu5 : u ≤ 512 := by rw [← hu]; exact hle
      have HV := Lib.hid (And.intro hu (And.intro hv hq))
      clear hu hv hq hle
      go_wp2_with fail
      refine (ones_run HR.out).mono ?_
      rintro e w3 ⟨rfl, rfl⟩
      rw [HV.out.1]
      go_wp2_with fail
      refine (has_run HR.out o.s hsz).mono ?_
      rintro e w3 ⟨rfl, hR3, -⟩
      rw [HV.out.2.2]
      have H3 := Lib.hid hR3
      have cs3 := (World.cell?_of_block (hR3.below.block B HC.out.1)).trans (HC.out.2 1 _ rfl)
      clear hR3 cs
      go_wp2_with fail
      refine (add_run H3.out o.s hsz).mono ?_
      rintro e w4 ⟨rfl, hR4, -⟩
      rw [HV.out.2.2]
      have H4 := Lib.hid hR4
      clear hR4 cs3
      go_wp2_with fail
      refine (ones_run H4.out).mono ?_
      rintro e w5 ⟨rfl, rfl⟩
      rw [HV.out.2.1]
      have hvi : (u : Int) ≤ v := by omega
      have hvi3 : (v : Int) ≤ (u : Int) + 3 := by omega
      have heq : ((v : Int) == (u : Int)) = q := by
        rw [Bool.eq_iff_iff, ← a3]; simp; omega
      have hqq : ∀ b : Bool, (b != b) = false := fun b => by cases b <;> rfl
      clear a1 a2 a3
      cases q
      all_goals
        go_wp2_with fail
        go_roundg (l.length - (m + 1))
        case measure => have := HG.out.1; omega
        case rel => exact ⟨m + 1, _, by go_num, by have := HG.out.1; omega, H4⟩
    · have hml : (l.length : Int) ≤ m := by omega
      go_wp2_with fail
      go_ret
      exact ⟨rfl, HR.out.below⟩
end Go.Proofs.Ytncdaadiadeeiaa.BloomGrows
