/- BloomKeeps answers true for every seed, list of calls and text. Conditions: the numbers are of their types. -/
import Derived.Test.YtncdaadiadeeiaaBloom4
import Derived.Test.YtncdaadiadeeiaaBloom5
namespace Go.Proofs.Ytncdaadiadeeiaa.BloomKeeps
open Go Go.RowKit Go.Proofs.Ytncdaadiadeeiaa.Bloom Go.Proofs.Ytncdaadiadeeiaa.Mem Go.Proofs.Ytncdaadiadeeiaa.Ops

def Kept (k : St) (l : List Bloom.Op) : Prop := ∀ o ∈ l, k.has o.s.data.toList = true
theorem Kept.add {k : St} {l : List Bloom.Op} (h : Kept k l) (o : Bloom.Op) : Kept (k.add o.s.data.toList) (l ++ [o]) := fun o' ho' => by
  rcases List.mem_append.1 ho' with h1 | h1
  · exact has_mono _ (h o' h1)
  · rw [List.mem_singleton] at h1; subst h1; exact has_add _ _

set_option maxRecDepth 20000 in
set_option maxHeartbeats 4000000 in
theorem walk (W : World) (seed : Int) (x : Option Addr) (n c : Nat) (l : List Bloom.Op) (s : ByteArray) (hseed : 0 ≤ seed ∧ seed ≤ 18446744073709551615) (hl : n = l.length ∧ n ≤ maxLen ∧ (∀ a ∈ l, OpOk a) ∧ Lies W 2 encO x l) (hs : s.size ≤ maxLen) :
    Calls Try.prog 10 #[.int .u64 seed, .slice x n c, .string s] W fun e W' => e = .returned (.bool true) ∧ Below W.heap.size W W' := by
  obtain ⟨rfl, hn, hok, hlies⟩ := hl
  have HL := Lib.hid (And.intro hlies (And.intro hok hs))
  unfold maxLen at hn hs
  clear hlies hok
  go_enter Try.func10, Try.ntmps10
  go_wp2_with fail
  refine (awake_any _).mono ?_
  rintro e w1 ⟨rfl, hb1⟩
  go_wp2_with fail
  refine (short_any c 150 hn HL.out.2.1 (HL.out.1.same hb1)).mono ?_
  rintro e w2 ⟨⟨q, rfl, hq⟩, rfl⟩
  go_wp2_with fail
  refine (new_run hseed hb1).mono ?_
  rintro e w2 ⟨b, rfl, r0, -, -⟩
  clear hb1
  have H0 := Lib.hid r0
  have HQ := Lib.hid hq
  clear r0 hq
  cases q
  · go_wp2_with fail
    go_ret
    exact ⟨rfl, H0.out.below⟩
  by_cases hs3 : 300 < s.size
  · have hsi : (300 : Int) < s.size := by omega
    go_wp2_with fail
    go_ret
    exact ⟨rfl, H0.out.below⟩
  have hsi : (s.size : Int) ≤ 300 := by omega
  obtain ⟨h150, hops⟩ := HQ.out.1 rfl
  have HO := Lib.hid hops
  clear hops
  go_wp2_with fail
  refine (has_run H0.out s HL.out.2.2).mono ?_
  rintro e w3 ⟨rfl, r1, -⟩
  rw [has_new]
  have H1 := Lib.hid r1
  clear r1 H0
  go_wp2_with fail
  go_loopg [11] l.length (fun g i wr => ∃ (m : Nat) (k : St), i = .int .i64 m ∧ g + m = l.length ∧ Hid (Run W wr b k ∧ Kept k (l.take m) ∧ k.ones ≤ 3 * m))
  case atStart => exact ⟨0, new seed, rfl, by omega, Lib.hid ⟨H1.out, by simp [Kept], by rw [ones_new]; omega⟩⟩
  case round =>
    obtain ⟨m, k, rfl, hg, HR⟩ := hrel
    clear H1
    by_cases hm : m < l.length
    · obtain ⟨o, ho⟩ : ∃ o, l[m]? = some o := ⟨_, List.getElem?_eq_getElem hm⟩
      obtain ⟨B, off, rfl, hB, hc⟩ := HL.out.1 m o ho
      have hos := HO.out o (List.mem_of_getElem? ho)
      have hsz : o.s.size ≤ maxLen := by unfold maxLen; omega
      have hmi : (m : Int) < l.length := by omega
      have cs := (World.cell?_of_block (HR.out.1.below.block B hB)).trans (hc 1 _ rfl)
      have htk : l.take (m + 1) = l.take m ++ [o] := by rw [List.take_add_one, ho]; rfl
      have HG := Lib.hid (And.intro hg htk)
      clear hg hc ho hB htk
      go_wp2_with fail
      refine (add_run HR.out.1 o.s hsz).mono ?_
      rintro e w4 ⟨rfl, hR4, -⟩
      generalize k.has o.s.data.toList = q at *
      have H4 := Lib.hid hR4
      clear hR4 cs
      go_wp2_with fail
      go_roundg (l.length - (m + 1))
      case measure => have := HG.out.1; omega
      case rel => exact ⟨m + 1, _, by go_num, by have := HG.out.1; omega, Lib.hid ⟨H4.out, by rw [HG.out.2]; exact HR.out.2.1.add o, by have := (add_ones k o.s.data.toList).2.1; have := HR.out.2.2; omega⟩⟩
    · have hml : m = l.length := by omega
      subst hml
      have hkept := HR.out.2.1
      rw [List.take_length] at hkept
      have H2 := Lib.hid (And.intro HR.out.1 (And.intro hkept HR.out.2.2))
      clear hkept hg hm HR
      go_wp2_with fail
      go_loopg [12] l.length (fun g i wr => ∃ (j : Nat), i = .int .i64 j ∧ g + j = l.length ∧ Hid (Run W wr b k))
      case atStart => exact ⟨0, rfl, by omega, Lib.hid H2.out.1⟩
      case round =>
        obtain ⟨j, rfl, hg, HR⟩ := hrel
        by_cases hj : j < l.length
        · obtain ⟨o, ho⟩ : ∃ o, l[j]? = some o := ⟨_, List.getElem?_eq_getElem hj⟩
          obtain ⟨B, off, rfl, hB, hc⟩ := HL.out.1 j o ho
          have hos := HO.out o (List.mem_of_getElem? ho)
          have hsz : o.s.size ≤ maxLen := by unfold maxLen; omega
          have hji : (j : Int) < l.length := by omega
          have cs := (World.cell?_of_block (HR.out.below.block B hB)).trans (hc 1 _ rfl)
          have hh := H2.out.2.1 o (List.mem_of_getElem? ho)
          have hcall := has_run HR.out o.s hsz
          rw [hh] at hcall
          have HG := Lib.hid hg
          clear hg hc ho hB hh
          go_wp2_with fail
          refine hcall.mono ?_
          rintro e w4 ⟨rfl, hR4, -⟩
          have H4 := Lib.hid hR4
          clear hR4 cs hcall
          go_wp2_with fail
          go_roundg (l.length - (j + 1))
          case measure => have := HG.out; omega
          case rel => exact ⟨j + 1, by go_num, by have := HG.out; omega, H4⟩
        · have hjl : (l.length : Int) ≤ j := by omega
          have hss := HL.out.2.2
          have hu := H2.out.2.2
          have hfull := ones_full (k := k) (s := s.data.toList)
          obtain ⟨u, hu0⟩ : ∃ u, k.ones = u := ⟨_, rfl⟩
          obtain ⟨q, hq0⟩ : ∃ q, k.has s.data.toList = q := ⟨_, rfl⟩
          rw [hu0] at hu
          rw [hu0] at hfull
          rw [hq0] at hfull
          have hu3 : (u : Int) ≤ 3 * l.length := by omega
          have HV := Lib.hid (And.intro hu0 hq0)
          have HK := Lib.hid hfull
          clear hu hu0 hq0 hg H2 hfull
          go_wp2_with fail
          refine (ones_run HR.out).mono ?_
          rintro e w4 ⟨rfl, rfl⟩
          rw [HV.out.1]
          go_wp2_with fail
          refine (has_run HR.out s hss).mono ?_
          rintro e w4 ⟨rfl, hR4, -⟩
          rw [HV.out.2]
          have H4 := Lib.hid hR4
          clear hR4 HR
          go_wp2_with fail
          refine (clear_run H4.out).mono ?_
          rintro e w5 ⟨rfl, hR5, -⟩
          have H5 := Lib.hid hR5
          clear hR5
          have hhas := has_run H5.out s hss
          rw [has_clear] at hhas
          by_cases h512 : u < 512
          · have h512i : (u : Int) < 512 := by omega
            go_wp2_with fail
            refine hhas.mono ?_
            rintro e w6 ⟨rfl, hR6, -⟩
            have H6 := Lib.hid hR6
            have hones := ones_run hR6
            rw [ones_clear] at hones
            clear hR6
            go_wp2_with fail
            refine hones.mono ?_
            rintro e w7 ⟨rfl, rfl⟩
            go_wp2_with fail
            go_ret
            exact ⟨rfl, H6.out.below⟩
          · have h512i : (512 : Int) ≤ u := by omega
            obtain rfl := HK.out (by omega)
            go_wp2_with fail
            refine hhas.mono ?_
            rintro e w6 ⟨rfl, hR6, -⟩
            have H6 := Lib.hid hR6
            have hones := ones_run hR6
            rw [ones_clear] at hones
            clear hR6
            go_wp2_with fail
            refine hones.mono ?_
            rintro e w7 ⟨rfl, rfl⟩
            go_wp2_with fail
            go_ret
            exact ⟨rfl, H6.out.below⟩
end Go.Proofs.Ytncdaadiadeeiaa.BloomKeeps
