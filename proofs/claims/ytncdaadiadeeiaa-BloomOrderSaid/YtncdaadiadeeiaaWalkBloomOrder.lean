/- BloomOrder answers true for every seed, list of calls, index and text. Conditions: the numbers are of their types. -/
import Derived.Test.YtncdaadiadeeiaaBloom4
import Derived.Test.YtncdaadiadeeiaaBloom5
namespace Go.Proofs.Ytncdaadiadeeiaa.BloomOrder
open Go Go.RowKit Go.Proofs.Ytncdaadiadeeiaa.Bloom Go.Proofs.Ytncdaadiadeeiaa.Mem Go.Proofs.Ytncdaadiadeeiaa.Ops

def Txt (l : List Bloom.Op) (t : List UInt8) : Prop := ∃ o ∈ l, t = o.s.data.toList

set_option maxRecDepth 20000 in
set_option maxHeartbeats 4000000 in
theorem walk (W : World) (seed : Int) (x : Option Addr) (n c : Nat) (l : List Bloom.Op) (k : Int) (s : ByteArray) (hseed : 0 ≤ seed ∧ seed ≤ 18446744073709551615) (hl : n = l.length ∧ n ≤ maxLen ∧ (∀ a ∈ l, OpOk a) ∧ Lies W 2 encO x l) (hk : -9223372036854775808 ≤ k ∧ k ≤ 9223372036854775807) (hs : s.size ≤ maxLen) :
    Calls Try.prog 8 #[.int .u64 seed, .slice x n c, .int .i64 k, .string s] W fun e W' => e = .returned (.bool true) ∧ Below W.heap.size W W' := by
  obtain ⟨rfl, hn, hok, hlies⟩ := hl
  have HL := Lib.hid (And.intro hlies (And.intro hok hs))
  unfold maxLen at hn hs
  clear hlies hok
  go_enter Try.func8, Try.ntmps8
  go_wp2_with fail
  refine (awake_any _).mono ?_
  rintro e w1 ⟨rfl, hb1⟩
  go_wp2_with fail
  refine (short_any c 100 hn HL.out.2.1 (HL.out.1.same hb1)).mono ?_
  rintro e w2 ⟨⟨q, rfl, hq⟩, rfl⟩
  go_wp2_with fail
  refine (new_run hseed hb1).mono ?_
  rintro e w2 ⟨b, rfl, r0, -, -⟩
  clear hb1
  have H0 := Lib.hid r0
  have HQ := Lib.hid hq
  clear r0 hq
  go_wp2_with fail
  refine (new_run hseed H0.out.below).mono ?_
  rintro e w3 ⟨b', rfl, r1, hl1, hb1⟩
  have H1 := Lib.hid (And.intro (H0.out.step hb1) (And.intro r1 (show b < b' by have := H0.out.at_.lt; omega)))
  clear r1 hl1 hb1 H0
  cases q
  · go_wp2_with fail
    go_ret
    exact ⟨rfl, H1.out.1.below⟩
  by_cases hk0 : k < 0
  · go_wp2_with fail
    go_ret
    exact ⟨rfl, H1.out.1.below⟩
  have hk0' : 0 ≤ k := by omega
  by_cases hkl : (l.length : Int) ≤ k
  · go_wp2_with fail
    go_ret
    exact ⟨rfl, H1.out.1.below⟩
  obtain ⟨kk, rfl⟩ := Int.eq_ofNat_of_zero_le hk0'
  have hkl' : (kk : Int) < l.length := by omega
  by_cases hs3 : 300 < s.size
  · have hsi : (300 : Int) < s.size := by omega
    go_wp2_with fail
    go_ret
    exact ⟨rfl, H1.out.1.below⟩
  have hsi : (s.size : Int) ≤ 300 := by omega
  obtain ⟨h100, hops⟩ := HQ.out.1 rfl
  have HO := Lib.hid hops
  have hd0 : decide ((kk : Int) < 0) = false := by simp
  have hd1 : decide (l.length ≤ kk) = false := by simp; omega
  clear hops hk0 hkl hk
  go_wp2_with fail
  go_loopg [13] l.length (fun g i wr => ∃ (m : Nat) (f : St), i = .int .i64 m ∧ g + m = l.length ∧ Hid (Run W wr b f ∧ Run W wr b' (new seed) ∧ f.seed = seed ∧ Of f (Txt (l.take m))))
  case atStart => exact ⟨0, new seed, rfl, by omega, Lib.hid ⟨H1.out.1, H1.out.2.1, rfl, (Of.new seed).congr fun t => by simp [Txt]⟩⟩
  case round =>
    obtain ⟨m, f, rfl, hg, HR⟩ := hrel
    have hbb := H1.out.2.2
    clear H1
    by_cases hm : m < l.length
    · obtain ⟨o, ho⟩ : ∃ o, l[m]? = some o := ⟨_, List.getElem?_eq_getElem hm⟩
      obtain ⟨B, off, rfl, hB, hc⟩ := HL.out.1 m o ho
      have hos := HO.out o (List.mem_of_getElem? ho)
      have hsz : o.s.size ≤ maxLen := by unfold maxLen; omega
      have hmi : (m : Int) < l.length := by omega
      have cs := (World.cell?_of_block (HR.out.1.below.block B hB)).trans (hc 1 _ rfl)
      have htk : l.take (m + 1) = l.take m ++ [o] := by rw [List.take_add_one, ho]; rfl
      have HG := Lib.hid (And.intro hg htk)
      clear hg hc ho hB htk
      go_wp2_with fail
      refine (add_run HR.out.1 o.s hsz).mono ?_
      rintro e w4 ⟨rfl, hR4, ho4⟩
      generalize f.has o.s.data.toList = q at *
      have H4 := Lib.hid (And.intro hR4 (HR.out.2.1.other ho4 (fun j e => by subst e; exact ⟨by omega, hR4.low⟩)))
      clear hR4 cs ho4
      go_wp2_with fail
      go_roundg (l.length - (m + 1))
      case measure => have := HG.out.1; omega
      case rel =>
        refine ⟨m + 1, _, by go_num, by have := HG.out.1; omega, Lib.hid ⟨H4.out.1, H4.out.2, HR.out.2.2.1, (HR.out.2.2.2.add o.s.data.toList).congr fun t => ?_⟩⟩
        rw [HG.out.2]
        simp only [Txt, List.mem_append, List.mem_singleton]
        constructor
        · rintro (⟨o', h1, h2⟩ | h2)
          · exact ⟨o', .inl h1, h2⟩
          · exact ⟨o, .inr rfl, h2⟩
        · rintro ⟨o', h1 | rfl, h2⟩
          · exact .inl ⟨o', h1, h2⟩
          · exact .inr h2
    · have hml : m = l.length := by omega
      subst hml
      have hof := HR.out.2.2.2
      rw [List.take_length] at hof
      have H2 := Lib.hid (And.intro HR.out.1 (And.intro HR.out.2.1 (And.intro HR.out.2.2.1 hof)))
      clear hof hg hm HR
      go_wp2_with fail
      go_loopg [14] l.length (fun g i wr => ∃ (ii : Int) (f2 : St), i = .int .i64 ii ∧ Hid (ii = (g : Int) - 1 ∧ g ≤ l.length) ∧ Hid (Run W wr b f ∧ Run W wr b' f2 ∧ f2.seed = seed ∧ Of f2 (Txt (l.drop g))))
      case atStart => exact ⟨_, new seed, rfl, Lib.hid ⟨rfl, Nat.le_refl _⟩, Lib.hid ⟨H2.out.1, H2.out.2.1, rfl, (Of.new seed).congr fun t => by simp [Txt]⟩⟩
      case round =>
        obtain ⟨ii, f2, rfl, HG, HR⟩ := hrel
        by_cases hj : 0 < gk
        · obtain ⟨m, rfl⟩ : ∃ m, gk = m + 1 := ⟨gk - 1, by omega⟩
          obtain rfl : ii = (m : Int) := by have := HG.out.1; omega
          have hml : m < l.length := by have := HG.out.2; omega
          obtain ⟨o, ho⟩ : ∃ o, l[m]? = some o := ⟨_, List.getElem?_eq_getElem hml⟩
          obtain ⟨B, off, rfl, hB, hc⟩ := HL.out.1 m o ho
          have hos := HO.out o (List.mem_of_getElem? ho)
          have hsz : o.s.size ≤ maxLen := by unfold maxLen; omega
          have hmi : (m : Int) < l.length := by omega
          have cs := (World.cell?_of_block (HR.out.1.below.block B hB)).trans (hc 1 _ rfl)
          have htk : l.drop m = o :: l.drop (m + 1) := by
            rw [List.drop_eq_getElem_cons hml]
            congr 1
            rw [List.getElem?_eq_getElem hml] at ho
            injection ho
          have HT := Lib.hid htk
          clear hc ho hB htk
          go_wp2_with fail
          refine (add_run HR.out.2.1 o.s hsz).mono ?_
          rintro e w4 ⟨rfl, hR4, ho4⟩
          generalize f2.has o.s.data.toList = q at *
          have H4 := Lib.hid (And.intro hR4 (HR.out.1.other ho4 (fun j e => by subst e; exact ⟨by omega, hR4.low⟩)))
          clear hR4 cs ho4
          go_wp2_with fail
          go_roundg m
          case measure => omega
          case rel =>
            refine ⟨_, _, rfl, Lib.hid ⟨rfl, by omega⟩, Lib.hid ⟨H4.out.2, H4.out.1, HR.out.2.2.1, (HR.out.2.2.2.add o.s.data.toList).congr fun t => ?_⟩⟩
            rw [HT.out]
            simp only [Txt, List.mem_cons]
            constructor
            · rintro (⟨o', h1, h2⟩ | h2)
              · exact ⟨o', .inr h1, h2⟩
              · exact ⟨o, .inl rfl, h2⟩
            · rintro ⟨o', rfl | h1, h2⟩
              · exact .inr h2
              · exact .inl ⟨o', h1, h2⟩
        · obtain rfl : gk = 0 := by omega
          obtain rfl : ii = -1 := by have := HG.out.1; omega
          have hof := HR.out.2.2.2
          rw [List.drop_zero] at hof
          have H3 := Lib.hid (And.intro HR.out.1 (And.intro HR.out.2.1 (And.intro HR.out.2.2.1 hof)))
          clear hof HR
          have hkn : kk < l.length := by omega
          obtain ⟨o, ho⟩ : ∃ o, l[kk]? = some o := ⟨_, List.getElem?_eq_getElem hkn⟩
          obtain ⟨B, off, rfl, hB, hc⟩ := HL.out.1 kk o ho
          have hom := List.mem_of_getElem? ho
          have hos := HO.out o hom
          have hsz : o.s.size ≤ maxLen := by unfold maxLen; omega
          have cs := (World.cell?_of_block (H3.out.1.below.block B hB)).trans (hc 1 _ rfl)
          have hss := HL.out.2.2
          have hal := H2.out.2.2.2.alike ((H3.out.2.2.2.add o.s.data.toList).congr (N := Txt l) fun t => by
            constructor
            · rintro (h | rfl)
              · exact h
              · exact ⟨o, hom, rfl⟩
            · exact .inl) (H2.out.2.2.1.trans (by rw [add_seed]; exact H3.out.2.2.1.symm))
          have HA := Lib.hid hal
          clear hc ho hB hom hal H2 HL HO
          go_wp2_with fail
          refine (add_run H3.out.2.1 o.s hsz).mono ?_
          rintro e w4 ⟨rfl, hR4, ho4⟩
          generalize f2.has o.s.data.toList = q at *
          have H4 := Lib.hid (And.intro (H3.out.1.other ho4 (fun j e => by subst e; exact ⟨by omega, hR4.low⟩)) hR4)
          clear hR4 cs ho4
          go_wp2_with fail
          refine (ones_run H4.out.1).mono ?_
          rintro e w5 ⟨rfl, rfl⟩
          go_wp2_with fail
          refine (ones_run H4.out.2).mono ?_
          rintro e w5 ⟨rfl, rfl⟩
          rw [HA.out.1]
          go_wp2_with fail
          refine (has_run H4.out.1 s hss).mono ?_
          rintro e w5 ⟨rfl, hR5, hb5⟩
          rw [HA.out.2]
          have H5 := Lib.hid (And.intro hR5 (H4.out.2.step hb5))
          clear hR5 hb5
          go_wp2_with fail
          refine (has_run H5.out.2 s hss).mono ?_
          rintro e w6 ⟨rfl, hR6, -⟩
          have H6 := Lib.hid hR6.below
          clear hR6
          generalize (f2.add o.s.data.toList).has s.data.toList = q' at *
          have hqq : (q' == q') = true := by cases q' <;> rfl
          go_wp2_with fail
          go_ret
          exact ⟨rfl, H6.out⟩
end Go.Proofs.Ytncdaadiadeeiaa.BloomOrder
