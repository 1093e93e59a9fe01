/- TinyApart answers true for every seed, list of calls and text. Conditions: the numbers are of their types. -/
import Derived.Test.YtncdaadiadeeiaaTiny3
namespace Go.Proofs.Ytncdaadiadeeiaa.TinyApart
open Go Go.RowKit Go.Proofs.Ytncdaadiadeeiaa.Tiny Go.Proofs.Ytncdaadiadeeiaa.Mem Go.Proofs.Ytncdaadiadeeiaa.Ops

set_option maxRecDepth 20000 in
set_option maxHeartbeats 4000000 in
theorem walk (W : World) (seed : Int) (x : Option Addr) (n c : Nat) (l : List Sketch.Op) (s : ByteArray) (hseed : 0 ≤ seed ∧ seed ≤ 18446744073709551615) (hl : n = l.length ∧ n ≤ maxLen ∧ (∀ a ∈ l, Sketch.OpOk a) ∧ Lies W 3 Sketch.encO x l) (hs : s.size ≤ maxLen) :
    Calls Try.prog 16 #[.int .u64 seed, .slice x n c, .string s] W fun e W' => e = .returned (.bool true) ∧ Below W.heap.size W W' := by
  obtain ⟨rfl, hn, hok, hlies⟩ := hl
  have HL := Lib.hid (And.intro hlies (And.intro hok hs))
  unfold maxLen at hs hn
  clear hlies hok
  go_enter Try.func16, Try.ntmps16
  go_wp2_with fail
  refine (awake_any _).mono ?_
  rintro e w1 ⟨rfl, hb1⟩
  go_wp2_with fail
  refine (Sketch.short_any c hn HL.out.2.1 (HL.out.1.same hb1)).mono ?_
  rintro e w2 ⟨⟨q, rfl, hq⟩, rfl⟩
  go_wp2_with fail
  refine (new_run hseed hb1).mono ?_
  rintro e w2 ⟨b, fb, cb, rfl, r0, -, -⟩
  clear hb1
  have H0 := Lib.hid r0
  have HQ := Lib.hid hq
  clear r0 hq
  cases q
  · go_wp2_with fail
    go_ret
    exact ⟨rfl, H0.out.below⟩
  by_cases hs3 : 300 < s.size
  · have hsi : (300 : Int) < s.size := by omega
    go_wp2_with fail
    go_ret
    exact ⟨rfl, H0.out.below⟩
  have hsi : (s.size : Int) ≤ 300 := by omega
  have hsh : Sketch.Shorts l := HQ.out.1 rfl
  obtain ⟨h60, hops⟩ := hsh
  have HO := Lib.hid hops
  clear hops
  go_wp2_with fail
  go_loopg [10] l.length (fun g i wr => ∃ (m : Nat) (k : St), i = .int .i64 m ∧ g + m = l.length ∧ Hid (Run W wr b fb cb k))
  case atStart => exact ⟨0, new seed, rfl, by omega, H0⟩
  case round =>
    obtain ⟨m, k, rfl, hg, HR⟩ := hrel
    clear H0
    by_cases hm : m < l.length
    · obtain ⟨o, ho⟩ : ∃ o, l[m]? = some o := ⟨_, List.getElem?_eq_getElem hm⟩
      obtain ⟨B, off, rfl, hB, hc⟩ := HL.out.1 m o ho
      obtain ⟨hos, hot⟩ := HO.out o (List.mem_of_getElem? ho)
      obtain ⟨t0, t1⟩ := (HL.out.2.1 o (List.mem_of_getElem? ho)).times
      have HG := Lib.hid (And.intro hg ho)
      have HC := Lib.hid (And.intro hB hc)
      have hmi : (m : Int) < l.length := by omega
      have hot' : o.times ≤ 100 := hot
      clear hg hc ho
      go_wp2_with fail
      go_loopg [11] 100 (fun g i wr => ∃ (j : Nat) (k : St), i = .int .i64 j ∧ g + j = 100 ∧ Hid (Run W wr b fb cb k))
      case atStart => exact ⟨0, k, rfl, by omega, HR⟩
      case round =>
        obtain ⟨j, k1, rfl, hgj, HR1⟩ := hrel
        clear HR
        have ct := (World.cell?_of_block (HR1.out.below.block B HC.out.1)).trans (HC.out.2 1 _ rfl)
        have cs := (World.cell?_of_block (HR1.out.below.block B HC.out.1)).trans (HC.out.2 2 _ rfl)
        have HJ := Lib.hid hgj
        clear hgj
        by_cases hjt : (j : Int) < o.times
        case neg =>
          have hjt' : o.times ≤ (j : Int) := by omega
          go_wp2
          go_roundg (l.length - (m + 1))
          case measure => have := HG.out.1; omega
          case rel => exact ⟨m + 1, k1, by go_num, by have := HG.out.1; omega, HR1⟩
        go_wp2_with fail
        refine (touch_run HR1.out o.s (by unfold maxLen; omega)).mono ?_
        rintro e w3 ⟨rfl, hR3, -⟩
        have HR3 := Lib.hid hR3
        clear hR3 ct cs
        go_wp2_with fail
        go_roundg (100 - (j + 1))
        case measure => have := HJ.out; omega
        case rel => exact ⟨j + 1, _, by go_num, by have := HJ.out; omega, HR3⟩
    · have hml : (l.length : Int) ≤ m := by omega
      have hss := HL.out.2.2
      obtain ⟨a, ha⟩ : ∃ a, k.worth s.data.toList = a := ⟨_, rfl⟩
      have HV := Lib.hid ha
      clear ha HL
      go_wp2_with fail
      refine (worth_run HR.out s hss).mono ?_
      rintro e w3 ⟨rfl, hR3, -⟩
      rw [HV.out]
      have H3 := Lib.hid hR3
      clear hR3 HR
      go_wp2_with fail
      refine (copy_run H3.out).mono ?_
      rintro e w4 ⟨b', fb', cb', rfl, hR4, hC4, hl4, -⟩
      have H4 := Lib.hid (And.intro hR4 (And.intro hC4 (show (b < b' ∧ b < fb' ∧ b < cb') ∧ (fb < b' ∧ fb < fb' ∧ fb < cb') ∧ (cb < b' ∧ cb < fb' ∧ cb < cb') by have := H3.out.lt; omega)))
      clear hR4 hC4 hl4 H3
      go_wp2_with fail
      refine (worth_run H4.out.2.1 s hss).mono ?_
      rintro e w5 ⟨rfl, hC5, hb5⟩
      rw [HV.out]
      have H5 := Lib.hid (And.intro (H4.out.1.step hb5) hC5)
      clear hC5 hb5
      go_wp2_with fail
      go_loopg [14] 3 (fun g i wr => ∃ (m : Nat) (k' : St), i = .int .i64 m ∧ g + m = 3 ∧ Hid (Run W wr b fb cb k ∧ Run W wr b' fb' cb' k'))
      case atStart => exact ⟨0, k, rfl, by omega, Lib.hid H5.out⟩
      case round =>
        obtain ⟨i, k', rfl, hg, HR⟩ := hrel
        clear H5
        by_cases hi : i < 3
        · have hii : (i : Int) < 3 := by omega
          have HG := Lib.hid hg
          clear hg
          go_wp2_with fail
          refine (touch_run HR.out.2 s hss).mono ?_
          rintro e w6 ⟨rfl, hC6, ho6⟩
          have H6 := Lib.hid (And.intro (HR.out.1.other ho6 (fun x e => by
            have := H4.out.2.2
            rcases e with rfl | rfl
            · exact ⟨by omega, hC6.f.low⟩
            · exact ⟨by omega, hC6.c.low⟩)) hC6)
          clear hC6 ho6
          go_wp2_with fail
          go_roundg (3 - (i + 1))
          case measure => have := HG.out; omega
          case rel => exact ⟨i + 1, _, by go_num, by have := HG.out; omega, H6⟩
        · have hii : (3 : Int) ≤ i := by omega
          clear hg
          go_wp2_with fail
          refine (worth_run HR.out.1 s hss).mono ?_
          rintro e w6 ⟨rfl, hR6, -⟩
          rw [HV.out]
          have H6 := Lib.hid hR6.below
          clear hR6
          go_wp2_with fail
          go_ret
          exact ⟨rfl, H6.out⟩
end Go.Proofs.Ytncdaadiadeeiaa.TinyApart
