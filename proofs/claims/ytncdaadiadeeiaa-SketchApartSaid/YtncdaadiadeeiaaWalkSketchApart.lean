/- SketchApart answers true for every seed, list of calls and text. Conditions: the numbers are of their types. -/
import Derived.Test.YtncdaadiadeeiaaSketch4
namespace Go.Proofs.Ytncdaadiadeeiaa.SketchApart
open Go Go.RowKit Go.Proofs.Ytncdaadiadeeiaa.Sketch Go.Proofs.Ytncdaadiadeeiaa.Mem Go.Proofs.Ytncdaadiadeeiaa.Ops

theorem copy_run {W w : World} {b : Nat} {k : St} (h : Run W w b k) : Calls Try.prog 25 #[.pointer (some ⟨b, 0, none⟩)] w fun e w' =>
    ∃ b', e = .returned (.pointer (some ⟨b', 0, none⟩)) ∧ Run W w' b k ∧ Run W w' b' k ∧ b ≠ b' :=
  (copy_any h.at_).mono fun _ _ ⟨b', he, ha, hl, hb⟩ => ⟨b', he, h.step hb, ⟨ha, Nat.le_trans h.below.size hl, Mem.tr h.below hb, h.ok⟩, fun e => by have := h.at_.lt; omega⟩
set_option maxRecDepth 20000 in
set_option maxHeartbeats 4000000 in
theorem walk (W : World) (seed : Int) (x : Option Addr) (n c : Nat) (l : List Sketch.Op) (s : ByteArray) (hseed : 0 ≤ seed ∧ seed ≤ 18446744073709551615) (hl : n = l.length ∧ n ≤ maxLen ∧ (∀ a ∈ l, OpOk a) ∧ Lies W 3 encO x l) (hs : s.size ≤ maxLen) :
    Calls Try.prog 7 #[.int .u64 seed, .slice x n c, .string s] W fun e W' => e = .returned (.bool true) ∧ Below W.heap.size W W' := by
  obtain ⟨rfl, hn, hok, hlies⟩ := hl
  have HL := Lib.hid (And.intro hlies (And.intro hok hs))
  unfold maxLen at hs hn
  clear hlies hok
  go_enter Try.func7, Try.ntmps7
  go_wp2_with fail
  refine (awake_any _).mono ?_
  rintro e w1 ⟨rfl, hb1⟩
  go_wp2_with fail
  refine (short_any c hn HL.out.2.1 (HL.out.1.same hb1)).mono ?_
  rintro e w2 ⟨⟨q, rfl, hq⟩, rfl⟩
  go_wp2_with fail
  refine (new_run hseed hb1).mono ?_
  rintro e w2 ⟨b, rfl, r0, -⟩
  clear hb1
  have H0 := Lib.hid r0
  have HQ := Lib.hid hq
  clear r0 hq
  cases q
  · go_wp2_with fail
    go_ret
    exact ⟨rfl, H0.out.below⟩
  by_cases hs3 : 300 < s.size
  · have hsi : (300 : Int) < s.size := by omega
    go_wp2_with fail
    go_ret
    exact ⟨rfl, H0.out.below⟩
  have hsi : (s.size : Int) ≤ 300 := by omega
  have hsh : Shorts l := HQ.out.1 rfl
  obtain ⟨h60, hops⟩ := hsh
  have HO := Lib.hid hops
  clear hops
  go_wp2_with fail
  go_loopg [10] l.length (fun g i wr => ∃ (m : Nat) (k : St), i = .int .i64 m ∧ g + m = l.length ∧ Hid (Run W wr b k))
  case atStart => exact ⟨0, new seed, rfl, by omega, H0⟩
  case round =>
    obtain ⟨m, k, rfl, hg, HR⟩ := hrel
    clear H0
    by_cases hm : m < l.length
    · obtain ⟨o, ho⟩ : ∃ o, l[m]? = some o := ⟨_, List.getElem?_eq_getElem hm⟩
      obtain ⟨B, off, rfl, hB, hc⟩ := HL.out.1 m o ho
      obtain ⟨hos, hot⟩ := HO.out o (List.mem_of_getElem? ho)
      obtain ⟨t0, t1⟩ := (HL.out.2.1 o (List.mem_of_getElem? ho)).times
      have HG := Lib.hid (And.intro hg ho)
      have HC := Lib.hid (And.intro hB hc)
      have hmi : (m : Int) < l.length := by omega
      have hot' : o.times ≤ 100 := hot
      clear hg hc ho
      go_wp2_with fail
      go_loopg [11] 100 (fun g i wr => ∃ (j : Nat) (k : St), i = .int .i64 j ∧ g + j = 100 ∧ Hid (Run W wr b k))
      case atStart => exact ⟨0, k, rfl, by omega, HR⟩
      case round =>
        obtain ⟨j, k1, rfl, hgj, HR1⟩ := hrel
        clear HR
        have ct := (World.cell?_of_block (HR1.out.below.block B HC.out.1)).trans (HC.out.2 1 _ rfl)
        have cs := (World.cell?_of_block (HR1.out.below.block B HC.out.1)).trans (HC.out.2 2 _ rfl)
        have HJ := Lib.hid hgj
        clear hgj
        by_cases hjt : (j : Int) < o.times
        case neg =>
          have hjt' : o.times ≤ (j : Int) := by omega
          go_wp2
          go_roundg (l.length - (m + 1))
          case measure => have := HG.out.1; omega
          case rel => exact ⟨m + 1, k1, by go_num, by have := HG.out.1; omega, HR1⟩
        go_wp2_with fail
        refine (add_run HR1.out o.s (by unfold maxLen; omega)).mono ?_
        rintro e w3 ⟨rfl, hR3, -⟩
        have HR3 := Lib.hid hR3
        clear hR3 ct cs
        go_wp2_with fail
        go_roundg (100 - (j + 1))
        case measure => have := HJ.out; omega
        case rel => exact ⟨j + 1, _, by go_num, by have := HJ.out; omega, HR3⟩
    · have hml : (l.length : Int) ≤ m := by omega
      have hss := HL.out.2.2
      obtain ⟨cc, hcc⟩ : ∃ cc, k.count s.data.toList = cc := ⟨_, rfl⟩
      have HCC := Lib.hid hcc
      clear hcc HL
      go_wp2_with fail
      refine (count_run HR.out s hss).mono ?_
      rintro e w3 ⟨rfl, hR3, -⟩
      rw [HCC.out]
      have HR3 := Lib.hid hR3
      clear hR3 HR
      go_wp2_with fail
      refine (age_any HR3.out.at_).mono ?_
      rintro e w4 ⟨rfl, rfl⟩
      go_wp2_with fail
      refine (copy_run HR3.out).mono ?_
      rintro e w4 ⟨b', rfl, hR4, hC4, hne⟩
      have H4 := Lib.hid (And.intro hR4 (And.intro hC4 hne))
      clear hR4 hC4 hne HR3
      go_wp2_with fail
      refine (count_run H4.out.2.1 s hss).mono ?_
      rintro e w5 ⟨rfl, hC5, hb5⟩
      rw [HCC.out]
      have H5 := Lib.hid (And.intro (H4.out.1.step hb5) hC5)
      clear hC5 hb5
      go_wp2_with fail
      refine (age_any H5.out.2.at_).mono ?_
      rintro e w6 ⟨rfl, rfl⟩
      go_wp2_with fail
      refine (add_run H5.out.2 s hss).mono ?_
      rintro e w6 ⟨rfl, hC6, ho6⟩
      have H6 := Lib.hid (And.intro (H5.out.1.other ho6 (fun j e => by subst e; exact ⟨H4.out.2.2, H5.out.2.low⟩)) hC6)
      clear hC6 ho6
      go_wp2_with fail
      refine (add_run H6.out.2 s hss).mono ?_
      rintro e w7 ⟨rfl, hC7, ho7⟩
      have H7 := Lib.hid (H6.out.1.other ho7 (fun j e => by subst e; exact ⟨H4.out.2.2, H6.out.2.low⟩))
      clear hC7 ho7
      go_wp2_with fail
      refine (count_run H7.out s hss).mono ?_
      rintro e w8 ⟨rfl, hR8, -⟩
      rw [HCC.out]
      have H8 := Lib.hid hR8
      clear hR8
      go_wp2_with fail
      refine (age_any H8.out.at_).mono ?_
      rintro e w9 ⟨rfl, rfl⟩
      go_wp2_with fail
      go_ret
      exact ⟨rfl, H8.out.below⟩
end Go.Proofs.Ytncdaadiadeeiaa.SketchApart
