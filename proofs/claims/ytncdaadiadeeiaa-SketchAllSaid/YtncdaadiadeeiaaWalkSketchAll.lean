/- SketchAll answers true for every seed, list of calls and text. Conditions: the numbers are of their types. -/
import Derived.Test.YtncdaadiadeeiaaSketch4
namespace Go.Proofs.Ytncdaadiadeeiaa.SketchAll
open Go Go.RowKit Go.Proofs.Ytncdaadiadeeiaa.Sketch Go.Proofs.Ytncdaadiadeeiaa.Mem Go.Proofs.Ytncdaadiadeeiaa.Ops

def Most (k : St) (N : Nat) : Prop := k.age = N ∧ ∀ i, k.c i ≤ N
theorem Most.add {k : St} {N : Nat} (h : Most k N) (t : List UInt8) (hh : (k.add t).1 = false) : Most (k.add t).2 (N + 1) := by
  obtain ⟨h1, h2⟩ := add_false hh
  rw [h2]
  exact ⟨by simp only; rw [h.1]; omega, fun i => Nat.le_trans (ups_le _ _ _ _ _) (by have := h.2 i; omega)⟩
theorem count_new (seed : Int) (s : List UInt8) : (new seed).count s = 0 := by
  have := cnt_le seed s (new seed).c (n := 4) (a := 0) (by omega)
  unfold St.count
  have h0 : (new seed).c (pl seed s 0) = 0 := rfl
  rw [h0] at this
  have h1 : (new seed).seed = seed := rfl
  rw [h1]
  omega

set_option maxRecDepth 20000 in
set_option maxHeartbeats 4000000 in
theorem walk (W : World) (seed : Int) (x : Option Addr) (n c : Nat) (l : List Sketch.Op) (s : ByteArray) (hseed : 0 ≤ seed ∧ seed ≤ 18446744073709551615) (hl : n = l.length ∧ n ≤ maxLen ∧ (∀ a ∈ l, OpOk a) ∧ Lies W 3 encO x l) (hs : s.size ≤ maxLen) :
    Calls Try.prog 5 #[.int .u64 seed, .slice x n c, .string s] W fun e W' => e = .returned (.bool true) ∧ Below W.heap.size W W' := by
  obtain ⟨rfl, hn, hok, hlies⟩ := hl
  have HL := Lib.hid (And.intro hlies (And.intro hok hs))
  unfold maxLen at hs hn
  clear hlies hok
  go_enter Try.func5, Try.ntmps5
  go_wp2_with fail
  refine (awake_any _).mono ?_
  rintro e w1 ⟨rfl, hb1⟩
  go_wp2_with fail
  refine (short_any c hn HL.out.2.1 (HL.out.1.same hb1)).mono ?_
  rintro e w2 ⟨⟨q, rfl, hq⟩, rfl⟩
  go_wp2_with fail
  refine (new_run hseed hb1).mono ?_
  rintro e w2 ⟨b, rfl, r0, -⟩
  clear hb1
  have H0 := Lib.hid r0
  have HQ := Lib.hid hq
  clear r0 hq
  cases q
  · go_wp2_with fail
    go_ret
    exact ⟨rfl, H0.out.below⟩
  by_cases hs3 : 300 < s.size
  · have hsi : (300 : Int) < s.size := by omega
    go_wp2_with fail
    go_ret
    exact ⟨rfl, H0.out.below⟩
  have hsi : (s.size : Int) ≤ 300 := by omega
  have hsh : Shorts l := HQ.out.1 rfl
  obtain ⟨h60, hops⟩ := hsh
  have HO := Lib.hid hops
  clear hops
  go_wp2_with fail
  refine (count_run H0.out s HL.out.2.2).mono ?_
  rintro e w3 ⟨rfl, r1, -⟩
  rw [count_new]
  have H1 := Lib.hid r1
  clear r1 H0
  go_wp2_with fail
  go_loopg [11, 12] l.length (fun g n i wr => ∃ (m N : Nat) (k : St), n = .int .i64 N ∧ i = .int .i64 m ∧ g + m = l.length ∧ N ≤ m * 100 ∧ Hid (Run W wr b k ∧ Most k N))
  case atStart => exact ⟨0, 0, new seed, rfl, rfl, by omega, by omega, Lib.hid ⟨H1.out, rfl, fun _ => Nat.le_refl _⟩⟩
  case round =>
    obtain ⟨m, N, k, rfl, rfl, hg, hN, HR⟩ := hrel
    clear H1
    by_cases hm : m < l.length
    · obtain ⟨o, ho⟩ : ∃ o, l[m]? = some o := ⟨_, List.getElem?_eq_getElem hm⟩
      obtain ⟨B, off, rfl, hB, hc⟩ := HL.out.1 m o ho
      obtain ⟨hos, hot⟩ := HO.out o (List.mem_of_getElem? ho)
      obtain ⟨t0, t1⟩ := (HL.out.2.1 o (List.mem_of_getElem? ho)).times
      have HG := Lib.hid (And.intro hg (And.intro hN ho))
      have HC := Lib.hid (And.intro hB hc)
      have hmi : (m : Int) < l.length := by omega
      have hot' : o.times ≤ 100 := hot
      clear hg hc ho hN
      go_wp2_with fail
      go_loopg [11, 13] 100 (fun g n i wr => ∃ (j N : Nat) (k : St), n = .int .i64 N ∧ i = .int .i64 j ∧ g + j = 100 ∧ N ≤ m * 100 + j ∧ Hid (Run W wr b k ∧ Most k N))
      case atStart => exact ⟨0, N, k, rfl, rfl, by omega, HG.out.2.1, HR⟩
      case round =>
        obtain ⟨j, N1, k1, rfl, rfl, hgj, hN1, HR1⟩ := hrel
        clear HR
        have hst := HC.out.2
        have ct := (World.cell?_of_block (HR1.out.1.below.block B HC.out.1)).trans (HC.out.2 1 _ rfl)
        have cs := (World.cell?_of_block (HR1.out.1.below.block B HC.out.1)).trans (HC.out.2 2 _ rfl)
        have HJ := Lib.hid (And.intro hgj hN1)
        clear hgj hN1
        by_cases hjt : (j : Int) < o.times
        case neg =>
          have hjt' : o.times ≤ (j : Int) := by omega
          go_wp2
          go_roundg (l.length - (m + 1))
          case measure => have := HG.out.1; omega
          case rel => exact ⟨m + 1, N1, k1, rfl, by go_num, by have := HG.out.1; omega, by have := HJ.out; omega, HR1⟩
        go_wp2_with fail
        refine (add_run HR1.out.1 o.s (by unfold maxLen; omega)).mono ?_
        rintro e w3 ⟨rfl, hR3, -⟩
        have HR3 := Lib.hid hR3
        clear hR3 ct cs
        obtain ⟨hv, hh⟩ : ∃ hv, (k1.add o.s.data.toList).1 = hv := ⟨_, rfl⟩
        have HH := Lib.hid hh
        rw [hh]
        clear hh
        have hNi : (N1 : Int) ≤ 10000 := by have := HJ.out; omega
        cases hv
        · go_wp2_with fail
          go_roundg (100 - (j + 1))
          case measure => have := HJ.out; omega
          case rel => exact ⟨j + 1, N1 + 1, _, by go_num, by go_num, by have := HJ.out; omega, by have := HJ.out; omega, Lib.hid ⟨HR3.out, HR1.out.2.add _ HH.out⟩⟩
        · go_wp2_with fail
          go_ret
          exact ⟨rfl, HR3.out.below⟩
    · have hml : (l.length : Int) ≤ m := by omega
      have hc : k.count s.data.toList ≤ N := Nat.le_trans (cnt_le _ _ _ (a := 0) (by omega)) (HR.out.2.2 _)
      have hc15 : k.count s.data.toList ≤ 15 := cnt_le15 _ _ _ _
      have hcount := count_run HR.out.1 s HL.out.2.2
      obtain ⟨cc, hcc⟩ : ∃ cc, k.count s.data.toList = cc := ⟨_, rfl⟩
      rw [hcc] at hc hc15
      rw [hcc] at hcount
      clear hcc HL
      have hci : (cc : Int) ≤ 15 := by omega
      have hci0 : (cc : Int) ≤ N := by omega
      go_wp2_with fail
      refine hcount.mono ?_
      rintro e w3 ⟨rfl, hR3, -⟩
      have ha := age_any hR3.at_
      rw [HR.out.2.1] at ha
      have HR3 := Lib.hid hR3
      clear hR3 hcount
      go_wp2_with (go_at_call 23; refine ha.mono ?_; rintro e w' ⟨rfl, rfl⟩)
      go_ret
      exact ⟨rfl, HR3.out.below⟩
end Go.Proofs.Ytncdaadiadeeiaa.SketchAll
