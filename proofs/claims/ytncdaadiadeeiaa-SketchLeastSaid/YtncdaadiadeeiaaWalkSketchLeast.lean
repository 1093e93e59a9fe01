/- SketchLeast answers true for every seed, list of calls and text. Conditions: the numbers are of their types. -/
import Derived.Test.YtncdaadiadeeiaaSketch4
namespace Go.Proofs.Ytncdaadiadeeiaa.SketchLeast
open Go Go.RowKit Go.Proofs.Ytncdaadiadeeiaa.Sketch Go.Proofs.Ytncdaadiadeeiaa.Mem Go.Proofs.Ytncdaadiadeeiaa.Ops

def Least (k : St) (s : List UInt8) (N : Nat) : Prop := ∀ a, a < 4 → min 15 N ≤ k.c (pl k.seed s a)
theorem Least.add {k : St} {s : List UInt8} {N : Nat} (h : Least k s N) (hk : Ok k) (t : List UInt8) (hh : (k.add t).1 = false) : Least (k.add t).2 s N ∧ (t = s → Least (k.add t).2 s (N + 1)) := by
  have hc : (k.add t).2.c = ups k.seed t k.c 4 := by rw [(add_false hh).2]
  refine ⟨fun a ha => ?_, fun e a ha => ?_⟩
  · rw [hc, add_seed]
    exact Nat.le_trans (h a ha) (ups_ge _ _ _ _ _)
  · subst e
    rw [hc, add_seed, ups_own _ _ hk.c15 ha]
    have := h a ha
    omega
theorem half_7 {k : St} (hk : Ok k) (t s : List UInt8) (hh : (k.add t).1 = true) : (k.add t).2.count s ≤ 7 := by
  have hc : (k.add t).2.c = half (ups k.seed t k.c 4) := by rw [(add_true hh).2]
  unfold St.count
  refine Nat.le_trans (cnt_le _ _ _ (a := 0) (by omega)) ?_
  rw [hc]
  have := ups_15 hk.c15 k.seed t 4 (pl (k.add t).2.seed s 0)
  unfold half; omega

set_option maxRecDepth 20000 in
set_option maxHeartbeats 4000000 in
theorem walk (W : World) (seed : Int) (x : Option Addr) (n c : Nat) (l : List Sketch.Op) (s : ByteArray) (hseed : 0 ≤ seed ∧ seed ≤ 18446744073709551615) (hl : n = l.length ∧ n ≤ maxLen ∧ (∀ a ∈ l, OpOk a) ∧ Lies W 3 encO x l) (hs : s.size ≤ maxLen) :
    Calls Try.prog 3 #[.int .u64 seed, .slice x n c, .string s] W fun e W' => e = .returned (.bool true) ∧ Below W.heap.size W W' := by
  obtain ⟨rfl, hn, hok, hlies⟩ := hl
  have HL := Lib.hid (And.intro hlies (And.intro hok hs))
  unfold maxLen at hs hn
  clear hlies hok
  go_enter Try.func3, Try.ntmps3
  go_wp2_with fail
  refine (awake_any _).mono ?_
  rintro e w1 ⟨rfl, hb1⟩
  go_wp2_with fail
  refine (short_any c hn HL.out.2.1 (HL.out.1.same hb1)).mono ?_
  rintro e w2 ⟨⟨q, rfl, hq⟩, rfl⟩
  go_wp2_with fail
  refine (new_run hseed hb1).mono ?_
  rintro e w2 ⟨b, rfl, r0, -⟩
  clear hb1
  have H0 := Lib.hid r0
  have HQ := Lib.hid hq
  clear r0 hq
  cases q
  · go_wp2_with fail
    go_ret
    exact ⟨rfl, H0.out.below⟩
  by_cases hs3 : 300 < s.size
  · have hsi : (300 : Int) < s.size := by omega
    go_wp2_with fail
    go_ret
    exact ⟨rfl, H0.out.below⟩
  have hsi : (s.size : Int) ≤ 300 := by omega
  have hsh : Shorts l := HQ.out.1 rfl
  obtain ⟨h60, hops⟩ := hsh
  have HO := Lib.hid hops
  clear hops
  go_wp2_with fail
  go_loopg [10, 11] l.length (fun g n i wr => ∃ (m N : Nat) (k : St), n = .int .i64 N ∧ i = .int .i64 m ∧ g + m = l.length ∧ N ≤ m * 100 ∧ Hid (Run W wr b k ∧ Least k s.data.toList N))
  case atStart => exact ⟨0, 0, new seed, rfl, rfl, by omega, by omega, Lib.hid ⟨H0.out, fun a _ => by simp⟩⟩
  case round =>
    obtain ⟨m, N, k, rfl, rfl, hg, hN, HR⟩ := hrel
    clear H0
    by_cases hm : m < l.length
    · obtain ⟨o, ho⟩ : ∃ o, l[m]? = some o := ⟨_, List.getElem?_eq_getElem hm⟩
      obtain ⟨B, off, rfl, hB, hc⟩ := HL.out.1 m o ho
      obtain ⟨hos, hot⟩ := HO.out o (List.mem_of_getElem? ho)
      obtain ⟨t0, t1⟩ := (HL.out.2.1 o (List.mem_of_getElem? ho)).times
      have HG := Lib.hid (And.intro hg (And.intro hN ho))
      have HC := Lib.hid (And.intro hB hc)
      have hmi : (m : Int) < l.length := by omega
      have hot' : o.times ≤ 100 := hot
      clear hg hc ho hN
      go_wp2_with fail
      go_loopg [10, 12] 100 (fun g n i wr => ∃ (j N : Nat) (k : St), n = .int .i64 N ∧ i = .int .i64 j ∧ g + j = 100 ∧ N ≤ m * 100 + j ∧ Hid (Run W wr b k ∧ Least k s.data.toList N))
      case atStart => exact ⟨0, N, k, rfl, rfl, by omega, HG.out.2.1, HR⟩
      case round =>
        obtain ⟨j, N1, k1, rfl, rfl, hgj, hN1, HR1⟩ := hrel
        clear HR
        have hst := HC.out.2
        have cz : wr.cell? ⟨B, off + m * 3, none⟩ = some (.int .i64 o.kind) := (World.cell?_of_block (HR1.out.1.below.block B HC.out.1)).trans (HC.out.2 0 _ rfl)
        have ct := (World.cell?_of_block (HR1.out.1.below.block B HC.out.1)).trans (HC.out.2 1 _ rfl)
        have cs := (World.cell?_of_block (HR1.out.1.below.block B HC.out.1)).trans (HC.out.2 2 _ rfl)
        have HJ := Lib.hid (And.intro hgj hN1)
        clear hgj hN1
        by_cases hjt : (j : Int) < o.times
        case neg =>
          have hjt' : o.times ≤ (j : Int) := by omega
          go_wp2
          go_roundg (l.length - (m + 1))
          case measure => have := HG.out.1; omega
          case rel => exact ⟨m + 1, N1, k1, rfl, by go_num, by have := HG.out.1; omega, by have := HJ.out; omega, HR1⟩
        by_cases hk0 : o.kind = 0
        case neg =>
          have hkb : (o.kind == 0) = false := by simpa using hk0
          go_wp2
          go_roundg (l.length - (m + 1))
          case measure => have := HG.out.1; omega
          case rel => exact ⟨m + 1, N1, k1, rfl, by go_num, by have := HG.out.1; omega, by have := HJ.out; omega, HR1⟩
        rw [hk0] at cz
        go_wp2_with fail
        refine (add_run HR1.out.1 o.s (by unfold maxLen; omega)).mono ?_
        rintro e w3 ⟨rfl, hR3, -⟩
        have cs3 := (World.cell?_of_block (hR3.below.block B HC.out.1)).trans (HC.out.2 2 _ rfl)
        have HR3 := Lib.hid hR3
        clear hR3 cz ct cs
        obtain ⟨hv, hh⟩ : ∃ hv, (k1.add o.s.data.toList).1 = hv := ⟨_, rfl⟩
        have HH := Lib.hid hh
        rw [hh]
        clear hh
        have hNi : (N1 : Int) ≤ 10000 := by have := HJ.out; omega
        by_cases hes : o.s.data.toList = s.data.toList
        · have hb : (o.s.toList == s.toList) = true := by rw [ByteArray.toList_eq, ByteArray.toList_eq]; simpa using hes
          cases hv
          · go_wp2_with fail
            go_roundg (100 - (j + 1))
            case measure => have := HJ.out; omega
            case rel =>
              have hL := HR1.out.2.add HR1.out.1.ok _ HH.out
              exact ⟨j + 1, N1 + 1, _, by go_num, by go_num, by have := HJ.out; omega, by have := HJ.out; omega, Lib.hid ⟨HR3.out, hL.2 hes⟩⟩
          · have h7 := half_7 HR1.out.1.ok o.s.data.toList s.data.toList HH.out
            go_wp2_with fail
            refine (count_run HR3.out s HL.out.2.2).mono ?_
            rintro e w4 ⟨rfl, hR4, -⟩
            generalize (k1.add o.s.data.toList).2.count s.data.toList = cc at *
            have h7i : (cc : Int) ≤ 7 := by omega
            go_wp2_with fail
            go_ret
            exact ⟨rfl, hR4.below⟩
        · have hb : (o.s.toList == s.toList) = false := by rw [ByteArray.toList_eq, ByteArray.toList_eq]; simpa using hes
          cases hv
          · go_wp2_with fail
            go_roundg (100 - (j + 1))
            case measure => have := HJ.out; omega
            case rel =>
              have hL := HR1.out.2.add HR1.out.1.ok _ HH.out
              exact ⟨j + 1, N1, _, by go_num, by go_num, by have := HJ.out; omega, by have := HJ.out; omega, Lib.hid ⟨HR3.out, hL.1⟩⟩
          · have h7 := half_7 HR1.out.1.ok o.s.data.toList s.data.toList HH.out
            go_wp2_with fail
            refine (count_run HR3.out s HL.out.2.2).mono ?_
            rintro e w4 ⟨rfl, hR4, -⟩
            generalize (k1.add o.s.data.toList).2.count s.data.toList = cc at *
            have h7i : (cc : Int) ≤ 7 := by omega
            go_wp2_with fail
            go_ret
            exact ⟨rfl, hR4.below⟩
    · have hml : (l.length : Int) ≤ m := by omega
      have hc : min 15 N ≤ k.count s.data.toList := le_cnt (by omega) HR.out.2
      have hc15 : k.count s.data.toList ≤ 15 := cnt_le15 _ _ _ _
      have hcount := fun w' (hR : Run W w' b k) => count_run hR s HL.out.2.2
      obtain ⟨cc, hcc⟩ : ∃ cc, k.count s.data.toList = cc := ⟨_, rfl⟩
      rw [hcc] at hc hc15
      rw [hcc] at hcount
      have HCT := Lib.hid hcount
      clear hcc hcount HL
      have hci : (cc : Int) ≤ 15 := by omega
      have hci0 : (0 : Int) ≤ cc := by omega
      by_cases hN15 : 15 < N
      · have hNi : (15 : Int) < N := by omega
        have hce : (15 : Int) ≤ cc := by omega
        go_wp2_with fail
        refine (HCT.out _ HR.out.1).mono ?_
        rintro e w3 ⟨rfl, hR3, -⟩
        go_wp2_with fail
        refine (HCT.out _ hR3).mono ?_
        rintro e w4 ⟨rfl, hR4, -⟩
        go_wp2_with fail
        go_ret
        exact ⟨rfl, hR4.below⟩
      · have hNi : (N : Int) ≤ 15 := by omega
        have hce : (N : Int) ≤ cc := by omega
        go_wp2_with fail
        refine (HCT.out _ HR.out.1).mono ?_
        rintro e w3 ⟨rfl, hR3, -⟩
        go_wp2_with fail
        refine (HCT.out _ hR3).mono ?_
        rintro e w4 ⟨rfl, hR4, -⟩
        go_wp2_with fail
        go_ret
        exact ⟨rfl, hR4.below⟩
end Go.Proofs.Ytncdaadiadeeiaa.SketchLeast
