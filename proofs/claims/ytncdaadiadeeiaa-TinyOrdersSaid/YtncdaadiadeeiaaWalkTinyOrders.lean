/- TinyOrders answers true for every seed, list of calls and texts. Conditions: the numbers are of their types. -/
import Derived.Test.YtncdaadiadeeiaaTiny2
namespace Go.Proofs.Ytncdaadiadeeiaa.TinyOrders
open Go Go.RowKit Go.Proofs.Ytncdaadiadeeiaa.Tiny Go.Proofs.Ytncdaadiadeeiaa.Mem Go.Proofs.Ytncdaadiadeeiaa.Ops

set_option maxRecDepth 20000 in
set_option maxHeartbeats 4000000 in
theorem walk (W : World) (seed : Int) (x : Option Addr) (n c : Nat) (l : List Sketch.Op) (s t u : ByteArray) (hseed : 0 ≤ seed ∧ seed ≤ 18446744073709551615) (hl : n = l.length ∧ n ≤ maxLen ∧ (∀ a ∈ l, Sketch.OpOk a) ∧ Lies W 3 Sketch.encO x l) (hs : s.size ≤ maxLen) (ht : t.size ≤ maxLen) (hu : u.size ≤ maxLen) :
    Calls Try.prog 15 #[.int .u64 seed, .slice x n c, .string s, .string t, .string u] W fun e W' => e = .returned (.bool true) ∧ Below W.heap.size W W' := by
  obtain ⟨rfl, hn, hok, hlies⟩ := hl
  have HL := Lib.hid (And.intro hlies (And.intro hok (And.intro hs (And.intro ht hu))))
  unfold maxLen at hs ht hu hn
  clear hlies hok
  go_enter Try.func15, Try.ntmps15
  go_wp2_with fail
  refine (awake_any _).mono ?_
  rintro e w1 ⟨rfl, hb1⟩
  go_wp2_with fail
  refine (Sketch.short_any c hn HL.out.2.1 (HL.out.1.same hb1)).mono ?_
  rintro e w2 ⟨⟨q, rfl, hq⟩, rfl⟩
  go_wp2_with fail
  refine (new_run hseed hb1).mono ?_
  rintro e w2 ⟨b, fb, cb, rfl, r0, -, -⟩
  clear hb1
  have H0 := Lib.hid r0
  have HQ := Lib.hid hq
  clear r0 hq
  cases q
  · go_wp2_with fail
    go_ret
    exact ⟨rfl, H0.out.below⟩
  by_cases hs3 : 300 < s.size
  · have hsi : (300 : Int) < s.size := by omega
    go_wp2_with fail
    go_ret
    exact ⟨rfl, H0.out.below⟩
  have hsi : (s.size : Int) ≤ 300 := by omega
  by_cases ht3 : 300 < t.size
  · have hti : (300 : Int) < t.size := by omega
    go_wp2_with fail
    go_ret
    exact ⟨rfl, H0.out.below⟩
  have hti : (t.size : Int) ≤ 300 := by omega
  by_cases hu3 : 300 < u.size
  · have hui : (300 : Int) < u.size := by omega
    go_wp2_with fail
    go_ret
    exact ⟨rfl, H0.out.below⟩
  have hui : (u.size : Int) ≤ 300 := by omega
  have hsh : Sketch.Shorts l := HQ.out.1 rfl
  obtain ⟨h60, hops⟩ := hsh
  have HO := Lib.hid hops
  clear hops
  go_wp2_with fail
  go_loopg [14] l.length (fun g i wr => ∃ (m : Nat) (k : St), i = .int .i64 m ∧ g + m = l.length ∧ Hid (Run W wr b fb cb k))
  case atStart => exact ⟨0, new seed, rfl, by omega, H0⟩
  case round =>
    obtain ⟨m, k, rfl, hg, HR⟩ := hrel
    clear H0
    by_cases hm : m < l.length
    · obtain ⟨o, ho⟩ : ∃ o, l[m]? = some o := ⟨_, List.getElem?_eq_getElem hm⟩
      obtain ⟨B, off, rfl, hB, hc⟩ := HL.out.1 m o ho
      obtain ⟨hos, hot⟩ := HO.out o (List.mem_of_getElem? ho)
      obtain ⟨t0, t1⟩ := (HL.out.2.1 o (List.mem_of_getElem? ho)).times
      have HG := Lib.hid (And.intro hg ho)
      have HC := Lib.hid (And.intro hB hc)
      have hmi : (m : Int) < l.length := by omega
      have hot' : o.times ≤ 100 := hot
      clear hg hc ho
      go_wp2_with fail
      go_loopg [15] 100 (fun g i wr => ∃ (j : Nat) (k : St), i = .int .i64 j ∧ g + j = 100 ∧ Hid (Run W wr b fb cb k))
      case atStart => exact ⟨0, k, rfl, by omega, HR⟩
      case round =>
        obtain ⟨j, k1, rfl, hgj, HR1⟩ := hrel
        clear HR
        have ct := (World.cell?_of_block (HR1.out.below.block B HC.out.1)).trans (HC.out.2 1 _ rfl)
        have cs := (World.cell?_of_block (HR1.out.below.block B HC.out.1)).trans (HC.out.2 2 _ rfl)
        have HJ := Lib.hid hgj
        clear hgj
        by_cases hjt : (j : Int) < o.times
        case neg =>
          have hjt' : o.times ≤ (j : Int) := by omega
          go_wp2
          go_roundg (l.length - (m + 1))
          case measure => have := HG.out.1; omega
          case rel => exact ⟨m + 1, k1, by go_num, by have := HG.out.1; omega, HR1⟩
        go_wp2_with fail
        refine (touch_run HR1.out o.s (by unfold maxLen; omega)).mono ?_
        rintro e w3 ⟨rfl, hR3, -⟩
        have HR3 := Lib.hid hR3
        clear hR3 ct cs
        go_wp2_with fail
        go_roundg (100 - (j + 1))
        case measure => have := HJ.out; omega
        case rel => exact ⟨j + 1, _, by go_num, by have := HJ.out; omega, HR3⟩
    · have hml : (l.length : Int) ≤ m := by omega
      have hss := HL.out.2.2.1
      have hst := HL.out.2.2.2.1
      have hsu := HL.out.2.2.2.2
      have h16 := worth_16 k s.data.toList
      have hself : k.admit s.data.toList s.data.toList = false := by unfold St.admit; simp
      obtain ⟨w, hw⟩ : ∃ w, k.worth s.data.toList = w := ⟨_, rfl⟩
      have hfa : (k.admit s.data.toList t.data.toList = true → k.admit t.data.toList s.data.toList = false) ∧ (k.admit s.data.toList t.data.toList = true → k.admit t.data.toList u.data.toList = true → k.admit s.data.toList u.data.toList = true) := by
        unfold St.admit
        simp only [decide_eq_true_eq, decide_eq_false_iff_not]
        omega
      obtain ⟨p, hp⟩ : ∃ p, k.admit s.data.toList t.data.toList = p := ⟨_, rfl⟩
      obtain ⟨q, hq⟩ : ∃ q, k.admit t.data.toList s.data.toList = q := ⟨_, rfl⟩
      obtain ⟨r, hr⟩ : ∃ r, k.admit t.data.toList u.data.toList = r := ⟨_, rfl⟩
      obtain ⟨v, hv⟩ : ∃ v, k.admit s.data.toList u.data.toList = v := ⟨_, rfl⟩
      rw [hp, hq, hr, hv] at hfa
      rw [hw] at h16
      have h16i : (w : Int) ≤ 16 := by omega
      have hw0 : (0 : Int) ≤ w := by omega
      have HV := Lib.hid (And.intro hp (And.intro hq (And.intro hr (And.intro hv (And.intro hw hself)))))
      have HB := Lib.hid hfa
      clear hp hq hr hv hw hself hfa HL
      go_wp2_with fail
      refine (admit_run HR.out s t hss hst).mono ?_
      rintro e w3 ⟨rfl, hR3, -⟩
      rw [HV.out.1]
      have H3 := Lib.hid hR3
      clear hR3 HR
      go_wp2_with fail
      refine (admit_run H3.out t s hst hss).mono ?_
      rintro e w4 ⟨rfl, hR4, -⟩
      rw [HV.out.2.1]
      have H4 := Lib.hid hR4
      clear hR4 H3
      go_wp2_with fail
      refine (admit_run H4.out t u hst hsu).mono ?_
      rintro e w5 ⟨rfl, hR5, -⟩
      rw [HV.out.2.2.1]
      have H5 := Lib.hid hR5
      clear hR5 H4
      go_wp2_with fail
      refine (worth_run H5.out s hss).mono ?_
      rintro e w6 ⟨rfl, hR6, -⟩
      rw [HV.out.2.2.2.2.1]
      have H6 := Lib.hid hR6
      clear hR6 H5
      go_wp2_with fail
      refine (admit_run H6.out s s hss hss).mono ?_
      rintro e w7 ⟨rfl, hR7, -⟩
      rw [HV.out.2.2.2.2.2]
      have H7 := Lib.hid hR7
      clear hR7 H6
      have hcall := admit_run H7.out s u hss hsu
      rw [HV.out.2.2.2.1] at hcall
      cases p
      · go_wp2_with fail
        go_ret
        exact ⟨rfl, H7.out.below⟩
      obtain rfl := HB.out.1 rfl
      cases r
      · go_wp2_with fail
        go_ret
        exact ⟨rfl, H7.out.below⟩
      obtain rfl := HB.out.2 rfl rfl
      go_wp2_with fail
      refine hcall.mono ?_
      rintro e w8 ⟨rfl, hR8, -⟩
      have H8 := Lib.hid hR8.below
      clear hR8 hcall
      go_wp2_with fail
      go_ret
      exact ⟨rfl, H8.out⟩
end Go.Proofs.Ytncdaadiadeeiaa.TinyOrders
