/- TableStops answers true for every seed, list of calls and number. Conditions: the numbers are of their kinds. -/
import Derived.Test.YtekcogoijlbmnaaTabL5
import Derived.StillTailTactics
import Derived.Deep.RegionHeld3
namespace Go.Proofs.Ytekcogoijlbmnaa.TableStops
open Go Go.RowKit Go.Proofs.Ytekcogoijlbmnaa.Mem Go.Proofs.Ytekcogoijlbmnaa.Ops Go.Proofs.Ytekcogoijlbmnaa.Tab Go.Proofs.Ytekcogoijlbmnaa.TabI Go.Proofs.Ytekcogoijlbmnaa.TabL

set_option maxRecDepth 100000 in
set_option maxHeartbeats 4000000 in
theorem walk (W : World) (seed : Int) (x : Option Addr) (n0 c : Nat) (l : List TabL.Op) (n : Int) (hs : 0 ≤ seed ∧ seed ≤ 18446744073709551615) (hl : n0 = l.length ∧ n0 ≤ maxLen ∧ (∀ a ∈ l, OpOk a) ∧ Lies W 3 encO x l) (_ : -9223372036854775808 ≤ n ∧ n ≤ 9223372036854775807) :
    Calls Try.prog 5 #[.int .u64 seed, .slice x n0 c, .int .i64 n] W fun e W' => e = .returned (.bool true) ∧ Below W.heap.size W W' := by
  obtain ⟨rfl, hml, hok, hlies⟩ := hl
  have HL := Lib.hid (And.intro hlies hok)
  clear hok
  go_enter Try.func5, Try.ntmps5
  go_wp2_with fail
  refine (awake_any W).mono ?_
  rintro e w1 ⟨rfl, hb1⟩
  have hlies1 : Lies w1 3 encO x l := hlies.same hb1
  have hshort := short_any (c := c) hlies1 hml
  clear hlies1 hlies hml
  have HS : Hid (shortB l = true → l.length ≤ 300) := Lib.hid (by unfold shortB; intro h; simp at h; exact h.1)
  generalize shortB l = q at *
  go_wp2_with fail
  refine hshort.mono ?_
  rintro e w2 ⟨rfl, rfl⟩
  go_wp2_with fail
  refine (new_run hb1 seed hs.1 (by omega)).mono ?_
  rintro e w2 ⟨b, F, rfl, r2, -, -⟩
  clear hshort hb1
  have HR2 := Lib.hid r2
  clear r2
  cases q with
  | false =>
    go_wp2_with fail
    go_ret
    exact ⟨rfl, HR2.out.below⟩
  | true =>
  have hl300 := HS.out rfl
  by_cases hn0 : n < 0
  · go_wp2_with fail
    go_ret
    exact ⟨rfl, HR2.out.below⟩
  have hn0i : 0 ≤ n := by omega
  clear hn0
  by_cases hn1 : 400 < n
  · go_wp2_with fail
    go_ret
    exact ⟨rfl, HR2.out.below⟩
  have hn1i : n ≤ 400 := by omega
  clear hn1
  obtain ⟨k, rfl⟩ := Int.eq_ofNat_of_zero_le hn0i
  go_wp2_with fail
  go_loopg [10] l.length (fun g i wr => ∃ (m : Nat) (F : Nat → Prop), i = .int .i64 m ∧ g + m = l.length ∧ Hid (Run W wr m b F seed (puts (l.take m))))
  case atStart => exact ⟨0, F, rfl, by omega, HR2⟩
  case round =>
    obtain ⟨m, F1, rfl, hg, HM⟩ := hrel
    have HG := Lib.hid hg
    clear hg HR2
    by_cases hm : m < l.length
    · obtain ⟨o, hoo⟩ : ∃ o, l[m]? = some o := ⟨_, List.getElem?_eq_getElem hm⟩
      obtain ⟨B, off, rfl, hB, hc⟩ := HL.out.1 m o hoo
      have c1 : wr.cell? ⟨B, off + m * 3 + 1, none⟩ = some (.string o.key) := (World.cell?_of_block (HM.out.below.block B hB)).trans (hc 1 _ rfl)
      have c2 : wr.cell? ⟨B, off + m * 3 + 2, none⟩ = some (.int .i64 o.v) := (World.cell?_of_block (HM.out.below.block B hB)).trans (hc 2 _ rfl)
      have hmi : (m : Int) < l.length := by omega
      have hok := HL.out.2 o (List.mem_of_getElem? hoo)
      have hput := put_run (HM.out.step (Below.drew (Below.refl _ wr))) (by omega) o.key o.v hok.key
      rw [← puts_snoc hoo] at hput
      unfold RunPost at hput
      clear hc hB hoo hok
      go_wp2_with fail
      refine wp_region_still_tail 11 (by kernel_rfl) (by kernel_rfl) ?_
      simp only [List.take_succ_cons, List.take_zero, List.drop_succ_cons, List.drop_zero]
      repeat still_step
      refine wpStill_nil ?_
      change wpList _ _ _ _ _ wr.drew
      go_wp2_with fail
      refine hput.mono ?_
      rintro e w3 ⟨F3, rfl, r3, -, -⟩
      have HR3 := Lib.hid r3
      clear r3 hput c1 c2
      go_wp2_with fail
      go_roundg (l.length - (m + 1))
      case measure => have := HG.out; omega
      case rel => exact ⟨m + 1, F3, by go_num, by have := HG.out; omega, HR3⟩
    · have hml : (l.length : Int) ≤ m := by omega
      clear hm
      have hmb : m ≤ 300 := by have := HG.out; omega
      obtain ⟨s, hs0⟩ : ∃ s, puts (l.take m) = s := ⟨_, rfl⟩
      rw [hs0] at HM
      clear hs0 HG
      have hsl : s.L.length ≤ 300 := by have := HM.out.sm.len; omega
      have h1 := left_any HM.out.at_
      have h2 := buckets_any HM.out.at_
      have hall := all' HM.out 1000
      rw [allN_all (by show _ ≤ 1000; omega)] at hall
      go_wp2_with (first | (go_at_call 17; refine h1.mono ?_; rintro e w' ⟨rfl, rfl⟩) | (go_at_call 18; refine h2.mono ?_; rintro e w' ⟨rfl, rfl⟩) | fail)
      refine hall.mono ?_
      rintro e w3 ⟨a1, c1, rfl, hc1, H3⟩
      have hall2 := all' H3.out.2.1 (k : Int)
      clear h1 h2 hall HM
      go_wp2_with fail
      refine hall2.mono ?_
      rintro e w4 ⟨a2, c2, rfl, hc2, H4⟩
      clear hall2
      have key : ∀ j : Nat, j ≤ s.L.length → s.L.take j = allN s.L k → Calls Try.prog 15 #[.slice a1 j c1, .slice a2 (allN s.L k).length c2] w4 fun e w' => e = .returned (.bool true) ∧ ∃ d, w' = w4.drewN d := fun j hj e =>
        (same_any ((H3.out.1.below H4.out.2.2).take hj) H4.out.1 (by rw [List.length_take]; omega)).mono fun _ _ ⟨he, hd⟩ => ⟨by rw [he, e]; simp, hd⟩
      have HK := Lib.hid key
      clear key
      have hbk : (s.buckets == s.buckets) = true := by simp
      have hlf : (s.left == s.left) = true := by simp
      have hll : ((s.L.length : Int) == s.L.length) = true := by simp
      by_cases hk : s.L.length < k
      · have hki : (s.L.length : Int) < k := by omega
        have hsame := HK.out s.L.length (Nat.le_refl _) (by unfold allN; rw [List.take_of_length_le (Nat.le_refl _), List.take_of_length_le (by omega)])
        clear HK hk
        generalize (allN s.L ↑k).length = al at *
        go_wp2_with fail
        refine hsame.mono ?_
        rintro e w5 ⟨rfl, d, rfl⟩
        have h1 := left_any (H4.out.2.1.at_.below (Mem.dn (Below.refl _ w4) d))
        have h2 := buckets_any (H4.out.2.1.at_.below (Mem.dn (Below.refl _ w4) d))
        have h3 := len_any (H4.out.2.1.at_.below (Mem.dn (Below.refl _ w4) d))
        clear hsame
        go_wp2_with (first | (go_at_call 17; refine h1.mono ?_; rintro e w' ⟨rfl, rfl⟩) | (go_at_call 18; refine h2.mono ?_; rintro e w' ⟨rfl, rfl⟩) | (go_at_call 16; refine h3.mono ?_; rintro e w' ⟨rfl, rfl⟩) | fail)
        go_ret
        exact ⟨rfl, Mem.dn H4.out.2.1.below d⟩
      · have hki : (k : Int) ≤ s.L.length := by omega
        have hkc : k ≤ c1 := by omega
        have hsame := HK.out k (by omega) (by unfold allN; rfl)
        clear HK hk
        generalize (allN s.L ↑k).length = al at *
        go_wp2_with fail
        refine hsame.mono ?_
        rintro e w5 ⟨rfl, d, rfl⟩
        have h1 := left_any (H4.out.2.1.at_.below (Mem.dn (Below.refl _ w4) d))
        have h2 := buckets_any (H4.out.2.1.at_.below (Mem.dn (Below.refl _ w4) d))
        have h3 := len_any (H4.out.2.1.at_.below (Mem.dn (Below.refl _ w4) d))
        clear hsame
        go_wp2_with (first | (go_at_call 17; refine h1.mono ?_; rintro e w' ⟨rfl, rfl⟩) | (go_at_call 18; refine h2.mono ?_; rintro e w' ⟨rfl, rfl⟩) | (go_at_call 16; refine h3.mono ?_; rintro e w' ⟨rfl, rfl⟩) | fail)
        go_ret
        exact ⟨rfl, Mem.dn H4.out.2.1.below d⟩
end Go.Proofs.Ytekcogoijlbmnaa.TableStops
