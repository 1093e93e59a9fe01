/- TableLast answers true for every seed, list of calls, texts and value. Conditions: the numbers are of their kinds. -/
import Derived.Test.YtekcogoijlbmnaaTabL4
import Derived.StillTailTactics
import Derived.Deep.RegionHeld3
namespace Go.Proofs.Ytekcogoijlbmnaa.TableLast
open Go Go.RowKit Go.Proofs.Ytekcogoijlbmnaa.Mem Go.Proofs.Ytekcogoijlbmnaa.Ops Go.Proofs.Ytekcogoijlbmnaa.Tab Go.Proofs.Ytekcogoijlbmnaa.TabI Go.Proofs.Ytekcogoijlbmnaa.TabL

set_option maxRecDepth 100000 in
set_option maxHeartbeats 4000000 in
theorem walk (W : World) (seed : Int) (x : Option Addr) (n0 c : Nat) (l : List TabL.Op) (key : ByteArray) (v : Int) (other : ByteArray) (hs : 0 ≤ seed ∧ seed ≤ 18446744073709551615) (hl : n0 = l.length ∧ n0 ≤ maxLen ∧ (∀ a ∈ l, OpOk a) ∧ Lies W 3 encO x l) (hk : key.size ≤ maxLen) (_ : -9223372036854775808 ≤ v ∧ v ≤ 9223372036854775807) (ho : other.size ≤ maxLen) :
    Calls Try.prog 3 #[.int .u64 seed, .slice x n0 c, .string key, .int .i64 v, .string other] W fun e W' => e = .returned (.bool true) ∧ Below W.heap.size W W' := by
  obtain ⟨rfl, hml, hok, hlies⟩ := hl
  have HL := Lib.hid (And.intro hlies hok)
  have HKs := Lib.hid (And.intro hk ho)
  clear hok
  go_enter Try.func3, Try.ntmps3
  go_wp2_with fail
  refine (awake_any W).mono ?_
  rintro e w1 ⟨rfl, hb1⟩
  have hlies1 : Lies w1 3 encO x l := hlies.same hb1
  have hshort := short_any (c := c) hlies1 hml
  clear hlies1 hlies hml
  have HS : Hid (shortB l = true → l.length ≤ 300) := Lib.hid (by unfold shortB; intro h; simp at h; exact h.1)
  generalize shortB l = q at *
  go_wp2_with fail
  refine hshort.mono ?_
  rintro e w2 ⟨rfl, rfl⟩
  go_wp2_with fail
  refine (new_run hb1 seed hs.1 (by omega)).mono ?_
  rintro e w2 ⟨b, F, rfl, r2, -, -⟩
  clear hshort hb1
  have HR2 := Lib.hid r2
  clear r2 hk ho
  cases q with
  | false =>
    go_wp2_with fail
    go_ret
    exact ⟨rfl, HR2.out.below⟩
  | true =>
  have hl300 := HS.out rfl
  by_cases hk3 : 300 < key.size
  · have hki : (300 : Int) < key.size := by omega
    go_wp2_with fail
    go_ret
    exact ⟨rfl, HR2.out.below⟩
  have hki : (key.size : Int) ≤ 300 := by omega
  by_cases ho3 : 300 < other.size
  · have hoi : (300 : Int) < other.size := by omega
    go_wp2_with fail
    go_ret
    exact ⟨rfl, HR2.out.below⟩
  have hoi : (other.size : Int) ≤ 300 := by omega
  clear hk3 ho3
  by_cases hne : key = other
  · subst hne
    have hse := str_eq key
    go_wp2_with fail
    go_ret
    exact ⟨rfl, HR2.out.below⟩
  have hse := str_ne hne
  have HN := Lib.hid hne
  clear hne
  go_wp2_with fail
  go_loopg [14] l.length (fun g i wr => ∃ (m : Nat) (F : Nat → Prop), i = .int .i64 m ∧ g + m = l.length ∧ Hid (Run W wr m b F seed (puts (l.take m))))
  case atStart => exact ⟨0, F, rfl, by omega, HR2⟩
  case round =>
    obtain ⟨m, F1, rfl, hg, HM⟩ := hrel
    have HG := Lib.hid hg
    clear hg HR2
    by_cases hm : m < l.length
    · obtain ⟨o, hoo⟩ : ∃ o, l[m]? = some o := ⟨_, List.getElem?_eq_getElem hm⟩
      obtain ⟨B, off, rfl, hB, hc⟩ := HL.out.1 m o hoo
      have c1 : wr.cell? ⟨B, off + m * 3 + 1, none⟩ = some (.string o.key) := (World.cell?_of_block (HM.out.below.block B hB)).trans (hc 1 _ rfl)
      have c2 : wr.cell? ⟨B, off + m * 3 + 2, none⟩ = some (.int .i64 o.v) := (World.cell?_of_block (HM.out.below.block B hB)).trans (hc 2 _ rfl)
      have hmi : (m : Int) < l.length := by omega
      have hok := HL.out.2 o (List.mem_of_getElem? hoo)
      have hput := put_run (HM.out.step (Below.drew (Below.refl _ wr))) (by omega) o.key o.v hok.key
      rw [← puts_snoc hoo] at hput
      unfold RunPost at hput
      clear hc hB hoo hok
      go_wp2_with fail
      refine wp_region_still_tail 11 (by kernel_rfl) (by kernel_rfl) ?_
      simp only [List.take_succ_cons, List.take_zero, List.drop_succ_cons, List.drop_zero]
      repeat still_step
      refine wpStill_nil ?_
      change wpList _ _ _ _ _ wr.drew
      go_wp2_with fail
      refine hput.mono ?_
      rintro e w3 ⟨F3, rfl, r3, -, -⟩
      have HR3 := Lib.hid r3
      clear r3 hput c1 c2
      go_wp2_with fail
      go_roundg (l.length - (m + 1))
      case measure => have := HG.out; omega
      case rel => exact ⟨m + 1, F3, by go_num, by have := HG.out; omega, HR3⟩
    · have hml : (l.length : Int) ≤ m := by omega
      clear hm
      have hmb : m ≤ 300 := by have := HG.out; omega
      obtain ⟨s, hs0⟩ : ∃ s, puts (l.take m) = s := ⟨_, rfl⟩
      rw [hs0] at HM
      clear hs0 HG
      obtain ⟨f1, f2, f3, f4, f5, f6, f7⟩ := facts_last HM.out.at_.rise v HN.out
      have hget := get' HM.out other HKs.out.2
      obtain ⟨A, hA⟩ : ∃ A, gv s.L other = A := ⟨_, rfl⟩
      obtain ⟨X, hX⟩ : ∃ X, gb s.L other = X := ⟨_, rfl⟩
      rw [hA] at hget f3 f6
      rw [hX] at hget f4 f7
      clear HM hA hX
      go_wp2_with fail
      refine hget.mono ?_
      rintro e w3 ⟨F3, rfl, H3⟩
      have hput := put' H3.out (by omega) key v HKs.out.1
      clear hget H3
      go_wp2_with fail
      refine hput.mono ?_
      rintro e w4 ⟨F4, rfl, H4⟩
      have hget := get' H4.out key HKs.out.1
      simp only [put_L, tick_L] at hget
      rw [f1, f2] at hget
      clear hput H4
      go_wp2_with fail
      refine hget.mono ?_
      rintro e w5 ⟨F5, rfl, H5⟩
      have hget2 := get' H5.out other HKs.out.2
      simp only [put_L, tick_L] at hget2
      rw [f3, f4] at hget2
      clear hget H5
      go_wp2_with fail
      refine hget2.mono ?_
      rintro e w6 ⟨F6, rfl, H6⟩
      have hdel := del' H6.out key HKs.out.1
      simp only [put_L, tick_L] at hdel
      rw [f2] at hdel
      clear hget2 H6
      go_wp2_with fail
      refine hdel.mono ?_
      rintro e w7 ⟨F7, rfl, H7⟩
      have hget := get' H7.out key HKs.out.1
      simp only [put_L, tick_L, del_L] at hget
      rw [f5] at hget
      obtain ⟨Y, hY⟩ : ∃ Y, gv (del (put s.L key v) key) key = Y := ⟨_, rfl⟩
      rw [hY] at hget
      clear hdel H7 hY
      go_wp2_with fail
      refine hget.mono ?_
      rintro e w8 ⟨F8, rfl, H8⟩
      have hget2 := get' H8.out other HKs.out.2
      simp only [put_L, tick_L, del_L] at hget2
      rw [f6, f7] at hget2
      clear hget H8
      go_wp2_with fail
      refine hget2.mono ?_
      rintro e w9 ⟨F9, rfl, H9⟩
      have hdel := del' H9.out key HKs.out.1
      simp only [put_L, tick_L, del_L] at hdel
      rw [f5] at hdel
      obtain ⟨S, hS⟩ : ∃ S, (((s.tick.put key v).tick.tick.del key).tick.tick.del key) = S := ⟨_, rfl⟩
      rw [hS] at hdel
      clear hget2 H9 f1 f2 f3 f4 f5 f6 f7 hS
      have e1 : (v == v) = true := by simp
      have e2 : (A == A) = true := by simp
      have e3 : (X == X) = true := by simp
      go_wp2_with fail
      refine hdel.mono ?_
      rintro e w10 ⟨F10, rfl, H10⟩
      clear hdel
      go_wp2_with fail
      go_ret
      exact ⟨rfl, H10.out.below⟩
end Go.Proofs.Ytekcogoijlbmnaa.TableLast
