/- SlruStops answers true for every most, list of calls and n. Conditions: the numbers are ints. -/
import Derived.Test.YtpppknopbjpciaaSlru11
namespace Go.Proofs.Ytpppknopbjpciaa.SlruStops
open Go Go.RowKit Go.Proofs.Ytpppknopbjpciaa.Slru Go.Proofs.Ytpppknopbjpciaa.Mem Go.Proofs.Ytpppknopbjpciaa.Ops

theorem reads_take {w : World} {a : Option Addr} {n c : Nat} {xs : List ByteArray} (h : ReadsK w (.slice a n c) xs) (k : Nat) (hk : k ≤ n) : ReadsK w (.slice a k c) (xs.take k) := by
  obtain ⟨a', c', e, h1, h2⟩ := h
  injection e with e1 e2 e3
  subst e1 e2 e3
  refine ⟨a, c, by rw [List.length_take, Nat.min_eq_left hk], by rw [List.length_take]; omega, fun i x hx => h2 i x ?_⟩
  rw [List.getElem?_take] at hx
  split at hx
  · exact hx
  · cases hx

set_option maxRecDepth 20000 in
set_option maxHeartbeats 2000000 in
theorem walk (W : World) (most : Int) (x : Option Addr) (n0 c : Nat) (l : List Slru.Op) (n : Int) (_ : -9223372036854775808 ≤ most ∧ most ≤ 9223372036854775807) (hl : n0 = l.length ∧ n0 ≤ maxLen ∧ (∀ a ∈ l, OpOk a) ∧ Lies W 2 encO x l) (hn : -9223372036854775808 ≤ n ∧ n ≤ 9223372036854775807) :
    Calls Try.prog 3 #[.int .i64 most, .slice x n0 c, .int .i64 n] W fun e W' => e = .returned (.bool true) ∧ Below W.heap.size W W' := by
  obtain ⟨rfl, hml, -, hlies⟩ := hl
  have HL := Lib.hid hlies
  have HM := Lib.hid hml
  clear hlies hml
  go_enter Try.func3, Try.ntmps3
  go_wp2_with fail
  refine (awake_any W).mono ?_
  rintro e w1 ⟨rfl, hb1⟩
  have hlies1 : Lies w1 2 encO x l := fun i a hi => by
    obtain ⟨B, off, e, hB, hc⟩ := HL.out i a hi
    exact ⟨B, off, e, Nat.lt_of_lt_of_le hB hb1.size, fun j u hj => (World.cell?_of_block (hb1.block B hB)).trans (hc j u hj)⟩
  have hshort := short_any (c := c) hlies1 HM.out
  clear hlies1
  have HS : Hid (shortB l = true → l.length ≤ 200) := Lib.hid (by unfold shortB; intro h; simp at h; exact h.1)
  generalize shortB l = q at *
  go_wp2_with fail
  refine hshort.mono ?_
  rintro e w2 ⟨rfl, rfl⟩
  go_wp2_with fail
  refine (new_run hb1 most).mono ?_
  rintro e w2 ⟨b, F, rfl, r2⟩
  clear hshort hb1
  cases q with
  | false =>
    go_wp2_with fail
    go_ret
    exact ⟨rfl, r2.below⟩
  | true =>
    have hl200 := HS.out rfl
    by_cases hn0 : n < 0
    · go_wp2_with fail
      go_ret
      exact ⟨rfl, r2.below⟩
    by_cases hn3 : 300 < n
    · go_wp2_with fail
      go_ret
      exact ⟨rfl, r2.below⟩
    go_wp2_with fail
    go_loopg [10] l.length (fun g i wr => ∃ (m : Nat) (F : Nat → Prop) (s : St), i = .int .i64 m ∧ g + m = l.length ∧ Hid (Run W wr m b F s))
    case atStart => exact ⟨0, F, new most, rfl, by omega, Lib.hid r2⟩
    case round =>
      obtain ⟨m, F1, s, rfl, hg, HR⟩ := hrel
      have HG := Lib.hid hg
      clear hg r2
      by_cases hm : m < l.length
      · obtain ⟨o, ho⟩ : ∃ o, l[m]? = some o := ⟨_, List.getElem?_eq_getElem hm⟩
        obtain ⟨B, off, rfl, hB, hc⟩ := HL.out m o ho
        have c0 : wr.cell? ⟨B, off + m * 2, none⟩ = some (.int .i64 o.kind) := (World.cell?_of_block (HR.out.below.block B hB)).trans (hc 0 _ rfl)
        have c1 : wr.cell? ⟨B, off + m * 2 + 1, none⟩ = some (.string o.key) := (World.cell?_of_block (HR.out.below.block B hB)).trans (hc 1 _ rfl)
        have hmi : (m : Int) < l.length := by omega
        clear hc hB ho
        by_cases hk1 : o.kind = 1
        · have hkb : (o.kind == 1) = true := by simpa using hk1
          clear hk1
          go_wp2_with fail
          refine (hit_run HR.out o.key (by omega)).mono ?_
          rintro e w3 ⟨rfl, F3, r3⟩
          have HR2 := Lib.hid (r3.mono (M := m + 1) (by omega))
          clear r3 c0 c1
          generalize (s.hit o.key).1 = q
          go_wp2_with fail
          go_roundg (l.length - (m + 1))
          case measure => have := HG.out; omega
          case rel => exact ⟨m + 1, F3, _, by go_num, by have := HG.out; omega, HR2⟩
        · have hkb : (o.kind == 1) = false := by simpa using hk1
          clear hk1
          go_wp2_with fail
          refine (add_run HR.out o.key (by omega)).mono ?_
          rintro e w3 ⟨rfl, F3, r3⟩
          have HR2 := Lib.hid r3
          clear r3 c0 c1
          generalize (s.add o.key).1 = q
          go_wp2_with fail
          go_roundg (l.length - (m + 1))
          case measure => have := HG.out; omega
          case rel => exact ⟨m + 1, F3, _, by go_num, by have := HG.out; omega, HR2⟩
      · have hml : (l.length : Int) ≤ m := by omega
        have hsl : s.all.length ≤ 200 := by have := HR.out.len; have := HG.out; omega
        have h1000 : allN s 1000 = s.all := by unfold allN; exact List.take_of_length_le (by simp; omega)
        have ha1 := all_law HR.out.at_ 1000 (by omega)
        rw [h1000] at ha1
        go_wp2_with fail
        refine ha1.mono ?_
        rintro e w3 ⟨va, rfl, rowa, hb3⟩
        have hra := ReadsK.of_row rowa
        have HR3 := HR.out.step hb3
        clear rowa hb3 ha1
        have ha2 := all_law HR3.at_ n (by omega)
        go_wp2_with fail
        refine ha2.mono ?_
        rintro e w4 ⟨vb, rfl, rowb, hb4⟩
        have hrb := ReadsK.of_row rowb
        have hra := hra.below hb4
        have HR4 := HR3.step hb4
        clear HR3 rowb hb4 ha2 HR
        have hra' := hra
        obtain ⟨ya, yc, rfl, hac, -⟩ := hra
        obtain ⟨yb, ybc, rfl, hbc, -⟩ := id hrb
        have ha3 := fun (w' : World) (hb : Below w4.heap.size w4 w') => all_law (HR4.step hb).at_ 1000 (by omega)
        rw [h1000] at ha3
        have hlen := fun (w' : World) (hb : Below w4.heap.size w4 w') => len_any (HR4.step hb).at_ (by omega)
        have hfin : ∀ (w' : World), Below w4.heap.size w4 w' → Below W.heap.size W w' := fun w' hb => (HR4.step hb).below
        have HF := Lib.hid hfin
        have hac' : (s.all.length : Int) ≤ yc := by omega
        clear hfin
        by_cases hnl : (s.all.length : Int) < n
        · have ht : allN s n = s.all.take s.all.length := by unfold allN; rw [List.take_of_length_le (by omega), List.take_of_length_le (Nat.le_refl _)]
          rw [ht] at hrb hbc
          have hs1 := same_any hrb (reads_take hra' s.all.length (Nat.le_refl _)) (by simp; omega)
          have HH := Lib.hid hra'
          generalize hT : s.all.take s.all.length = T at *
          have hTT : decide (T = T) = true := by simp
          rw [hTT] at hs1
          go_wp2_with fail
          refine hs1.mono ?_
          rintro e w5 ⟨rfl, d5, rfl⟩
          have ha4 := ha3 (w4.drewN d5) (Mem.dn (Below.refl _ _) d5)
          go_wp2_with fail
          refine ha4.mono ?_
          rintro e w6 ⟨vc, rfl, rowc, hb6⟩
          have hrc := ReadsK.of_row rowc
          have hbb : Below w4.heap.size w4 w6 := (Mem.dn (Below.refl _ _) d5).trans hb6
          have hs2 := same_any hrc (HH.out.below hbb) (by omega)
          rw [show decide (s.all = s.all) = true from by simp] at hs2
          have hlen2 := fun d => hlen (w6.drewN d) (Mem.dn hbb d)
          obtain ⟨yd, ydc, rfl, -, -⟩ := hrc
          clear rowc hb6 ha4 ha3 hs1
          go_wp2_with fail
          refine hs2.mono ?_
          rintro e w7 ⟨rfl, d7, rfl⟩
          have hlen3 := hlen2 d7
          have hee : ((s.all.length : Int) == s.all.length) = true := by simp
          go_wp2_with (refine hlen3.mono ?_; rintro e w8 ⟨rfl, d8, rfl⟩)
          go_ret
          exact ⟨rfl, HF.out _ (Mem.dn hbb (d7 + d8))⟩
        · obtain ⟨kk, rfl⟩ := Int.eq_ofNat_of_zero_le (show 0 ≤ n by omega)
          have ht : allN s kk = s.all.take kk := by unfold allN; simp
          rw [ht] at hrb hbc
          have hkl : kk ≤ s.all.length := by omega
          have hs1 := same_any hrb (reads_take hra' kk hkl) (by simp; omega)
          have hkc : (kk : Int) ≤ yc := by omega
          have hk0 : (0 : Int) ≤ kk := by omega
          have HH := Lib.hid hra'
          generalize hT : s.all.take kk = T at *
          have hTT : decide (T = T) = true := by simp
          rw [hTT] at hs1
          go_wp2_with fail
          refine hs1.mono ?_
          rintro e w5 ⟨rfl, d5, rfl⟩
          have ha4 := ha3 (w4.drewN d5) (Mem.dn (Below.refl _ _) d5)
          go_wp2_with fail
          refine ha4.mono ?_
          rintro e w6 ⟨vc, rfl, rowc, hb6⟩
          have hrc := ReadsK.of_row rowc
          have hbb : Below w4.heap.size w4 w6 := (Mem.dn (Below.refl _ _) d5).trans hb6
          have hs2 := same_any hrc (HH.out.below hbb) (by omega)
          rw [show decide (s.all = s.all) = true from by simp] at hs2
          have hlen2 := fun d => hlen (w6.drewN d) (Mem.dn hbb d)
          obtain ⟨yd, ydc, rfl, -, -⟩ := hrc
          clear rowc hb6 ha4 ha3 hs1
          go_wp2_with fail
          refine hs2.mono ?_
          rintro e w7 ⟨rfl, d7, rfl⟩
          have hlen3 := hlen2 d7
          have hee : ((s.all.length : Int) == s.all.length) = true := by simp
          go_wp2_with (refine hlen3.mono ?_; rintro e w8 ⟨rfl, d8, rfl⟩)
          go_ret
          exact ⟨rfl, HF.out _ (Mem.dn hbb (d7 + d8))⟩
end Go.Proofs.Ytpppknopbjpciaa.SlruStops
