/- SlabFrees answers true for every budget, list of sizes and index. Conditions: the numbers are ints. -/
import Derived.Test.YtohnnlimkmofbaaSlabAwake
import Derived.Test.YtohnnlimkmofbaaSlab6
import Derived.Test.YtohnnlimkmofbaaChunks
import Derived.Deep.LoopGhost
import Derived.Deep.QuietTactic
import Derived.BigQuiet
namespace Go.Proofs.Ytohnnlimkmofbaa.SlabFrees
open Go Go.RowKit Go.Proofs.Ytohnnlimkmofbaa.Slab Go.Proofs.Ytohnnlimkmofbaa.Mem Go.Proofs.Ytohnnlimkmofbaa.Ops

set_option maxHeartbeats 2000000 in
theorem walk (W : World) (budget : Int) (x : Option Addr) (n c : Nat) (l : List Slab.Op) (k : Int) (hb : isI budget) (hl : n = l.length ∧ n ≤ maxLen ∧ (∀ a ∈ l, OpOk a) ∧ Lies W 6 encO x l) (hk : isI k) :
    Calls Try.prog 5 #[.int .i64 budget, .slice x n c, .int .i64 k] W fun e W' => e = .returned (.bool true) ∧ Below W.heap.size W W' := by
  obtain ⟨rfl, _, _, hlies⟩ := hl
  have HL := Lib.hid hlies
  obtain ⟨i0, hi, hz0, hz1, hz2⟩ := info_parts infoChunk
  clear hlies
  go_enter Try.func5, Try.ntmps5
  go_wp2_with fail
  refine (awake_any _).mono ?_
  rintro e w1 ⟨rfl, hb1⟩
  go_wp2_with fail
  refine (new_gives _ _).mono ?_
  rintro e w2 ⟨b, F, rfl, h0, hF, hb2⟩
  have r0 : Run W w2 0 b F (new budget) := ⟨h0, fun k hk => Nat.le_trans hb1.size (hF k hk), hb1.trans (hb2.mono hb1.size), Good.new budget hb⟩
  clear h0 hF hb1 hb2
  by_cases hn : 100 < l.length
  · go_wp2_with fail
    go_ret
    exact ⟨rfl, r0.below⟩
  go_wp2_with fail
  go_loopg [9, 10] l.length (fun g va i wr => ∃ (m : Nat) (F : Nat → Prop) (s : St), i = .int .i64 m ∧ g + m = l.length ∧ Run W wr m b F s ∧ Row W wr F va s.inn ∧ s.inn.length ≤ m)
  case atStart => exact ⟨0, F, new budget, rfl, by omega, r0, Row.nil _ _ _, Nat.le_refl _⟩
  case round =>
    obtain ⟨m, F1, s, rfl, hg, hR, hrow, hlm⟩ := hrel
    clear r0
    by_cases hm : m < l.length
    · obtain ⟨o, ho⟩ : ∃ o, l[m]? = some o := ⟨_, List.getElem?_eq_getElem hm⟩
      obtain ⟨B, off, rfl, hB, hc⟩ := HL.out m o ho
      have cz := (World.cell?_of_block (hR.below.block B hB)).trans (hc 1 _ rfl)
      have HG := Lib.hid hg
      clear hc ho hg
      have hmi : (m : Int) < l.length := by omega
      go_wp2_with fail
      refine (take_any hR.at_ hR.good.small (by omega) o.size).mono ?_
      rintro e w3 ⟨F2, he, h2, o2, q2⟩
      have hR2 := hR.post h2 o2 q2 (hR.good.take o.size)
      have hrow2 := hrow.only o2 q2
      have tc := hR.good.take_two o.size
      clear h2 o2 q2 hrow hR cz
      generalize hst : s.take o.size = r at *
      obtain ⟨cc, nn, ee, e1, tc⟩ := tc
      obtain ⟨r1, s2⟩ := r
      simp only at e1 he hR2 tc
      subst e1
      simp only at he
      subst he
      have hstep : Below w3.heap.size w3 (w3.alloc (.cells #[.int .i64 cc, .int .i64 nn] 34)) := Mem.al (Below.refl _ _) _
      have hR3 := hR2.step hstep
      rcases tc with ⟨he, hinn, -, -⟩ | ⟨rfl, -, -, -, -, hinn, -, -⟩
      · have he' : (ee == 0) = false := by rcases he with rfl | rfl <;> rfl
        have hrow3 := hrow2.step hstep
        have hinn' : s2.inn.length = s.inn.length := by rw [hinn]
        rw [← hinn] at hrow3
        have hR4 := Lib.hid hR3
        have hrow4 := Lib.hid hrow3
        clear hR2 hrow2 hR3 hrow3 hinn hst hstep he
        go_wp2_with fail
        go_roundg (l.length - (m + 1))
        case measure => have := HG.out; omega
        case rel => exact ⟨m + 1, _, s2, by go_num, by have := HG.out; omega, hR4.out, hrow4.out, by rw [hinn']; omega⟩
      · have hrow3 := hrow2.step hstep
        have hlen : s.inn.length ≤ 100 := by omega
        have hR4 := hR3.step (Mem.al (Below.refl _ _) (.cells #[.int .i64 cc, .int .i64 nn] 34))
        have hrow4 := hrow3.step (Mem.al (Below.refl _ _) (.cells #[.int .i64 cc, .int .i64 nn] 34))
        have hk1 := Mem.new_block w3 (.cells #[.int .i64 cc, .int .i64 nn] 34)
        have p0 := Mem.row_cell hk1 0
        have p1 := Mem.row_cell hk1 1
        simp only [List.getElem?_toArray, List.getElem?_cons_zero, List.getElem?_cons_succ] at p0 p1
        have HR := Lib.hid hR4
        have HW := Lib.hid hrow4
        have HI := Lib.hid hinn
        have hsz : W.heap.size ≤ w3.heap.size := hR2.below.size
        clear hR2 hrow2 hR3 hrow3 hinn hst hstep hk1 hR4 hrow4
        go_wp2_with (at_builtin; refine wpList_append_lies _ rfl _ _ _ rfl W.heap.size 34 i0 _ 2 16 Try.underlying31 hi hz0 hz1 hz2 rfl (by decide) _ s.inn.length (cellsC s.inn) rfl HW.out.own ⟨w3.heap.size + 1, 0, none⟩ 1 1 [.int .i64 cc, .int .i64 nn] rfl rfl (World.news_of_block (Mem.new_block2 w3 _ _)) (by simp [Value.oneCell']) (by decide) (by unfold maxLen; omega) (by omega) (by simp; omega) (w3.heap.size + 1 + 1) (by simp) ?_; intro gg cap w6 hown hgrow hat hlt)
        have hR6 := HR.out.grown hgrow fun g e => ⟨HW.out.off g e, (ownsRow_lt HW.out.own g e).1⟩
        have hrow6 := HW.out.appended (c := (cc, nn)) HR.out hown (hat.imp id fun e => by rw [e]; simp)
        rw [← HI.out] at hrow6
        have hl6 : s2.inn.length ≤ m + 1 := by rw [HI.out]; simp; omega
        go_roundg (l.length - (m + 1))
        case measure => have := HG.out; omega
        case rel => exact ⟨m + 1, _, s2, by go_num, by have := HG.out; omega, hR6, hrow6, hl6⟩
    · have hlen : s.inn.length ≤ 100 := by omega
      obtain ⟨ya, yc, rfl⟩ := hrow.shape
      have hml : l.length ≤ m := by omega
      have hmm : m ≤ 100 := by omega
      clear hg hlm HL
      by_cases hk0 : k < 0
      · have HR := Lib.hid hR
        clear hR hrow
        go_wp2_with fail
        go_ret
        exact ⟨rfl, HR.out.below⟩
      by_cases hk1 : (s.inn.length : Int) ≤ k
      · have HR := Lib.hid hR
        clear hR hrow
        go_wp2_with fail
        go_ret
        exact ⟨rfl, HR.out.below⟩
      obtain ⟨kk, rfl⟩ := Int.eq_ofNat_of_zero_le (by omega : 0 ≤ k)
      have hkl : kk < s.inn.length := by omega
      obtain ⟨⟨cc, nn⟩, hck⟩ : ∃ q, s.inn[kk]? = some q := ⟨_, List.getElem?_eq_getElem hkl⟩
      have hcin : (cc, nn) ∈ s.inn := List.mem_of_getElem? hck
      have hnd := hR.good.nd
      obtain ⟨f1, f2, f3, f4⟩ := free_in hcin
      have hR1 := hR.good.free (cc, nn)
      have hout : (cc, nn) ∉ (s.free (cc, nn)).2.inn := by rw [f2]; exact fun h => ((hnd.mem_erase_iff).1 h).1 rfl
      have fo := free_out hout
      have hu : (s.free (cc, nn)).2.used = s.used - bytesI cc := f3
      obtain ⟨s1, hs1⟩ : ∃ t, (s.free (cc, nn)).2 = t := ⟨_, rfl⟩
      rw [hs1] at hR1 hout fo f2 hu
      obtain ⟨g, cap, hya, hgl, q0, q1⟩ := hrow.get hck
      injection hya with hya _ hyc
      subst hya hyc
      have hkk : (kk : Int) < s.inn.length := by omega
      have HH := Lib.hid (And.intro hR (And.intro hrow (And.intro hcin (And.intro hR1 (And.intro hout (And.intro fo (And.intro f1 (And.intro f2 (And.intro hu hs1)))))))))
      have HC := Lib.hid hck
      clear hR hrow hcin hR1 hout fo f1 f2 f3 f4 hu hs1 hck hnd
      go_wp2_with fail
      refine (used_any HH.out.1.at_).mono ?_
      rintro e w3 ⟨rfl, rfl⟩
      go_wp2_with fail
      refine (free_any HH.out.1.at_ HH.out.1.good.small (by omega) cc nn).mono ?_
      rintro e w4 ⟨F4, rfl, h4, o4, q4⟩
      rw [HH.out.2.2.2.2.2.2.1]
      rw [HH.out.2.2.2.2.2.2.2.2.2] at h4
      have hR4 := HH.out.1.post h4 o4 q4 HH.out.2.2.2.1
      have hrow4 := HH.out.2.1.only o4 q4
      obtain ⟨g', cap', hya, hgl', q0', q1'⟩ := hrow4.get HC.out
      injection hya with hya _ hyc
      injection hya with hya
      injection hya with hya
      subst hya hyc
      have H4 := Lib.hid (And.intro hR4 hrow4)
      clear hR4 hrow4 h4 o4 q4 q0 q1
      go_wp2_with fail
      refine (free_any H4.out.1.at_ H4.out.1.good.small (by omega) cc nn).mono ?_
      rw [show FreePost w4 b F4 s1 (cc, nn) = fun e w' => ∃ F', e = .returned (.int .i64 1) ∧ At w' b F' s1 ∧ Only F4 w4 w' ∧ Grows w4 F4 F' from by unfold FreePost; rw [HH.out.2.2.2.2.2.1]]
      rintro e w5 ⟨F5, rfl, h5, o5, q5⟩
      have H5 := Lib.hid (And.intro (H4.out.1.post h5 o5 q5 (H4.out.1.good)) (H4.out.2.only o5 q5))
      clear h5 o5 q5 q0' q1'
      go_wp2_with fail
      go_loopg [16] s.inn.length (fun gm i wr => ∃ (j : Nat), i = .int .i64 j ∧ gm + j = s.inn.length ∧ Run W wr (m + 1) b F5 s1 ∧ Row W wr F5 (.slice (some ⟨g, 0, none⟩) s.inn.length yc) s.inn)
      case atStart => exact ⟨0, rfl, by omega, H5.out.1, H5.out.2⟩
      case round =>
        obtain ⟨j, rfl, hgj, hRj, hrj⟩ := hrel
        clear H5 H4
        by_cases hj : j < s.inn.length
        · obtain ⟨⟨cj, nj⟩, hcj⟩ : ∃ q, s.inn[j]? = some q := ⟨_, List.getElem?_eq_getElem hj⟩
          obtain ⟨g', cap', hya, hgl', z0, z1⟩ := hrj.get hcj
          injection hya with hya _ hyc
          injection hya with hya
          injection hya with hya
          subst hya hyc
          have hji : (j : Int) < s.inn.length := by omega
          have hmem : decide ((cj, nj) ∈ s1.inn) = !decide ((j : Int) = kk) := by
            rw [HH.out.2.2.2.2.2.2.2.1]
            have hnd := HH.out.1.good.nd
            have hcm := List.mem_of_getElem? hcj
            have hkc := HC.out
            by_cases e : j = kk
            · subst e
              rw [hcj] at hkc
              injection hkc with hkc
              rw [hkc]
              have : (cc, nn) ∉ s.inn.erase (cc, nn) := fun h => ((hnd.mem_erase_iff).1 h).1 rfl
              simp [this]
            · have hne : (cj, nj) ≠ (cc, nn) := fun e1 => e (by
                exact (List.getElem?_inj hj hnd).1 (hcj.trans (by rw [e1]; exact hkc.symm)))
              have : (cj, nj) ∈ s.inn.erase (cc, nn) := (hnd.mem_erase_iff).2 ⟨hne, hcm⟩
              have hji : ¬ (j : Int) = kk := by omega
              simp [this, hji]
          have hhas := has_any hRj.at_ cj nj
          rw [hmem] at hhas
          have HJ := Lib.hid (And.intro hRj hrj)
          have HG := Lib.hid hgj
          clear hRj hrj hcj hmem hgj
          by_cases e : (j : Int) = kk
          · have he : (!decide ((j : Int) = kk)) = false := by simp [e]
            rw [he] at hhas
            obtain rfl : j = kk := by omega
            clear e
            have hne : ((j : Int) != j) = false := by simp
            go_wp2_with fail
            refine hhas.mono ?_
            rintro e' w6 ⟨rfl, hb6⟩
            go_wp2_with fail
            go_roundg (s.inn.length - (j + 1))
            case measure => have := HG.out; omega
            case rel => exact ⟨j + 1, by go_num, by have := HG.out; omega, HJ.out.1.step hb6, HJ.out.2.step hb6⟩
          · have he : (!decide ((j : Int) = kk)) = true := by simp [e]
            rw [he] at hhas
            have hne : ((j : Int) != kk) = true := by simpa using e
            go_wp2_with fail
            refine hhas.mono ?_
            rintro e' w6 ⟨rfl, hb6⟩
            go_wp2_with fail
            go_roundg (s.inn.length - (j + 1))
            case measure => have := HG.out; omega
            case rel => exact ⟨j + 1, by go_num, by have := HG.out; omega, HJ.out.1.step hb6, HJ.out.2.step hb6⟩
        · obtain ⟨g', cap', hya, hgl', z0, z1⟩ := hrj.get HC.out
          injection hya with hya _ hyc
          injection hya with hya
          injection hya with hya
          subst hya hyc
          have hu1 : s1.used = s.used - bytesI cc := HH.out.2.2.2.2.2.2.2.2.1
          have hu0 := HH.out.1.good.small.u0
          have hu2 : s.used ≤ 2251799813685248 := by have := HH.out.1.good.small.u1; omega
          have hbr := bytes_range cc
          have hused := fun m => used_any (w := wr.drewN m) (hRj.at_.same (fun _ _ => rfl) (Nat.le_refl _))
          have hB := fun w => bytes_any cc w
          have hjs : (s.inn.length : Int) ≤ j := by omega
          have hbelow := hRj.below
          generalize bytesI cc = bc at *
          rw [hu1] at hused
          clear hRj hrj hgj hu1
          have hw : IntKind.i64.wrap (s.used - bc) = s.used - bc := by rw [IntKind.wrap_i64]; omega
          generalize s.used = u at *
          go_wp2_with fail
          go_quiet (first | (go_at_call 15; exact Calls.quiet_of_same ((hused _).mono fun _ _ ⟨h, e⟩ => ⟨h, e.symm⟩)) | (go_at_call 11; exact Calls.quiet_of_same ((hB _).mono fun _ _ ⟨h, e⟩ => ⟨h, e.symm⟩)))
          go_wp2
          go_ret
          exact ⟨rfl, Mem.tr hbelow (Mem.dn (Below.refl _ _) _)⟩
end Go.Proofs.Ytohnnlimkmofbaa.SlabFrees
