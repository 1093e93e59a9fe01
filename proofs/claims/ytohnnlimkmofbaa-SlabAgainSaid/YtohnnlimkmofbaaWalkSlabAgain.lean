/- SlabAgain answers true for every budget and list of sizes. Conditions: the numbers are ints. -/
import Derived.Test.YtohnnlimkmofbaaSlabAwake
import Derived.Test.YtohnnlimkmofbaaSlab6
import Derived.Test.YtohnnlimkmofbaaErrs
import Derived.Test.YtohnnlimkmofbaaAgain
import Derived.Deep.LoopGhost
import Derived.Deep.QuietTactic
import Derived.BigQuiet
import Derived.Deep.CutRange
namespace Go.Proofs.Ytohnnlimkmofbaa.SlabAgain
open Go Go.RowKit Go.Proofs.Ytohnnlimkmofbaa.Slab Go.Proofs.Ytohnnlimkmofbaa.Mem Go.Proofs.Ytohnnlimkmofbaa.Ops Go.Proofs.Ytohnnlimkmofbaa.Again

def As (budget : Int) (sz : Nat → Int) (m : Nat) : List (Int × Int) := (List.range m).map fun j => (R budget sz j).1
def Es (budget : Int) (sz : Nat → Int) (m : Nat) : List Int := (List.range m).map fun j => (R budget sz j).2
section
variable {budget : Int} {sz : Nat → Int}
theorem As_len (m : Nat) : (As budget sz m).length = m := by simp [As]
theorem Es_len (m : Nat) : (Es budget sz m).length = m := by simp [Es]
theorem As_succ (m : Nat) : As budget sz (m + 1) = As budget sz m ++ [(R budget sz m).1] := by simp [As, List.range_succ]
theorem Es_succ (m : Nat) : Es budget sz (m + 1) = Es budget sz m ++ [(R budget sz m).2] := by simp [Es, List.range_succ]
theorem As_get {m j : Nat} (h : j < m) : (As budget sz m)[j]? = some (R budget sz j).1 := by simp [As, h]
theorem Es_get {m j : Nat} (h : j < m) : (Es budget sz m)[j]? = some (R budget sz j).2 := by simp [Es, h]
end

/-- What holds at a loop's head. -/
structure Keep (W wr : World) (N b : Nat) (F : Nat → Prop) (s : St) (va ve : Value) (cs : List (Int × Int)) (es : List Int) : Prop where
  run : Run W wr N b F s
  row : Row W wr F va cs
  err : RowE W wr F ve es
theorem Keep.step {W wr w' : World} {N b : Nat} {F : Nat → Prop} {s : St} {va ve : Value} {cs : List (Int × Int)} {es : List Int} (h : Keep W wr N b F s va ve cs es) (hb : Below wr.heap.size wr w') : Keep W w' N b F s va ve cs es :=
  ⟨h.run.step hb, h.row.step hb, h.err.step hb⟩
theorem Keep.mono {W wr : World} {N M b : Nat} {F : Nat → Prop} {s : St} {va ve : Value} {cs : List (Int × Int)} {es : List Int} (h : Keep W wr N b F s va ve cs es) (hm : N ≤ M) : Keep W wr M b F s va ve cs es := ⟨h.run.mono hm, h.row, h.err⟩
theorem Keep.post {W wr w' : World} {N M b : Nat} {F F' : Nat → Prop} {s s' : St} {va ve : Value} {cs : List (Int × Int)} {es : List Int} (h : Keep W wr N b F s va ve cs es) (ha : At w' b F' s') (ho : Only F wr w') (hg : Grows wr F F') (hm : Slab.Good M s') : Keep W w' M b F' s' va ve cs es :=
  ⟨h.run.post ha ho hg hm, h.row.only ho hg, h.err.only ho hg⟩

theorem Keep.errs {W w w' : World} {N b m : Nat} {F : Nat → Prop} {s : St} {va ve : Value} {budget : Int} {sz : Nat → Int} (h : Keep W w N b F s va ve (As budget sz m) (Es budget sz m)) (hg : w.grownBy w' va.ownBlock) (o : Obj) :
    (w'.alloc o).ownsRow W.heap.size 23 1 ve m (cellsE (Es budget sz m)) := by
  have := ((h.err.grown hg fun g e1 e2 => rows_two h.err.own h.row.own (by decide) g e1 e2).step (Mem.al (Below.refl _ _) o)).own
  rwa [Es_len] at this
theorem Keep.both {W w w6 w7 : World} {N b m g g' cap cap' : Nat} {F : Nat → Prop} {s : St} {va ve : Value} {budget : Int} {sz : Nat → Int} {o : Obj} {cc nn ee : Int} (h : Keep W w N b F s va ve (As budget sz m) (Es budget sz m))
    (hr : R budget sz m = ((cc, nn), ee)) (hg : w.grownBy w6 va.ownBlock) (ho : w6.ownsRow W.heap.size 34 2 (.slice (some ⟨g, 0, none⟩) (m + 1) cap) (m + 1) (cellsC (As budget sz m) ++ [.int .i64 cc, .int .i64 nn])) (ha : va.ownBlock = some g ∨ g = w.heap.size)
    (hg' : (w6.alloc o).grownBy w7 ve.ownBlock) (ho' : w7.ownsRow W.heap.size 23 1 (.slice (some ⟨g', 0, none⟩) (m + 1) cap') (m + 1) (cellsE (Es budget sz m) ++ [.int .i64 ee])) (ha' : ve.ownBlock = some g' ∨ g' = (w6.alloc o).heap.size) :
    Keep W w7 N b F s (.slice (some ⟨g, 0, none⟩) (m + 1) cap) (.slice (some ⟨g', 0, none⟩) (m + 1) cap') (As budget sz (m + 1)) (Es budget sz (m + 1)) := by
  have hR6 := (h.run.grown hg fun g e => ⟨h.row.off g e, (ownsRow_lt h.row.own g e).1⟩).step (Mem.al (Below.refl _ _) o)
  have hE6 := ((h.err.grown hg fun g e1 e2 => rows_two h.err.own h.row.own (by decide) g e1 e2).step (Mem.al (Below.refl _ _) o))
  have hrow6 := h.row.appended (c := (cc, nn)) h.run (by rw [As_len]; exact ho) (ha.imp id fun e => by omega)
  have hrow7 := hrow6.step (Mem.al (Below.refl _ _) o)
  have hR7 := hR6.grown hg' fun g e => ⟨hE6.off g e, (ownsRow_lt hE6.own g e).1⟩
  have hE7 := hE6.appended (c := ee) hR6 (by rw [Es_len]; exact ho') (ha'.imp id fun e => by omega)
  have hrow8 := hrow7.grown hg' fun g e1 e2 => rows_two hrow7.own hE6.own (by decide) g e1 e2
  rw [As_len] at hrow8
  rw [Es_len] at hE7
  refine ⟨hR7, ?_, ?_⟩
  · rw [As_succ, hr]; exact hrow8
  · rw [Es_succ, hr]; exact hE7

set_option maxRecDepth 20000 in
set_option maxHeartbeats 4000000 in
theorem walk (W : World) (budget : Int) (x : Option Addr) (n c : Nat) (l : List Slab.Op) (hb : isI budget) (hl : n = l.length ∧ n ≤ maxLen ∧ (∀ a ∈ l, OpOk a) ∧ Lies W 6 encO x l) :
    Calls Try.prog 4 #[.int .i64 budget, .slice x n c] W fun e W' => e = .returned (.bool true) ∧ Below W.heap.size W W' := by
  obtain ⟨rfl, -, -, hlies⟩ := hl
  have HL := Lib.hid hlies
  obtain ⟨i0, hi, hz0, hz1, hz2⟩ := info_parts infoChunk
  obtain ⟨i1, hj, hy0, hy1, hy2⟩ := info_parts infoErrno
  obtain ⟨sz, hsz⟩ : ∃ sz : Nat → Int, ∀ i o, l[i]? = some o → sz i = o.size := ⟨fun i => ((l[i]?).map Slab.Op.size).getD 0, fun i o h => by simp [h]⟩
  have HZ := Lib.hid hsz
  have hbI := Lib.hid hb
  clear hlies hsz
  go_enter Try.func4, Try.ntmps4
  go_wp2_with fail
  refine (awake_any _).mono ?_
  rintro e w1 ⟨rfl, hb1⟩
  go_wp2_with fail
  refine (new_gives _ _).mono ?_
  rintro e w2 ⟨b, F, rfl, h0, hF, hb2⟩
  have r0 : Run W w2 0 b F (new budget) := ⟨h0, fun k hk => Nat.le_trans hb1.size (hF k hk), hb1.trans (hb2.mono hb1.size), Good.new budget hb⟩
  clear h0 hF hb1 hb2 hb
  by_cases hn : 100 < l.length
  · go_wp2_with fail
    go_ret
    exact ⟨rfl, r0.below⟩
  go_wp2_with fail
  go_loopg [7, 8, 9] l.length (fun g va ve i wr => ∃ (m : Nat) (F : Nat → Prop), i = .int .i64 m ∧ g + m = l.length ∧ Keep W wr m b F (S budget sz m) va ve (As budget sz m) (Es budget sz m))
  case atStart => exact ⟨0, F, rfl, by omega, r0, Row.nil _ _ _, RowE.nil _ _ _⟩
  case round =>
    obtain ⟨m, F1, rfl, hg, hK⟩ := hrel
    clear r0
    have HG := Lib.hid hg
    have hm100 : m ≤ 100 := by omega
    obtain ⟨ya, yc, hya⟩ := hK.row.shape
    obtain ⟨ye, yd, hye⟩ := hK.err.shape
    rw [As_len] at hya
    rw [Es_len] at hye
    subst hya hye
    by_cases hm : m < l.length
    · obtain ⟨o, ho⟩ : ∃ o, l[m]? = some o := ⟨_, List.getElem?_eq_getElem hm⟩
      obtain ⟨B, off, rfl, hB, hc⟩ := HL.out m o ho
      have cz := (World.cell?_of_block (hK.run.below.block B hB)).trans (hc 1 _ rfl)
      have hmi : (m : Int) < l.length := by omega
      have htk := take_any hK.run.at_ hK.run.good.small (by omega) o.size
      have hgt := hK.run.good.take o.size
      rw [← HZ.out m o ho] at htk hgt
      unfold TakePost at htk
      rw [show ((S budget sz m).take (sz m)).2 = S budget sz (m + 1) from rfl, show ((S budget sz m).take (sz m)).1 = R budget sz m from rfl] at htk
      rw [show ((S budget sz m).take (sz m)).2 = S budget sz (m + 1) from rfl] at hgt
      have hA1 := As_succ (budget := budget) (sz := sz) m
      have hE1 := Es_succ (budget := budget) (sz := sz) m
      have hzo : o.size = sz m := (HZ.out m o ho).symm
      generalize hR : R budget sz m = r at *
      obtain ⟨⟨cc, nn⟩, ee⟩ := r
      simp only at htk hA1 hE1
      have HK := Lib.hid (And.intro hK (And.intro hgt (And.intro hA1 hE1)))
      have HR := Lib.hid hR
      clear hK hgt hA1 hE1 hc ho hg hR
      go_wp2_with fail
      refine htk.mono ?_
      rintro e w3 ⟨F2, rfl, h3, o3, q3⟩
      have hK3 := HK.out.1.post h3 o3 q3 HK.out.2.1
      have hK5 := hK3.step (Mem.al (Mem.al (Below.refl _ w3) (.cells #[.int .i64 cc, .int .i64 nn] 34)) (.cells #[.int .i64 cc, .int .i64 nn] 34))
      have hk1 := Mem.new_block w3 (.cells #[.int .i64 cc, .int .i64 nn] 34)
      have p0 := Mem.row_cell hk1 0
      have p1 := Mem.row_cell hk1 1
      simp only [List.getElem?_toArray, List.getElem?_cons_zero, List.getElem?_cons_succ] at p0 p1
      have hWw : W.heap.size ≤ w3.heap.size := hK3.run.below.size
      have HK5 := Lib.hid hK5
      have hown0 := hK5.row.own
      rw [As_len] at hown0
      have HO0 := Lib.hid hown0
      clear hown0
      clear hK3 hK5 hk1 h3 o3 q3 htk
      go_wp2_with (first | (at_builtin; refine wpList_append_lies _ rfl _ _ _ rfl W.heap.size 34 i0 _ 2 16 Try.underlying31 hi hz0 hz1 hz2 rfl (by decide) _ m (cellsC (As budget sz m)) rfl HO0.out ⟨w3.heap.size + 1, 0, none⟩ 1 1 [.int .i64 cc, .int .i64 nn] rfl rfl (World.news_of_block (Mem.new_block2 w3 _ _)) (by simp [Value.oneCell']) (by decide) (by unfold maxLen; omega) (by omega) (by simp; omega) (w3.heap.size + 1 + 1) (by simp) ?_; intro gg cap w6 hown hgrow hat hlt; have hE6 := HK5.out.errs hgrow (.cells #[.int .i64 ee] 23); have hW6 := hgrow.size) | (at_builtin; refine wpList_append_lies _ rfl _ _ _ rfl W.heap.size 23 i1 _ 1 8 Try.underlying32 hj hy0 hy1 hy2 rfl (by decide) _ m (cellsE (Es budget sz m)) rfl hE6 ⟨w6.heap.size, 0, none⟩ 1 1 [.int .i64 ee] rfl rfl (World.news_of_block (Mem.new_block w6 _)) (by simp [Value.oneCell']) (by decide) (by unfold maxLen; omega) (by omega) (by simp at hW6 ⊢; omega) (w6.heap.size + 1) (by simp) ?_; intro gg' cap' w7 hown' hgrow' hat' hlt'))
      have hB := HK5.out.both HR.out hgrow hown (hat.imp id fun e => by simpa using e) hgrow' hown' (hat'.imp id fun e => by simpa using e)
      go_roundg (l.length - (m + 1))
      case measure => have := HG.out; omega
      case rel => exact ⟨m + 1, F2, by go_num, by have := HG.out; omega, hB⟩
    · have hml : m = l.length := by omega
      subst hml
      have hmi : (l.length : Int) ≤ (l.length : Int) := Int.le_refl _
      have hused := used_any hK.run.at_
      have HK := Lib.hid hK
      have hw0 : IntKind.i64.wrap ((l.length : Int) - 1) = (l.length : Int) - 1 := by rw [IntKind.wrap_i64]; omega
      clear hK hg
      go_wp2_with (refine hused.mono ?_; rintro e w' ⟨rfl, rfl⟩)
      have hlike := like_all (budget := budget) (sz := sz) l.length
      go_loopg [13] l.length (fun g i wr => ∃ (F : Nat → Prop) (s : St), i = .int .i64 ((g : Int) - 1) ∧ g ≤ l.length ∧ Keep W wr (l.length + (l.length - g)) b F s (.slice ya l.length yc) (.slice ye l.length yd) (As budget sz l.length) (Es budget sz l.length) ∧ Like budget sz l.length g s)
      case atStart => exact ⟨F1, _, rfl, Nat.le_refl _, by rw [Nat.sub_self]; exact HK.out, hlike⟩
      case round =>
        obtain ⟨F2, s, rfl, hgl, hK2, hL2⟩ := hrel
        clear hlike
        match gk, hgl, hK2, hL2 with
        | kk + 1, hgl, hK2, hL2 =>
          have hik : (((kk + 1 : Nat) : Int) - 1) = (kk : Int) := by omega
          simp only [hik]
          have hkl : kk < l.length := by omega
          have hki : (kk : Int) < l.length := by omega
          have hk0 : (0 : Int) ≤ kk := by omega
          have hwk : IntKind.i64.wrap ((kk : Int) - 1) = (kk : Int) - 1 := by rw [IntKind.wrap_i64]; omega
          have hyes := fun he => undo_yes hbI.out hkl hL2 he
          have hno := fun he => undo_no hkl hL2 he
          obtain ⟨g1, c1, hy1, hg1, z0, z1⟩ := hK2.row.get (As_get (budget := budget) (sz := sz) hkl)
          obtain ⟨g2, c2, hy2, hg2, y0⟩ := hK2.err.get (Es_get (budget := budget) (sz := sz) hkl)
          rw [As_len] at hy1
          rw [Es_len] at hy2
          injection hy1 with hy1 hle hyc1; clear hle
          injection hy2 with hy2 hle hyc2; clear hle
          subst hy1 hyc1 hy2 hyc2
          generalize R budget sz kk = r at *
          obtain ⟨⟨cc, nn⟩, ee⟩ := r
          simp only at hyes hno z0 z1 y0
          have HK2 := Lib.hid (And.intro hK2 hL2)
          have HY := Lib.hid (And.intro hyes hno)
          clear hK2 hL2 hyes hno
          by_cases he : ee = 0
          · subst he
            have hfree := free_any HK2.out.1.run.at_ HK2.out.1.run.good.small (by omega) cc nn
            have hgf := HK2.out.1.run.good.free (cc, nn)
            unfold FreePost at hfree
            rw [(HY.out.1 rfl).1] at hfree
            have hL3 := (HY.out.1 rfl).2
            generalize (s.free (cc, nn)).2 = s3 at *
            have H3 := Lib.hid (And.intro hgf hL3)
            clear hgf hL3
            go_wp2_with fail
            refine hfree.mono ?_
            rintro e w4 ⟨F4, rfl, h4, o4, q4⟩
            have HK4 := Lib.hid (HK2.out.1.post h4 o4 q4 H3.out.1)
            clear h4 o4 q4 hfree
            go_wp2_with fail
            go_roundg kk
            case measure => omega
            case rel => exact ⟨F4, s3, by first | rfl | go_num, by omega, HK4.out.mono (by omega), H3.out.2⟩
          · have he' : (ee == 0) = false := by simpa using he
            have hL3 := HY.out.2 he
            have H3 := Lib.hid hL3
            clear hL3 he
            go_wp2_with fail
            go_roundg kk
            case measure => omega
            case rel => exact ⟨F2, s, by first | rfl | go_num, by omega, HK2.out.1.mono (by omega), H3.out⟩
        | 0, hgl, hK2, hL2 =>
          have hu0 : s.used = 0 := by rw [hL2.used]; rfl
          have hused2 := used_any hK2.run.at_
          rw [hu0] at hused2
          have HK2 := Lib.hid (And.intro hK2 hL2)
          clear hK2 hL2 hu0
          go_wp2_with (refine hused2.mono ?_; rintro e w' ⟨rfl, rfl⟩)
          go_loopg [15] l.length (fun g i wr => ∃ (m : Nat) (F : Nat → Prop) (s : St), i = .int .i64 m ∧ g + m = l.length ∧ Keep W wr (l.length + l.length + m) b F s (.slice ya l.length yc) (.slice ye l.length yd) (As budget sz l.length) (Es budget sz l.length) ∧ Like budget sz l.length m s)
          case atStart => exact ⟨0, F2, s, rfl, by omega, HK2.out.1, HK2.out.2⟩
          case round =>
            obtain ⟨m, F3, s3, rfl, hg3, hK3, hL3⟩ := hrel
            have HG3 := Lib.hid hg3
            have hm100 : m ≤ 100 := by omega
            by_cases hm : m < l.length
            · obtain ⟨o, ho⟩ : ∃ o, l[m]? = some o := ⟨_, List.getElem?_eq_getElem hm⟩
              obtain ⟨B, off, rfl, hB, hc⟩ := HL.out m o ho
              have cz := (World.cell?_of_block (hK3.run.below.block B hB)).trans (hc 1 _ rfl)
              have hmi : (m : Int) < l.length := by omega
              have htk := take_any hK3.run.at_ hK3.run.good.small (by omega) o.size
              have hgt := hK3.run.good.take o.size
              have hre := redo hm hL3
              rw [← HZ.out m o ho] at htk hgt
              have hzo : o.size = sz m := (HZ.out m o ho).symm
              unfold TakePost at htk
              rw [hre.1] at htk
              have hL4 := hre.2
              generalize (s3.take (sz m)).2 = s4 at *
              obtain ⟨g1, c1, hy1, hg1, z0, z1⟩ := hK3.row.get (As_get (budget := budget) (sz := sz) hm)
              obtain ⟨g2, c2, hy2, hg2, y0⟩ := hK3.err.get (Es_get (budget := budget) (sz := sz) hm)
              rw [As_len] at hy1
              rw [Es_len] at hy2
              injection hy1 with hy1 hle hyc1; clear hle
              injection hy2 with hy2 hle hyc2; clear hle
              subst hy1 hyc1 hy2 hyc2
              have ha := As_get (budget := budget) (sz := sz) hm
              have hb := Es_get (budget := budget) (sz := sz) hm
              generalize R budget sz m = r at *
              obtain ⟨⟨cc, nn⟩, ee⟩ := r
              simp only at htk z0 z1 y0 ha hb
              have HK3 := Lib.hid (And.intro hK3 (And.intro hgt (And.intro hL4 (And.intro ha hb))))
              clear hK3 hgt hL4 hL3 hre hc ho hg3 ha hb z0 z1 y0 hg1 hg2
              go_wp2_with fail
              refine htk.mono ?_
              rintro e w4 ⟨F4, rfl, h4, o4, q4⟩
              have hK4 := HK3.out.1.post h4 o4 q4 HK3.out.2.1
              have hst5 : Below w4.heap.size w4 (w4.alloc (.cells #[.int .i64 cc, .int .i64 nn] 34)) := Mem.al (Below.refl _ _) _
              have hK5 := hK4.step hst5
              have hk1 := Mem.new_block w4 (.cells #[.int .i64 cc, .int .i64 nn] 34)
              have p0 := Mem.row_cell hk1 0
              have p1 := Mem.row_cell hk1 1
              simp only [List.getElem?_toArray, List.getElem?_cons_zero, List.getElem?_cons_succ] at p0 p1
              obtain ⟨g1', c1', hy1, hg1, z0, z1⟩ := hK5.row.get HK3.out.2.2.2.1
              obtain ⟨g2', c2', hy2, hg2, y0⟩ := hK5.err.get HK3.out.2.2.2.2
              injection hy1 with hy1 hle hyc1; clear hle
              injection hy2 with hy2 hle hyc2; clear hle
              injection hy1 with hy1
              injection hy2 with hy2
              injection hy1 with hy1
              injection hy2 with hy2
              subst hy1 hyc1 hy2 hyc2
              have HK5 := Lib.hid hK5
              clear hK4 hK5 h4 o4 q4 hk1 hst5 htk hg1 hg2
              dsimp only
              go_upto_region 24 with (fail)
              generalize w4.alloc (.cells #[.int .i64 cc, .int .i64 nn] 34) = w5 at *
              generalize w4.heap.size = cb at *
              go_quiet (fail)
              go_wp2_with fail
              go_roundg (l.length - (m + 1))
              case measure => have := HG3.out; omega
              case rel => exact ⟨m + 1, F4, s4, by go_num, by have := HG3.out; omega, HK5.out.step (Mem.dn (Below.refl _ _) _), HK3.out.2.2.1⟩
            · have hml : m = l.length := by omega
              subst hml
              have hused3 := used_any hK3.run.at_
              rw [hL3.used] at hused3
              have hbel := hK3.run.below
              clear hK3 hL3 hg3
              go_wp2_with (refine hused3.mono ?_; rintro e w' ⟨rfl, rfl⟩)
              go_ret
              exact ⟨rfl, hbel⟩
end Go.Proofs.Ytohnnlimkmofbaa.SlabAgain
