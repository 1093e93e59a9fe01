/- Layer 6: the walk over Copy. -/
import Derived.Test.YtncdaadiadeeiaaTiny2
import Derived.Deep.RegionHeld3
namespace Go.Proofs.Ytncdaadiadeeiaa.Tiny
open Go Go.RowKit Go.Proofs.Ytncdaadiadeeiaa.Mem

set_option maxHeartbeats 2000000 in
theorem copy_run {W w : World} {b fb cb : Nat} {j : St} (h : Run W w b fb cb j) : Calls Try.prog 43 #[.pointer (some ⟨b, 0, none⟩)] w fun e w' =>
    ∃ b' fb' cb', e = .returned (.pointer (some ⟨b', 0, none⟩)) ∧ Run W w' b fb cb j ∧ Run W w' b' fb' cb' j ∧ (w.heap.size ≤ b' ∧ w.heap.size ≤ fb' ∧ w.heap.size ≤ cb') ∧ Below w.heap.size w w' := by
  have c0 : w.cell? ⟨b, 0, none⟩ = some (.pointer (some ⟨fb, 0, none⟩)) := Mem.row_cell h.blk 0
  have c1 : w.cell? ⟨b, 1, none⟩ = some (.pointer (some ⟨cb, 0, none⟩)) := Mem.row_cell h.blk 1
  have a0 : Bloom.At w fb j.f := h.f.at_
  have a1 : Sketch.At w cb j.c := h.c.at_
  have hbl : b < w.heap.size := h.lt.1
  have H := Lib.hid h
  have hb0 : Below w.heap.size w w := Below.refl _ _
  clear h
  go_enter Try.func43, Try.ntmps43
  go_wp2_with fail
  go_region_held3 (fun W' : World => Below w.heap.size w W' ∧ Bloom.At W' fb j.f ∧ Sketch.At W' cb j.c ∧ W'.cell? ⟨b, 0, none⟩ = some (.pointer (some ⟨fb, 0, none⟩)) ∧ W'.cell? ⟨b, 1, none⟩ = some (.pointer (some ⟨cb, 0, none⟩)))
    (first
      | exact ⟨hb0.drew, a0, a1, c0, c1⟩
      | (go_split_ands; exact ⟨Mem.tr (by assumption) hbc, Bloom.At.below (by assumption) hbc, Sketch.At.below (by assumption) hbc, (World.cell?_of_block (hbc.block b (Nat.lt_of_lt_of_le hbl (Below.size (by assumption))))).trans (by assumption), (World.cell?_of_block (hbc.block b (Nat.lt_of_lt_of_le hbl (Below.size (by assumption))))).trans (by assumption)⟩)
      | (go_split_ands; exact ⟨Mem.tr (by assumption) hbf, Bloom.At.below (by assumption) hbf, Sketch.At.below (by assumption) hbf, (World.cell?_of_block (hbf.block b (Nat.lt_of_lt_of_le hbl (Below.size (by assumption))))).trans (by assumption), (World.cell?_of_block (hbf.block b (Nat.lt_of_lt_of_le hbl (Below.size (by assumption))))).trans (by assumption)⟩)
      | (go_split_ands; exact ⟨Mem.al (by assumption) _, Bloom.At.below (by assumption) (Mem.al (Below.refl _ _) _), Sketch.At.below (by assumption) (Mem.al (Below.refl _ _) _), (World.cell?_of_block (Below.heap_alloc _ _ b (Nat.lt_of_lt_of_le hbl (Below.size (by assumption))))).trans (by assumption), (World.cell?_of_block (Below.heap_alloc _ _ b (Nat.lt_of_lt_of_le hbl (Below.size (by assumption))))).trans (by assumption)⟩))
    (first
      | (go_at_call 37; go_split_ands; refine (Bloom.copy_any (by assumption)).mono ?_; rintro e wf ⟨fb1, rfl, hAf, hlf, hbf⟩)
      | (go_at_call 25; go_split_ands; refine (Sketch.copy_any (by assumption)).mono ?_; rintro e wc ⟨cb1, rfl, hAc, hlc, hbc⟩))
  have HX := Lib.hid (And.intro hAf (And.intro hlf (And.intro hbf (And.intro hAc (And.intro hlc hbc)))))
  clear hAf hlf hbf hAc hlc hbc
  go_wp2_with fail
  go_ret
  obtain ⟨hAf, hlf, hbf, hAc, hlc, hbc⟩ := HX.out
  have hbw : Below w.heap.size w wf := ⟨hbf.os, hbf.tape, hbf.output, hbf.size, hbf.block⟩
  have h1 := hbw.size
  have h2 := hbc.size
  have h3 := hAf.lt
  have h4 := hAc.lt
  have h5 : w.heap.size ≤ fb1 := hlf
  have hall := Mem.al (Mem.tr hbw hbc) (.cells #[.pointer (some ⟨fb1, 0, none⟩), .pointer (some ⟨cb1, 0, none⟩)] 82)
  have hst := H.out.step hall
  have hz := H.out.below.size
  exact ⟨_, fb1, cb1, rfl, hst, ⟨Mem.new_block wc _, by omega, ⟨(hAf.below hbc).below (Mem.al (Below.refl _ _) _), by omega, hst.below, H.out.f.ok⟩, ⟨hAc.below (Mem.al (Below.refl _ _) _), by omega, hst.below, H.out.c.ok⟩, by omega, by omega, by omega⟩, ⟨by omega, by omega, by omega⟩, hall⟩
end Go.Proofs.Ytncdaadiadeeiaa.Tiny
