/- The document's own list of layer 8: All, Victim. -/
import Derived.Test.YtpppknopbjpciaaSlruRef4
namespace Go.Proofs.Ytpppknopbjpciaa.RefSlru
open Go Go.RowKit Go.Proofs.Ytpppknopbjpciaa.Slru Go.Proofs.Ytpppknopbjpciaa.Mem

set_option maxHeartbeats 1000000 in
theorem all_any {w : World} {b : Nat} {G : Nat → Prop} {s : St} (h : RAt w b G s) (hl : s.all.length ≤ 10000000) :
    Calls Try.prog 22 #[.pointer (some ⟨b, 0, none⟩)] w (AllPost w s.all) := by
  obtain ⟨vt, vs, h⟩ := h
  have hl2 : s.trial.length + s.safe.length ≤ 10000000 := by unfold St.all at hl; rwa [List.length_append] at hl
  have c1 := Mem.row_cell h.blk 1
  simp only [List.getElem?_toArray, List.getElem?_cons_zero, List.getElem?_cons_succ] at c1
  have HH := Lib.hid h
  have ht := Lib.hid (Lk.of_row h.rt)
  have hlt := h.lt
  clear h hl
  have hafter : ∀ v1 (w1 : World), w1.ownsRow w.heap.size 9 1 v1 ([] ++ s.trial).length (cellsK ([] ++ s.trial)) → w.grownBy w1 none → (v1.ownBlock = none ∨ v1.ownBlock = some w.heap.size) →
      w1.cell? ⟨b, 2, none⟩ = some vs ∧ w1.ownsRow w.heap.size 9 1 v1 s.trial.length (cellsK s.trial) ∧ Below w.heap.size w w1 ∧ Lk w1 vs s.safe := fun v1 w1 hown hg hat => by
    have hb : Below w.heap.size w w1 := (Below.refl _ _).grown hg (Nat.le_refl _) (fun k e => by cases e)
    have h1 := HH.out.below hb
    exact ⟨Mem.row_cell h1.blk 2, by simpa using hown, hb, h1.rs⟩
  have HA := Lib.hid hafter
  clear hafter
  go_enter Try.func22, Try.ntmps22
  go_wp2_with (at_builtin; first
    | (refine list_appK _ _ w.heap.size (.slice none 0 0) vt [] s.trial rfl rfl rfl rfl (World.ownsRow_nil _ _ _ _) ht.out (by simp; omega) (Nat.le_refl _) ?_; intro v1 w1 hown hg hat; obtain ⟨c2, hown1, hb1, hlk1⟩ := HA.out v1 w1 hown hg hat; have H1 := Lib.hid (And.intro hown1 (And.intro hb1 hlk1)))
    | (refine list_appK _ _ w.heap.size v1 vs s.trial s.safe rfl rfl rfl rfl H1.out.1 H1.out.2.2 (by omega) H1.out.2.1.size ?_; intro v2 w2 hown2 hg2 hat2))
  go_ret
  refine ⟨v2, rfl, hown2, H1.out.2.1.grown hg2 H1.out.2.1.size (fun g e => (own_lt H1.out.1 g e).1)⟩
set_option maxHeartbeats 1000000 in
theorem victim_any {w : World} {b : Nat} {G : Nat → Prop} {s : St} (h : RAt w b G s) (but : ByteArray) (hl : s.all.length ≤ 10000000) :
    Calls Try.prog 21 #[.pointer (some ⟨b, 0, none⟩), .string but] w fun e w' => e = .returned (.tuple #[.string (vic s but).1, .bool (vic s but).2]) ∧ Below w.heap.size w w' := by
  have hall := all_any h hl
  obtain ⟨⟨vk, vb⟩, hv⟩ : ∃ v, vic s but = v := ⟨_, rfl⟩
  rw [hv]
  have HV := Lib.hid hv
  clear h hv
  go_enter Try.func21, Try.ntmps21
  go_wp2_with fail
  refine hall.mono ?_
  rintro e w1 ⟨va, rfl, rowa, hb1⟩
  have hra := ReadsK.of_row rowa
  obtain ⟨ya, yc, rfl, hac, hrd⟩ := hra
  have HRD := Lib.hid hrd
  have HB := Lib.hid hb1
  clear rowa hall hrd hb1
  go_wp2_with fail
  go_loopg [7] s.all.length (fun g i wr => ∃ m : Nat, i = .int .i64 m ∧ g + m = s.all.length ∧ Hid (∀ x ∈ s.all.take m, x = but) ∧ wr = w1)
  case atStart => exact ⟨0, rfl, by omega, Lib.hid (by simp), rfl⟩
  case round =>
    obtain ⟨m, rfl, hg, HT, rfl⟩ := hrel
    have HG := Lib.hid hg
    clear hg
    by_cases hm : m < s.all.length
    · obtain ⟨km, hkm⟩ : ∃ k, s.all[m]? = some k := ⟨_, List.getElem?_eq_getElem hm⟩
      obtain ⟨ga, rfl, -, c0⟩ := HRD.out m km hkm
      have hmi : (m : Int) < s.all.length := by omega
      have HK := Lib.hid hkm
      clear hkm
      by_cases hkb : km = but
      · have hse := str_eq but
        subst hkb
        go_wp2_with fail
        go_roundg (s.all.length - (m + 1))
        case measure => have := HG.out; omega
        case rel =>
          refine ⟨m + 1, by go_num, by have := HG.out; omega, Lib.hid (fun y hy => ?_), rfl⟩
          rw [List.take_add_one, HK.out] at hy
          rcases List.mem_append.1 hy with hy | hy
          · exact HT.out y hy
          · simpa using hy
      · have hse := str_ne hkb
        have hv := vic_some HK.out HT.out hkb
        rw [HV.out] at hv
        injection hv with hv1 hv2
        have HE := Lib.hid (And.intro hv1 hv2)
        clear hkb hv1 hv2
        go_wp2_with fail
        refine bodyPost_ret (v := .tuple #[.string km, .bool true]) (by simp [results, Try.results21, go_sem]) rfl ?_
        exact ⟨by rw [HE.out.1, HE.out.2], HB.out⟩
    · have hml : (s.all.length : Int) ≤ m := by omega
      have hv := vic_none (s := s) (but := but) (by have := HT.out; rwa [List.take_of_length_le (by omega)] at this)
      rw [HV.out] at hv
      injection hv with hv1 hv2
      have HE := Lib.hid (And.intro hv1 hv2)
      clear hv1 hv2
      go_wp2_with fail
      refine bodyPost_ret (v := .tuple #[.string ⟨#[]⟩, .bool false]) (by simp [results, Try.results21, go_sem]) rfl ?_
      exact ⟨by rw [HE.out.1, HE.out.2]; rfl, HB.out⟩
end Go.Proofs.Ytpppknopbjpciaa.RefSlru
