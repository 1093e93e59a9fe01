/- The document's own slab of layer 7 beside the plain one: Take at any size; the link between the two. -/
import Derived.Test.YtohnnlimkmofbaaSlabRef6
namespace Go.Proofs.Ytohnnlimkmofbaa.RefSlab
open Go Go.RowKit Go.Proofs.Ytohnnlimkmofbaa.Slab Go.Proofs.Ytohnnlimkmofbaa.Mem

theorem take_any {w : World} {b : Nat} {F : Nat → Prop} {r : RSt} (h : RAt w b F r) (hl : r.inn.length ≤ 1000000) (hl2 : r.gone.length ≤ 1000000) (hm : ∀ k, 0 ≤ r.made k ∧ r.made k ≤ 1000000) (hbud : -9223372036854775808 ≤ r.budget ∧ r.budget ≤ 9223372036854775807) (size : Int) :
    Calls Try.prog 19 #[.pointer (some ⟨b, 0, none⟩), .int .i64 size] w (RTakePost w b F r size) := by
  have h6 := class_six size
  by_cases h : classN size = 6
  · exact take_long ‹_› size h
  by_cases hx : r.budget < total r.inn + bytesI (classN size)
  · exact take_full ‹_› hl hbud size (by omega) hx
  · exact take_ok ‹_› hl hl2 hm hbud size (by omega) hx

def ofK (l : List (Int × Int)) (k : Nat) : List Int := (l.filter fun c => c.1 == (k : Int)).map (·.2)
theorem ofK_app (l m : List (Int × Int)) (k : Nat) : ofK (l ++ m) k = ofK l k ++ ofK m k := by simp [ofK]
theorem ofK_one (n : Int) (k j : Nat) : ofK [((k : Int), n)] j = if j = k then [n] else [] := by
  unfold ofK
  by_cases h : j = k
  · subst h; simp
  · rw [if_neg h]
    have : ((k : Int) == (j : Int)) = false := by simp; omega
    simp [List.filter, this]
theorem ofK_none {l : List (Int × Int)} {k : Nat} (h : ∀ (i : Nat) c, l[i]? = some c → c.1 ≠ k) : ofK l k = [] := by
  unfold ofK
  rw [List.filter_eq_nil_iff.2]
  · rfl
  · intro c hc
    obtain ⟨i, hi⟩ := List.mem_iff_getElem?.1 hc
    simpa using h i c hi
theorem ofK_last {l : List (Int × Int)} {k a : Nat} {n : Int} (h : IsLast l k a n) (j : Nat) : ofK l j = ofK (l.take a ++ l.drop (a + 1)) j ++ (if j = k then [n] else []) := by
  obtain ⟨h1, h2⟩ := h
  have hal := (List.getElem?_eq_some_iff.1 h1).1
  have hs : l = l.take a ++ ([((k : Int), n)] ++ l.drop (a + 1)) := by
    conv => lhs; rw [← List.take_append_drop a l]
    rw [List.drop_eq_getElem_cons hal]
    have := (List.getElem?_eq_some_iff.1 h1).2
    rw [this]; rfl
  conv => lhs; rw [hs]
  rw [ofK_app, ofK_app, ofK_app, ofK_one]
  by_cases e : j = k
  · subst e
    have : ofK (l.drop (a + 1)) j = [] := ofK_none fun i c hi => h2 (a + 1 + i) c (by omega) (by rw [List.getElem?_drop] at hi; exact hi)
    rw [this]; simp
  · rw [if_neg e]; simp

/-- The plain slab and the document's record say the same. -/
structure Link (N : Nat) (s : St) (r : RSt) : Prop where
  bud : r.budget = s.budget
  inn : r.inn = s.inn
  gone : ∀ k : Nat, ofK r.gone k = s.gone k
  made : ∀ k, r.made k = s.made k
  glen : r.gone.length ≤ N
  ilen : r.inn.length ≤ N
theorem Link.new (budget : Int) : Link 0 (new budget) (rnew budget) := ⟨rfl, rfl, fun _ => rfl, fun _ => rfl, Nat.le_refl _, Nat.le_refl _⟩
theorem Link.mono {N M : Nat} {s : St} {r : RSt} (h : Link N s r) (hm : N ≤ M) : Link M s r := ⟨h.bud, h.inn, h.gone, h.made, Nat.le_trans h.glen hm, Nat.le_trans h.ilen hm⟩
theorem Link.free {N : Nat} {s : St} {r : RSt} (h : Link N s r) (hg : Slab.Good N s) (c : Int × Int) : (rfree r c).1 = (s.free c).1 ∧ Link (N + 1) (s.free c).2 (rfree r c).2 := by
  unfold rfree
  by_cases hc : c ∈ s.inn
  · have hc' : c ∈ r.inn := by rw [h.inn]; exact hc
    have hs : s.free c = (0, { s with inn := s.inn.erase c, gone := put s.gone c.1.toNat (s.gone c.1.toNat ++ [c.2]), used := s.used - bytesI c.1 }) := by unfold St.free; rw [if_pos hc]
    rw [hs, if_pos hc']
    have hcl := hg.small.cls c hc
    obtain ⟨k, hk⟩ := Int.eq_ofNat_of_zero_le hcl.1
    obtain ⟨c1, n⟩ := c
    simp only at hk
    subst hk
    refine ⟨rfl, h.bud, ?_, fun j => ?_, h.made, ?_, ?_⟩
    · simp only; rw [h.inn]
    · simp only [Int.toNat_natCast]
      rw [ofK_app, ofK_one, h.gone j]
      unfold put
      by_cases e : j = k
      · subst e; simp
      · simp [e]
    · have := h.glen; simp; omega
    · have := h.ilen
      have h2 := List.length_erase_le (a := ((k : Int), n)) (l := r.inn)
      simp only; omega
  · have hc' : c ∉ r.inn := by rw [h.inn]; exact hc
    rw [free_out hc, if_neg hc']
    exact ⟨rfl, h.mono (by omega)⟩
theorem Link.take {N : Nat} {s : St} {r r' : RSt} (h : Link N s r) (hg : Slab.Good N s) {size c n err : Int} (ht : RTook r size c n err r') : (s.take size).1 = ((c, n), err) ∧ Link (N + 1) (s.take size).2 r' := by
  have hu : total r.inn = s.used := by rw [h.inn, hg.sum]
  unfold RTook at ht
  rw [hu, h.bud] at ht
  rcases take_cases s size with ⟨h6, e⟩ | ⟨h6, hx, e⟩ | ⟨h6, hx, e⟩
  · rcases ht with ⟨_, h2, h3⟩ | ⟨h1, _⟩ | ⟨h1, _⟩
    · injection h2 with h2 h4
      injection h4 with h4 h5
      subst h2 h3 h4 h5
      rw [e]; exact ⟨rfl, h.mono (by omega)⟩
    · omega
    · omega
  · rcases ht with ⟨h1, _⟩ | ⟨_, _, h2, h3⟩ | ⟨_, h1, _⟩
    · omega
    · injection h2 with h2 h4
      injection h4 with h4 h5
      subst h2 h3 h4 h5
      rw [e]; exact ⟨rfl, h.mono (by omega)⟩
    · omega
  · rcases ht with ⟨h1, _⟩ | ⟨_, h1, _⟩ | ⟨_, _, rfl, rfl, ht⟩
    · omega
    · omega
    rw [e]
    simp only
    generalize classN size = k at *
    have hnew := hg.number_new k
    rw [addIn_new hnew]
    have hg1 := h.glen
    have hi1 := h.ilen
    rcases ht with ⟨hno, hn, hr⟩ | ⟨a, hla, hr⟩
    · have hg0 : s.gone k = [] := by rw [← h.gone k]; exact ofK_none hno
      rw [number_made hg0] at hnew ⊢
      subst hr hn
      refine ⟨by rw [h.made k], rfl, ?_, h.gone, fun j => ?_, by simp only [rtook]; omega, by simp [rtook]; omega⟩
      · simp only [rtook]; rw [h.inn, h.made k]
      · simp only [rtook, put]; rw [h.made k]; split
        · rfl
        · exact h.made j
    · have hk := ofK_last hla
      have hg0 : s.gone k = ofK (r.gone.take a ++ r.gone.drop (a + 1)) k ++ [n] := by rw [← h.gone k, hk k, if_pos rfl]
      rw [number_last hg0] at hnew ⊢
      subst hr
      have hal := (List.getElem?_eq_some_iff.1 hla.1).1
      refine ⟨rfl, rfl, ?_, fun j => ?_, h.made, by simp [rtook]; omega, by simp [rtook]; omega⟩
      · simp only [rtook]; rw [h.inn]
      · simp only [rtook, put]
        by_cases e2 : j = k
        · subst e2; simp
        · rw [if_neg e2, ← h.gone j, hk j, if_neg e2]; simp
theorem Link.fits {N : Nat} {s : St} {r : RSt} (h : Link N s r) (hg : Slab.Good N s) (size less : Int) : ft (total r.inn) r.budget size less = s.fits size less := by
  unfold ft St.fits
  rw [h.inn, ← hg.sum, h.bud]
theorem Link.used {N : Nat} {s : St} {r : RSt} (h : Link N s r) (hg : Slab.Good N s) : total r.inn = s.used := by rw [h.inn, hg.sum]
theorem Link.bounds {N : Nat} {s : St} {r : RSt} (h : Link N s r) (hg : Slab.Good N s) (hN : N ≤ 1000000) : r.inn.length ≤ 1000000 ∧ r.gone.length ≤ 1000000 ∧ (∀ k, 0 ≤ r.made k ∧ r.made k ≤ 1000000) ∧ (-9223372036854775808 ≤ r.budget ∧ r.budget ≤ 9223372036854775807) :=
  ⟨Nat.le_trans h.ilen hN, Nat.le_trans h.glen hN, fun k => by have h1 := hg.small.m0 k; have h2 := hg.small.m1 k; rw [h.made k]; omega, by rw [h.bud]; exact ⟨hg.small.b0, hg.small.b1⟩⟩
end Go.Proofs.Ytohnnlimkmofbaa.RefSlab
