/- Layer 7's plain law: what stays true of a slab's state over its calls. -/
import Derived.Test.YtohnnlimkmofbaaSlab3
namespace Go.Proofs.Ytohnnlimkmofbaa.Slab
open Go Go.RowKit

def total (l : List (Int × Int)) : Int := (l.map fun c => bytesI c.1).sum
theorem total_nil : total [] = 0 := rfl
theorem total_cons (c : Int × Int) (l : List (Int × Int)) : total (c :: l) = bytesI c.1 + total l := by simp [total]
theorem total_app (l m : List (Int × Int)) : total (l ++ m) = total l + total m := by simp [total]
theorem total_pos (l : List (Int × Int)) : 0 ≤ total l := by
  induction l with
  | nil => exact Int.le_refl _
  | cons c l ih => rw [total_cons]; have := (bytes_range c.1).1; omega
theorem total_mem {c : Int × Int} {l : List (Int × Int)} (h : c ∈ l) : bytesI c.1 ≤ total l := by
  induction l with
  | nil => cases h
  | cons d l ih =>
    rw [total_cons]
    have := (bytes_range d.1).1
    have := total_pos l
    rcases List.mem_cons.1 h with rfl | h
    · omega
    · have := ih h; omega
theorem total_erase {c : Int × Int} {l : List (Int × Int)} (h : c ∈ l) : total (l.erase c) = total l - bytesI c.1 := by
  induction l with
  | nil => cases h
  | cons d l ih =>
    rw [List.erase_cons]
    by_cases e : d = c
    · subst e; simp [total_cons]; omega
    · rw [if_neg (by simpa using e), total_cons, total_cons, ih (by rcases List.mem_cons.1 h with rfl | h; exact absurd rfl e; exact h)]; omega

theorem total_take {l : List (Int × Int)} {j : Nat} {c : Int × Int} (h : l[j]? = some c) : total (l.take (j + 1)) = total (l.take j) + bytesI c.1 := by
  rw [List.take_add_one, h, total_app]; simp [total]
theorem total_le (l : List (Int × Int)) (j : Nat) : 0 ≤ total (l.take j) ∧ total (l.take j) ≤ total l := by
  have h := total_app (l.take j) (l.drop j)
  rw [List.take_append_drop] at h
  have := total_pos (l.take j)
  have := total_pos (l.drop j)
  omega
/-- What holds of a slab at most N calls old. -/
structure Good (N : Nat) (s : St) : Prop where
  small : Small N s
  sum : s.used = total s.inn
  nd : s.inn.Nodup
  gnd : ∀ k, (s.gone k).Nodup
  fresh : ∀ c ∈ s.inn, c.2 < s.made c.1.toNat ∧ c.2 ∉ s.gone c.1.toNat
  glt : ∀ k, ∀ n ∈ s.gone k, n < s.made k

theorem Small.mono {N M : Nat} {s : St} (h : Small N s) (hm : N ≤ M) : Small M s := by
  have h1 := h.u1
  exact ⟨h.u0, by omega, fun k => Nat.le_trans (h.g k) hm, h.m0, fun k => by have := h.m1 k; omega, h.cls, h.b0, h.b1⟩
theorem Good.mono {N M : Nat} {s : St} (h : Good N s) (hm : N ≤ M) : Good M s := ⟨h.small.mono hm, h.sum, h.nd, h.gnd, h.fresh, h.glt⟩
theorem Good.new (budget : Int) (h : -9223372036854775808 ≤ budget ∧ budget ≤ 9223372036854775807) : Good 0 (new budget) :=
  ⟨⟨Int.le_refl _, Int.le_refl _, fun _ => Nat.le_refl _, fun _ => Int.le_refl _, fun _ => Int.le_refl _, fun c hc => (by cases hc), h.1, h.2⟩, rfl, List.nodup_nil, fun _ => List.nodup_nil, fun c hc => (by cases hc), fun k n hn => (by cases hn)⟩

theorem number_last {s : St} {k : Nat} {l : List Int} {n : Int} (h : s.gone k = l ++ [n]) : s.number k = (n, { s with gone := put s.gone k l }) := by
  unfold St.number; rw [h]; simp
theorem number_made {s : St} {k : Nat} (h : s.gone k = []) : s.number k = (s.made k, { s with made := put s.made k (s.made k + 1) }) := by
  unfold St.number; rw [h]; simp
theorem gone_cases (s : St) (k : Nat) : s.gone k = [] ∨ ∃ l n, s.gone k = l ++ [n] := by
  rcases List.eq_nil_or_concat (s.gone k) with h | ⟨l, n, h⟩
  · exact .inl h
  · exact .inr ⟨l, n, by simpa using h⟩

/-- The number that is taken is none in use. -/
theorem Good.number_new {N : Nat} {s : St} (h : Good N s) (k : Nat) : ((k : Int), (s.number k).1) ∉ s.inn := fun hm => by
  have hf := h.fresh _ hm
  simp only [Int.toNat_natCast] at hf
  rcases gone_cases s k with e | ⟨l, n, e⟩
  · rw [number_made e] at hf; simp at hf
  · rw [number_last e] at hf; rw [e] at hf; simp at hf

theorem addIn_new {l : List (Int × Int)} {c : Int × Int} (h : c ∉ l) : addIn l c = l ++ [c] := by unfold addIn; rw [if_neg h]

/-- Take, parted. -/
theorem take_cases (s : St) (size : Int) :
    (classN size = 6 ∧ s.take size = (((0, 0), 4), s)) ∨ (classN size < 6 ∧ s.budget < s.used + bytesI (classN size) ∧ s.take size = (((0, 0), 5), s)) ∨
    (classN size < 6 ∧ s.used + bytesI (classN size) ≤ s.budget ∧ s.take size = (((((classN size : Nat) : Int), (s.number (classN size)).1), 0), { (s.number (classN size)).2 with used := s.used + bytesI (classN size), inn := addIn s.inn ((classN size : Nat), (s.number (classN size)).1) })) := by
  have h6 := class_six size
  unfold St.take
  by_cases h : classN size = 6
  · exact .inl ⟨h, by rw [if_pos h]⟩
  rw [if_neg h]
  by_cases hx : s.budget < s.used + bytesI (classN size)
  · exact .inr (.inl ⟨by omega, hx, by rw [if_pos hx]⟩)
  · exact .inr (.inr ⟨by omega, by omega, by rw [if_neg hx]⟩)

theorem Good.take {N : Nat} {s : St} (h : Good N s) (size : Int) : Good (N + 1) (s.take size).2 := by
  rcases take_cases s size with ⟨_, e⟩ | ⟨_, _, e⟩ | ⟨h6, hx, e⟩
  · rw [e]; exact h.mono (by omega)
  · rw [e]; exact h.mono (by omega)
  · rw [e]
    simp only
    generalize classN size = k at *
    have hnew := h.number_new k
    rw [addIn_new hnew]
    have hb := bytes_range (k : Int)
    have hs := h.small
    have u0 := hs.u0
    have u1 := hs.u1
    have hcls : ∀ c ∈ s.inn ++ [((k : Int), (s.number k).1)], 0 ≤ c.1 ∧ c.1 < 6 := fun c hc => by
      rcases List.mem_append.1 hc with hc | hc
      · exact hs.cls c hc
      · have : c = ((k : Int), (s.number k).1) := by simpa using hc
        subst this; simp only; omega
    have hnd : (s.inn ++ [((k : Int), (s.number k).1)]).Nodup := List.nodup_append.2 ⟨h.nd, by simp, fun a ha b hb => by
      have : b = ((k : Int), (s.number k).1) := by simpa using hb
      subst this; exact fun e => hnew (e ▸ ha)⟩
    have hsum : s.used + bytesI k = total (s.inn ++ [((k : Int), (s.number k).1)]) := by rw [total_app, total_cons, total_nil, h.sum]; simp
    rcases gone_cases s k with e1 | ⟨l, n, e1⟩
    · rw [number_made e1] at hcls hnd hsum ⊢
      refine ⟨⟨by simp only; omega, by simp only; omega, fun j => Nat.le_succ_of_le (hs.g j), fun j => ?_, fun j => ?_, hcls, hs.b0, hs.b1⟩, hsum, hnd, h.gnd, fun c hc => ?_, fun j m hm => ?_⟩
      · have := hs.m0 j; have := hs.m0 k; simp only [put]; split <;> omega
      · have := hs.m1 j; have := hs.m1 k; simp only [put]; split <;> omega
      · simp only at hc ⊢
        rcases List.mem_append.1 hc with hc | hc
        · have := h.fresh c hc
          refine ⟨?_, this.2⟩
          simp only [put]; split
          · rename_i e3; rw [e3] at this; omega
          · exact this.1
        · have : c = ((k : Int), s.made k) := by simpa using hc
          subst this
          simp only [Int.toNat_natCast, put_same, e1]
          exact ⟨by omega, by simp⟩
      · simp only at hm ⊢
        have := h.glt j m hm
        simp only [put]; split
        · rename_i e3; rw [e3] at this; omega
        · exact this
    · rw [number_last e1] at hcls hnd hsum ⊢
      have hln := h.gnd k
      rw [e1] at hln
      have hlk := List.nodup_append.1 hln
      refine ⟨⟨by simp only; omega, by simp only; omega, fun j => ?_, hs.m0, fun j => by have := hs.m1 j; simp only; omega, hcls, hs.b0, hs.b1⟩, hsum, hnd, fun j => ?_, fun c hc => ?_, fun j m hm => ?_⟩
      · have := hs.g j
        simp only [put]; split
        · rename_i e3; subst e3; rw [e1] at this; simp at this; omega
        · omega
      · simp only [put]; split
        · exact hlk.1
        · exact h.gnd j
      · simp only at hc ⊢
        rcases List.mem_append.1 hc with hc | hc
        · have := h.fresh c hc
          refine ⟨this.1, ?_⟩
          simp only [put]; split
          · rename_i e3; rw [e3, e1] at this; exact fun hm => this.2 (List.mem_append.2 (.inl hm))
          · exact this.2
        · have : c = ((k : Int), n) := by simpa using hc
          subst this
          simp only [Int.toNat_natCast, put_same]
          exact ⟨h.glt k n (by rw [e1]; simp), fun hm => hlk.2.2 n hm n (by simp) rfl⟩
      · simp only at hm ⊢
        simp only [put] at hm; split at hm
        · rename_i e3; subst e3; exact h.glt j m (by rw [e1]; exact List.mem_append.2 (.inl hm))
        · exact h.glt j m hm

theorem Good.free {N : Nat} {s : St} (h : Good N s) (c : Int × Int) : Good (N + 1) (s.free c).2 := by
  unfold St.free
  by_cases hc : c ∈ s.inn
  · rw [if_pos hc]
    simp only
    have hs := h.small
    have u1 := hs.u1
    have hb := bytes_range c.1
    have htm := total_mem hc
    have hsum := h.sum
    have hf := h.fresh c hc
    have hcl := hs.cls c hc
    refine ⟨⟨by simp only; omega, by simp only; omega, fun j => ?_, hs.m0, fun j => by have := hs.m1 j; simp only; omega, fun d hd => hs.cls d (List.mem_of_mem_erase hd), hs.b0, hs.b1⟩, by simp only; rw [total_erase hc]; omega, h.nd.erase c, fun j => ?_, fun d hd => ?_, fun j m hm => ?_⟩
    · have := hs.g j
      simp only [put]; split
      · rename_i e; rw [← e]; simp; exact this
      · omega
    · simp only [put]; split
      · exact List.nodup_append.2 ⟨h.gnd _, by simp, fun a ha b hb => by
          have : b = c.2 := by simpa using hb
          subst this; exact fun e => hf.2 (e ▸ ha)⟩
      · exact h.gnd j
    · simp only at hd ⊢
      have hd' := (h.nd.mem_erase_iff).1 hd
      have hfd := h.fresh d hd'.2
      have hdl := hs.cls d hd'.2
      refine ⟨hfd.1, ?_⟩
      simp only [put]; split
      · rename_i e
        intro hm
        rcases List.mem_append.1 hm with hm | hm
        · rw [← e] at hm; exact hfd.2 hm
        · refine hd'.1 (Prod.ext ?_ (by simpa using hm))
          omega
      · exact hfd.2
    · simp only at hm ⊢
      simp only [put] at hm; split at hm
      · rename_i e; rw [e]
        rcases List.mem_append.1 hm with hm | hm
        · exact h.glt _ m hm
        · have : m = c.2 := by simpa using hm
          subst this; exact hf.1
      · exact h.glt j m hm
  · rw [if_neg hc]; exact h.mono (by omega)

theorem free_in {s : St} {c : Int × Int} (h : c ∈ s.inn) : (s.free c).1 = 0 ∧ (s.free c).2.inn = s.inn.erase c ∧ (s.free c).2.used = s.used - bytesI c.1 ∧ (s.free c).2.budget = s.budget := by
  unfold St.free; rw [if_pos h]; exact ⟨rfl, rfl, rfl, rfl⟩
theorem free_out {s : St} {c : Int × Int} (h : c ∉ s.inn) : s.free c = (1, s) := by unfold St.free; rw [if_neg h]
/-- Take, in two ways. -/
theorem Good.take_two {N : Nat} {s : St} (h : Good N s) (size : Int) : ∃ cc nn ee, (s.take size).1 = ((cc, nn), ee) ∧ (((ee = 4 ∨ ee = 5) ∧ (s.take size).2 = s ∧ cc = 0 ∧ nn = 0) ∨ (ee = 0 ∧ classN size < 6 ∧ cc = ((classN size : Nat) : Int) ∧ (cc, nn) ∉ s.inn ∧ s.used + bytesI cc ≤ s.budget ∧ (s.take size).2.inn = s.inn ++ [(cc, nn)] ∧ (s.take size).2.used = s.used + bytesI cc ∧ (s.take size).2.budget = s.budget)) := by
  have hnew := h.number_new (classN size)
  rcases take_cases s size with ⟨_, e⟩ | ⟨_, _, e⟩ | ⟨h6, hx, e⟩
  · rw [e]; exact ⟨_, _, _, rfl, .inl ⟨.inl rfl, rfl, rfl, rfl⟩⟩
  · rw [e]; exact ⟨_, _, _, rfl, .inl ⟨.inr rfl, rfl, rfl, rfl⟩⟩
  · rw [e]; exact ⟨_, _, _, rfl, .inr ⟨rfl, h6, rfl, hnew, hx, addIn_new hnew, rfl, by simp only; unfold St.number; split <;> rfl⟩⟩
/-- What Fits is taken. -/
theorem fits_take {N : Nat} {s : St} (h : Good N s) (size : Int) : s.fits size 0 = ((s.take size).1.2 == 0) := by
  have u0 := h.small.u0
  unfold St.fits
  rcases take_cases s size with ⟨h6, e⟩ | ⟨h6, hx, e⟩ | ⟨h6, hx, e⟩
  · rw [e]; simp; intro h; omega
  · rw [e]; simp; intros; omega
  · rw [e]; simp; omega
/-- A slab in a run that began at W0: all that is its own is newer. -/
structure Run (W0 w : World) (N b : Nat) (F : Nat → Prop) (s : St) : Prop where
  at_ : At w b F s
  low : ∀ k, F k → W0.heap.size ≤ k
  below : Below W0.heap.size W0 w
  good : Good N s
open Go.Proofs.Ytohnnlimkmofbaa.Mem in
theorem Run.step {W0 w w' : World} {N b : Nat} {F : Nat → Prop} {s : St} (h : Run W0 w N b F s) (hb : Below w.heap.size w w') : Run W0 w' N b F s :=
  ⟨h.at_.below hb, h.low, Mem.tr h.below hb, h.good⟩
theorem Run.mono {W0 w : World} {N M b : Nat} {F : Nat → Prop} {s : St} (h : Run W0 w N b F s) (hm : N ≤ M) : Run W0 w M b F s := ⟨h.at_, h.low, h.below, h.good.mono hm⟩
open Go.Proofs.Ytohnnlimkmofbaa.Mem in
theorem Run.post {W0 w w' : World} {N M b : Nat} {F F' : Nat → Prop} {s s' : St} (h : Run W0 w N b F s) (ha : At w' b F' s') (ho : Only F w w') (hg : Grows w F F') (hm : Good M s') : Run W0 w' M b F' s' :=
  ⟨ha, fun k hk => (hg k hk).elim (h.low k) (fun e => Nat.le_trans h.below.size e), h.below.trans (ho.below h.below.size h.low), hm⟩
theorem Run.lt {W0 w : World} {N b : Nat} {F : Nat → Prop} {s : St} (h : Run W0 w N b F s) : ∀ k, F k → k < w.heap.size := by
  obtain ⟨_, _, h⟩ := h.at_; exact h.lt
/-- What is none of the slab's, and known whole, is as it was. -/
theorem keeps {w w' : World} {F : Nat → Prop} (ho : Mem.Only F w w') {j : Nat} {o : Obj} (hj : w.heap[j]? = some o) (hn : ¬ F j) : w'.heap[j]? = some o :=
  (ho.same j (Array.getElem?_eq_some_iff.1 hj).1 hn).trans hj
end Go.Proofs.Ytohnnlimkmofbaa.Slab
