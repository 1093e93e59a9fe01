/- Layer 8: the list in memory: rows and map; New, Len, Protected, Add. -/
import Derived.Test.YtpppknopbjpciaaSlru2
import Derived.Deep.QuietTactic
import Derived.BigQuiet
import Derived.MapKept
namespace Go.Proofs.Ytpppknopbjpciaa.Slru
open Go Go.RowKit Go.Proofs.Ytpppknopbjpciaa.Mem

section
variable {κ : Type} [DecidableEq κ]
theorem get_set (l : List (κ × Value)) (k k' : κ) (v : Value) : Maps.get (Maps.set l k v) k' = if k' = k then some v else Maps.get l k' := by
  induction l with
  | nil => simp [Maps.set, Maps.get]
  | cons p l ih =>
    simp only [Maps.set]
    by_cases h : k = p.1
    · rw [if_pos h]; simp only [Maps.get]; subst h; by_cases h2 : k' = p.1 <;> simp [h2]
    · rw [if_neg h]; simp only [Maps.get, ih]
      by_cases h2 : k' = p.1
      · rw [if_pos h2, if_neg (show ¬ k' = k from fun e => h (e.symm.trans h2)), if_pos h2]
      · rw [if_neg h2, if_neg h2]
theorem get_none {l : List (κ × Value)} {k : κ} (h : Maps.get l k = none) : k ∉ l.map (·.1) := by
  induction l with
  | nil => simp
  | cons p l ih =>
    simp only [Maps.get] at h
    by_cases h2 : k = p.1
    · rw [if_pos h2] at h; cases h
    · rw [if_neg h2] at h; simpa [h2] using ih h
theorem get_out {l : List (κ × Value)} {k : κ} (h : k ∉ l.map (·.1)) : Maps.get l k = none := by
  induction l with
  | nil => rfl
  | cons p l ih => simp at h; simp only [Maps.get]; rw [if_neg h.1]; exact ih (by simpa using h.2)
theorem set_new {l : List (κ × Value)} {k : κ} (v : Value) (h : Maps.get l k = none) : Maps.set l k v = l ++ [(k, v)] := by
  induction l with
  | nil => rfl
  | cons p l ih =>
    simp only [Maps.get] at h
    by_cases h2 : k = p.1
    · rw [if_pos h2] at h; cases h
    · rw [if_neg h2] at h; simp only [Maps.set]; rw [if_neg h2, ih h]; rfl
theorem get_del {l : List (κ × Value)} (hn : (l.map (·.1)).Nodup) (k k' : κ) : Maps.get (Maps.del l k) k' = if k' = k then none else Maps.get l k' := by
  induction l with
  | nil => simp [Maps.del, Maps.get]
  | cons p l ih =>
    have hn' := List.nodup_cons.1 hn
    simp only [Maps.del]
    by_cases h : k = p.1
    · rw [if_pos h]
      by_cases h2 : k' = k
      · rw [if_pos h2, h2, h]; exact get_out hn'.1
      · rw [if_neg h2]; simp only [Maps.get]; rw [if_neg (fun e => h2 (e.trans h.symm))]
    · rw [if_neg h]
      simp only [Maps.get, ih hn'.2]
      by_cases h2 : k' = p.1
      · rw [if_pos h2, if_neg (show ¬ k' = k from fun e => h (e.symm.trans h2)), if_pos h2]
      · rw [if_neg h2, if_neg h2]
theorem del_sub (l : List (κ × Value)) (k : κ) : (Maps.del l k).Sublist l := by
  induction l with
  | nil => exact List.Sublist.refl _
  | cons p l ih =>
    simp only [Maps.del]
    by_cases h : k = p.1
    · rw [if_pos h]; exact List.sublist_cons_self _ _
    · rw [if_neg h]; exact ih.cons_cons _
end
theorem without_mem {l : List ByteArray} {k x : ByteArray} : x ∈ without l k ↔ x ∈ l ∧ x ≠ k := by simp [without]
theorem without_none {l : List ByteArray} {k : ByteArray} (h : k ∉ l) : without l k = l := by
  unfold without
  rw [List.filter_eq_self]
  intro x hx
  exact decide_eq_true (fun e : x = k => h (e ▸ hx))
theorem without_split {l r : List ByteArray} {k : ByteArray} (h : (l ++ k :: r).Nodup) : without (l ++ k :: r) k = l ++ r := by
  have h2 := List.nodup_append.1 h
  have h3 := List.nodup_cons.1 h2.2.1
  have e1 : without l k = l := without_none fun e => h2.2.2 k e k (by simp) rfl
  have e2 : without r k = r := without_none h3.1
  have : without (l ++ k :: r) k = without l k ++ without r k := by unfold without; rw [List.filter_append, List.filter_cons]; simp
  rw [this, e1, e2]
theorem without_nodup {l : List ByteArray} (k : ByteArray) (h : l.Nodup) : (without l k).Nodup := h.sublist List.filter_sublist
theorem without_app (l r : List ByteArray) (k : ByteArray) : without (l ++ r) k = without l k ++ without r k := List.filter_append ..
theorem without_len (l : List ByteArray) (k : ByteArray) : (without l k).length ≤ l.length := List.length_filter_le ..

theorem without_lt {l : List ByteArray} {k : ByteArray} (h : k ∈ l) : (without l k).length + 1 ≤ l.length := by
  obtain ⟨a, b, rfl⟩ := List.append_of_mem h
  have : without (a ++ k :: b) k = without a k ++ without b k := by unfold without; rw [List.filter_append, List.filter_cons]; simp
  rw [this, List.length_append, List.length_append, List.length_cons]
  have := without_len a k
  have := without_len b k
  omega

/-- The two rows in memory, without the map. -/
structure Rows (w : World) (b mb : Nat) (most : Int) (ts ss : List Nd) : Prop where
  blk : w.heap[b]? = some (listObj most mb ts ss)
  ct : Chain w ⟨b, 2, none⟩ ts
  cs : Chain w ⟨b, 5, none⟩ ss
  nd : ((ts ++ ss).map (·.1)).Nodup
section
variable {w w' : World} {b mb n : Nat} {most : Int} {ts ss : List Nd} {k : ByteArray}
theorem Rows.same (h : Rows w b mb most ts ss) (hs : ∀ j, j = b ∨ j ∈ (ts ++ ss).map (·.1) → w'.heap[j]? = w.heap[j]?) : Rows w' b mb most ts ss :=
  ⟨(hs b (.inl rfl)).trans h.blk, h.ct.same fun j hj => hs j (.inr (by rw [List.map_append]; exact List.mem_append.2 (.inl hj))), h.cs.same fun j hj => hs j (.inr (by rw [List.map_append]; exact List.mem_append.2 (.inr hj))), h.nd⟩
theorem Rows.ndt (h : Rows w b mb most ts ss) : (ts.map (·.1)).Nodup ∧ (ss.map (·.1)).Nodup ∧ ∀ j ∈ ts.map (·.1), j ∉ ss.map (·.1) := by
  have := h.nd
  rw [List.map_append, List.nodup_append] at this
  exact ⟨this.1, this.2.1, fun j hj hs => this.2.2 j hj j hs rfl⟩
theorem Rows.off (h : Rows w b mb most ts ss) : b ∉ (ts ++ ss).map (·.1) := fun e => by
  rw [List.map_append, List.mem_append] at e
  exact e.elim (h.ct.ne h.blk) (h.cs.ne h.blk)
theorem Rows.node (h : Rows w b mb most ts ss) (hm : (n, k) ∈ ts ++ ss) : ∃ a c ra, w.heap[n]? = some (nodeObj k a c ra) := by
  rcases List.mem_append.1 hm with hm | hm
  · obtain ⟨l, r, e⟩ := List.append_of_mem hm
    exact ⟨_, _, _, h.ct l n k r e⟩
  · obtain ⟨l, r, e⟩ := List.append_of_mem hm
    exact ⟨_, _, _, h.cs l n k r e⟩
def PulledPost (w : World) (b mb : Nat) (most : Int) (ts ss : List Nd) (n : Nat) (k : ByteArray) (e : Ending) (w' : World) : Prop :=
  e = .returned (.tuple #[]) ∧ ∃ ts1 ss1, Rows w' b mb most ts1 ss1 ∧ ts1.map (·.2) = without (ts.map (·.2)) k ∧ ss1.map (·.2) = without (ss.map (·.2)) k ∧ n ∉ (ts1 ++ ss1).map (·.1) ∧
    (∃ a c ra, w'.heap[n]? = some (nodeObj k a c ra)) ∧ (∀ p, p ∈ ts1 ++ ss1 ↔ p ∈ ts ++ ss ∧ p.2 ≠ k) ∧ Only (fun j => j = b ∨ j ∈ (ts ++ ss).map (·.1)) w w'
theorem pull_any (h : Rows w b mb most ts ss) (hk : ((ts ++ ss).map (·.2)).Nodup) (hm : (n, k) ∈ ts ++ ss) (hl : (ts ++ ss).length ≤ 9223372036854775807) :
    Calls Try.prog 25 #[.pointer (some ⟨n, 0, none⟩)] w (PulledPost w b mb most ts ss n k) := by
  have hlen : ts.length + ss.length ≤ 9223372036854775807 := by rw [List.length_append] at hl; exact hl
  have hoff := h.off
  have hnode := h.node hm
  rcases List.mem_append.1 hm with hm | hm
  · obtain ⟨l, r, e⟩ := List.append_of_mem hm
    subst e
    refine (pull_trial h.blk h.ct h.ndt.1 (by omega)).mono ?_
    rintro e w' ⟨⟨rfl, h1, h2, h3⟩, h4⟩
    have ho : Only (fun j => j = b ∨ j ∈ ((l ++ (n, k) :: r) ++ ss).map (·.1)) w w' := h3.mono fun j hj => hj.elim .inl fun e => e.elim (fun e => .inr (by rw [e]; simp)) (fun e => .inr (by rw [List.map_append]; exact List.mem_append.2 (.inl e)))
    have hnd := h.nd
    have hsub : ((l ++ r) ++ ss).Sublist ((l ++ (n, k) :: r) ++ ss) := (List.Sublist.append (List.Sublist.refl l) (List.sublist_cons_self _ _)).append (List.Sublist.refl _)
    have hn1 : n ∉ ((l ++ r) ++ ss).map (·.1) := fun e => by
      have h5 := h.nd
      rw [show (l ++ (n, k) :: r) ++ ss = l ++ (n, k) :: (r ++ ss) from by simp, List.map_append, List.map_cons, List.nodup_append, List.nodup_cons] at h5
      rw [List.append_assoc, List.map_append, List.mem_append] at e
      exact e.elim (fun e => h5.2.2 n e n (by simp) rfl) h5.2.1.1
    have hk2 := hk
    rw [List.map_append, List.nodup_append] at hk2
    have hks : k ∉ ss.map (·.2) := fun e => hk2.2.2 k (by simp) k e rfl
    refine ⟨rfl, l ++ r, ss, ⟨h1, h2, h.cs.same fun j hj => ?_, hnd.sublist (hsub.map _)⟩, ?_, (without_none hks).symm, hn1, by rw [h4]; exact hnode, fun p => ?_, ho⟩
    · have hjl : j < w.heap.size := by
        obtain ⟨_, _, _, e⟩ := h.cs.at_mem hj
        exact (Array.getElem?_eq_some_iff.1 e).1
      refine h3.same j hjl fun e => ?_
      rcases e with e | e | e
      · exact hoff (by rw [← e, List.map_append]; exact List.mem_append.2 (.inr hj))
      · exact h.ndt.2.2 n (by simp) (e ▸ hj)
      · exact h.ndt.2.2 j e hj
    · have := hk2.1
      rw [List.map_append, List.map_cons] at this
      rw [List.map_append, List.map_append, List.map_cons, without_split this]
    · have hp2 : ∀ p ∈ l ++ r, p.2 ≠ k := fun p hp e => by
        have := hk2.1
        rw [List.map_append, List.map_cons, List.nodup_append, List.nodup_cons] at this
        rcases List.mem_append.1 hp with hp | hp
        · exact this.2.2 k (e ▸ List.mem_map_of_mem hp) k (by simp) rfl
        · exact this.2.1.1 (by show k ∈ r.map (·.2); rw [← e]; exact List.mem_map_of_mem hp)
      constructor
      · intro hp
        refine ⟨hsub.subset hp, ?_⟩
        rcases List.mem_append.1 hp with hp | hp
        · exact hp2 p hp
        · exact fun e => hks (e ▸ List.mem_map_of_mem hp)
      · rintro ⟨hp, hne⟩
        simp only [List.mem_append, List.mem_cons] at hp ⊢
        rcases hp with (hp | rfl | hp) | hp
        · exact .inl (.inl hp)
        · exact absurd rfl hne
        · exact .inl (.inr hp)
        · exact .inr hp
  · obtain ⟨l, r, e⟩ := List.append_of_mem hm
    subst e
    refine (pull_safe h.blk h.cs h.ndt.2.1 (by omega)).mono ?_
    rintro e w' ⟨⟨rfl, h1, h2, h3⟩, h4⟩
    have ho : Only (fun j => j = b ∨ j ∈ (ts ++ (l ++ (n, k) :: r)).map (·.1)) w w' := h3.mono fun j hj => hj.elim .inl fun e => e.elim (fun e => .inr (by rw [e]; simp)) (fun e => .inr (by rw [List.map_append]; exact List.mem_append.2 (.inr e)))
    have hnd := h.nd
    have hsub : (ts ++ (l ++ r)).Sublist (ts ++ (l ++ (n, k) :: r)) := (List.Sublist.refl ts).append (List.Sublist.append (List.Sublist.refl l) (List.sublist_cons_self _ _))
    have hn1 : n ∉ (ts ++ (l ++ r)).map (·.1) := fun e => by
      have h5 := h.nd
      rw [show ts ++ (l ++ (n, k) :: r) = (ts ++ l) ++ (n, k) :: r from by simp, List.map_append, List.map_cons, List.nodup_append, List.nodup_cons] at h5
      rw [← List.append_assoc, List.map_append, List.mem_append] at e
      exact e.elim (fun e => h5.2.2 n e n (by simp) rfl) h5.2.1.1
    have hk2 := hk
    rw [List.map_append, List.nodup_append] at hk2
    have hks : k ∉ ts.map (·.2) := fun e => hk2.2.2 k e k (by simp) rfl
    refine ⟨rfl, ts, l ++ r, ⟨h1, h.ct.same fun j hj => ?_, h2, hnd.sublist (hsub.map _)⟩, (without_none hks).symm, ?_, hn1, by rw [h4]; exact hnode, fun p => ?_, ho⟩
    · have hjl : j < w.heap.size := by
        obtain ⟨_, _, _, e⟩ := h.ct.at_mem hj
        exact (Array.getElem?_eq_some_iff.1 e).1
      refine h3.same j hjl fun e => ?_
      rcases e with e | e | e
      · exact hoff (by rw [← e, List.map_append]; exact List.mem_append.2 (.inl hj))
      · exact h.ndt.2.2 j hj (by rw [e]; simp)
      · exact h.ndt.2.2 j hj e
    · have := hk2.2.1
      rw [List.map_append, List.map_cons] at this
      rw [List.map_append, List.map_append, List.map_cons, without_split this]
    · have hp2 : ∀ p ∈ l ++ r, p.2 ≠ k := fun p hp e => by
        have := hk2.2.1
        rw [List.map_append, List.map_cons, List.nodup_append, List.nodup_cons] at this
        rcases List.mem_append.1 hp with hp | hp
        · exact this.2.2 k (e ▸ List.mem_map_of_mem hp) k (by simp) rfl
        · exact this.2.1.1 (by show k ∈ r.map (·.2); rw [← e]; exact List.mem_map_of_mem hp)
      constructor
      · intro hp
        refine ⟨hsub.subset hp, ?_⟩
        rcases List.mem_append.1 hp with hp | hp
        · exact fun e => hks (e ▸ List.mem_map_of_mem hp)
        · exact hp2 p hp
      · rintro ⟨hp, hne⟩
        simp only [List.mem_append, List.mem_cons] at hp ⊢
        rcases hp with hp | hp | rfl | hp
        · exact .inl hp
        · exact .inr (.inl hp)
        · exact absurd rfl hne
        · exact .inr (.inr hp)
def PushedPost (w : World) (b mb : Nat) (most : Int) (ts ss ts1 ss1 : List Nd) (n : Nat) (e : Ending) (w' : World) : Prop :=
  e = .returned (.tuple #[]) ∧ Rows w' b mb most ts1 ss1 ∧ Only (fun j => j = b ∨ j = n ∨ j ∈ (ts ++ ss).map (·.1)) w w'
theorem put_trial (h : Rows w b mb most ts ss) {u1 u2 u3 : Value} (hn : w.heap[n]? = some (.cells #[.string k, u1, u2, u3] 54 (0, 0))) (hno : n ∉ (ts ++ ss).map (·.1)) (hl : (ts ++ ss).length + 1 ≤ 9223372036854775807) :
    Calls Try.prog 26 #[.pointer (some ⟨b, 2, none⟩), .pointer (some ⟨n, 0, none⟩)] w (PushedPost w b mb most ts ss (ts ++ [(n, k)]) ss n) := by
  have hlen : ts.length + ss.length + 1 ≤ 9223372036854775807 := by rw [List.length_append] at hl; exact hl
  have hoff := h.off
  have hno2 := hno
  rw [List.map_append, List.mem_append] at hno2
  refine (push_trial h.blk h.ct h.ndt.1 hn (fun e => hno2 (.inl e)) (by omega)).mono ?_
  rintro e w' ⟨rfl, h1, h2, h3⟩
  refine ⟨rfl, ⟨h1, h2, h.cs.same fun j hj => ?_, ?_⟩, h3.mono fun j hj => hj.elim .inl fun e => .inr (e.elim .inl fun e => .inr (by rw [List.map_append]; exact List.mem_append.2 (.inl e)))⟩
  · have hjl : j < w.heap.size := by
      obtain ⟨_, _, _, e⟩ := h.cs.at_mem hj
      exact (Array.getElem?_eq_some_iff.1 e).1
    refine h3.same j hjl fun e => ?_
    rcases e with e | e | e
    · exact hoff (by rw [← e, List.map_append]; exact List.mem_append.2 (.inr hj))
    · exact hno2 (.inr (e ▸ hj))
    · exact h.ndt.2.2 j e hj
  · have hp : ((n, k) :: (ts ++ ss)).Perm (ts ++ [(n, k)] ++ ss) := by
      rw [List.append_assoc]
      exact (List.perm_middle (a := (n, k)) (l₁ := ts) (l₂ := ss)).symm
    exact ((hp.map (·.1)).nodup_iff).1 (List.nodup_cons.2 ⟨hno, h.nd⟩)
theorem put_safe (h : Rows w b mb most ts ss) {u1 u2 u3 : Value} (hn : w.heap[n]? = some (.cells #[.string k, u1, u2, u3] 54 (0, 0))) (hno : n ∉ (ts ++ ss).map (·.1)) (hl : (ts ++ ss).length + 1 ≤ 9223372036854775807) :
    Calls Try.prog 26 #[.pointer (some ⟨b, 5, none⟩), .pointer (some ⟨n, 0, none⟩)] w (PushedPost w b mb most ts ss ts (ss ++ [(n, k)]) n) := by
  have hlen : ts.length + ss.length + 1 ≤ 9223372036854775807 := by rw [List.length_append] at hl; exact hl
  have hoff := h.off
  have hno2 := hno
  rw [List.map_append, List.mem_append] at hno2
  refine (push_safe h.blk h.cs h.ndt.2.1 hn (fun e => hno2 (.inr e)) (by omega)).mono ?_
  rintro e w' ⟨rfl, h1, h2, h3⟩
  refine ⟨rfl, ⟨h1, h.ct.same fun j hj => ?_, h2, ?_⟩, h3.mono fun j hj => hj.elim .inl fun e => .inr (e.elim .inl fun e => .inr (by rw [List.map_append]; exact List.mem_append.2 (.inr e)))⟩
  · have hjl : j < w.heap.size := by
      obtain ⟨_, _, _, e⟩ := h.ct.at_mem hj
      exact (Array.getElem?_eq_some_iff.1 e).1
    refine h3.same j hjl fun e => ?_
    rcases e with e | e | e
    · exact hoff (by rw [← e, List.map_append]; exact List.mem_append.2 (.inl hj))
    · exact hno2 (.inl (e ▸ hj))
    · exact h.ndt.2.2 j hj e
  · have hp : ((n, k) :: (ts ++ ss)).Perm (ts ++ (ss ++ [(n, k)])) := by
      rw [← List.append_assoc]
      exact (List.perm_append_singleton (n, k) (ts ++ ss)).symm
    exact ((hp.map (·.1)).nodup_iff).1 (List.nodup_cons.2 ⟨hno, h.nd⟩)
end
end Go.Proofs.Ytpppknopbjpciaa.Slru
