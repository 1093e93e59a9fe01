/- Part4: Slru3, Slru4, Slru5, Slru6, Slru7, Slru8, TabE2, Quiet, TabE3, TabE4, one behind the other. -/
import Derived.Test.YtpghckiochjogaaGreatDoorPart3
import Derived.Deep.QuietTactic
import Derived.BigQuiet
import Derived.MapKept
import Derived.Deep.RegionHeld3
import Derived.Test.YtpghckiochjogaaGreatDoorPart1
import Derived.Test.YtpghckiochjogaaGreatDoorPart2
import Derived.Shelf.Abstract
import Derived.Shelf.RegionOpen
import Derived.OwnWalkIn
import Derived.TacticsInMore
import Derived.Sort.LoopGhostIn
import Derived.Sort.QuietIn
import Derived.OwnWalk
import Derived.Laws.OwnMore
import Derived.Maps.AppendAt
import Derived.Deep.RegionLaw
import Derived.Deep.AppendLies
import Derived.Deep.CutRange
import Derived.Deep.LoopGhost
import Derived.StillTailTactics
/- Layer 8: the list in memory: rows and map; New, Len, Protected, Add. -/
namespace Go.Proofs.YtpghckiochjogaaGreatDoor.Slru
open Go Go.RowKit Go.Proofs.YtpghckiochjogaaGreatDoor.Mem
section
variable {κ : Type} [DecidableEq κ]
theorem get_set (l : List (κ × Value)) (k k' : κ) (v : Value) : Maps.get (Maps.set l k v) k' = if k' = k then some v else Maps.get l k' := by
  induction l with
  | nil => simp [Maps.set, Maps.get]
  | cons p l ih =>
    simp only [Maps.set]
    by_cases h : k = p.1
    · rw [if_pos h]; simp only [Maps.get]; subst h; by_cases h2 : k' = p.1 <;> simp [h2]
    · rw [if_neg h]; simp only [Maps.get, ih]
      by_cases h2 : k' = p.1
      · rw [if_pos h2, if_neg (show ¬ k' = k from fun e => h (e.symm.trans h2)), if_pos h2]
      · rw [if_neg h2, if_neg h2]
theorem get_none {l : List (κ × Value)} {k : κ} (h : Maps.get l k = none) : k ∉ l.map (·.1) := by
  induction l with
  | nil => simp
  | cons p l ih =>
    simp only [Maps.get] at h
    by_cases h2 : k = p.1
    · rw [if_pos h2] at h; cases h
    · rw [if_neg h2] at h; simpa [h2] using ih h
theorem get_out {l : List (κ × Value)} {k : κ} (h : k ∉ l.map (·.1)) : Maps.get l k = none := by
  induction l with
  | nil => rfl
  | cons p l ih => simp at h; simp only [Maps.get]; rw [if_neg h.1]; exact ih (by simpa using h.2)
theorem set_new {l : List (κ × Value)} {k : κ} (v : Value) (h : Maps.get l k = none) : Maps.set l k v = l ++ [(k, v)] := by
  induction l with
  | nil => rfl
  | cons p l ih =>
    simp only [Maps.get] at h
    by_cases h2 : k = p.1
    · rw [if_pos h2] at h; cases h
    · rw [if_neg h2] at h; simp only [Maps.set]; rw [if_neg h2, ih h]; rfl
theorem get_del {l : List (κ × Value)} (hn : (l.map (·.1)).Nodup) (k k' : κ) : Maps.get (Maps.del l k) k' = if k' = k then none else Maps.get l k' := by
  induction l with
  | nil => simp [Maps.del, Maps.get]
  | cons p l ih =>
    have hn' := List.nodup_cons.1 hn
    simp only [Maps.del]
    by_cases h : k = p.1
    · rw [if_pos h]
      by_cases h2 : k' = k
      · rw [if_pos h2, h2, h]; exact get_out hn'.1
      · rw [if_neg h2]; simp only [Maps.get]; rw [if_neg (fun e => h2 (e.trans h.symm))]
    · rw [if_neg h]
      simp only [Maps.get, ih hn'.2]
      by_cases h2 : k' = p.1
      · rw [if_pos h2, if_neg (show ¬ k' = k from fun e => h (e.symm.trans h2)), if_pos h2]
      · rw [if_neg h2, if_neg h2]
theorem del_sub (l : List (κ × Value)) (k : κ) : (Maps.del l k).Sublist l := by
  induction l with
  | nil => exact List.Sublist.refl _
  | cons p l ih =>
    simp only [Maps.del]
    by_cases h : k = p.1
    · rw [if_pos h]; exact List.sublist_cons_self _ _
    · rw [if_neg h]; exact ih.cons_cons _
end
theorem without_mem {l : List ByteArray} {k x : ByteArray} : x ∈ without l k ↔ x ∈ l ∧ x ≠ k := by simp [without]
theorem without_none {l : List ByteArray} {k : ByteArray} (h : k ∉ l) : without l k = l := by
  unfold without
  rw [List.filter_eq_self]
  intro x hx
  exact decide_eq_true (fun e : x = k => h (e ▸ hx))
theorem without_split {l r : List ByteArray} {k : ByteArray} (h : (l ++ k :: r).Nodup) : without (l ++ k :: r) k = l ++ r := by
  have h2 := List.nodup_append.1 h
  have h3 := List.nodup_cons.1 h2.2.1
  have e1 : without l k = l := without_none fun e => h2.2.2 k e k (by simp) rfl
  have e2 : without r k = r := without_none h3.1
  have : without (l ++ k :: r) k = without l k ++ without r k := by unfold without; rw [List.filter_append, List.filter_cons]; simp
  rw [this, e1, e2]
theorem without_nodup {l : List ByteArray} (k : ByteArray) (h : l.Nodup) : (without l k).Nodup := h.sublist List.filter_sublist
theorem without_app (l r : List ByteArray) (k : ByteArray) : without (l ++ r) k = without l k ++ without r k := List.filter_append ..
theorem without_len (l : List ByteArray) (k : ByteArray) : (without l k).length ≤ l.length := List.length_filter_le ..
theorem without_lt {l : List ByteArray} {k : ByteArray} (h : k ∈ l) : (without l k).length + 1 ≤ l.length := by
  obtain ⟨a, b, rfl⟩ := List.append_of_mem h
  have : without (a ++ k :: b) k = without a k ++ without b k := by unfold without; rw [List.filter_append, List.filter_cons]; simp
  rw [this, List.length_append, List.length_append, List.length_cons]
  have := without_len a k
  have := without_len b k
  omega
structure Rows (w : World) (b mb : Nat) (most : Int) (ts ss : List Nd) : Prop where
  blk : w.heap[b]? = some (listObj most mb ts ss)
  ct : Chain w ⟨b, 2, none⟩ ts
  cs : Chain w ⟨b, 5, none⟩ ss
  nd : ((ts ++ ss).map (·.1)).Nodup
section
variable {w w' : World} {b mb n : Nat} {most : Int} {ts ss : List Nd} {k : ByteArray}
theorem Rows.same (h : Rows w b mb most ts ss) (hs : ∀ j, j = b ∨ j ∈ (ts ++ ss).map (·.1) → w'.heap[j]? = w.heap[j]?) : Rows w' b mb most ts ss :=
  ⟨(hs b (.inl rfl)).trans h.blk, h.ct.same fun j hj => hs j (.inr (by rw [List.map_append]; exact List.mem_append.2 (.inl hj))), h.cs.same fun j hj => hs j (.inr (by rw [List.map_append]; exact List.mem_append.2 (.inr hj))), h.nd⟩
theorem Rows.ndt (h : Rows w b mb most ts ss) : (ts.map (·.1)).Nodup ∧ (ss.map (·.1)).Nodup ∧ ∀ j ∈ ts.map (·.1), j ∉ ss.map (·.1) := by
  have := h.nd
  rw [List.map_append, List.nodup_append] at this
  exact ⟨this.1, this.2.1, fun j hj hs => this.2.2 j hj j hs rfl⟩
theorem Rows.off (h : Rows w b mb most ts ss) : b ∉ (ts ++ ss).map (·.1) := fun e => by
  rw [List.map_append, List.mem_append] at e
  exact e.elim (h.ct.ne h.blk) (h.cs.ne h.blk)
theorem Rows.node (h : Rows w b mb most ts ss) (hm : (n, k) ∈ ts ++ ss) : ∃ a c ra, w.heap[n]? = some (nodeObj k a c ra) := by
  rcases List.mem_append.1 hm with hm | hm
  · obtain ⟨l, r, e⟩ := List.append_of_mem hm
    exact ⟨_, _, _, h.ct l n k r e⟩
  · obtain ⟨l, r, e⟩ := List.append_of_mem hm
    exact ⟨_, _, _, h.cs l n k r e⟩
def PulledPost (w : World) (b mb : Nat) (most : Int) (ts ss : List Nd) (n : Nat) (k : ByteArray) (e : Ending) (w' : World) : Prop :=
  e = .returned (.tuple #[]) ∧ ∃ ts1 ss1, Rows w' b mb most ts1 ss1 ∧ ts1.map (·.2) = without (ts.map (·.2)) k ∧ ss1.map (·.2) = without (ss.map (·.2)) k ∧ n ∉ (ts1 ++ ss1).map (·.1) ∧
    (∃ a c ra, w'.heap[n]? = some (nodeObj k a c ra)) ∧ (∀ p, p ∈ ts1 ++ ss1 ↔ p ∈ ts ++ ss ∧ p.2 ≠ k) ∧ Only (fun j => j = b ∨ j ∈ (ts ++ ss).map (·.1)) w w'
theorem pull_any (h : Rows w b mb most ts ss) (hk : ((ts ++ ss).map (·.2)).Nodup) (hm : (n, k) ∈ ts ++ ss) (hl : (ts ++ ss).length ≤ 9223372036854775807) :
    Calls Tryz.prog 74 #[.pointer (some ⟨n, 0, none⟩)] w (PulledPost w b mb most ts ss n k) := by
  have hlen : ts.length + ss.length ≤ 9223372036854775807 := by rw [List.length_append] at hl; exact hl
  have hoff := h.off
  have hnode := h.node hm
  rcases List.mem_append.1 hm with hm | hm
  · obtain ⟨l, r, e⟩ := List.append_of_mem hm
    subst e
    refine (pull_trial h.blk h.ct h.ndt.1 (by omega)).mono ?_
    rintro e w' ⟨⟨rfl, h1, h2, h3⟩, h4⟩
    have ho : Only (fun j => j = b ∨ j ∈ ((l ++ (n, k) :: r) ++ ss).map (·.1)) w w' := h3.mono fun j hj => hj.elim .inl fun e => e.elim (fun e => .inr (by rw [e]; simp)) (fun e => .inr (by rw [List.map_append]; exact List.mem_append.2 (.inl e)))
    have hnd := h.nd
    have hsub : ((l ++ r) ++ ss).Sublist ((l ++ (n, k) :: r) ++ ss) := (List.Sublist.append (List.Sublist.refl l) (List.sublist_cons_self _ _)).append (List.Sublist.refl _)
    have hn1 : n ∉ ((l ++ r) ++ ss).map (·.1) := fun e => by
      have h5 := h.nd
      rw [show (l ++ (n, k) :: r) ++ ss = l ++ (n, k) :: (r ++ ss) from by simp, List.map_append, List.map_cons, List.nodup_append, List.nodup_cons] at h5
      rw [List.append_assoc, List.map_append, List.mem_append] at e
      exact e.elim (fun e => h5.2.2 n e n (by simp) rfl) h5.2.1.1
    have hk2 := hk
    rw [List.map_append, List.nodup_append] at hk2
    have hks : k ∉ ss.map (·.2) := fun e => hk2.2.2 k (by simp) k e rfl
    refine ⟨rfl, l ++ r, ss, ⟨h1, h2, h.cs.same fun j hj => ?_, hnd.sublist (hsub.map _)⟩, ?_, (without_none hks).symm, hn1, by rw [h4]; exact hnode, fun p => ?_, ho⟩
    · have hjl : j < w.heap.size := by
        obtain ⟨_, _, _, e⟩ := h.cs.at_mem hj
        exact (Array.getElem?_eq_some_iff.1 e).1
      refine h3.same j hjl fun e => ?_
      rcases e with e | e | e
      · exact hoff (by rw [← e, List.map_append]; exact List.mem_append.2 (.inr hj))
      · exact h.ndt.2.2 n (by simp) (e ▸ hj)
      · exact h.ndt.2.2 j e hj
    · have := hk2.1
      rw [List.map_append, List.map_cons] at this
      rw [List.map_append, List.map_append, List.map_cons, without_split this]
    · have hp2 : ∀ p ∈ l ++ r, p.2 ≠ k := fun p hp e => by
        have := hk2.1
        rw [List.map_append, List.map_cons, List.nodup_append, List.nodup_cons] at this
        rcases List.mem_append.1 hp with hp | hp
        · exact this.2.2 k (e ▸ List.mem_map_of_mem hp) k (by simp) rfl
        · exact this.2.1.1 (by show k ∈ r.map (·.2); rw [← e]; exact List.mem_map_of_mem hp)
      constructor
      · intro hp
        refine ⟨hsub.subset hp, ?_⟩
        rcases List.mem_append.1 hp with hp | hp
        · exact hp2 p hp
        · exact fun e => hks (e ▸ List.mem_map_of_mem hp)
      · rintro ⟨hp, hne⟩
        simp only [List.mem_append, List.mem_cons] at hp ⊢
        rcases hp with (hp | rfl | hp) | hp
        · exact .inl (.inl hp)
        · exact absurd rfl hne
        · exact .inl (.inr hp)
        · exact .inr hp
  · obtain ⟨l, r, e⟩ := List.append_of_mem hm
    subst e
    refine (pull_safe h.blk h.cs h.ndt.2.1 (by omega)).mono ?_
    rintro e w' ⟨⟨rfl, h1, h2, h3⟩, h4⟩
    have ho : Only (fun j => j = b ∨ j ∈ (ts ++ (l ++ (n, k) :: r)).map (·.1)) w w' := h3.mono fun j hj => hj.elim .inl fun e => e.elim (fun e => .inr (by rw [e]; simp)) (fun e => .inr (by rw [List.map_append]; exact List.mem_append.2 (.inr e)))
    have hnd := h.nd
    have hsub : (ts ++ (l ++ r)).Sublist (ts ++ (l ++ (n, k) :: r)) := (List.Sublist.refl ts).append (List.Sublist.append (List.Sublist.refl l) (List.sublist_cons_self _ _))
    have hn1 : n ∉ (ts ++ (l ++ r)).map (·.1) := fun e => by
      have h5 := h.nd
      rw [show ts ++ (l ++ (n, k) :: r) = (ts ++ l) ++ (n, k) :: r from by simp, List.map_append, List.map_cons, List.nodup_append, List.nodup_cons] at h5
      rw [← List.append_assoc, List.map_append, List.mem_append] at e
      exact e.elim (fun e => h5.2.2 n e n (by simp) rfl) h5.2.1.1
    have hk2 := hk
    rw [List.map_append, List.nodup_append] at hk2
    have hks : k ∉ ts.map (·.2) := fun e => hk2.2.2 k e k (by simp) rfl
    refine ⟨rfl, ts, l ++ r, ⟨h1, h.ct.same fun j hj => ?_, h2, hnd.sublist (hsub.map _)⟩, (without_none hks).symm, ?_, hn1, by rw [h4]; exact hnode, fun p => ?_, ho⟩
    · have hjl : j < w.heap.size := by
        obtain ⟨_, _, _, e⟩ := h.ct.at_mem hj
        exact (Array.getElem?_eq_some_iff.1 e).1
      refine h3.same j hjl fun e => ?_
      rcases e with e | e | e
      · exact hoff (by rw [← e, List.map_append]; exact List.mem_append.2 (.inl hj))
      · exact h.ndt.2.2 j hj (by rw [e]; simp)
      · exact h.ndt.2.2 j hj e
    · have := hk2.2.1
      rw [List.map_append, List.map_cons] at this
      rw [List.map_append, List.map_append, List.map_cons, without_split this]
    · have hp2 : ∀ p ∈ l ++ r, p.2 ≠ k := fun p hp e => by
        have := hk2.2.1
        rw [List.map_append, List.map_cons, List.nodup_append, List.nodup_cons] at this
        rcases List.mem_append.1 hp with hp | hp
        · exact this.2.2 k (e ▸ List.mem_map_of_mem hp) k (by simp) rfl
        · exact this.2.1.1 (by show k ∈ r.map (·.2); rw [← e]; exact List.mem_map_of_mem hp)
      constructor
      · intro hp
        refine ⟨hsub.subset hp, ?_⟩
        rcases List.mem_append.1 hp with hp | hp
        · exact fun e => hks (e ▸ List.mem_map_of_mem hp)
        · exact hp2 p hp
      · rintro ⟨hp, hne⟩
        simp only [List.mem_append, List.mem_cons] at hp ⊢
        rcases hp with hp | hp | rfl | hp
        · exact .inl hp
        · exact .inr (.inl hp)
        · exact absurd rfl hne
        · exact .inr (.inr hp)
def PushedPost (w : World) (b mb : Nat) (most : Int) (ts ss ts1 ss1 : List Nd) (n : Nat) (e : Ending) (w' : World) : Prop :=
  e = .returned (.tuple #[]) ∧ Rows w' b mb most ts1 ss1 ∧ Only (fun j => j = b ∨ j = n ∨ j ∈ (ts ++ ss).map (·.1)) w w'
theorem put_trial (h : Rows w b mb most ts ss) {u1 u2 u3 : Value} (hn : w.heap[n]? = some (.cells #[.string k, u1, u2, u3] 188 (0, 0))) (hno : n ∉ (ts ++ ss).map (·.1)) (hl : (ts ++ ss).length + 1 ≤ 9223372036854775807) :
    Calls Tryz.prog 75 #[.pointer (some ⟨b, 2, none⟩), .pointer (some ⟨n, 0, none⟩)] w (PushedPost w b mb most ts ss (ts ++ [(n, k)]) ss n) := by
  have hlen : ts.length + ss.length + 1 ≤ 9223372036854775807 := by rw [List.length_append] at hl; exact hl
  have hoff := h.off
  have hno2 := hno
  rw [List.map_append, List.mem_append] at hno2
  refine (push_trial h.blk h.ct h.ndt.1 hn (fun e => hno2 (.inl e)) (by omega)).mono ?_
  rintro e w' ⟨rfl, h1, h2, h3⟩
  refine ⟨rfl, ⟨h1, h2, h.cs.same fun j hj => ?_, ?_⟩, h3.mono fun j hj => hj.elim .inl fun e => .inr (e.elim .inl fun e => .inr (by rw [List.map_append]; exact List.mem_append.2 (.inl e)))⟩
  · have hjl : j < w.heap.size := by
      obtain ⟨_, _, _, e⟩ := h.cs.at_mem hj
      exact (Array.getElem?_eq_some_iff.1 e).1
    refine h3.same j hjl fun e => ?_
    rcases e with e | e | e
    · exact hoff (by rw [← e, List.map_append]; exact List.mem_append.2 (.inr hj))
    · exact hno2 (.inr (e ▸ hj))
    · exact h.ndt.2.2 j e hj
  · have hp : ((n, k) :: (ts ++ ss)).Perm (ts ++ [(n, k)] ++ ss) := by
      rw [List.append_assoc]
      exact (List.perm_middle (a := (n, k)) (l₁ := ts) (l₂ := ss)).symm
    exact ((hp.map (·.1)).nodup_iff).1 (List.nodup_cons.2 ⟨hno, h.nd⟩)
theorem put_safe (h : Rows w b mb most ts ss) {u1 u2 u3 : Value} (hn : w.heap[n]? = some (.cells #[.string k, u1, u2, u3] 188 (0, 0))) (hno : n ∉ (ts ++ ss).map (·.1)) (hl : (ts ++ ss).length + 1 ≤ 9223372036854775807) :
    Calls Tryz.prog 75 #[.pointer (some ⟨b, 5, none⟩), .pointer (some ⟨n, 0, none⟩)] w (PushedPost w b mb most ts ss ts (ss ++ [(n, k)]) n) := by
  have hlen : ts.length + ss.length + 1 ≤ 9223372036854775807 := by rw [List.length_append] at hl; exact hl
  have hoff := h.off
  have hno2 := hno
  rw [List.map_append, List.mem_append] at hno2
  refine (push_safe h.blk h.cs h.ndt.2.1 hn (fun e => hno2 (.inr e)) (by omega)).mono ?_
  rintro e w' ⟨rfl, h1, h2, h3⟩
  refine ⟨rfl, ⟨h1, h.ct.same fun j hj => ?_, h2, ?_⟩, h3.mono fun j hj => hj.elim .inl fun e => .inr (e.elim .inl fun e => .inr (by rw [List.map_append]; exact List.mem_append.2 (.inr e)))⟩
  · have hjl : j < w.heap.size := by
      obtain ⟨_, _, _, e⟩ := h.ct.at_mem hj
      exact (Array.getElem?_eq_some_iff.1 e).1
    refine h3.same j hjl fun e => ?_
    rcases e with e | e | e
    · exact hoff (by rw [← e, List.map_append]; exact List.mem_append.2 (.inl hj))
    · exact hno2 (.inl (e ▸ hj))
    · exact h.ndt.2.2 j hj e
  · have hp : ((n, k) :: (ts ++ ss)).Perm (ts ++ (ss ++ [(n, k)])) := by
      rw [← List.append_assoc]
      exact (List.perm_append_singleton (n, k) (ts ++ ss)).symm
    exact ((hp.map (·.1)).nodup_iff).1 (List.nodup_cons.2 ⟨hno, h.nd⟩)
end
end Go.Proofs.YtpghckiochjogaaGreatDoor.Slru

/- Layer 8: the walks of New, Len, Protected, Add. -/
namespace Go.Proofs.YtpghckiochjogaaGreatDoor.Slru
open Go Go.RowKit Go.Proofs.YtpghckiochjogaaGreatDoor.Mem
def key? (ps : List (ByteArray × Value)) (xs : List Nd) : Prop := ∀ k v, Maps.get ps k = some v ↔ ∃ n, (n, k) ∈ xs ∧ v = .pointer (some ⟨n, 0, none⟩)
structure AtW (w : World) (b : Nat) (F : Nat → Prop) (s : St) (mb : Nat) (ts ss : List Nd) (ps : List (ByteArray × Value)) : Prop where
  rows : Rows w b mb s.most ts ss
  map : Maps.Is Value.string w mb ps
  look : key? ps (ts ++ ss)
  pnd : (ps.map (·.1)).Nodup
  tr : ts.map (·.2) = s.trial
  sf : ss.map (·.2) = s.safe
  knd : s.all.Nodup
  fb : F b
  fm : F mb
  fn : ∀ j ∈ (ts ++ ss).map (·.1), F j
  lt : ∀ k, F k → k < w.heap.size
def At (w : World) (b : Nat) (F : Nat → Prop) (s : St) : Prop := ∃ mb ts ss ps, AtW w b F s mb ts ss ps
section
variable {w w' : World} {b mb n : Nat} {F : Nat → Prop} {s : St} {ts ss : List Nd} {ps : List (ByteArray × Value)} {k : ByteArray}
theorem AtW.all (h : AtW w b F s mb ts ss ps) : s.all = (ts ++ ss).map (·.2) := by unfold St.all; rw [← h.tr, ← h.sf, List.map_append]
theorem AtW.same (h : AtW w b F s mb ts ss ps) (hs : ∀ k, F k → w'.heap[k]? = w.heap[k]?) (hz : w.heap.size ≤ w'.heap.size) : AtW w' b F s mb ts ss ps :=
  ⟨h.rows.same fun j hj => hs j (hj.elim (fun e => e ▸ h.fb) (h.fn j)), h.map.same (hs mb h.fm), h.look, h.pnd, h.tr, h.sf, h.knd, h.fb, h.fm, h.fn, fun k hk => Nat.lt_of_lt_of_le (h.lt k hk) hz⟩
theorem At.same (h : At w b F s) (hs : ∀ k, F k → w'.heap[k]? = w.heap[k]?) (hz : w.heap.size ≤ w'.heap.size) : At w' b F s := by
  obtain ⟨mb, ts, ss, ps, h⟩ := h
  exact ⟨mb, ts, ss, ps, h.same hs hz⟩
theorem At.lt (h : At w b F s) : ∀ k, F k → k < w.heap.size := by obtain ⟨_, _, _, _, h⟩ := h; exact h.lt
theorem At.below (h : At w b F s) (ho : Below w.heap.size w w') : At w' b F s := h.same (fun k hk => ho.block k (h.lt k hk)) ho.size
theorem At.only {G : Nat → Prop} (h : At w b F s) (ho : Only G w w') (hd : ∀ k, F k → ¬ G k) : At w' b F s := h.same (fun k hk => ho.same k (h.lt k hk) (hd k hk)) ho.size
theorem AtW.map_off (h : AtW w b F s mb ts ss ps) : mb ≠ b ∧ mb ∉ (ts ++ ss).map (·.1) := by
  obtain ⟨es, clock, hb, _⟩ := h.map
  refine ⟨fun e => ?_, fun hm => ?_⟩
  · subst e
    have := h.rows.blk
    rw [hb] at this
    injection this with this
    cases this
  · obtain ⟨⟨n, k⟩, hn, e⟩ := List.mem_map.1 hm
    simp only at e
    subst e
    obtain ⟨_, _, _, e2⟩ := h.rows.node hn
    rw [hb] at e2
    injection e2 with e2
    cases e2
theorem AtW.get_some (h : AtW w b F s mb ts ss ps) (hk : k ∈ s.all) : ∃ n, (n, k) ∈ ts ++ ss ∧ Maps.get ps k = some (.pointer (some ⟨n, 0, none⟩)) := by
  rw [h.all] at hk
  obtain ⟨⟨n, k'⟩, hm, e⟩ := List.mem_map.1 hk
  simp only at e
  subst e
  exact ⟨n, hm, (h.look _ _).2 ⟨n, hm, rfl⟩⟩
theorem AtW.get_none (h : AtW w b F s mb ts ss ps) (hk : k ∉ s.all) : Maps.get ps k = none := by
  rcases hg : Maps.get ps k with _ | v
  · rfl
  · obtain ⟨n, hn, _⟩ := (h.look k v).1 hg
    exact absurd (by rw [h.all]; exact List.mem_map.2 ⟨_, hn, rfl⟩) hk
end
theorem zeroNode (w : World) : (zeroValue 109).run Tryz.prog w = .ok (.pointer none) w := by kernel_rfl
theorem strLaw : Maps.KeyLaw Tryz.prog 9 Value.string := Maps.stringLaw Tryz.underlying9
theorem new_any (most : Int) (w : World) : Calls Tryz.prog 30 #[.int .i64 most] w fun e w' =>
    e = .returned (.pointer (some ⟨w.heap.size + 1, 0, none⟩)) ∧ w' = (w.alloc (.map #[] 0)).alloc (listObj most w.heap.size [] []) := by
  have hmm := @run_makeMap Tryz.prog
  go_enter Tryz.func30, Tryz.ntmps30
  go_wp2
  go_ret
  exact ⟨rfl, rfl⟩
theorem new_gives (most : Int) (w : World) : Calls Tryz.prog 30 #[.int .i64 most] w fun e w' =>
    ∃ (b : Nat) (F : Nat → Prop), e = .returned (.pointer (some ⟨b, 0, none⟩)) ∧ At w' b F (new most) ∧ (∀ k, F k → w.heap.size ≤ k) ∧ Below w.heap.size w w' :=
  (new_any most w).mono fun e w' ⟨he, hw⟩ => by
    subst hw
    refine ⟨_, fun k => k = w.heap.size ∨ k = w.heap.size + 1, he, ⟨w.heap.size, [], [], [], ⟨Mem.new_block2 w _ _, fun l n k r e => by simp at e, fun l n k r e => by simp at e, List.nodup_nil⟩, (Maps.Is.new w).same (Below.heap_alloc _ _ _ (by simp)), fun k v => by simp [Maps.get], List.nodup_nil, rfl, rfl, List.nodup_nil, .inr rfl, .inl rfl, fun j hj => by simp at hj, ?_⟩, fun k hk => by omega, Mem.al (Mem.al (Below.refl _ _) _) _⟩
    rintro k (rfl | rfl) <;> simp <;> omega
end Go.Proofs.YtpghckiochjogaaGreatDoor.Slru

/- Layer 8: the walks of Add, Remove. -/
namespace Go.Proofs.YtpghckiochjogaaGreatDoor.Slru
open Go Go.RowKit Go.Proofs.YtpghckiochjogaaGreatDoor.Mem
def TurnPost (w : World) (b : Nat) (F : Nat → Prop) (y : Int × St) (e : Ending) (w' : World) : Prop := ∃ F', e = .returned (.int .i64 y.1) ∧ At w' b F' y.2 ∧ Only F w w' ∧ Grows w F F'
theorem node_lt {w : World} {b : Nat} {F : Nat → Prop} {s : St} {mb : Nat} {ts ss : List Nd} {ps : List (ByteArray × Value)} (h : AtW w b F s mb ts ss ps) : w.heap.size ∉ (ts ++ ss).map (·.1) := fun e => Nat.lt_irrefl _ (h.lt _ (h.fn _ e))
set_option maxRecDepth 100000 in
set_option maxHeartbeats 2000000 in
theorem add_any {w : World} {b : Nat} {F : Nat → Prop} {s : St} (h : At w b F s) (k : ByteArray) (hl : s.all.length + 1 ≤ 9223372036854775807) :
    Calls Tryz.prog 112 #[.pointer (some ⟨b, 0, none⟩), .string k] w (TurnPost w b F (s.add k)) := by
  have hat := h
  obtain ⟨mb, ts, ss, ps, h⟩ := h
  have c1 := Mem.row_cell h.rows.blk 1
  simp only [listArr, List.getElem?_toArray, List.getElem?_cons_zero, List.getElem?_cons_succ] at c1
  have hlk0 := Maps.run_lookup strLaw Tryz.underlying108 zeroNode h.map k
  by_cases hk : k ∈ s.all
  · obtain ⟨n, hm, hg⟩ := h.get_some hk
    rw [hg] at hlk0
    have hlk : ∀ _ : True, (Instr.lookup 108 (.map (some mb)) (.string k) false).run Tryz.prog w = .ok (.pointer (some ⟨n, 0, none⟩)) w := fun _ => hlk0
    have e : s.add k = (7, s) := by unfold St.add; rw [if_pos hk]
    have HF := Lib.hid (show TurnPost w b F (s.add k) (.returned (.int .i64 7)) w by rw [e]; exact ⟨F, rfl, hat, Only.refl _ _, Grows.refl _ _⟩)
    clear h hlk0 hk hm hg e hat hl
    go_enter Tryz.func112, Tryz.ntmps112
    go_wp2_with fail
    go_ret
    exact HF.out
  · have hg := h.get_none hk
    rw [hg] at hlk0
    have hlk : ∀ _ : True, (Instr.lookup 108 (.map (some mb)) (.string k) false).run Tryz.prog w = .ok (.pointer none) w := fun _ => hlk0
    obtain ⟨w1, hw1⟩ : ∃ w1, w.alloc (.cells #[.string k, .pointer none, .pointer none, .pointer none] 188) = w1 := ⟨_, rfl⟩
    have hs1 : ∀ j, j < w.heap.size → w1.heap[j]? = w.heap[j]? := fun j hj => by rw [← hw1]; exact Below.heap_alloc _ _ _ hj
    have hz1 : w1.heap.size = w.heap.size + 1 := by rw [← hw1]; simp
    have hn1 : w1.heap[w.heap.size]? = some (.cells #[.string k, .pointer none, .pointer none, .pointer none] 188 (0, 0)) := by rw [← hw1]; exact Mem.new_block w _
    have ho1 : Only F w w1 := by rw [← hw1]; exact (Only.refl _ _).alloc _
    have h1 := h.same (w' := w1) (fun j hj => hs1 j (h.lt j hj)) (by omega)
    obtain ⟨o, hmu, hIs⟩ := Maps.run_update (w := w1) strLaw Tryz.underlying108 h1.map k (.pointer (some ⟨w.heap.size, 0, none⟩))
    have hmu' : ∀ _ : True, (Instr.mapUpdate 108 (.map (some mb)) (.string k) (.pointer (some ⟨w.heap.size, 0, none⟩))).run Tryz.prog w1 = .ok () (w1.putObj mb o) := fun _ => hmu
    have hmo := h.map_off
    have hbl : b < w.heap.size := h.lt b h.fb
    have hml : mb < w.heap.size := h.lt mb h.fm
    have c1' := Mem.row_cell h1.rows.blk 1
    simp only [listArr, List.getElem?_toArray, List.getElem?_cons_zero, List.getElem?_cons_succ] at c1'
    have hR2 : Rows (w1.putObj mb o) b mb s.most ts ss := h1.rows.same fun j hj => World.putObj_heap_other (fun e => hj.elim (fun e2 => hmo.1 (e ▸ e2)) (fun e2 => hmo.2 (e ▸ e2)))
    have hn2 : (w1.putObj mb o).heap[w.heap.size]? = some (.cells #[.string k, .pointer none, .pointer none, .pointer none] 188 (0, 0)) := (World.putObj_heap_other (by omega)).trans hn1
    have hlen : (ts ++ ss).length + 1 ≤ 9223372036854775807 := by have := h.all; rw [this] at hl; simpa using hl
    have hcall := put_trial hR2 hn2 (node_lt h) hlen
    have ho2 : Only F w (w1.putObj mb o) := ho1.putObj (.inl h.fm) o
    have hz2 : (w1.putObj mb o).heap.size = w.heap.size + 1 := by rw [World.putObj_size, hz1]
    have HH := Lib.hid (And.intro h (And.intro hIs (And.intro hg (And.intro hk (And.intro ho2 hmo)))))
    clear hlk0 hg hk hat hl h h1 hmu hIs hmo hR2 hn2 ho1 ho2 hn1 hs1 hlen hbl hml
    go_enter Tryz.func112, Tryz.ntmps112
    go_upto_region 4 with (fail)
    go_wp2_with fail
    refine hcall.mono ?_
    rintro e w4 ⟨rfl, h4, o4⟩
    obtain ⟨h, hIs, hg, hk, ho2, hmo⟩ := HH.out
    have hps : Maps.set ps k (.pointer (some ⟨w.heap.size, 0, none⟩)) = ps ++ [(k, .pointer (some ⟨w.heap.size, 0, none⟩))] := set_new _ hg
    have hm4 : Maps.Is Value.string w4 mb (Maps.set ps k (.pointer (some ⟨w.heap.size, 0, none⟩))) := by
      refine hIs.same (o4.same mb (by have := h.lt mb h.fm; omega) fun e => ?_)
      rcases e with e | e | e
      · exact hmo.1 e
      · have := h.lt mb h.fm; omega
      · exact hmo.2 e
    have hz4 : w.heap.size + 1 ≤ w4.heap.size := by have := o4.size; omega
    have hka : k ∉ (ts ++ ss).map (·.2) := by rw [← h.all]; exact hk
    have hat4 : AtW w4 b (fun j => F j ∨ j = w.heap.size) { s with trial := s.trial ++ [k] } mb (ts ++ [(w.heap.size, k)]) ss (Maps.set ps k (.pointer (some ⟨w.heap.size, 0, none⟩))) := by
      refine ⟨h4, hm4, fun k' v => ?_, ?_, by rw [List.map_append, h.tr]; rfl, h.sf, ?_, .inl h.fb, .inl h.fm, fun j hj => ?_, fun j hj => ?_⟩
      · rw [get_set]
        by_cases e : k' = k
        · rw [if_pos e, e]
          constructor
          · intro e2; injection e2 with e2; exact ⟨_, by simp, e2.symm⟩
          · rintro ⟨n, hn, rfl⟩
            have : n = w.heap.size := by
              simp only [List.mem_append, List.mem_cons, List.not_mem_nil, or_false] at hn
              rcases hn with (hn | hn) | hn
              · exact absurd (List.mem_map.2 ⟨_, List.mem_append.2 (.inl hn), rfl⟩) hka
              · injection hn
              · exact absurd (List.mem_map.2 ⟨_, List.mem_append.2 (.inr hn), rfl⟩) hka
            rw [this]
        · rw [if_neg e, h.look]
          constructor
          · rintro ⟨n, hn, rfl⟩
            exact ⟨n, by simp only [List.mem_append] at hn ⊢; exact hn.elim (fun e => .inl (.inl e)) .inr, rfl⟩
          · rintro ⟨n, hn, rfl⟩
            refine ⟨n, ?_, rfl⟩
            simp only [List.mem_append, List.mem_cons, List.not_mem_nil, or_false] at hn ⊢
            rcases hn with (hn | hn) | hn
            · exact .inl hn
            · injection hn with _ hn; exact absurd hn e
            · exact .inr hn
      · rw [hps, List.map_append]
        exact List.nodup_append.2 ⟨h.pnd, by simp, fun a ha c hc => by
          have : c = k := by simpa using hc
          subst this
          exact fun e => get_none hg (e ▸ ha)⟩
      · have hp : (k :: s.all).Perm (s.trial ++ [k] ++ s.safe) := by
          unfold St.all
          rw [List.append_assoc]
          exact (List.perm_middle (a := k) (l₁ := s.trial) (l₂ := s.safe)).symm
        exact (hp.nodup_iff).1 (List.nodup_cons.2 ⟨hk, h.knd⟩)
      · simp only [List.map_append, List.mem_append, List.map_cons, List.map_nil, List.mem_cons, List.not_mem_nil, or_false] at hj
        rcases hj with (hj | hj) | hj
        · exact .inl (h.fn j (by simp only [List.map_append, List.mem_append]; exact .inl hj))
        · exact .inr hj
        · exact .inl (h.fn j (by simp only [List.map_append, List.mem_append]; exact .inr hj))
      · exact hj.elim (fun e => by have := h.lt j e; omega) (fun e => by omega)
    have hres : TurnPost w b F (s.add k) (.returned (.int .i64 0)) w4 := by
      have e : s.add k = (0, { s with trial := s.trial ++ [k] }) := by unfold St.add; rw [if_neg hk]
      rw [e]
      refine ⟨_, rfl, ⟨_, _, _, _, hat4⟩, ho2.trans o4 fun j hj => ?_, fun j hj => hj.elim .inl (fun e => .inr (by omega))⟩
      rcases hj with e | e | e
      · exact .inl (e ▸ h.fb)
      · exact .inr (by omega)
      · exact .inl (h.fn j e)
    have HR := Lib.hid hres
    clear h4 o4 hres hat4 hm4
    go_wp2_with fail
    go_ret
    exact HR.out
end Go.Proofs.YtpghckiochjogaaGreatDoor.Slru

/- Layer 8: the walks of Remove, Hit. -/
namespace Go.Proofs.YtpghckiochjogaaGreatDoor.Slru
open Go Go.RowKit Go.Proofs.YtpghckiochjogaaGreatDoor.Mem
theorem key_uniq {xs : List Nd} (h : (xs.map (·.2)).Nodup) {p q : Nd} (hp : p ∈ xs) (hq : q ∈ xs) (e : p.2 = q.2) : p = q := by
  induction xs with
  | nil => cases hp
  | cons x xs ih =>
    have hn := List.nodup_cons.1 h
    rcases List.mem_cons.1 hp with h1 | h1
    · rcases List.mem_cons.1 hq with h2 | h2
      · rw [h1, h2]
      · exact absurd (show x.2 ∈ xs.map (·.2) by rw [← h1, e]; exact List.mem_map_of_mem h2) hn.1
    · rcases List.mem_cons.1 hq with h2 | h2
      · exact absurd (show x.2 ∈ xs.map (·.2) by rw [← h2, ← e]; exact List.mem_map_of_mem h1) hn.1
      · exact ih hn.2 h1 h2
theorem back_in {A A1 : List Nd} {n : Nat} {k : ByteArray} (hk : (A.map (·.2)).Nodup) (hm : (n, k) ∈ A) (h : ∀ p, p ∈ A1 ↔ p ∈ A ∧ p.2 ≠ k) (p : Nd) : (p ∈ A1 ∨ p = (n, k)) ↔ p ∈ A := by
  constructor
  · rintro (e | rfl)
    · exact ((h p).1 e).1
    · exact hm
  · intro e
    by_cases e2 : p.2 = k
    · exact .inr (key_uniq hk e hm e2)
    · exact .inl ((h p).2 ⟨e, e2⟩)
theorem len_pulled {ts ss ts1 ss1 : List Nd} {k : ByteArray} (hk : k ∈ (ts ++ ss).map (·.2)) (ht : ts1.map (·.2) = without (ts.map (·.2)) k) (hs : ss1.map (·.2) = without (ss.map (·.2)) k) : (ts1 ++ ss1).length + 1 ≤ (ts ++ ss).length := by
  have e1 := congrArg List.length ht
  have e2 := congrArg List.length hs
  have e3 := without_lt hk
  rw [List.map_append, without_app, List.length_append, List.length_append] at e3
  simp only [List.length_map] at e1 e2 e3
  rw [List.length_append, List.length_append]
  omega
section
variable {w w' : World} {b mb n : Nat} {F : Nat → Prop} {s s' : St} {ts ss ts1 ss1 : List Nd} {ps : List (ByteArray × Value)} {k : ByteArray}
theorem AtW.map_kept (h : AtW w b F s mb ts ss ps) (ho : Only (fun j => j = b ∨ j ∈ (ts ++ ss).map (·.1)) w w') : Maps.Is Value.string w' mb ps :=
  h.map.same (ho.same mb (h.lt mb h.fm) fun e => e.elim (fun e => h.map_off.1 e) (fun e => h.map_off.2 e))
theorem AtW.turned (h : AtW w b F s mb ts ss ps) (hr : Rows w' b mb s'.most ts1 ss1) (ho : Only (fun j => j = b ∨ j ∈ (ts ++ ss).map (·.1)) w w') (hi : ∀ p, p ∈ ts1 ++ ss1 ↔ p ∈ ts ++ ss)
    (ht : ts1.map (·.2) = s'.trial) (hs : ss1.map (·.2) = s'.safe) (hk : s'.all.Nodup) : AtW w' b F s' mb ts1 ss1 ps :=
  ⟨hr, h.map_kept ho, fun k v => by rw [h.look]; constructor <;> rintro ⟨n, hn, rfl⟩ <;> exact ⟨n, by first | exact (hi _).2 hn | exact (hi _).1 hn, rfl⟩, h.pnd, ht, hs, hk, h.fb, h.fm,
    fun j hj => by
      obtain ⟨p, hp, rfl⟩ := List.mem_map.1 hj
      exact h.fn _ (List.mem_map_of_mem ((hi p).1 hp)), fun j hj => Nat.lt_of_lt_of_le (h.lt j hj) ho.size⟩
theorem AtW.only (h : AtW w b F s mb ts ss ps) (ho : Only (fun j => j = b ∨ j ∈ (ts ++ ss).map (·.1)) w w') : Only F w w' := ho.mono fun j hj => hj.elim (fun e => e ▸ h.fb) (h.fn j)
theorem AtW.kn (h : AtW w b F s mb ts ss ps) : ((ts ++ ss).map (·.2)).Nodup := by rw [← h.all]; exact h.knd
theorem AtW.ln (h : AtW w b F s mb ts ss ps) : (ts ++ ss).length = s.all.length := by rw [h.all]; simp
theorem AtW.removed (h : AtW w b F s mb ts ss ps) {o : Obj} {w1 : World} (hr : Rows w1 b mb s.most ts1 ss1) (ho : Only (fun j => j = b ∨ j ∈ (ts ++ ss).map (·.1)) w w1) (hi : ∀ p, p ∈ ts1 ++ ss1 ↔ p ∈ ts ++ ss ∧ p.2 ≠ k)
    (ht : ts1.map (·.2) = without (ts.map (·.2)) k) (hs : ss1.map (·.2) = without (ss.map (·.2)) k) (hm : Maps.Is Value.string (w1.putObj mb o) mb (Maps.del ps k)) :
    AtW (w1.putObj mb o) b F { s with trial := without s.trial k, safe := without s.safe k } mb ts1 ss1 (Maps.del ps k) := by
  have hsub : ∀ j, j ∈ (ts1 ++ ss1).map (·.1) → j ∈ (ts ++ ss).map (·.1) := fun j hj => by
    obtain ⟨p, hp, rfl⟩ := List.mem_map.1 hj
    exact List.mem_map_of_mem ((hi p).1 hp).1
  refine ⟨hr.same fun j hj => World.putObj_heap_other (fun e => hj.elim (fun e2 => h.map_off.1 (e ▸ e2)) (fun e2 => h.map_off.2 (hsub _ (e ▸ e2)))), hm, fun k' v => ?_, h.pnd.sublist ((del_sub ps k).map _), by rw [ht, h.tr], by rw [hs, h.sf], ?_, h.fb, h.fm, fun j hj => h.fn j (hsub j hj), fun j hj => by rw [World.putObj_size]; exact Nat.lt_of_lt_of_le (h.lt j hj) ho.size⟩
  · rw [get_del h.pnd]
    by_cases e : k' = k
    · rw [if_pos e, e]
      constructor
      · intro e2; cases e2
      · rintro ⟨n, hn, _⟩
        exact absurd rfl ((hi _).1 hn).2
    · rw [if_neg e, h.look]
      constructor
      · rintro ⟨n, hn, rfl⟩; exact ⟨n, (hi _).2 ⟨hn, e⟩, rfl⟩
      · rintro ⟨n, hn, rfl⟩; exact ⟨n, ((hi _).1 hn).1, rfl⟩
  · show (without s.trial k ++ without s.safe k).Nodup
    rw [← without_app]
    exact without_nodup k h.knd
end
set_option maxRecDepth 100000 in
set_option maxHeartbeats 2000000 in
theorem remove_any {w : World} {b : Nat} {F : Nat → Prop} {s : St} (h : At w b F s) (k : ByteArray) (hl : s.all.length ≤ 9223372036854775807) :
    Calls Tryz.prog 87 #[.pointer (some ⟨b, 0, none⟩), .string k] w (TurnPost w b F (s.remove k)) := by
  have hat := h
  obtain ⟨mb, ts, ss, ps, h⟩ := h
  have c1 := Mem.row_cell h.rows.blk 1
  simp only [listArr, List.getElem?_toArray, List.getElem?_cons_zero, List.getElem?_cons_succ] at c1
  have hlk0 := Maps.run_lookup strLaw Tryz.underlying108 zeroNode h.map k
  by_cases hk : k ∈ s.all
  · obtain ⟨n, hm, hg⟩ := h.get_some hk
    rw [hg] at hlk0
    have hlk : ∀ _ : True, (Instr.lookup 108 (.map (some mb)) (.string k) false).run Tryz.prog w = .ok (.pointer (some ⟨n, 0, none⟩)) w := fun _ => hlk0
    have e : s.remove k = (0, { s with trial := without s.trial k, safe := without s.safe k }) := by unfold St.remove; rw [if_pos hk]
    have hcall := pull_any h.rows h.kn hm (by rw [h.ln]; exact hl)
    have HH := Lib.hid h
    have HE := Lib.hid e
    clear h hlk0 hk hm hg e hat hl
    go_enter Tryz.func87, Tryz.ntmps87
    go_wp2_with fail
    refine hcall.mono ?_
    rintro e w1 ⟨rfl, ts1, ss1, hr, ht, hs, -, -, hi, ho⟩
    have c1' := Mem.row_cell hr.blk 1
    simp only [listArr, List.getElem?_toArray, List.getElem?_cons_zero, List.getElem?_cons_succ] at c1'
    obtain ⟨o, hdel, hIs⟩ := Maps.run_delete (w := w1) strLaw Tryz.underlying108 (HH.out.map_kept ho) k 0 9
    have hdel' : ∀ _ : True, (Builtin.delete_ #[108, 9] 0 #[.map (some mb), .string k]).run Tryz.prog w1 = .ok (.tuple #[]) (w1.putObj mb o) := fun _ => hdel
    have hres : TurnPost w b F (s.remove k) (.returned (.int .i64 0)) (w1.putObj mb o) := by
      rw [HE.out]
      exact ⟨F, rfl, ⟨_, _, _, _, HH.out.removed hr ho hi ht hs hIs⟩, (HH.out.only ho).putObj (.inl HH.out.fm) o, Grows.refl _ _⟩
    have HR := Lib.hid hres
    clear hr ht hs hi ho hdel hIs hres hlk hcall
    go_wp2_with fail
    go_ret
    exact HR.out
  · have hg := h.get_none hk
    rw [hg] at hlk0
    have hlk : ∀ _ : True, (Instr.lookup 108 (.map (some mb)) (.string k) false).run Tryz.prog w = .ok (.pointer none) w := fun _ => hlk0
    have e : s.remove k = (6, s) := by unfold St.remove; rw [if_neg hk]
    have HF := Lib.hid (show TurnPost w b F (s.remove k) (.returned (.int .i64 6)) w by rw [e]; exact ⟨F, rfl, hat, Only.refl _ _, Grows.refl _ _⟩)
    clear h hlk0 hk hg e hat hl
    go_enter Tryz.func87, Tryz.ntmps87
    go_wp2_with fail
    go_ret
    exact HF.out
structure Mid (w : World) (b : Nat) (F : Nat → Prop) (s : St) (mb : Nat) (ts ss : List Nd) (ps : List (ByteArray × Value)) (k : ByteArray) (w' : World) (ts1 ss1 : List Nd) : Prop where
  at_ : AtW w b F s mb ts ss ps
  rows : Rows w' b mb s.most ts1 ss1
  only : Only (fun j => j = b ∨ j ∈ (ts ++ ss).map (·.1)) w w'
  mem : ∀ p, p ∈ ts1 ++ ss1 ↔ p ∈ ts ++ ss
  tr : ts1.map (·.2) = without s.trial k
  sf : ss1.map (·.2) = without s.safe k ++ [k]
  kin : k ∈ s.all
section
variable {w w' : World} {b mb n : Nat} {F : Nat → Prop} {s : St} {ts ss ts1 ss1 : List Nd} {ps : List (ByteArray × Value)} {k : ByteArray}
theorem Mid.drew (h : Mid w b F s mb ts ss ps k w' ts1 ss1) : Mid w b F s mb ts ss ps k w'.drew ts1 ss1 := ⟨h.at_, h.rows.same fun _ _ => rfl, h.only.drew, h.mem, h.tr, h.sf, h.kin⟩
theorem Mid.kn (h : Mid w b F s mb ts ss ps k w' ts1 ss1) : ((ts1 ++ ss1).map (·.2)).Nodup := by
  rw [List.map_append, h.tr, h.sf, ← List.append_assoc, ← without_app]
  exact List.nodup_append.2 ⟨without_nodup k h.at_.knd, by simp, fun a ha c hc => by
    have : c = k := by simpa using hc
    subst this
    exact (without_mem.1 ha).2⟩
theorem Mid.hit0 (h : Mid w b F s mb ts ss ps k w' ts1 ss1) (hx : ¬ max s.most 0 < (ss1.length : Int)) : TurnPost w b F (s.hit k) (.returned (.int .i64 0)) w' := by
  have hlen : ss1.length = (without s.safe k ++ [k]).length := by rw [← h.sf]; simp
  have e : s.hit k = (0, { s with trial := without s.trial k, safe := without s.safe k ++ [k] }) := by
    unfold St.hit St.moved; rw [if_pos h.kin, if_neg (by rw [← hlen]; exact hx)]
  rw [e]
  refine ⟨F, rfl, ⟨mb, ts1, ss1, ps, h.at_.turned (s' := { s with trial := without s.trial k, safe := without s.safe k ++ [k] }) h.rows h.only h.mem h.tr h.sf ?_⟩, h.at_.only h.only, Grows.refl _ _⟩
  have := h.kn
  rw [List.map_append, h.tr, h.sf] at this
  exact this
theorem Mid.hit1 {q : Nat} {kq : ByteArray} {ts2 ss2 : List Nd} (h : Mid w b F s mb ts ss ps k w' ts1 ((q, kq) :: ss1)) (hx : max s.most 0 < (((q, kq) :: ss1).length : Int)) {w2 : World} (hr : Rows w2 b mb s.most (ts2 ++ [(q, kq)]) ss2)
    (ho : Only (fun j => j = b ∨ j ∈ (ts ++ ss).map (·.1)) w w2) (hm : ∀ p, p ∈ ts2 ++ ss2 ↔ p ∈ ts1 ++ ((q, kq) :: ss1) ∧ p.2 ≠ kq) (ht : ts2.map (·.2) = without (ts1.map (·.2)) kq) (hs : ss2.map (·.2) = without (((q, kq) :: ss1).map (·.2)) kq) :
    TurnPost w b F (s.hit k) (.returned (.int .i64 0)) w2 := by
  have hkn := h.kn
  have hsf := h.sf
  have hlen : ((q, kq) :: ss1).length = (without s.safe k ++ [k]).length := by rw [← h.sf]; simp
  have e : s.hit k = (0, { s with trial := without s.trial k ++ (without s.safe k ++ [k]).take 1, safe := (without s.safe k ++ [k]).drop 1 }) := by
    unfold St.hit St.moved; rw [if_pos h.kin, if_pos (by rw [← hlen]; exact hx)]
  rw [List.map_append, List.map_cons, List.nodup_append, List.nodup_cons] at hkn
  have hqt : kq ∉ ts1.map (·.2) := fun e => hkn.2.2 kq e kq (by simp) rfl
  rw [without_none hqt, h.tr] at ht
  have hs2 : ss2.map (·.2) = ss1.map (·.2) := by
    rw [hs]
    have := without_split (l := []) (r := ss1.map (·.2)) (k := kq) (by simpa using hkn.2.1)
    simpa using this
  have e2 : without s.safe k ++ [k] = kq :: ss1.map (·.2) := by rw [← hsf]; rfl
  rw [e2] at e
  simp only [List.take_succ_cons, List.take_zero, List.drop_succ_cons, List.drop_zero] at e
  rw [e]
  have hmem : ∀ p, p ∈ ts2 ++ [(q, kq)] ++ ss2 ↔ p ∈ ts ++ ss := fun p => by
    rw [← h.mem p, ← back_in h.kn (n := q) (k := kq) (by simp) hm p]
    simp only [List.mem_append, List.mem_cons, List.not_mem_nil, or_false]
    constructor
    · rintro ((e | e) | e)
      · exact .inl (.inl e)
      · exact .inr e
      · exact .inl (.inr e)
    · rintro ((e | e) | e)
      · exact .inl (.inl e)
      · exact .inr e
      · exact .inl (.inr e)
  refine ⟨F, rfl, ⟨mb, ts2 ++ [(q, kq)], ss2, ps, h.at_.turned (s' := { s with trial := without s.trial k ++ [kq], safe := ss1.map (·.2) }) hr ho hmem (by rw [List.map_append, ht]; rfl) hs2 ?_⟩, h.at_.only ho, Grows.refl _ _⟩
  show ((without s.trial k ++ [kq]) ++ ss1.map (·.2)).Nodup
  have := h.kn
  rw [List.map_append, h.tr, List.map_cons] at this
  rw [List.append_assoc]
  exact this
end
set_option maxRecDepth 100000 in
set_option maxHeartbeats 2000000 in
theorem hit_any {w : World} {b : Nat} {F : Nat → Prop} {s : St} (h : At w b F s) (k : ByteArray) (hl : s.all.length ≤ 9223372036854775807) :
    Calls Tryz.prog 50 #[.pointer (some ⟨b, 0, none⟩), .string k] w (TurnPost w b F (s.hit k)) := by
  have hat := h
  obtain ⟨mb, ts, ss, ps, h⟩ := h
  have c1 := Mem.row_cell h.rows.blk 1
  simp only [listArr, List.getElem?_toArray, List.getElem?_cons_zero, List.getElem?_cons_succ] at c1
  have hlk0 := Maps.run_lookup strLaw Tryz.underlying108 zeroNode h.map k
  by_cases hk : k ∈ s.all
  case neg =>
    have hg := h.get_none hk
    rw [hg] at hlk0
    have hlk : ∀ _ : True, (Instr.lookup 108 (.map (some mb)) (.string k) false).run Tryz.prog w = .ok (.pointer none) w := fun _ => hlk0
    have e : s.hit k = (6, s) := by unfold St.hit; rw [if_neg hk]
    have HF := Lib.hid (show TurnPost w b F (s.hit k) (.returned (.int .i64 6)) w by rw [e]; exact ⟨F, rfl, hat, Only.refl _ _, Grows.refl _ _⟩)
    clear h hlk0 hk hg e hat hl
    go_enter Tryz.func50, Tryz.ntmps50
    go_wp2_with fail
    go_ret
    exact HF.out
  obtain ⟨n, hm, hg⟩ := h.get_some hk
  rw [hg] at hlk0
  have hlk : ∀ _ : True, (Instr.lookup 108 (.map (some mb)) (.string k) false).run Tryz.prog w = .ok (.pointer (some ⟨n, 0, none⟩)) w := fun _ => hlk0
  have hlen : (ts ++ ss).length ≤ 9223372036854775807 := by rw [h.ln]; exact hl
  have hcall := pull_any h.rows h.kn hm (by omega)
  have HH := Lib.hid (And.intro h (And.intro hk (And.intro hm hlen)))
  clear h hlk0 hk hm hg hat hl hlen
  go_enter Tryz.func50, Tryz.ntmps50
  go_wp2_with fail
  refine hcall.mono ?_
  rintro e w1 ⟨rfl, ts1, ss1, hr, ht, hs, hn1, ⟨ua, uc, ura, hnode⟩, hi, ho⟩
  have hsub : ∀ j, j ∈ (ts1 ++ ss1).map (·.1) → j ∈ (ts ++ ss).map (·.1) := fun j hj => by
    obtain ⟨p, hp, rfl⟩ := List.mem_map.1 hj
    exact List.mem_map_of_mem ((hi p).1 hp).1
  have hl1 : (ts1 ++ ss1).length + 1 ≤ 9223372036854775807 := by
    have := len_pulled (by rw [← HH.out.1.all]; exact HH.out.2.1) ht hs
    have := HH.out.2.2.2
    omega
  have hcall2 := put_safe hr hnode hn1 (by omega)
  have H1 := Lib.hid (And.intro ht (And.intro hs (And.intro hi (And.intro ho (And.intro hsub hl1)))))
  clear hcall hr ht hs hn1 hnode hi ho hsub hl1 hlk
  go_wp2_with fail
  refine hcall2.mono ?_
  rintro e w2 ⟨rfl, hr2, ho2⟩
  have hM : Mid w b F s mb ts ss ps k w2 ts1 (ss1 ++ [(n, k)]) := by
    obtain ⟨ht, hs, hi, ho, hsub, _⟩ := H1.out
    obtain ⟨h, hk, hm, _⟩ := HH.out
    have hb := back_in h.kn hm hi
    have hn : n ∈ (ts ++ ss).map (·.1) := List.mem_map.2 ⟨_, hm, rfl⟩
    refine ⟨h, hr2, ho.trans (ho2.mono fun j hj => ?_) (Grows.refl _ _), fun p => ?_, by rw [ht, h.tr], by rw [List.map_append, hs, h.sf]; rfl, hk⟩
    · rcases hj with e | e | e
      · exact .inl e
      · exact .inr (e ▸ hn)
      · exact .inr (hsub j e)
    · rw [← hb p]
      simp only [List.mem_append, List.mem_cons, List.not_mem_nil, or_false]
      constructor
      · rintro (e | e | e)
        · exact .inl (.inl e)
        · exact .inl (.inr e)
        · exact .inr e
      · rintro ((e | e) | e)
        · exact .inl e
        · exact .inr (.inl e)
        · exact .inr (.inr e)
  obtain ⟨ss2, hss2⟩ : ∃ ss2, ss1 ++ [(n, k)] = ss2 := ⟨_, rfl⟩
  have hne : ss2 ≠ [] := by rw [← hss2]; simp
  have hl2 : ss2.length ≤ 9223372036854775807 := by rw [← hss2]; have := H1.out.2.2.2.2.2; simp at this ⊢; omega
  have hl3 : (ts1 ++ ss2).length ≤ 9223372036854775807 := by rw [← hss2]; have := H1.out.2.2.2.2.2; simp at this ⊢; omega
  rw [hss2] at hM
  have c0 := Mem.row_cell hM.rows.blk 0
  have c5 := Mem.row_cell hM.rows.blk 5
  have c7 := Mem.row_cell hM.rows.blk 7
  simp only [listArr, List.getElem?_toArray, List.getElem?_cons_zero, List.getElem?_cons_succ] at c0 c5 c7
  obtain ⟨⟨q, kq⟩, rest, hq⟩ := List.exists_cons_of_ne_nil hne
  subst hq
  replace c5 : w2.cell? ⟨b, 5, none⟩ = some (.pointer (some ⟨q, 0, none⟩)) := c5
  have HM := Lib.hid hM
  have HL := Lib.hid (And.intro hl2 hl3)
  clear hcall2 hr2 ho2 hM H1 hne hl2 hl3 hss2
  obtain ⟨L, hL⟩ : ∃ L : Nat, ((q, kq) :: rest).length = L := ⟨_, rfl⟩
  rw [hL] at c7
  have HLL := Lib.hid hL
  clear hL
  have hpull := pull_any HM.out.drew.rows HM.out.drew.kn (n := q) (k := kq) (by simp) (by have := HL.out.2; omega)
  by_cases hx : max s.most 0 < (L : Int)
  · have HX := Lib.hid hx
    have hx1 : s.most < (L : Int) := by omega
    have hx2 : (0 : Int) < (L : Int) := by omega
    have hx3 : 0 < L := by omega
    clear hx
    go_wp2_with fail
    go_region_held3 (fun W' : World => W'.cell? ⟨b, 7, none⟩ = some (.int .i64 (L : Nat)) ∧ W'.cell? ⟨b, 0, none⟩ = some (.int .i64 s.most)) (exact ⟨c7, c0⟩) (fail)
    all_goals go_wp2_with fail
    all_goals (
      refine hpull.mono ?_
      rintro e w3 ⟨rfl, ts2, ss2, hr3, ht3, hs3, hn3, ⟨ua', uc', ura', hnode3⟩, hi3, ho3⟩
      have hl4 : (ts2 ++ ss2).length + 1 ≤ 9223372036854775807 := by
        have := len_pulled (by simp) ht3 hs3
        have := HL.out.2
        omega
      have hpush := put_trial hr3 hnode3 hn3 hl4
      have hG : ∀ j, j ∈ (ts1 ++ (q, kq) :: rest).map (·.1) → j ∈ (ts ++ ss).map (·.1) := fun j hj => by
        obtain ⟨p, hp, rfl⟩ := List.mem_map.1 hj
        exact List.mem_map_of_mem ((HM.out.mem p).1 hp)
      have ho3' : Only (fun j => j = b ∨ j ∈ (ts ++ ss).map (·.1)) w w3 := HM.out.drew.only.trans (ho3.mono fun j hj => hj.imp id (hG j)) (Grows.refl _ _)
      have hq2 : q ∈ (ts ++ ss).map (·.1) := hG q (by simp)
      have hG2 : ∀ j, j ∈ (ts2 ++ ss2).map (·.1) → j ∈ (ts ++ ss).map (·.1) := fun j hj => by
        obtain ⟨p, hp, rfl⟩ := List.mem_map.1 hj
        exact hG _ (List.mem_map_of_mem ((hi3 p).1 hp).1)
      have H3 := Lib.hid (And.intro ht3 (And.intro hs3 (And.intro hi3 (And.intro ho3' (And.intro hq2 hG2)))))
      clear hr3 ht3 hs3 hn3 hnode3 hi3 ho3 hl4 ho3' hq2 hG2 hpull hG c0 c5 c7
      go_wp2_with fail
      refine hpush.mono ?_
      rintro e w4 ⟨rfl, hr4, ho4⟩
      have hres := HM.out.drew.hit1 (by rw [HLL.out]; exact HX.out) hr4 (H3.out.2.2.2.1.trans (ho4.mono fun j hj => by
        rcases hj with e | e | e
        · exact .inl e
        · exact .inr (e ▸ H3.out.2.2.2.2.1)
        · exact .inr (H3.out.2.2.2.2.2 j e)) (Grows.refl _ _)) H3.out.2.2.1 H3.out.1 H3.out.2.1
      have HR := Lib.hid hres
      clear hr4 ho4 hres hpush
      go_wp2_with fail
      go_ret
      exact HR.out)
  · have HX := Lib.hid hx
    have hL1 : 1 ≤ L := by rw [← HLL.out]; simp
    have hx1 : (L : Int) ≤ s.most := by omega
    have hx2 : (0 : Int) < s.most := by omega
    clear hx
    go_wp2_with fail
    go_region_held3 (fun W' : World => W'.cell? ⟨b, 7, none⟩ = some (.int .i64 (L : Nat)) ∧ W'.cell? ⟨b, 0, none⟩ = some (.int .i64 s.most)) (exact ⟨c7, c0⟩) (fail)
    all_goals (
      first | (exfalso; omega) | skip
      go_wp2_with fail
      go_ret
      exact HM.out.drew.hit0 (by rw [HLL.out]; exact Int.not_lt.2 HX.out))
end Go.Proofs.YtpghckiochjogaaGreatDoor.Slru

/- Layer 8: All: an iterator over the keys; Victim. -/
namespace Go.Proofs.YtpghckiochjogaaGreatDoor.Slru
open Go Go.RowKit Go.Shelf Go.Proofs.YtpghckiochjogaaGreatDoor.Mem Go.Proofs.YtpghckiochjogaaGreatDoor.Rng
attribute [local go_sem] Oper.semAt_some
def encS (x : ByteArray) : Array Value := #[.string x]
def cnt (ts ss : List Nd) (q : Nat) : Nat := if q = 0 then 0 else if q = 1 then ts.length else ts.length + ss.length
theorem drewn_own {J : Nat → World → Prop} {B k : Nat} {W : World} (hJ : OwnFrom B J) (h : J k W) (n : Nat) : J k (W.drewN n) :=
  have ho := (Only.refl (fun _ => False) W).drewN n
  hJ k W (W.drewN n) none h ⟨ho.os, ho.tape, ho.output, ho.size, fun j hj _ => ho.same j hj (fun e => e)⟩ fun r e => by cases e
set_option maxRecDepth 100000 in
set_option maxHeartbeats 2000000 in
theorem all_seq {w : World} {b mb Bx : Nat} {F : Nat → Prop} {s : St} {ts ss : List Nd} {ps : List (ByteArray × Value)} (h : AtW w b F s mb ts ss ps) (hbx : w.heap[Bx]? = some (.cells #[.pointer (some ⟨b, 0, none⟩)] 78 (0, 0))) :
    SeqI Tryz.prog 166 #[.pointer (some ⟨Bx, 0, none⟩)] encS (fun k => k = Bx ∨ F k) s.all w := by
  intro l J Jx W hW hJ hJx hY hj
  have hR : Rows W b mb s.most ts ss := (h.same (fun k hk => hW.block k (h.lt k hk)) hW.size).rows
  have hx : W.heap[Bx]? = some (.cells #[.pointer (some ⟨b, 0, none⟩)] 78 (0, 0)) := (hW.block Bx (Array.getElem?_eq_some_iff.1 hbx).1).trans hbx
  have hKB : ∀ {W' : World}, Keep (fun k => k = Bx ∨ F k) W W' → Rows W' b mb s.most ts ss := fun hk => hR.same fun j hj => hk j (.inr (hj.elim (fun e => e ▸ h.fb) (h.fn j)))
  have hall : s.all = (ts ++ ss).map (·.2) := h.all
  have e0 := Mem.box_cell hx
  have hJ' := hJ
  have HH := Lib.hid (And.intro (@hKB) (And.intro hall hR))
  clear hW hJ hJx hR hx hbx hKB hall
  refine callsIn_of_wp Tryz.func166 rfl trivial ?_ rfl
  simp only [Tryz.ntmps166, List.size_toArray, List.length_cons, List.length_nil, Nat.reduceAdd, Nat.reduceSub, Array.replicate_succ, Array.replicate_zero, List.push_toArray, List.append_toArray, List.nil_append, List.cons_append]
  gi_wp2
  gi_quiet (fail)
  gi_wp2
  have hj0 : J 0 (W.drewN nq) := drewn_own hJ' hj nq
  have hk0 : Keep (fun k => k = Bx ∨ F k) W (W.drewN nq) := fun k _ => rfl
  clear hj hJ'
  generalize W.drewN nq = W2 at *
  have hY := Lib.hid @hY
  gi_loopg [4, 5, 13] 2 (fun g _ _ i wr => ∃ q : Nat, i = .int .i64 q ∧ g + q = 2 ∧ J (cnt ts ss q) wr ∧ Keep (fun k => k = Bx ∨ F k) W wr)
  case atStart => exact ⟨0, rfl, rfl, hj0, hk0⟩
  case round =>
    obtain ⟨q, rfl, hq, hjr, hkr⟩ := hrel
    clear hj0 hk0 e0
    by_cases hq2 : q < 2
    · have hrows := HH.out.1 hkr
      obtain ⟨o, xs, ho, hxs, hch, hcnt, hfl⟩ : ∃ (o : Nat) (xs : List Nd), (∀ W : World, (Instr.index 247 (.agg #[.pointer (some ⟨b, 2, none⟩), .pointer (some ⟨b, 5, none⟩)]) (.int .i64 q)).run Tryz.prog W = .ok (.pointer (some ⟨b, o, none⟩)) W) ∧
          wr.cell? ⟨b, o, none⟩ = some (pt (fst xs)) ∧ (∀ W', Keep (fun k => k = Bx ∨ F k) W W' → Chain W' ⟨b, o, none⟩ xs) ∧ cnt ts ss (q + 1) = cnt ts ss q + xs.length ∧ (∀ i k, xs[i]?.map (·.2) = some k → s.all[cnt ts ss q + i]? = some k) := by
        have c2 := Mem.row_cell hrows.blk 2
        have c5 := Mem.row_cell hrows.blk 5
        simp only [listArr, List.getElem?_toArray, List.getElem?_cons_zero, List.getElem?_cons_succ] at c2 c5
        rcases (show q = 0 ∨ q = 1 by omega) with rfl | rfl
        · refine ⟨2, ts, fun W => by kernel_rfl, c2, fun W' hk => (HH.out.1 hk).ct, by simp [cnt], fun i k hi => ?_⟩
          rw [HH.out.2.1, List.getElem?_map, cnt, if_pos rfl, Nat.zero_add, List.getElem?_append_left]
          · exact hi
          · rcases hxi : ts[i]? with _ | p
            · rw [hxi] at hi; cases hi
            · exact (List.getElem?_eq_some_iff.1 hxi).1
        · refine ⟨5, ss, fun W => by kernel_rfl, c5, fun W' hk => (HH.out.1 hk).cs, by simp [cnt], fun i k hi => ?_⟩
          rw [HH.out.2.1, List.getElem?_map, cnt, if_neg (by decide), if_pos rfl, List.getElem?_append_right (by omega), show ts.length + i - ts.length = i from by omega]
          exact hi
      have ho' := ho wr
      obtain ⟨xp, hxp⟩ : ∃ xp, pt (fst xs) = .pointer xp := ⟨_, rfl⟩
      rw [hxp] at hxs
      have HO := Lib.hid (And.intro hcnt (And.intro hfl (And.intro hxp (And.intro hkr (And.intro hjr hq)))))
      have hch := Lib.hid hch
      have hqi : (q : Int) < 2 := by omega
      clear hcnt hfl hxp hkr hjr hrows hq ho
      gi_wp2
      gi_loopg [5] xs.length (fun g n wr => ∃ d rest, n = pt (fst rest) ∧ g = rest.length ∧ Hid (xs = d ++ rest) ∧ J (cnt ts ss q + d.length) wr ∧ Keep (fun k => k = Bx ∨ F k) W wr)
      case atStart => exact ⟨[], xs, HO.out.2.2.1.symm, rfl, Lib.hid rfl, HO.out.2.2.2.2.1, HO.out.2.2.2.1⟩
      case round =>
        obtain ⟨d, rest, rfl, hg, hx, hj2, hk2⟩ := hrel
        cases rest with
        | nil =>
          rw [show pt (fst []) = Value.pointer none from rfl]
          gi_wp2
          gi_roundg (2 - (q + 1))
          case measure => have := HO.out.2.2.2.2.2; omega
          case rel =>
            refine ⟨q + 1, by go_num, by have := HO.out.2.2.2.2.2; omega, ?_, hk2⟩
            have : xs = d := by simpa using hx.out
            rw [HO.out.1, this]; exact hj2
        | cons p rest =>
          obtain ⟨m, km⟩ := p
          have hnode := hch.out _ hk2 d m km rest hx.out
          have n0 := Mem.row_cell hnode 0
          simp only [List.getElem?_toArray, List.getElem?_cons_zero] at n0
          have hfull := HO.out.2.1 d.length km (by rw [hx.out]; simp)
          obtain ⟨fn, tmps, assign, body, hy, hR⟩ := hY.out _ _ wr hj2 hfull
          simp only [encS] at hy
          have hpm : pt (fst ((m, km) :: rest)) = .pointer (some ⟨m, 0, none⟩) := rfl
          rw [hpm]
          have HF := Lib.hid (And.intro hk2 (And.intro hfull hg))
          clear hk2 hfull hg hnode hj2 hpm
          gi_wp2
          refine (any_depth hR).mono ?_
          rintro e W' (⟨rfl, hJ', hk'⟩ | ⟨rfl, hJx'⟩)
          · have hkW := HF.out.1.trans hk'
            have hnode' := hch.out _ hkW d m km rest hx.out
            have n2 := Mem.row_cell hnode' 2
            simp only [List.getElem?_toArray, List.getElem?_cons_zero, List.getElem?_cons_succ] at n2
            obtain ⟨xr, hxr⟩ : ∃ xr, pt (fst rest) = .pointer xr := ⟨_, rfl⟩
            rw [hxr] at n2
            have HX := Lib.hid (And.intro hxr (And.intro hkW hJ'))
            clear hxr hkW hJ' hk' hnode' hR hy n0
            gi_wp2
            gi_roundg rest.length
            case measure => have := HF.out.2.2; simp at this; omega
            case rel => exact ⟨d ++ [(m, km)], rest, HX.out.1.symm, rfl, Lib.hid (by rw [hx.out]; simp), by rw [List.length_append]; exact HX.out.2.2, HX.out.2.1⟩
          · gi_wp2
            refine bodyPost_ret (results_none rfl _ _ _) rfl ?_
            refine ⟨⟨_, rfl⟩, .inr ⟨_, ?_, hJx'⟩⟩
            have := (List.getElem?_eq_some_iff.1 HF.out.2.1).1
            omega
    · have hqq : q = 2 := by omega
      subst hqq
      gi_wp2
      go_end0
      refine ⟨⟨_, rfl⟩, .inl ?_⟩
      rw [HH.out.2.1, List.length_map, List.length_append]
      exact hjr
end Go.Proofs.YtpghckiochjogaaGreatDoor.Slru

/- Layer 8: All's call, Victim. -/
namespace Go.Proofs.YtpghckiochjogaaGreatDoor.Slru
open Go Go.RowKit Go.Shelf Go.Proofs.YtpghckiochjogaaGreatDoor.Mem Go.Proofs.YtpghckiochjogaaGreatDoor.Rng
attribute [local go_sem] Oper.semAt_some
theorem all_any (b : Nat) (w : World) : Calls Tryz.prog 146 #[.pointer (some ⟨b, 0, none⟩)] w fun e w' =>
    e = .returned (.func (.func 166) #[] #[.pointer (some ⟨w.heap.size, 0, none⟩)]) ∧ w' = w.alloc (.cells #[.pointer (some ⟨b, 0, none⟩)] 78) := by
  go_enter Tryz.func146, Tryz.ntmps146
  go_wp2
  go_ret
  exact ⟨rfl, rfl⟩
theorem all_gives {w : World} {b : Nat} {F : Nat → Prop} {s : St} (h : At w b F s) : Calls Tryz.prog 146 #[.pointer (some ⟨b, 0, none⟩)] w fun e w' =>
    ∃ (lb : Array Value) (K : Nat → Prop), e = .returned (.func (.func 166) #[] lb) ∧ SeqI Tryz.prog 166 lb encS K s.all w' ∧ Below w.heap.size w w' ∧ (∀ k, K k → (F k ∨ w.heap.size ≤ k) ∧ k < w'.heap.size) :=
  (all_any b w).mono fun e w' ⟨he, hw⟩ => by
    subst hw
    obtain ⟨mb, ts, ss, ps, h⟩ := h
    refine ⟨_, fun k => k = w.heap.size ∨ F k, he, all_seq (h.same (fun k hk => Below.heap_alloc _ _ _ (h.lt k hk)) (by simp)) (Mem.new_block w _), Mem.al (Below.refl _ _) _, fun k hk => ⟨?_, ?_⟩⟩
    · exact hk.elim (fun e => .inr (by omega)) .inl
    · rw [World.size_alloc]; exact hk.elim (fun e => by omega) (fun e => Nat.lt_succ_of_lt (h.lt k e))
theorem enters (args : Array Value) (w : World) : (callFunc 166 args).run Tryz.prog w = .ok (.enter 166 args) w := enters_of Tryz.func166 (by kernel_rfl) rfl args w
def vic (s : St) (but : ByteArray) : ByteArray × Bool := match s.victim but with
  | some k => (k, true)
  | none => (ByteArray.empty, false)
def vblocks (B : Nat) (but k : ByteArray) (q : Bool) : List (Nat × Obj) := [Mem.box B 9 (.string but), Mem.box (B + 1) 9 (.string k), Mem.box (B + 1 + 1) 4 (.bool q)]
theorem vblocks_cells (B : Nat) (but k : ByteArray) (q : Bool) : ∀ p ∈ vblocks B but k q, p.2.isCells = true := by
  intro p hp
  simp only [vblocks, List.mem_cons, List.not_mem_nil, or_false] at hp
  rcases hp with rfl | rfl | rfl <;> rfl
theorem str_ne {a b : ByteArray} (h : a ≠ b) : (a.toList == b.toList) = false := by
  have := Maps.bytes_beq a b
  rw [← beq_toListBytes, this]; simpa using h
theorem str_eq (a : ByteArray) : (a.toList == a.toList) = true := by simp
theorem vic_some {s : St} {but k : ByteArray} {i : Nat} (h : s.all[i]? = some k) (hb : ∀ x ∈ s.all.take i, x = but) (hk : k ≠ but) : vic s but = (k, true) := by
  have hi := (List.getElem?_eq_some_iff.1 h).1
  have e : s.all = s.all.take i ++ k :: s.all.drop (i + 1) := by
    conv => lhs; rw [← List.take_append_drop i s.all, List.drop_eq_getElem_cons hi, (List.getElem?_eq_some_iff.1 h).2]
  have hv : s.victim but = some k := by
    unfold St.victim
    rw [e, List.find?_append, List.find?_eq_none.2 (fun x hx => by simpa using hb x hx)]
    simp [hk]
  unfold vic; rw [hv]
theorem vic_none {s : St} {but : ByteArray} (hb : ∀ x ∈ s.all, x = but) : vic s but = (ByteArray.empty, false) := by
  have hv : s.victim but = none := by
    unfold St.victim
    exact List.find?_eq_none.2 (fun x hx => by simpa using hb x hx)
  unfold vic; rw [hv]
set_option maxRecDepth 100000 in
set_option maxHeartbeats 1000000 in
theorem victim_any {w : World} {b : Nat} {F : Nat → Prop} {s : St} (h : At w b F s) (but : ByteArray) :
    Calls Tryz.prog 136 #[.pointer (some ⟨b, 0, none⟩), .string but] w fun e w' => e = .returned (.tuple #[.string (vic s but).1, .bool (vic s but).2]) ∧ Below w.heap.size w w' := by
  have hFl := h.lt
  obtain ⟨w1, hw1⟩ : ∃ w1, ((w.alloc (.cells #[.string but] 9)).alloc (.cells #[.string ⟨#[]⟩] 9)).alloc (.cells #[.bool false] 4) = w1 := ⟨_, rfl⟩
  have hb1 : Below w.heap.size w w1 := by rw [← hw1]; exact Mem.al (Mem.al (Mem.al (Below.refl _ _) _) _) _
  have hf1 : Fix w1 (vblocks w.heap.size but ⟨#[]⟩ false) := by
    rw [← hw1]
    exact Fix.cons (Mem.new_later (Mem.new_later (Mem.new_block w _) _) _) (Fix.cons (Mem.new_later (Mem.new_block2 w _ _) _) (Fix.cons (by
      have := Mem.new_block ((w.alloc (.cells #[.string but] 9)).alloc (.cells #[.string ⟨#[]⟩] 9)) (.cells #[.bool false] 4)
      simp only [World.size_alloc] at this
      exact this) (Fix.nil _)))
  have hz1 : w1.heap.size = w.heap.size + 3 := by rw [← hw1]; simp
  have hall := all_gives (h.below hb1)
  refine (callsIn_wide (n := 9)).1 (callsIn_of_wp_marks Tryz.func136 rfl trivial ?_ rfl)
  simp only [Tryz.ntmps136, List.size_toArray, List.length_cons, List.length_nil, Nat.reduceAdd, Nat.reduceSub, Array.replicate_succ, Array.replicate_zero, List.push_toArray, List.append_toArray, List.nil_append, List.cons_append]
  clear h
  gi_wp2_with fail
  refine ⟨trivial, ?_⟩
  refine (callsIn_wide.2 hall).mono ?_
  rintro e w2 ⟨lb, K, rfl, hseq, hbel, hK⟩
  have hb2 : Below w.heap.size w w2 := hb1.trans (hbel.mono hb1.size)
  have hf2 : Fix w2 (vblocks w.heap.size but ⟨#[]⟩ false) := hf1.below hbel (Nat.le_refl _)
  have hKw : ∀ j, K j → ¬ (w.heap.size ≤ j ∧ j < w.heap.size + 3) := fun j hj e => by
    have := hK j hj
    exact this.1.elim (fun e2 => by have := hFl j e2; omega) (fun e2 => by omega)
  have hz2 : w.heap.size + 3 ≤ w2.heap.size := by have := hbel.size; omega
  clear hbel hb1 hf1 hall hw1
  gi_wp2_with fail
  refine outer rfl enters hseq (Below.refl _ _) (fun k hk => (hK k hk).2) (fun _ => rfl)
    (fun i W => (Only (fun j => w.heap.size ≤ j) w2 W ∧ w2.heap.size ≤ W.heap.size) ∧ (Fix W (vblocks w.heap.size but ⟨#[]⟩ false) ∧ ∀ x ∈ s.all.take i, x = but))
    (fun c W => c = .ret ∧ Only (fun j => w.heap.size ≤ j) w2 W ∧ Fix W (vblocks w.heap.size but (vic s but).1 (vic s but).2))
    (((own_only (Nat.le_refl _)).and (own_size _ _)).and ((own_fix _ (fun _ => vblocks w.heap.size but ⟨#[]⟩ false) (fun _ => vblocks_cells _ _ _ _)).and (fun _ _ _ _ h _ _ => h)))
    (fun c W W' row h hg hr => ⟨h.1, own_only (β := Unit) (Nat.le_refl _) () W W' row h.2.1 hg hr, own_fix (β := Unit) _ (fun _ => vblocks w.heap.size but (vic s but).1 (vic s but).2) (fun _ => vblocks_cells _ _ _ _) () W W' row h.2.2 hg hr⟩)
    ⟨⟨Only.refl _ _, Nat.le_refl _⟩, hf2, by simp⟩ ?a1 ?assign ?body ?done ?stop
  case assign =>
    intro l x W Kc hKc
    simp only [encS]
    gi_wp2
    exact hKc
  case stop =>
    rintro D c W hD ⟨rfl, hO, hF⟩ hKD
    have HX := Lib.hid (And.intro hF (And.intro hO hKD))
    have c1 := Mem.box_cell hF.tail.head
    have c2 := Mem.box_cell hF.tail.tail.head
    clear hF hO hKD hseq hK hKw
    gi_wp2
    obtain ⟨hF, hO, hKD⟩ := HX.out
    refine ret1 rfl (v := .tuple #[.string (vic s but).1, .bool (vic s but).2]) hKD ?_ ⟨rfl, putObj_below (hb2.trans (hO.below hb2.size (fun _ e => e))) _ (by omega)⟩
    have q1 : (W.putObj D (.deferred none)).cell? ⟨w.heap.size + 1, 0, none⟩ = some (.string (vic s but).1) := by
      rw [putObj_cell _ (by simp; omega)]; exact c1
    have q2 : (W.putObj D (.deferred none)).cell? ⟨w.heap.size + 1 + 1, 0, none⟩ = some (.bool (vic s but).2) := by
      rw [putObj_cell _ (by simp; omega)]; exact c2
    simp [results, Tryz.results136, go_sem, q1, q2]
  case body =>
    rintro l i x W hl _ ⟨⟨hO, hZ⟩, hF, hT⟩ hx
    have c0 := Mem.box_cell hF.head
    have c1 := Mem.box_cell hF.tail.head
    have c2 := Mem.box_cell hF.tail.tail.head
    have f1 := Mem.box_free hF.tail.head
    have f2 := Mem.box_free hF.tail.tail.head
    have HX := Lib.hid (And.intro hF (And.intro hT (And.intro hx (And.intro hO hZ))))
    clear hF hT hx hO hZ hl
    by_cases hxb : x = but
    · have hse := str_eq but
      subst hxb
      gi_wp2
      obtain ⟨hF, hT, hx, hO, hZ⟩ := HX.out
      refine ⟨⟨Nat.le_refl _, fun _ _ _ h _ => h⟩, Keep.refl _ _, ⟨hO, hZ⟩, hF, fun y hy => ?_⟩
      rw [List.take_add_one, hx] at hy
      rcases List.mem_append.1 hy with hy | hy
      · exact hT y hy
      · simpa using hy
    · have hse := str_ne hxb
      have HN := Lib.hid hxb
      clear hxb
      gi_wp2
      obtain ⟨hF, hT, hx, hO, hZ⟩ := HX.out
      have hv := vic_some hx hT HN.out
      have hO1 : Only (fun j => j = w.heap.size + 1 ∨ j = w.heap.size + 1 + 1) W ((W.setCell ⟨w.heap.size + 1, 0, none⟩ (.string x)).setCell ⟨w.heap.size + 1 + 1, 0, none⟩ (.bool true)) :=
        ((Only.refl _ W).setCell (p := ⟨w.heap.size + 1, 0, none⟩) (.inl (.inl rfl)) _).setCell (p := ⟨w.heap.size + 1 + 1, 0, none⟩) (.inl (.inr rfl)) _
      refine ⟨hO1.keepsFrom (fun j e => by omega), rfl, hO.trans (hO1.mono fun j e => by omega) (Grows.refl _ _), ?_⟩
      rw [hv]
      have h0 : (W.setCell ⟨w.heap.size + 1, 0, none⟩ (.string x)).setCell ⟨w.heap.size + 1 + 1, 0, none⟩ (.bool true) = (W.setCell ⟨w.heap.size + 1, 0, none⟩ (.string x)).setCell ⟨w.heap.size + 1 + 1, 0, none⟩ (.bool true) := rfl
      refine Fix.cons ((set_far (by simp; omega)).trans ((set_far (by simp)).trans hF.head)) (Fix.cons ((set_far (by simp)).trans (Mem.box_set hF.tail.head (.string x))) (Fix.cons ?_ (Fix.nil _)))
      exact Mem.box_set (W := W.setCell ⟨w.heap.size + 1, 0, none⟩ (.string x)) ((set_far (by simp)).trans hF.tail.tail.head) (.bool true)
  case done =>
    rintro D W hD ⟨⟨hO, hZ⟩, hF, hT⟩ hKD
    rw [List.take_of_length_le (Nat.le_refl _)] at hT
    have hv := vic_none hT
    have c1 := Mem.box_cell hF.tail.head
    have c2 := Mem.box_cell hF.tail.tail.head
    have f1 := Mem.box_free hF.tail.head
    have f2 := Mem.box_free hF.tail.tail.head
    have HX := Lib.hid (And.intro hF (And.intro hO (And.intro hv hKD)))
    clear hF hT hO hv hKD hseq hK hKw
    gi_wp2
    obtain ⟨hF, hO, hv, hKD⟩ := HX.out
    have hO1 : Only (fun j => w.heap.size ≤ j) w2 ((W.setCell ⟨w.heap.size + 1, 0, none⟩ (.string ⟨#[]⟩)).setCell ⟨w.heap.size + 1 + 1, 0, none⟩ (.bool false)) :=
      (hO.setCell (p := ⟨w.heap.size + 1, 0, none⟩) (.inl (by simp)) _).setCell (p := ⟨w.heap.size + 1 + 1, 0, none⟩) (.inl (by simp; omega)) _
    have d1 : ((W.setCell ⟨w.heap.size + 1, 0, none⟩ (.string ⟨#[]⟩)).setCell ⟨w.heap.size + 1 + 1, 0, none⟩ (.bool false)).heap[w.heap.size + 1]? = some (.cells #[.string ⟨#[]⟩] 9 (0, 0)) := (set_far (by simp)).trans (Mem.box_set hF.tail.head _)
    have d2 : ((W.setCell ⟨w.heap.size + 1, 0, none⟩ (.string ⟨#[]⟩)).setCell ⟨w.heap.size + 1 + 1, 0, none⟩ (.bool false)).heap[w.heap.size + 1 + 1]? = some (.cells #[.bool false] 4 (0, 0)) :=
      Mem.box_set (W := W.setCell ⟨w.heap.size + 1, 0, none⟩ (.string ⟨#[]⟩)) ((set_far (by simp)).trans hF.tail.tail.head) _
    have d3 : ((W.setCell ⟨w.heap.size + 1, 0, none⟩ (.string ⟨#[]⟩)).setCell ⟨w.heap.size + 1 + 1, 0, none⟩ (.bool false)).heap[D]? = some (.deferred (some [])) := (set_far (by simp; omega)).trans ((set_far (by simp; omega)).trans hKD)
    generalize (W.setCell ⟨w.heap.size + 1, 0, none⟩ (.string ⟨#[]⟩)).setCell ⟨w.heap.size + 1 + 1, 0, none⟩ (.bool false) = W9 at *
    refine ret1 rfl (v := .tuple #[.string ⟨#[]⟩, .bool false]) d3 ?_ ⟨by rw [hv]; rfl, putObj_below (hb2.trans (hO1.below hb2.size (fun _ e => e))) _ (by omega)⟩
    have q1 : (W9.putObj D (.deferred none)).cell? ⟨w.heap.size + 1, 0, none⟩ = some (.string ⟨#[]⟩) := by
      rw [putObj_cell _ (by simp; omega)]; exact Mem.box_cell d1
    have q2 : (W9.putObj D (.deferred none)).cell? ⟨w.heap.size + 1 + 1, 0, none⟩ = some (.bool false) := by
      rw [putObj_cell _ (by simp; omega)]; exact Mem.box_cell d2
    simp [results, Tryz.results136, go_sem, q1, q2]
end Go.Proofs.YtpghckiochjogaaGreatDoor.Slru

/- Layer 9: the table in memory; New, Len, Left, Buckets. -/
namespace Go.Proofs.YtpghckiochjogaaGreatDoor.TabE
open Go Go.RowKit Go.Proofs.YtpghckiochjogaaGreatDoor.Mem Go.Proofs.YtpghckiochjogaaGreatDoor.Tab
abbrev V := Nat
def pairCells (p : ByteArray × V) : List Value := [.string p.1, (.pointer (some ⟨p.2, 0, none⟩))]
def cellsP (l : Pairs V) : List Value := l.flatMap pairCells
theorem cellsP_cons (p : ByteArray × V) (l : Pairs V) : cellsP (p :: l) = .string p.1 :: (.pointer (some ⟨p.2, 0, none⟩)) :: cellsP l := rfl
theorem cellsP_app (l m : Pairs V) : cellsP (l ++ m) = cellsP l ++ cellsP m := by simp [cellsP]
theorem cellsP_len (l : Pairs V) : (cellsP l).length = l.length * 2 := by
  induction l with
  | nil => rfl
  | cons p l ih => rw [cellsP_cons, List.length_cons, List.length_cons, List.length_cons, ih]; omega
theorem cellsP_get : ∀ (l : Pairs V) (k : Nat) (p : ByteArray × V), l[k]? = some p → (cellsP l)[k * 2]? = some (.string p.1) ∧ (cellsP l)[k * 2 + 1]? = some (.pointer (some ⟨p.2, 0, none⟩))
  | [], k, p, h => by simp at h
  | d :: l, 0, p, h => by
    simp at h; subst h; exact ⟨rfl, rfl⟩
  | d :: l, k + 1, p, h => by
    have := cellsP_get l k p (by simpa using h)
    rw [cellsP_cons]
    refine ⟨?_, ?_⟩
    · rw [show (k + 1) * 2 = k * 2 + 1 + 1 from by omega, List.getElem?_cons_succ, List.getElem?_cons_succ]; exact this.1
    · rw [show (k + 1) * 2 + 1 = k * 2 + 1 + 1 + 1 from by omega, List.getElem?_cons_succ, List.getElem?_cons_succ]; exact this.2
theorem one_cellsP (l : Pairs V) : ∀ u ∈ cellsP l, u.oneCell' = true := fun u hu => by
  simp only [cellsP, pairCells, List.mem_flatMap] at hu
  obtain ⟨p, _, hp⟩ := hu
  rcases List.mem_cons.1 hp with rfl | hp
  · rfl
  · have : u = (.pointer (some ⟨p.2, 0, none⟩)) := by simpa using hp
    subst this; rfl
def hN (seed : Int) (k : ByteArray) : Nat := (Hash.ofI seed k.data.toList).toNat
theorem below_hN {seed : Int} (h0 : 0 ≤ seed) (h1 : seed < 18446744073709551616) (k : ByteArray) {n : Nat} (hn : 0 < n) : Hash.belowI (Hash.ofI seed k.data.toList) (n : Int) = ((hN seed k % n : Nat) : Int) := by
  have := Hash.ofI_range k.data.toList h0 h1
  unfold Hash.belowI hN
  rw [if_neg (by omega), Int.natCast_emod, Int.toNat_of_nonneg this.1]
theorem below_zero (x : Int) : Hash.belowI x ((0 : Nat) : Int) = 0 := by unfold Hash.belowI; rfl
def tabObj (seed : Int) (ev nv : Value) (left many : Int) : Obj := .cells #[.int .u64 seed, ev, nv, .int .i64 left, .int .i64 many] 101 (0, 0)
abbrev OwnP (w : World) (v : Value) (l : Pairs V) : Prop := w.ownsRow 0 165 2 v l.length (cellsP l)
abbrev bkObj (a : Array Value) : Obj := .cells a 179 (0, 0)
structure AtW (w : World) (b : Nat) (F : Nat → Prop) (seed : Int) (c : Con V) (many : Nat) (ea : Option Addr) (eb nb : Nat) (gv : Nat → Value) : Prop where
  blk : w.heap[b]? = some (tabObj seed (.slice ea c.E c.E) (.slice (some ⟨nb, 0, none⟩) c.N c.N) c.left many)
  eo : (c.E = 0 ∧ ea = none) ∨ (ea = some ⟨eb, 0, none⟩ ∧ F eb ∧ eb ≠ nb ∧ ∃ a, w.heap[eb]? = some (bkObj a) ∧ a.size = c.E ∧ ∀ k, k < c.E → a[k]? = some (gv k))
  no : ∃ a, w.heap[nb]? = some (bkObj a) ∧ a.size = c.N ∧ ∀ k, k < c.N → a[k]? = some (gv (c.E + k))
  rows : ∀ k, k < c.E + c.N → OwnP w (gv k) (c.bs k)
  fb : F b
  fn : F nb
  fr : ∀ k, k < c.E + c.N → ∀ g, (gv k).ownBlock = some g → F g
  apart : ∀ j k, j < c.E + c.N → k < c.E + c.N → j ≠ k → ∀ g, (gv j).ownBlock = some g → (gv k).ownBlock ≠ some g
  lt : ∀ k, F k → k < w.heap.size
def adr (c : Con V) (eb nb k : Nat) : Addr := if k < c.E then ⟨eb, k, none⟩ else ⟨nb, k - c.E, none⟩
section
variable {w w' : World} {b : Nat} {F G : Nat → Prop} {seed : Int} {c : Con V} {many : Nat} {ea : Option Addr} {eb nb : Nat} {gv : Nat → Value}
theorem row_same {base : Nat} {e : TypeId} {size n : Nat} {v : Value} {xs : List Value} (h : w.ownsRow base e size v n xs) (hs : ∀ g, v.ownBlock = some g → w'.heap[g]? = w.heap[g]?) : w'.ownsRow base e size v n xs := by
  refine ⟨h.1, ?_⟩
  rcases h.2 with h1 | ⟨g, cap, cur, h1, h2, h3, h4⟩
  · exact .inl h1
  · exact .inr ⟨g, cap, cur, h1, h2, (hs g (by rw [h1]; rfl)).trans h3, h4⟩
theorem own_lt {base : Nat} {e : TypeId} {size n : Nat} {v : Value} {xs : List Value} (h : w.ownsRow base e size v n xs) : ∀ g, v.ownBlock = some g → base ≤ g ∧ g < w.heap.size := fun g e => by
  rcases h.2 with ⟨e1, _⟩ | ⟨g', cap, cur, e1, h2, e2, _⟩
  · rw [e1] at e; cases e
  · rw [e1] at e
    have : g' = g := by simpa [Value.ownBlock] using e
    subst this
    exact ⟨h2, (Array.getElem?_eq_some_iff.1 e2).1⟩
theorem row_not {e t : TypeId} {base size n k : Nat} {v : Value} {xs : List Value} {cs : Array Value} (h : w.ownsRow base e size v n xs) (hk : w.heap[k]? = some (.cells cs t (0, 0))) (hne : e ≠ t) : v.ownBlock ≠ some k := fun e1 => by
  rcases h.2 with ⟨q, _⟩ | ⟨g1, cap, cur, q, _, b1, _⟩
  · rw [q] at e1; cases e1
  · rw [q] at e1
    have : g1 = k := by simpa [Value.ownBlock] using e1
    subst this
    rw [b1] at hk
    injection hk with hk
    injection hk with _ hk
    exact hne hk
theorem AtW.row_b (h : AtW w b F seed c many ea eb nb gv) {k : Nat} (hk : k < c.E + c.N) : (gv k).ownBlock ≠ some b := row_not (h.rows k hk) h.blk (by decide)
theorem AtW.row_n (h : AtW w b F seed c many ea eb nb gv) {k : Nat} (hk : k < c.E + c.N) : (gv k).ownBlock ≠ some nb := by
  obtain ⟨a, ha, _⟩ := h.no
  exact row_not (h.rows k hk) ha (by decide)
theorem AtW.ne_bn (h : AtW w b F seed c many ea eb nb gv) : b ≠ nb := fun e => by
  obtain ⟨a, ha, _⟩ := h.no
  rw [← e, h.blk] at ha
  injection ha with ha
  injection ha with _ ha
  exact absurd ha (by decide)
theorem AtW.ne_be (h : AtW w b F seed c many ea eb nb gv) (hE : 0 < c.E) : b ≠ eb := fun e => by
  rcases h.eo with ⟨h0, _⟩ | ⟨_, _, _, a, ha, _⟩
  · omega
  · rw [← e, h.blk] at ha
    injection ha with ha
    injection ha with _ ha
    exact absurd ha (by decide)
theorem AtW.row_e (h : AtW w b F seed c many ea eb nb gv) (hE : 0 < c.E) {k : Nat} (hk : k < c.E + c.N) : (gv k).ownBlock ≠ some eb := by
  rcases h.eo with ⟨h0, _⟩ | ⟨_, _, _, a, ha, _⟩
  · omega
  · exact row_not (h.rows k hk) ha (by decide)
theorem AtW.same (h : AtW w b F seed c many ea eb nb gv) (hs : ∀ k, F k → w'.heap[k]? = w.heap[k]?) (hz : w.heap.size ≤ w'.heap.size) : AtW w' b F seed c many ea eb nb gv := by
  refine ⟨(hs _ h.fb).trans h.blk, ?_, ?_, fun k hk => row_same (h.rows k hk) fun g e => hs g (h.fr k hk g e), h.fb, h.fn, h.fr, h.apart, fun k hk => Nat.lt_of_lt_of_le (h.lt k hk) hz⟩
  · rcases h.eo with h0 | ⟨h1, h2, h3, a, h4, h5⟩
    · exact .inl h0
    · exact .inr ⟨h1, h2, h3, a, (hs _ h2).trans h4, h5⟩
  · obtain ⟨a, h1, h2⟩ := h.no
    exact ⟨a, (hs _ h.fn).trans h1, h2⟩
theorem AtW.below (h : AtW w b F seed c many ea eb nb gv) (hb : Below w.heap.size w w') : AtW w' b F seed c many ea eb nb gv := h.same (fun k hk => hb.block k (h.lt k hk)) hb.size
theorem AtW.only (h : AtW w b F seed c many ea eb nb gv) (ho : Only G w w') (hd : ∀ k, F k → ¬ G k) : AtW w' b F seed c many ea eb nb gv := h.same (fun k hk => ho.same k (h.lt k hk) (hd k hk)) ho.size
theorem AtW.loc (h : AtW w b F seed c many ea eb nb gv) {k : Nat} (hk : k < c.E + c.N) : ∃ g i, adr c eb nb k = ⟨g, i, none⟩ ∧ F g ∧ w.cell? ⟨g, i, none⟩ = some (gv k) ∧ w.frozen? ⟨g, i, none⟩ = false ∧ g ≠ b ∧ ∀ j, j < c.E + c.N → (gv j).ownBlock ≠ some g := by
  unfold adr
  by_cases hE : k < c.E
  · rw [if_pos hE]
    rcases h.eo with ⟨h0, _⟩ | ⟨_, h2, _, a, ha, _, hc⟩
    · omega
    · exact ⟨eb, k, rfl, h2, (Mem.row_cell ha k).trans (hc k hE), Mem.row_free ha k, Ne.symm (h.ne_be (by omega)), fun j hj => h.row_e (by omega) hj⟩
  · rw [if_neg hE]
    obtain ⟨a, ha, _, hc⟩ := h.no
    refine ⟨nb, k - c.E, rfl, h.fn, (Mem.row_cell ha _).trans ?_, Mem.row_free ha _, Ne.symm h.ne_bn, fun j hj => h.row_n hj⟩
    have := hc (k - c.E) (by omega)
    rwa [show c.E + (k - c.E) = k from by omega] at this
def updv (gv : Nat → Value) (k : Nat) (v : Value) : Nat → Value := fun j => if j = k then v else gv j
@[simp] theorem updv_same (gv : Nat → Value) (k : Nat) (v : Value) : updv gv k v k = v := by simp [updv]
theorem updv_other (gv : Nat → Value) {k j : Nat} (v : Value) (h : j ≠ k) : updv gv k v j = gv j := by simp [updv, h]
theorem arr_set {a : Array Value} {n i : Nat} {f : Nat → Value} (v : Value) (hs : a.size = n) (_hi : i < n) (hc : ∀ k, k < n → a[k]? = some (f k)) : (a.setIfInBounds i v).size = n ∧ ∀ k, k < n → (a.setIfInBounds i v)[k]? = some (if k = i then v else f k) := by
  refine ⟨by simpa using hs, fun k hk => ?_⟩
  rw [Array.getElem?_setIfInBounds]
  by_cases e : i = k
  · subst e; simp [hs, hk]
  · rw [if_neg e, if_neg (Ne.symm e)]; exact hc k hk
theorem AtW.setRow (h : AtW w b F seed c many ea eb nb gv) {k : Nat} (hk : k < c.E + c.N) {v : Value} {x : Pairs V} (hs : ∀ j, F j → (gv k).ownBlock ≠ some j → w'.heap[j]? = w.heap[j]?) (hz : w.heap.size ≤ w'.heap.size)
    (hown : OwnP w' v x) (hat : ∀ g, v.ownBlock = some g → (gv k).ownBlock = some g ∨ w.heap.size ≤ g) :
    AtW (w'.setCell (adr c eb nb k) v) b (fun j => F j ∨ v.ownBlock = some j) seed (c.set k x) many ea eb nb (updv gv k v) := by
  obtain ⟨g0, i0, hadr, hF0, hc0, _, hgb, hgr⟩ := h.loc hk
  have hnv : v.ownBlock ≠ some g0 := fun e => (hat g0 e).elim (hgr k hk) (fun e1 => by have := h.lt g0 hF0; omega)
  have hset : ∀ j, j ≠ g0 → (w'.setCell (adr c eb nb k) v).heap[j]? = w'.heap[j]? := fun j hj => Below.heap_setCell _ _ _ _ (by rw [hadr]; exact hj)
  have hz2 : (w'.setCell (adr c eb nb k) v).heap.size = w'.heap.size := by simp [World.setCell]
  have hold : ∀ j, F j → j ≠ g0 → (gv k).ownBlock ≠ some j → (w'.setCell (adr c eb nb k) v).heap[j]? = w.heap[j]? := fun j h1 h2 h3 => (hset j h2).trans (hs j h1 h3)
  have hvb : v.ownBlock ≠ some b := fun e => (hat b e).elim (h.row_b hk) (fun e1 => by have := h.lt b h.fb; omega)
  refine ⟨(hold b h.fb (Ne.symm hgb) (h.row_b hk)).trans h.blk, ?_, ?_, fun j hj => ?_, .inl h.fb, .inl h.fn, fun j hj g e => ?_, fun i j hi hj hij g e e' => ?_, fun j hj => ?_⟩
  · rcases h.eo with h0 | ⟨h1, h2, h3, a, ha, hsz, hc⟩
    · exact .inl h0
    · refine .inr ⟨h1, .inl h2, h3, ?_⟩
      have hE : 0 < c.E ∨ c.E = 0 := by omega
      by_cases hke : k < c.E
      · have e1 : (⟨eb, k, none⟩ : Addr) = ⟨g0, i0, none⟩ := by rw [← hadr]; unfold adr; rw [if_pos hke]
        injection e1 with e1 e2
        obtain ⟨q1, q2⟩ := arr_set v hsz hke hc
        refine ⟨_, ?_, q1, fun j hj => q2 j hj⟩
        rw [hadr, ← e1, ← e2]
        exact Mem.row_set ((hs eb h2 (h.row_e (by omega) hk)).trans ha) k v
      · have e1 : (⟨nb, k - c.E, none⟩ : Addr) = ⟨g0, i0, none⟩ := by rw [← hadr]; unfold adr; rw [if_neg hke]
        injection e1 with e1 e2
        refine ⟨a, ?_, hsz, fun j hj => ?_⟩
        · refine (hset eb (by rw [← e1]; exact h3)).trans ((hs eb h2 (fun e => ?_)).trans ha)
          exact row_not (h.rows k hk) ha (by decide) e
        · rw [updv_other _ _ (by have : j < c.E := hj; omega)]; exact hc j hj
  · obtain ⟨a, ha, hsz, hc⟩ := h.no
    by_cases hke : k < c.E
    · have e1 : (⟨eb, k, none⟩ : Addr) = ⟨g0, i0, none⟩ := by rw [← hadr]; unfold adr; rw [if_pos hke]
      injection e1 with e1 e2
      have hne : nb ≠ g0 := by
        rcases h.eo with ⟨h0, _⟩ | ⟨_, _, h3, _⟩
        · omega
        · rw [← e1]; exact Ne.symm h3
      refine ⟨a, (hold nb h.fn hne (h.row_n hk)).trans ha, hsz, fun j hj => ?_⟩
      rw [updv_other _ _ (by show c.E + j ≠ k; omega)]; exact hc j hj
    · have e1 : (⟨nb, k - c.E, none⟩ : Addr) = ⟨g0, i0, none⟩ := by rw [← hadr]; unfold adr; rw [if_neg hke]
      injection e1 with e1 e2
      obtain ⟨q1, q2⟩ := arr_set (f := fun j => gv (c.E + j)) v hsz (show k - c.E < c.N by omega) hc
      refine ⟨_, ?_, q1, fun j hj => ?_⟩
      · rw [hadr, ← e1, ← e2]
        exact Mem.row_set ((hs nb h.fn (h.row_n hk)).trans ha) (k - c.E) v
      · rw [q2 j hj]
        unfold updv
        show some (if j = k - c.E then v else gv (c.E + j)) = some (if c.E + j = k then v else gv (c.E + j))
        by_cases e : j = k - c.E
        · rw [if_pos e, if_pos (by omega)]
        · rw [if_neg e, if_neg (by omega)]
  · show OwnP _ (updv gv k v j) (upd c.bs k x j)
    by_cases e : j = k
    · subst e
      rw [updv_same, upd_same]
      exact row_same hown fun g e => hset g (fun e1 => hnv (e1 ▸ e))
    · rw [updv_other _ _ e, upd_other _ _ e]
      exact row_same (h.rows j hj) fun g e' => hold g (h.fr j hj g e') (fun e1 => hgr j hj (e1 ▸ e')) (h.apart j k hj hk e g e')
  · by_cases e1 : j = k
    · subst e1; rw [updv_same] at e; exact .inr e
    · rw [updv_other _ _ e1] at e; exact .inl (h.fr j hj g e)
  · by_cases e1 : i = k
    · subst e1
      rw [updv_same] at e
      rw [updv_other _ _ (Ne.symm hij)] at e'
      exact (hat g e).elim (fun e2 => h.apart i j hi hj hij g e2 e') (fun e2 => by have := h.lt g (h.fr j hj g e'); omega)
    · rw [updv_other _ _ e1] at e
      by_cases e2 : j = k
      · subst e2
        rw [updv_same] at e'
        exact (hat g e').elim (fun e2 => h.apart i j hi hj hij g e e2) (fun e2 => by have := h.lt g (h.fr i hi g e); omega)
      · rw [updv_other _ _ e2] at e'
        exact h.apart i j hi hj hij g e e'
  · rw [hz2]
    exact hj.elim (fun e => Nat.lt_of_lt_of_le (h.lt j e) hz) (fun e => (own_lt hown j e).2)
theorem AtW.setBlk (h : AtW w b F seed c many ea eb nb gv) (l' m' : Nat) (hb : w'.heap[b]? = some (tabObj seed (.slice ea c.E c.E) (.slice (some ⟨nb, 0, none⟩) c.N c.N) l' m')) (hs : ∀ j, j ≠ b → w'.heap[j]? = w.heap[j]?) (hz : w.heap.size ≤ w'.heap.size) :
    AtW w' b F seed { c with left := l' } m' ea eb nb gv := by
  refine ⟨hb, ?_, ?_, fun k hk => row_same (h.rows k hk) fun g e => hs g (fun e1 => h.row_b hk (e1 ▸ e)), h.fb, h.fn, h.fr, h.apart, fun k hk => Nat.lt_of_lt_of_le (h.lt k hk) hz⟩
  · rcases h.eo with h0 | ⟨h1, h2, h3, a, h4, h5⟩
    · exact .inl h0
    · refine .inr ⟨h1, h2, h3, a, (hs _ (fun e => ?_)).trans h4, h5⟩
      rw [e, h.blk] at h4
      injection h4 with h4
      injection h4 with _ h4
      exact absurd h4 (by decide)
  · obtain ⟨a, h1, h2⟩ := h.no
    exact ⟨a, (hs _ (Ne.symm h.ne_bn)).trans h1, h2⟩
end
def At (w : World) (b : Nat) (F : Nat → Prop) (seed : Int) (s : St V) : Prop := ∃ c ea eb nb gv, AtW w b F seed c s.L.length ea eb nb gv ∧ Abs (hN seed) c s.L ∧ c.E ≤ c.N ∧ c.N = s.buckets ∧ c.left = s.left ∧ ∀ p ∈ s.L, p.1.size ≤ maxLen
section
variable {w w' : World} {b : Nat} {F G : Nat → Prop} {seed : Int} {s : St V}
theorem At.lt (h : At w b F seed s) : ∀ k, F k → k < w.heap.size := by obtain ⟨_, _, _, _, _, h, _⟩ := h; exact h.lt
theorem At.same (h : At w b F seed s) (hs : ∀ k, F k → w'.heap[k]? = w.heap[k]?) (hz : w.heap.size ≤ w'.heap.size) : At w' b F seed s := by
  obtain ⟨c, ea, eb, nb, gv, h, h'⟩ := h
  exact ⟨c, ea, eb, nb, gv, h.same hs hz, h'⟩
theorem At.below (h : At w b F seed s) (hb : Below w.heap.size w w') : At w' b F seed s := h.same (fun k hk => hb.block k (h.lt k hk)) hb.size
theorem At.only (h : At w b F seed s) (ho : Only G w w') (hd : ∀ k, F k → ¬ G k) : At w' b F seed s := h.same (fun k hk => ho.same k (h.lt k hk) (hd k hk)) ho.size
theorem At.rise (h : At w b F seed s) : Rising s.L := by obtain ⟨_, _, _, _, _, _, h, _⟩ := h; exact h.rise
end
theorem infoBk : (Tryz.prog.info? 179).map (fun i => (i.zero, i.size, i.bytes)) = some (some (.slice none 0 0), 1, 24) := by kernel_rfl
theorem infoPair : (Tryz.prog.info? 165).map (fun i => (i.zero, i.size, i.bytes)) = some (some (.agg #[.string ⟨#[]⟩, (.pointer none)]), 2, 24) := by kernel_rfl
theorem made_nil {n : Nat} {cur : Array Value} (hs : cur.size = n * 1) (ht : cur.toList.take (n * 1) = (madeCells (Value.slice none 0 0).cells (n * 1)).toList) : ∀ k, k < n → cur[k]? = some (.slice none 0 0) := fun k hk => by
  have h1 : cur.toList.take (n * 1) = cur.toList := List.take_of_length_le (by simp [hs])
  rw [h1] at ht
  have h2 : cur[k]? = cur.toList[k]? := by simp
  rw [h2, ht]
  simp [madeCells, Value.cells, hk, Nat.mod_one]
def NewPost (w : World) (seed : Int) (e : Ending) (w' : World) : Prop :=
  ∃ (b : Nat) (F : Nat → Prop), e = .returned (.pointer (some ⟨b, 0, none⟩)) ∧ At w' b F seed new ∧ (∀ k, F k → w.heap.size ≤ k) ∧ Below w.heap.size w w'
set_option maxRecDepth 100000 in
set_option maxHeartbeats 1000000 in
theorem new_any (seed : Int) (w : World) : Calls Tryz.prog 28 #[.int .u64 seed] w (NewPost w seed) := by
  obtain ⟨i0, hi, hz0, hz1, hz2⟩ := info_parts infoBk
  have hfin : ∀ w1, w1.ownsRow w.heap.size 179 1 (.slice (some ⟨w.heap.size, 0, none⟩) 8 8) 8 (madeCells (Value.slice none 0 0).cells (8 * 1)).toList → w.grownBy w1 none →
      NewPost w seed (.returned (.pointer (some ⟨w1.heap.size, 0, none⟩))) (w1.alloc (tabObj seed (.slice none 0 0) (.slice (some ⟨w.heap.size, 0, none⟩) 8 8) 0 0)) := fun w1 hown hg => by
    rcases hown.2 with ⟨e, _⟩ | ⟨g, cap, cur, e, _, hgb, _, _, hsz, htk⟩
    · cases e
    injection e with e _ e2
    injection e with e
    injection e with e
    subst e; subst e2
    have hlt := (Array.getElem?_eq_some_iff.1 hgb).1
    have hle := hg.size
    refine ⟨_, fun k => k = w.heap.size ∨ k = w1.heap.size, rfl, ⟨⟨0, 8, 0, fun _ => []⟩, none, 0, w.heap.size, fun _ => .slice none 0 0, ⟨Mem.new_block _ _, .inl ⟨rfl, rfl⟩, ⟨cur, (Below.heap_alloc _ _ _ hlt).trans hgb, hsz, made_nil hsz htk⟩, fun k _ => World.ownsRow_nil _ _ _ _, .inr rfl, .inl rfl, fun k _ g e => (by cases e), fun j k _ _ _ g e => (by cases e), ?_⟩, abs_new _, Nat.zero_le _, rfl, rfl, fun p hp => by cases hp⟩, ?_, ?_⟩
    · rintro k (rfl | rfl) <;> simp <;> omega
    · rintro k (rfl | rfl) <;> omega
    · exact ((Below.refl _ w).grown hg (Nat.le_refl _) (fun j hj => by cases hj)).alloc hle _
  have HF := Lib.hid hfin
  clear hfin
  go_enter Tryz.func28, Tryz.ntmps28
  go_wp2_with (at_make; refine wpList_make_full _ rfl _ _ _ rfl w.heap.size 179 i0 _ 1 Tryz.underlying99 hi hz0 hz1 .i64 .i64 8 8 8 rfl rfl rfl rfl (by rw [hz2]; omega) (by unfold maxLen; omega) (Nat.le_refl _) ?_; intro w1 hown hg; have H1 := Lib.hid (HF.out w1 hown hg); clear hown hg)
  go_ret
  exact H1.out
end Go.Proofs.YtpghckiochjogaaGreatDoor.TabE

/- A quiet call behind a quiet region: the world has drawn already. -/
namespace Go.Proofs.YtpghckiochjogaaGreatDoor.Qt
open Go
section
variable {P : Program} {f : FuncId} {args : Array Value} {w : World} {a n : Nat} {v : Value}
theorem add (h : Calls P f args (w.drewN (a + n)) fun e w' => e = .returned v ∧ ∃ m, w' = (w.drewN (a + n)).drewN m) :
    Calls P f args (w.drewN (a + n)) fun e w'' => e = .returned v ∧ ∃ m, w'' = w.drewN (a + m) :=
  h.mono fun _ _ ⟨he, m, hm⟩ => ⟨he, n + m, by rw [hm, World.drewN_drewN, Nat.add_assoc]⟩
theorem add_left (h : Calls P f args (w.drewN (a + n)) fun e w' => e = .returned v ∧ w.drewN (a + n) = w') :
    Calls P f args (w.drewN (a + n)) fun e w'' => e = .returned v ∧ ∃ m, w'' = w.drewN (a + m) :=
  h.mono fun _ _ ⟨he, hm⟩ => ⟨he, n, hm.symm⟩
theorem left (h : Calls P f args (w.drewN n) fun e w' => e = .returned v ∧ w.drewN n = w') : Calls P f args (w.drewN n) fun e w'' => e = .returned v ∧ ∃ m, w'' = w.drewN m :=
  h.mono fun _ _ ⟨he, hm⟩ => ⟨he, n, hm.symm⟩
end
end Go.Proofs.YtpghckiochjogaaGreatDoor.Qt

/- Layer 9: a text's bucket. -/
namespace Go.Proofs.YtpghckiochjogaaGreatDoor.TabE
open Go Go.RowKit Go.Proofs.YtpghckiochjogaaGreatDoor.Mem Go.Proofs.YtpghckiochjogaaGreatDoor.Tab
theorem idx_elder {H : ByteArray → Nat} {c : Con V} {k : ByteArray} (h : 0 < c.left ∧ c.E - c.left ≤ H k % c.E) (eb nb : Nat) : adr c eb nb (c.idx H k) = ⟨eb, H k % c.E, none⟩ ∨ c.E = 0 := by
  by_cases hE : c.E = 0
  · exact .inr hE
  · refine .inl ?_
    have : H k % c.E < c.E := Nat.mod_lt _ (by omega)
    unfold Con.idx adr
    rw [if_pos h, if_pos this]
theorem idx_now {H : ByteArray → Nat} {c : Con V} {k : ByteArray} (h : ¬ (0 < c.left ∧ c.E - c.left ≤ H k % c.E)) (eb nb : Nat) : adr c eb nb (c.idx H k) = ⟨nb, H k % c.N, none⟩ := by
  unfold Con.idx adr
  rw [if_neg h, if_neg (by omega), Nat.add_sub_cancel_left]
def OfAt (w : World) (p : Addr) (e : Ending) (w' : World) : Prop := e = .returned (.pointer (some p)) ∧ ∃ d, w' = w.drewN d
set_option maxRecDepth 100000 in
set_option maxHeartbeats 1000000 in
theorem of_elder {w : World} {b eb : Nat} {seed : Int} {k : ByteArray} {x : Int} (E lf y : Nat) (c0 : w.cell? ⟨b, 0, none⟩ = some (.int .u64 seed)) (c1 : w.cell? ⟨b, 1, none⟩ = some (.slice (some ⟨eb, 0, none⟩) E E)) (c3 : w.cell? ⟨b, 3, none⟩ = some (.int .i64 lf))
    (hof : ∀ w, Calls Tryz.prog 24 #[.int .u64 seed, .string k] w fun e w' => e = .returned (.int .u64 x) ∧ w = w')
    (hbE : ∀ w, Calls Tryz.prog 23 #[.int .u64 x, .int .i64 E] w fun e w' => e = .returned (.int .i64 (y : Nat)) ∧ w = w')
    (hl2 : (y : Int) < E) (hw : IntKind.i64.wrap ((E : Int) - lf) = (E : Int) - lf) (hd1 : decide (0 < lf) = true) (hd2 : decide ((E : Int) - lf ≤ y) = true) :
    Calls Tryz.prog 130 #[.pointer (some ⟨b, 0, none⟩), .string k] w (OfAt w ⟨eb, y, none⟩) := by
  unfold OfAt
  go_enter Tryz.func130, Tryz.ntmps130
  go_wp2_with (first | (go_at_call 24; refine (hof _).mono ?_; rintro e w' ⟨rfl, rfl⟩) | (go_at_call 23; refine (hbE _).mono ?_; rintro e w' ⟨rfl, rfl⟩))
  go_quiet (fail)
  go_wp2
  go_ret
  exact ⟨rfl, _, rfl⟩
set_option maxRecDepth 100000 in
set_option maxHeartbeats 1000000 in
theorem of_now1 {w : World} {b nb : Nat} {ea : Option Addr} {seed : Int} {k : ByteArray} {x y : Int} (E lf N z : Nat) (c0 : w.cell? ⟨b, 0, none⟩ = some (.int .u64 seed)) (c1 : w.cell? ⟨b, 1, none⟩ = some (.slice ea E E)) (c2 : w.cell? ⟨b, 2, none⟩ = some (.slice (some ⟨nb, 0, none⟩) N N)) (c3 : w.cell? ⟨b, 3, none⟩ = some (.int .i64 lf))
    (hof : ∀ w, Calls Tryz.prog 24 #[.int .u64 seed, .string k] w fun e w' => e = .returned (.int .u64 x) ∧ w = w')
    (hbE : ∀ w, Calls Tryz.prog 23 #[.int .u64 x, .int .i64 E] w fun e w' => e = .returned (.int .i64 y) ∧ w = w')
    (hbN : ∀ w, Calls Tryz.prog 23 #[.int .u64 x, .int .i64 N] w fun e w' => e = .returned (.int .i64 (z : Nat)) ∧ w = w')
    (hw : IntKind.i64.wrap ((E : Int) - lf) = (E : Int) - lf) (hd1 : decide (0 < lf) = true) (hd2 : decide ((E : Int) - lf ≤ y) = false) (hz1 : (z : Int) < N) :
    Calls Tryz.prog 130 #[.pointer (some ⟨b, 0, none⟩), .string k] w (OfAt w ⟨nb, z, none⟩) := by
  unfold OfAt
  go_enter Tryz.func130, Tryz.ntmps130
  go_wp2_with (first | (go_at_call 24; refine (hof _).mono ?_; rintro e w' ⟨rfl, rfl⟩) | (go_at_call 23; refine (hbE _).mono ?_; rintro e w' ⟨rfl, rfl⟩))
  go_quiet (fail)
  go_wp2
  go_quiet ((go_at_call 23; exact Qt.add_left (hbN _)))
  go_wp2
  go_ret
  exact ⟨rfl, _, World.drewN_drewN _ _ _⟩
set_option maxRecDepth 100000 in
set_option maxHeartbeats 1000000 in
theorem of_now0 {w : World} {b nb : Nat} {ea : Option Addr} {seed : Int} {k : ByteArray} {x y : Int} (E lf N z : Nat) (c0 : w.cell? ⟨b, 0, none⟩ = some (.int .u64 seed)) (c1 : w.cell? ⟨b, 1, none⟩ = some (.slice ea E E)) (c2 : w.cell? ⟨b, 2, none⟩ = some (.slice (some ⟨nb, 0, none⟩) N N)) (c3 : w.cell? ⟨b, 3, none⟩ = some (.int .i64 lf))
    (hof : ∀ w, Calls Tryz.prog 24 #[.int .u64 seed, .string k] w fun e w' => e = .returned (.int .u64 x) ∧ w = w')
    (hbE : ∀ w, Calls Tryz.prog 23 #[.int .u64 x, .int .i64 E] w fun e w' => e = .returned (.int .i64 y) ∧ w = w')
    (hbN : ∀ w, Calls Tryz.prog 23 #[.int .u64 x, .int .i64 N] w fun e w' => e = .returned (.int .i64 (z : Nat)) ∧ w = w')
    (hd1 : decide (0 < lf) = false) (hz1 : (z : Int) < N) :
    Calls Tryz.prog 130 #[.pointer (some ⟨b, 0, none⟩), .string k] w (OfAt w ⟨nb, z, none⟩) := by
  unfold OfAt
  go_enter Tryz.func130, Tryz.ntmps130
  go_wp2_with (first | (go_at_call 24; refine (hof _).mono ?_; rintro e w' ⟨rfl, rfl⟩) | (go_at_call 23; refine (hbE _).mono ?_; rintro e w' ⟨rfl, rfl⟩))
  go_quiet (fail)
  go_wp2
  go_quiet ((go_at_call 23; exact Qt.add_left (hbN _)))
  go_wp2
  go_ret
  exact ⟨rfl, _, World.drewN_drewN _ _ _⟩
theorem of_any {w : World} {b : Nat} {F : Nat → Prop} {seed : Int} {c : Con V} {many : Nat} {ea : Option Addr} {eb nb : Nat} {gv : Nat → Value} (h : AtW w b F seed c many ea eb nb gv) (h0 : 0 ≤ seed) (h1 : seed < 18446744073709551616)
    (k : ByteArray) (hk : k.size ≤ maxLen) (hle : c.left ≤ c.E) (hp : 0 < c.N) (hE : c.E ≤ 1099511627776) (hN : c.N ≤ 1099511627776) :
    Calls Tryz.prog 130 #[.pointer (some ⟨b, 0, none⟩), .string k] w (OfAt w (adr c eb nb (c.idx (TabE.hN seed) k))) := by
  have c0 : w.cell? ⟨b, 0, none⟩ = some (.int .u64 seed) := Mem.row_cell h.blk 0
  have c1 : w.cell? ⟨b, 1, none⟩ = some (.slice ea c.E c.E) := Mem.row_cell h.blk 1
  have c2 : w.cell? ⟨b, 2, none⟩ = some (.slice (some ⟨nb, 0, none⟩) c.N c.N) := Mem.row_cell h.blk 2
  have c3 : w.cell? ⟨b, 3, none⟩ = some (.int .i64 (c.left : Nat)) := Mem.row_cell h.blk 3
  have hof := Hash.of_any seed k h0 h1 hk
  have hr := Hash.ofI_range k.data.toList h0 h1
  have hbE : ∀ w, Calls Tryz.prog 23 #[.int .u64 (Hash.ofI seed k.data.toList), .int .i64 (c.E : Nat)] w fun e w' => e = .returned (.int .i64 (if c.E = 0 then 0 else ((TabE.hN seed k % c.E : Nat) : Int))) ∧ w = w' := fun w => by
    refine (Hash.below_any _ _ hr.1 hr.2 (by omega) w).mono ?_
    rintro e w' ⟨rfl, rfl⟩
    refine ⟨?_, rfl⟩
    by_cases e : c.E = 0
    · rw [if_pos e, e, below_zero]
    · rw [if_neg e, below_hN h0 h1 k (by omega)]
  have hbN : ∀ w, Calls Tryz.prog 23 #[.int .u64 (Hash.ofI seed k.data.toList), .int .i64 (c.N : Nat)] w fun e w' => e = .returned (.int .i64 ((TabE.hN seed k % c.N : Nat) : Int)) ∧ w = w' := fun w => by
    refine (Hash.below_any _ _ hr.1 hr.2 (by omega) w).mono ?_
    rintro e w' ⟨rfl, rfl⟩
    exact ⟨by rw [below_hN h0 h1 k hp], rfl⟩
  have hmN := Nat.mod_lt (TabE.hN seed k) hp
  by_cases hc : 0 < c.left ∧ c.E - c.left ≤ TabE.hN seed k % c.E
  · have hm := Nat.mod_lt (TabE.hN seed k) (show 0 < c.E by omega)
    rw [(idx_elder hc eb nb).resolve_right (by omega)]
    rw [if_neg (by omega)] at hbE
    have hea : ea = some ⟨eb, 0, none⟩ := by
      rcases h.eo with ⟨e, _⟩ | ⟨e, _⟩
      · omega
      · exact e
    rw [hea] at c1
    refine of_elder c.E c.left _ c0 c1 c3 hof hbE (by omega) (by rw [IntKind.wrap_i64]; omega) ?_ ?_
    · simp; omega
    · simp only [decide_eq_true_eq]; omega
  · rw [idx_now hc]
    obtain ⟨y, hy⟩ : ∃ y, (if c.E = 0 then 0 else ((TabE.hN seed k % c.E : Nat) : Int)) = y := ⟨_, rfl⟩
    rw [hy] at hbE
    by_cases hl0 : (0 : Int) < c.left
    · have hy1 : ¬ ((c.E : Int) - c.left ≤ y) := fun e2 => by
        rw [if_neg (by omega)] at hy
        exact hc ⟨by omega, by omega⟩
      refine of_now1 c.E c.left c.N _ c0 c1 c2 c3 hof hbE hbN (by rw [IntKind.wrap_i64]; omega) ?_ ?_ (by omega)
      · simp; omega
      · simp only [decide_eq_false_iff_not]; exact hy1
    · refine of_now0 c.E c.left c.N _ c0 c1 c2 c3 hof hbE hbN ?_ (by omega)
      simp; omega
end Go.Proofs.YtpghckiochjogaaGreatDoor.TabE

/- Layer 9: one of the elder buckets moves. -/
namespace Go.Proofs.YtpghckiochjogaaGreatDoor.TabE
open Go Go.RowKit Go.Proofs.YtpghckiochjogaaGreatDoor.Mem Go.Proofs.YtpghckiochjogaaGreatDoor.Tab
structure Mid (w : World) (F : Nat → Prop) (w' : World) (b : Nat) (F' : Nat → Prop) (seed : Int) (c : Con V) (many : Nat) (ea : Option Addr) (eb nb : Nat) (gv : Nat → Value) : Prop where
  at_ : AtW w' b F' seed c many ea eb nb gv
  only : Only F w w'
  grows : Grows w F F'
structure Old (w : World) (b nb : Nat) (c : Con V) (gv : Nat → Value) (v : Value) (l : Pairs V) : Prop where
  own : OwnP w v l
  off : ∀ k, k < c.E + c.N → ∀ g, (gv k).ownBlock = some g → v.ownBlock ≠ some g
section
variable {w w' : World} {b : Nat} {F G : Nat → Prop} {seed : Int} {c : Con V} {many : Nat} {ea : Option Addr} {eb nb : Nat} {gv : Nat → Value} {v : Value} {l : Pairs V}
theorem own_get (h : OwnP w v l) {k : Nat} {p : ByteArray × V} (hk : l[k]? = some p) :
    ∃ g cap, v = .slice (some ⟨g, 0, none⟩) l.length cap ∧ g < w.heap.size ∧ w.cell? ⟨g, k * 2, none⟩ = some (.string p.1) ∧ w.cell? ⟨g, k * 2 + 1, none⟩ = some (.pointer (some ⟨p.2, 0, none⟩)) := by
  have hkl := (List.getElem?_eq_some_iff.1 hk).1
  obtain ⟨n, hn⟩ : ∃ n, l.length = n + 1 := ⟨l.length - 1, by omega⟩
  have ho : w.ownsRow 0 165 2 v l.length (cellsP l) := h
  rw [hn] at ho
  obtain ⟨g, cap, cur, e1, _, e2, _, _, e3⟩ := Mem.row_block ho
  obtain ⟨q1, q2⟩ := cellsP_get l k p hk
  exact ⟨g, cap, by rw [hn]; exact e1, (Array.getElem?_eq_some_iff.1 e2).1, (Mem.row_cell e2 _).trans (e3 _ _ q1), (Mem.row_cell e2 _).trans (e3 _ _ q2)⟩
theorem own_shape (h : OwnP w v l) : ∃ a cap, v = .slice a l.length cap := by
  rcases h.2 with ⟨e1, e2⟩ | ⟨g, cap, cur, e1, _⟩
  · exact ⟨none, 0, by rw [e1, e2]⟩
  · exact ⟨_, _, e1⟩
end
theorem pop_mid {w w2 : World} {b : Nat} {F : Nat → Prop} {seed : Int} {c : Con V} {many : Nat} {ea : Option Addr} {eb nb : Nat} {gv : Nat → Value} (h : AtW w b F seed c many ea eb nb gv) (hl : 0 < c.left) (hle : c.left ≤ c.E)
    (hw : w2 = (w.setCell ⟨eb, c.E - c.left, none⟩ (.slice none 0 0)).setCell ⟨b, 3, none⟩ (.int .i64 ((c.left - 1 : Nat) : Int))) :
    Mid w F w2 b F seed c.pop many ea eb nb (updv gv (c.E - c.left) (.slice none 0 0)) ∧ Old w2 b nb c.pop (updv gv (c.E - c.left) (.slice none 0 0)) (gv (c.E - c.left)) (c.bs (c.E - c.left)) := by
  have hk : c.E - c.left < c.E + c.N := by omega
  have hadr : adr c eb nb (c.E - c.left) = ⟨eb, c.E - c.left, none⟩ := by unfold adr; rw [if_pos (by omega)]
  have hFe : F eb ∧ eb ≠ nb := by
    rcases h.eo with ⟨e, _⟩ | ⟨_, h2, h3, _⟩
    · omega
    · exact ⟨h2, h3⟩
  have h1 := h.setRow hk (w' := w) (v := .slice none 0 0) (x := []) (fun _ _ _ => rfl) (Nat.le_refl _) (World.ownsRow_nil _ _ _ _) (fun g e => by cases e)
  rw [hadr] at h1
  have hF1 : (fun j => F j ∨ (Value.slice none 0 0).ownBlock = some j) = F := by funext j; simp [Value.ownBlock]
  rw [hF1] at h1
  have hb2 : w2.heap[b]? = some (tabObj seed (.slice ea c.E c.E) (.slice (some ⟨nb, 0, none⟩) c.N c.N) ((c.left - 1 : Nat) : Int) many) := by
    rw [hw]; exact Mem.row_set h1.blk 3 _
  have hs2 : ∀ j, j ≠ b → w2.heap[j]? = (w.setCell ⟨eb, c.E - c.left, none⟩ (.slice none 0 0)).heap[j]? := fun j hj => by rw [hw]; exact Below.heap_setCell _ _ _ _ hj
  have hz2 : w2.heap.size = w.heap.size := by rw [hw]; simp [World.setCell]
  have h2 := h1.setBlk (c.left - 1) many hb2 hs2 (by rw [hz2]; simp [World.setCell])
  have hrest : ∀ j, j ≠ b → j ≠ eb → w2.heap[j]? = w.heap[j]? := fun j h3 h4 => (hs2 j h3).trans (Below.heap_setCell _ _ _ _ h4)
  refine ⟨⟨h2, ?_, Grows.refl _ _⟩, ?_, fun k hk2 g e e2 => ?_⟩
  · rw [hw]; exact ((Only.refl F w).setCell (p := ⟨eb, c.E - c.left, none⟩) (.inl hFe.1) _).setCell (p := ⟨b, 3, none⟩) (.inl h.fb) _
  · exact row_same (h.rows _ hk) fun g e => hrest g (fun e1 => h.row_b hk (e1 ▸ e)) (fun e1 => h.row_e (by omega) hk (e1 ▸ e))
  · by_cases e1 : k = c.E - c.left
    · rw [e1, updv_same] at e; cases e
    · rw [updv_other _ _ e1] at e
      exact h.apart k _ hk2 hk e1 g e e2
theorem step_none {w : World} {b : Nat} {seed : Int} {c : Con V} (hl : c.left = 0) (c3 : w.cell? ⟨b, 3, none⟩ = some (.int .i64 0)) :
    Calls Tryz.prog 129 #[.pointer (some ⟨b, 0, none⟩)] w fun e w' => e = .returned (.tuple #[]) ∧ w = w' ∧ c.step (hN seed) = c := by
  have e : c.step (hN seed) = c := by unfold Con.step; rw [if_pos hl]
  have HE := Lib.hid e
  clear e hl
  go_enter Tryz.func129, Tryz.ntmps129
  go_wp2
  refine bodyPost_ret (results_none rfl _ _ _) rfl ?_
  exact ⟨rfl, rfl, HE.out⟩
theorem Mid.push {w w' w2 w3 : World} {b : Nat} {F F' : Nat → Prop} {seed : Int} {c : Con V} {many : Nat} {ea : Option Addr} {eb nb : Nat} {gv : Nat → Value} {p : ByteArray × V} (h : Mid w F w' b F' seed c many ea eb nb gv) (hp : 0 < c.N) {v : Value}
    (hb : Below w'.heap.size w' w2) (hg : w2.grownBy w3 (gv (c.E + hN seed p.1 % c.N)).ownBlock) (hown : OwnP w3 v (c.bs (c.E + hN seed p.1 % c.N) ++ [p])) (hat : v.ownBlock = (gv (c.E + hN seed p.1 % c.N)).ownBlock ∨ ∃ g, v.ownBlock = some g ∧ w2.heap.size ≤ g) :
    Mid w F (w3.setCell ⟨nb, hN seed p.1 % c.N, none⟩ v) b (fun j => F' j ∨ v.ownBlock = some j) seed (c.push (hN seed) p) many ea eb nb (updv gv (c.E + hN seed p.1 % c.N) v) := by
  have hm := Nat.mod_lt (hN seed p.1) hp
  have hk : c.E + hN seed p.1 % c.N < c.E + c.N := by omega
  have hadr : adr c eb nb (c.E + hN seed p.1 % c.N) = ⟨nb, hN seed p.1 % c.N, none⟩ := by unfold adr; rw [if_neg (by omega), Nat.add_sub_cancel_left]
  have hz := hb.size
  have hat' : ∀ g, v.ownBlock = some g → (gv (c.E + hN seed p.1 % c.N)).ownBlock = some g ∨ w'.heap.size ≤ g := fun g e => hat.elim (fun e1 => .inl (by rw [← e1]; exact e)) (fun ⟨g', e1, e2⟩ => .inr (by rw [e] at e1; injection e1 with e1; omega))
  have h1 := h.at_.setRow hk (w' := w3) (v := v) (x := c.bs (c.E + hN seed p.1 % c.N) ++ [p]) (fun j hj hn => (hg.block j (Nat.lt_of_lt_of_le (h.at_.lt j hj) hz) (Ne.symm hn)).trans (hb.block j (h.at_.lt j hj))) (Nat.le_trans hz hg.size) hown hat'
  rw [hadr] at h1
  refine ⟨h1, ?_, fun j hj => ?_⟩
  · have ho : Only F' w' w2 := Only.of_below hb (fun k h1 h2 => by omega)
    have ho2 : Only F' w' (w3.setCell ⟨nb, hN seed p.1 % c.N, none⟩ v) := (ho.grown hg fun g e => .inl (h.at_.fr _ hk g e)).setCell (p := ⟨nb, hN seed p.1 % c.N, none⟩) (.inl h.at_.fn) _
    exact h.only.trans ho2 h.grows
  · rcases hj with e | e
    · exact h.grows j e
    · exact (hat' j e).elim (fun e1 => h.grows j (h.at_.fr _ hk j e1)) (fun e1 => .inr (by have := h.only.size; omega))
theorem Old.push {w' w2 w3 : World} {b : Nat} {F' : Nat → Prop} {seed : Int} {c : Con V} {many : Nat} {ea : Option Addr} {eb nb : Nat} {gv : Nat → Value} {p : ByteArray × V} {v u : Value} {l : Pairs V} (h : AtW w' b F' seed c many ea eb nb gv) (ho : Old w' b nb c gv u l) (hp : 0 < c.N)
    (hb : Below w'.heap.size w' w2) (hg : w2.grownBy w3 (gv (c.E + hN seed p.1 % c.N)).ownBlock) (hat : v.ownBlock = (gv (c.E + hN seed p.1 % c.N)).ownBlock ∨ ∃ g, v.ownBlock = some g ∧ w2.heap.size ≤ g) :
    Old (w3.setCell ⟨nb, hN seed p.1 % c.N, none⟩ v) b nb (c.push (hN seed) p) (updv gv (c.E + hN seed p.1 % c.N) v) u l := by
  have hm := Nat.mod_lt (hN seed p.1) hp
  have hk : c.E + hN seed p.1 % c.N < c.E + c.N := by omega
  obtain ⟨a, ha, _⟩ := h.no
  refine ⟨row_same ho.own fun g e => ?_, fun k hk2 g e e2 => ?_⟩
  · have hl := (own_lt ho.own g e).2
    refine (Below.heap_setCell _ _ _ _ (fun e1 : g = nb => row_not ho.own ha (by decide) (e1 ▸ e))).trans ((hg.block g (Nat.lt_of_lt_of_le hl hb.size) (fun e1 => ho.off _ hk g e1.symm e)).trans (hb.block g hl))
  · by_cases e1 : k = c.E + hN seed p.1 % c.N
    · rw [e1, updv_same] at e
      rcases hat with e3 | ⟨g', e3, e4⟩
      · rw [e] at e3; exact ho.off _ hk g e3.symm e2
      · rw [e] at e3; injection e3 with e3
        have := (own_lt ho.own g e2).2
        have := hb.size
        omega
    · rw [updv_other _ _ e1] at e
      exact ho.off k hk2 g e e2
end Go.Proofs.YtpghckiochjogaaGreatDoor.TabE

