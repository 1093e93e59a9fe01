/- Layer 8 as plain functions: the list of keys, and chains of nodes as lists. -/
namespace Go.Proofs.Ytpppknopbjpciaa.Slru

instance decMem (k : ByteArray) (l : List ByteArray) : Decidable (k ∈ l) := decidable_of_iff (l.any (fun x => decide (x = k)) = true) (by simp)
structure St where
  most : Int
  trial : List ByteArray
  safe : List ByteArray
def new (most : Int) : St := { most, trial := [], safe := [] }
def without (l : List ByteArray) (k : ByteArray) : List ByteArray := l.filter fun x => decide (x ≠ k)
def St.all (s : St) : List ByteArray := s.trial ++ s.safe
def St.add (s : St) (k : ByteArray) : Int × St := if k ∈ s.all then (7, s) else (0, { s with trial := s.trial ++ [k] })
def St.remove (s : St) (k : ByteArray) : Int × St := if k ∈ s.all then (0, { s with trial := without s.trial k, safe := without s.safe k }) else (6, s)
/-- The two rows behind a hit. -/
def St.moved (s : St) (t f : List ByteArray) : St := if max s.most 0 < (f.length : Int) then { s with trial := t ++ f.take 1, safe := f.drop 1 } else { s with trial := t, safe := f }
def St.hit (s : St) (k : ByteArray) : Int × St := if k ∈ s.all then (0, s.moved (without s.trial k) (without s.safe k ++ [k])) else (6, s)
def St.victim (s : St) (but : ByteArray) : Option ByteArray := s.all.find? fun x => decide (x ≠ but)

abbrev Nd := Nat × ByteArray
def lst (xs : List Nd) : Option Nat := xs.getLast?.map (·.1)
def fst (xs : List Nd) : Option Nat := xs.head?.map (·.1)
@[simp] theorem lst_nil : lst [] = none := rfl
@[simp] theorem fst_nil : fst [] = none := rfl
@[simp] theorem lst_app (l : List Nd) (p : Nd) : lst (l ++ [p]) = some p.1 := by simp [lst]
@[simp] theorem fst_cons (p : Nd) (l : List Nd) : fst (p :: l) = some p.1 := rfl
theorem lst_cons (l : List Nd) (p : Nd) (a : List Nd) : lst (l ++ p :: a) = lst (p :: a) := by
  have : (p :: a).getLast? = some ((p :: a).getLast (by simp)) := List.getLast?_eq_some_getLast (by simp)
  simp only [lst, List.getLast?_append, this]
  rfl
theorem lst_right (l a : List Nd) (h : a ≠ []) : lst (l ++ a) = lst a := by
  obtain ⟨p, a, rfl⟩ := List.exists_cons_of_ne_nil h
  exact lst_cons l p a
theorem fst_left (l a : List Nd) (h : l ≠ []) : fst (l ++ a) = fst l := by
  obtain ⟨p, l, rfl⟩ := List.exists_cons_of_ne_nil h
  rfl
theorem lst_mem {xs : List Nd} {j : Nat} (h : lst xs = some j) : j ∈ xs.map (·.1) := by
  rcases List.eq_nil_or_concat xs with rfl | ⟨l, p, rfl⟩
  · simp at h
  · simp at h; simp [h]
theorem fst_mem {xs : List Nd} {j : Nat} (h : fst xs = some j) : j ∈ xs.map (·.1) := by
  cases xs with
  | nil => simp at h
  | cons p l => simp at h; simp [h]
theorem snoc_cases (xs : List Nd) : xs = [] ∨ ∃ l p, xs = l ++ [p] := by
  rcases List.eq_nil_or_concat xs with h | ⟨l, p, h⟩
  · exact .inl h
  · exact .inr ⟨l, p, by simpa using h⟩

/-- What of a chain is at a place: the node's key, the one ahead, the one behind. -/
def ChainB (at_ : Nat → ByteArray → Option Nat → Option Nat → Prop) (xs : List Nd) : Prop := ∀ l n k r, xs = l ++ (n, k) :: r → at_ n k (lst l) (fst r)
section
variable {A B : Nat → ByteArray → Option Nat → Option Nat → Prop} {xs l r : List Nd} {n : Nat} {k : ByteArray}
theorem ChainB.same (h : ChainB A xs) (hs : ∀ j ∈ xs.map (·.1), ∀ k a b, A j k a b → B j k a b) : ChainB B xs := fun l n k r e => hs n (by rw [e]; simp) _ _ _ (h l n k r e)
theorem ChainB.push (h : ChainB A xs) (hnd : (xs.map (·.1)).Nodup) (h1 : B n k (lst xs) none) (h2 : ∀ l p, xs = l ++ [p] → B p.1 p.2 (lst l) (some n))
    (h3 : ∀ j ∈ xs.map (·.1), lst xs ≠ some j → ∀ k a b, A j k a b → B j k a b) : ChainB B (xs ++ [(n, k)]) := by
  intro l m j r e
  rcases snoc_cases r with rfl | ⟨r', q, rfl⟩
  · obtain ⟨rfl, e2⟩ := List.append_inj' e rfl
    injection e2 with e2
    injection e2 with e2 e3
    subst e2 e3
    exact h1
  · rw [← List.cons_append, ← List.append_assoc] at e
    obtain ⟨e1, e2⟩ := List.append_inj' e rfl
    injection e2 with e2
    subst e2
    rcases snoc_cases r' with rfl | ⟨r2, q2, rfl⟩
    · exact h2 l (m, j) e1
    · rw [fst_left _ _ (by simp)]
      refine h3 m (by rw [e1]; simp) ?_ _ _ _ (h l m j _ e1)
      rw [e1, ← List.cons_append, ← List.append_assoc, lst_app]
      intro e2
      injection e2 with e2
      rw [e1] at hnd
      simp only [List.map_append, List.map_cons, List.nodup_append, List.nodup_cons] at hnd
      exact hnd.2.1.1 (by rw [← e2]; simp)
theorem ChainB.pull (h : ChainB A (l ++ (n, k) :: r)) (hnd : ((l ++ (n, k) :: r).map (·.1)).Nodup) (h1 : ∀ l' p, l = l' ++ [p] → B p.1 p.2 (lst l') (fst r)) (h2 : ∀ p r', r = p :: r' → B p.1 p.2 (lst l) (fst r'))
    (h3 : ∀ j ∈ (l ++ r).map (·.1), lst l ≠ some j → fst r ≠ some j → ∀ k a b, A j k a b → B j k a b) : ChainB B (l ++ r) := by
  intro l1 m j r1 e
  have hnd2 := hnd
  simp only [List.map_append, List.map_cons, List.nodup_append, List.nodup_cons] at hnd2
  obtain ⟨hl, ⟨hnr, hr⟩, hlr⟩ := hnd2
  rcases List.append_eq_append_iff.1 e with ⟨a, rfl, rfl⟩ | ⟨a, rfl, e2⟩
  · cases a with
    | nil => simpa using h2 (m, j) r1 rfl
    | cons p a =>
      rw [lst_cons]
      have := h (l ++ (n, k) :: p :: a) m j r1 (by simp)
      rw [show l ++ (n, k) :: p :: a = (l ++ [(n, k)]) ++ p :: a from by simp, lst_cons] at this
      refine h3 m (by simp) (fun e3 => ?_) (fun e3 => ?_) _ _ _ this
      · exact hlr _ (lst_mem e3) m (by simp) rfl
      · simp at e3
        simp [e3] at hr
  · cases a with
    | nil =>
      simp at e2
      subst e2
      simpa using h2 (m, j) r1 rfl
    | cons p a =>
      injection e2 with e2 e3
      subst e2 e3
      rcases snoc_cases a with rfl | ⟨a2, q, rfl⟩
      · simpa using h1 l1 (m, j) rfl
      · rw [show (a2 ++ [q]).append r = (a2 ++ [q]) ++ r from rfl, fst_left _ _ (by simp)]
        have := h l1 m j ((a2 ++ [q]) ++ (n, k) :: r) (by simp)
        rw [fst_left _ _ (by simp)] at this
        refine h3 m (by simp) (fun e3 => ?_) (fun e3 => ?_) _ _ _ this
        · rw [show l1 ++ (m, j) :: (a2 ++ [q]) = (l1 ++ (m, j) :: a2) ++ [q] from by simp, lst_app] at e3
          injection e3 with e3
          rw [List.map_append, List.nodup_append, List.map_cons] at hl
          exact (List.nodup_cons.1 hl.2.1).1 (by rw [← e3]; simp)
        · exact hlr m (by simp) m (List.mem_cons_of_mem _ (fst_mem e3)) rfl
end
end Go.Proofs.Ytpppknopbjpciaa.Slru
