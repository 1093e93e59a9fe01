/- Maps as lists of pairs: what a look-up, a store and a delete do, by the keys' own law; over any program. -/
import Derived.MapKept
import Derived.Laws.StructEq
import Derived.RangeFuncRecord
import Derived.WideKeyRuns
import Derived.Below
namespace Go.Proofs.Ytpppknopbjpciaa.Maps
open Go

theorem map_eraseIdx {α β : Type} (f : α → β) : ∀ (l : List α) (i : Nat), (l.eraseIdx i).map f = (l.map f).eraseIdx i
  | [], _ => rfl
  | _ :: _, 0 => rfl
  | _ :: l, i + 1 => by simp [map_eraseIdx f l i]

section pure
variable {κ : Type} [DecidableEq κ]
def get : List (κ × Value) → κ → Option Value
  | [], _ => none
  | p :: l, k => if k = p.1 then some p.2 else get l k
def set : List (κ × Value) → κ → Value → List (κ × Value)
  | [], k, v => [(k, v)]
  | p :: l, k, v => if k = p.1 then (k, v) :: l else p :: set l k v
def del : List (κ × Value) → κ → List (κ × Value)
  | [], _ => []
  | p :: l, k => if k = p.1 then l else p :: del l k
/-- The place of a key. -/
def at? : List (κ × Value) → κ → Nat → Option Nat
  | [], _, _ => none
  | p :: l, k, i => if k = p.1 then some i else at? l k (i + 1)
end pure

/-- What a map's type of keys owes. -/
structure KeyLaw (P : Program) (kt : TypeId) {κ : Type} [DecidableEq κ] (enc : κ → Value) : Prop where
  check : ∀ (em : Bool) (k : κ) (w : World), (Instr.checkKey em 10000 kt (enc k)).run P w = .ok () w
  find : ∀ (k : κ) (es : List MapEntry) (l : List (κ × Value)), es.map (fun e => (e.key, e.val)) = l.map (fun p => (enc p.1, p.2)) → ∀ w : World,
    (Instr.findKey kt (enc k) es).run P w = .ok ((at? l k 0).bind fun i => (get l k).map fun v => (i, v)) w
  stays : ∀ (k : κ) (w : World), (Instr.keyThatStays (enc k) (enc k)).run P w = .ok (enc k) w

/-- Block b is a map that holds the pairs l. -/
def Is {κ : Type} (enc : κ → Value) (w : World) (b : Nat) (l : List (κ × Value)) : Prop :=
  ∃ es clock, w.heap[b]? = some (.map es clock) ∧ es.toList.map (fun e => (e.key, e.val)) = l.map (fun p => (enc p.1, p.2))

section
variable {κ : Type} {enc : κ → Value} {w : World} {b : Nat} {l : List (κ × Value)}
theorem Is.put {es0 : Array MapEntry} {c0 : Nat} (h : w.heap[b]? = some (.map es0 c0)) {es : Array MapEntry} (clock : Nat) (hl : es.toList.map (fun e => (e.key, e.val)) = l.map (fun p => (enc p.1, p.2))) : Is enc (w.putObj b (.map es clock)) b l :=
  ⟨es, clock, World.putObj_heap_same (Array.getElem?_eq_some_iff.1 h).1, hl⟩

end

section
variable {P : Program} {kt : TypeId} {κ : Type} [DecidableEq κ] {enc : κ → Value} {w : World} {b : Nat} {l : List (κ × Value)} {T e : TypeId}

theorem at_get (l : List (κ × Value)) (k : κ) (i : Nat) : ((at? l k i).isSome = (get l k).isSome) ∧ (∀ j, at? l k i = some j → i ≤ j ∧ l[j - i]?.map (·.1) = some k ∧ get l k = l[j - i]?.map (·.2)) := by
  induction l generalizing i with
  | nil => exact ⟨rfl, fun j h => by simp [at?] at h⟩
  | cons p l ih =>
    by_cases hk : k = p.1
    · refine ⟨by simp [at?, get, hk], fun j h => ?_⟩
      simp only [at?, if_pos hk, Option.some.injEq] at h
      subst h
      exact ⟨Nat.le_refl _, by simp [hk], by simp [get, hk]⟩
    · refine ⟨by simp only [at?, get, if_neg hk]; exact (ih (i + 1)).1, fun j h => ?_⟩
      simp only [at?, if_neg hk] at h
      obtain ⟨h1, h2, h3⟩ := (ih (i + 1)).2 j h
      have e1 : j - i = (j - (i + 1)) + 1 := by omega
      refine ⟨by omega, ?_, ?_⟩
      · rw [e1]; simpa using h2
      · rw [e1]; simp only [get, if_neg hk]; simpa using h3

theorem set_at (l : List (κ × Value)) (k : κ) (v : Value) (i : Nat) : set l k v = match at? l k i with
    | some j => l.modify (j - i) fun _ => (k, v)
    | none => l ++ [(k, v)] := by
  induction l generalizing i with
  | nil => rfl
  | cons p l ih =>
    by_cases hk : k = p.1
    · simp [set, at?, hk]
    · simp only [set, at?, if_neg hk]
      rw [ih (i + 1)]
      cases hj : at? l k (i + 1) with
      | none => rfl
      | some j =>
        have h1 := ((at_get l k (i + 1)).2 j hj).1
        have e1 : j - i = (j - (i + 1)) + 1 := by omega
        simp only [e1, List.modify_succ_cons]
theorem del_at (l : List (κ × Value)) (k : κ) (i : Nat) : del l k = match at? l k i with
    | some j => l.eraseIdx (j - i)
    | none => l := by
  induction l generalizing i with
  | nil => rfl
  | cons p l ih =>
    by_cases hk : k = p.1
    · simp [del, at?, hk]
    · simp only [del, at?, if_neg hk]
      rw [ih (i + 1)]
      cases hj : at? l k (i + 1) with
      | none => rfl
      | some j =>
        have h1 := ((at_get l k (i + 1)).2 j hj).1
        have e1 : j - i = (j - (i + 1)) + 1 := by omega
        simp only [e1, List.eraseIdx_cons_succ]

theorem run_getObj_map {es : Array MapEntry} {clock : Nat} (h : w.heap[b]? = some (.map es clock)) : (getObj b).run P w = .ok (.map es clock) w := by simp [getObj, Sem.run, h]
theorem run_setObj_map {es : Array MapEntry} {clock : Nat} (o : Obj) (h : w.heap[b]? = some (.map es clock)) : (setObj b o).run P w = .ok () (w.putObj b o) := by simp [setObj, Sem.run, h, World.putObj]

/-- 'm[k]' -/
theorem run_lookup (K : KeyLaw P kt enc) (ht : P.underlying T = some (.map kt e)) {z : Value} (hz : ∀ w : World, (zeroValue e).run P w = .ok z w) (h : Is enc w b l) (k : κ) :
    (Instr.lookup T (.map (some b)) (enc k) false).run P w = .ok ((get l k).getD z) w := by
  obtain ⟨es, clock, hb, hl⟩ := h
  simp only [Instr.lookup, Sem.run_bind, run_underlying ht, Result.andThen_ok, run_getObj_map hb, Sem.run_pure, K.check, K.find k _ _ hl]
  have hs := (at_get l k 0).1
  cases ha : at? l k 0 with
  | none =>
    rw [ha] at hs
    have hg : get l k = none := by simpa using hs.symm
    simp [hg, hz]
  | some j =>
    rw [ha] at hs
    obtain ⟨v, hv⟩ := Option.isSome_iff_exists.1 hs.symm
    simp [hv]
/-- 'v, ok := m[k]' -/
theorem run_lookup_ok (K : KeyLaw P kt enc) (ht : P.underlying T = some (.map kt e)) {z : Value} (hz : ∀ w : World, (zeroValue e).run P w = .ok z w) (h : Is enc w b l) (k : κ) :
    (Instr.lookup T (.map (some b)) (enc k) true).run P w = .ok (.tuple #[(get l k).getD z, .bool (get l k).isSome]) w := by
  obtain ⟨es, clock, hb, hl⟩ := h
  simp only [Instr.lookup, Sem.run_bind, run_underlying ht, Result.andThen_ok, run_getObj_map hb, Sem.run_pure, K.check, K.find k _ _ hl]
  have hs := (at_get l k 0).1
  cases ha : at? l k 0 with
  | none =>
    rw [ha] at hs
    have hg : get l k = none := by simpa using hs.symm
    simp [hg, hz, Result.andThen]
  | some j =>
    rw [ha] at hs
    obtain ⟨v, hv⟩ := Option.isSome_iff_exists.1 hs.symm
    simp [hv]

/-- 'm[k] = v' -/
theorem run_update (K : KeyLaw P kt enc) (ht : P.underlying T = some (.map kt e)) (h : Is enc w b l) (k : κ) (v : Value) :
    ∃ o : Obj, (Instr.mapUpdate T (.map (some b)) (enc k) v).run P w = .ok () (w.putObj b o) ∧ Is enc (w.putObj b o) b (set l k v) := by
  obtain ⟨es, clock, hb, hl⟩ := h
  simp only [Instr.mapUpdate, Sem.run_bind, run_underlying ht, Result.andThen_ok, run_getObj_map hb, K.check, K.find k _ _ hl]
  have hs := (at_get l k 0).1
  cases ha : at? l k 0 with
  | none =>
    refine ⟨.map (es.push { key := enc k, val := v, born := clock }) (clock + 1), ?_, Is.put hb _ ?_⟩
    · simp [run_setObj_map _ hb]
    · have := set_at l k v 0
      rw [ha] at this
      simp only at this
      rw [this]
      simp [hl]
  | some j =>
    rw [ha] at hs
    obtain ⟨v0, hv⟩ := Option.isSome_iff_exists.1 hs.symm
    obtain ⟨_, h1, h2⟩ := (at_get l k 0).2 j ha
    simp only [Nat.sub_zero] at h1 h2
    have hlen : es.size = l.length := by have := congrArg List.length hl; simpa using this
    have hj : j < l.length := by
      rcases Nat.lt_or_ge j l.length with h | h
      · exact h
      · rw [List.getElem?_eq_none h] at h1; cases h1
    have hkey : es[j]?.map (·.key) = some (enc k) := by
      have e1 : (es.toList.map (fun e => (e.key, e.val)))[j]? = (l.map (fun p => (enc p.1, p.2)))[j]? := by rw [hl]
      rw [List.getElem?_map, List.getElem?_map] at e1
      rw [List.getElem?_eq_getElem hj] at e1 h1
      rw [Array.getElem?_toList, Array.getElem?_eq_getElem (by omega)] at e1
      rw [Array.getElem?_eq_getElem (by omega)]
      simp only [Option.map_some, Option.some.injEq, Prod.mk.injEq] at e1 h1 ⊢
      rw [e1.1, h1]
    refine ⟨.map (es.modify j fun e => { e with key := enc k, val := v }) clock, ?_, Is.put hb _ ?_⟩
    · simp only [hv, Option.bind_some, Option.map_some, Sem.run_bind, hkey, Option.getD_some, K.stays, Result.andThen_ok]
      simp [run_setObj_map _ hb]
    · have := set_at l k v 0
      rw [ha] at this
      simp only [Nat.sub_zero] at this
      rw [this]
      apply List.ext_getElem?
      intro i
      have e1 : (es.toList.map (fun e => (e.key, e.val)))[i]? = (l.map (fun p => (enc p.1, p.2)))[i]? := by rw [hl]
      rw [List.getElem?_map, List.getElem?_map] at e1 ⊢
      rw [Array.toList_modify, List.getElem?_modify, List.getElem?_modify]
      by_cases hij : j = i
      · subst hij
        rw [List.getElem?_eq_getElem (by simpa [hlen] using hj), List.getElem?_eq_getElem hj]
        simp
      · simp only [hij, if_false]
        simpa using e1

/-- 'delete(m, k)' -/
theorem run_delete (K : KeyLaw P kt enc) (ht : P.underlying T = some (.map kt e)) (h : Is enc w b l) (k : κ) (ty k' : TypeId) :
    ∃ o : Obj, (Builtin.delete_ #[T, k'] ty #[.map (some b), enc k]).run P w = .ok (.tuple #[]) (w.putObj b o) ∧ Is enc (w.putObj b o) b (del l k) := by
  obtain ⟨es, clock, hb, hl⟩ := h
  have hs := (at_get l k 0).1
  have hlen : es.size = l.length := by have := congrArg List.length hl; simpa using this
  cases ha : at? l k 0 with
  | none =>
    refine ⟨.map es clock, ?_, Is.put hb _ ?_⟩
    · simp [Builtin.delete_, run_underlying ht, run_getObj_map hb, K.check, K.find k _ _ hl, ha, run_setObj_map _ hb]
    · have := del_at l k 0
      rw [ha] at this
      simp only at this
      rw [this]
      exact hl
  | some j =>
    rw [ha] at hs
    obtain ⟨v0, hv⟩ := Option.isSome_iff_exists.1 hs.symm
    refine ⟨.map (es.eraseIdxIfInBounds j) clock, ?_, Is.put hb _ ?_⟩
    · simp [Builtin.delete_, run_underlying ht, run_getObj_map hb, K.check, K.find k _ _ hl, ha, hv, run_setObj_map _ hb]
    · have := del_at l k 0
      rw [ha] at this
      simp only [Nat.sub_zero] at this
      rw [this, Array.toList_eraseIdxIfInBounds, map_eraseIdx, map_eraseIdx, hl]

end

section
variable {κ : Type} {enc : κ → Value} {w : World} {b : Nat} {l : List (κ × Value)}
theorem Is.new (w : World) : Is enc (w.alloc (.map #[] 0)) w.heap.size ([] : List (κ × Value)) := ⟨#[], 0, World.alloc_heap_new w _, rfl⟩
theorem Is.same {w' : World} (h : Is enc w b l) (hs : w'.heap[b]? = w.heap[b]?) : Is enc w' b l := by
  obtain ⟨es, clock, hb, hl⟩ := h
  exact ⟨es, clock, hs.trans hb, hl⟩
theorem Is.lt (h : Is enc w b l) : b < w.heap.size := by
  obtain ⟨es, clock, hb, _⟩ := h
  exact (Array.getElem?_eq_some_iff.1 hb).1
end

/-! ### keys that are structs (or arrays): asked one by one by '==' -/
section
variable {P : Program} {kt : TypeId} {κ : Type} [DecidableEq κ] {enc : κ → Value}
theorem findAsking_of (heq : ∀ (k k' : κ) (w : World), (Op.equal kt (enc k) (enc k')).run P w = .ok (decide (k = k')) w) (k : κ) (w : World) :
    ∀ (es : List MapEntry) (l : List (κ × Value)) (i : Nat), es.map (fun e => (e.key, e.val)) = l.map (fun p => (enc p.1, p.2)) →
      (Instr.findAsking kt (enc k) es i).run P w = .ok ((at? l k i).bind fun j => (get l k).map fun v => (j, v)) w
  | [], [], _, _ => rfl
  | [], _ :: _, _, h => by cases h
  | _ :: _, [], _, h => by cases h
  | e :: es, p :: l, i, h => by
    simp only [List.map_cons, List.cons.injEq, Prod.mk.injEq] at h
    obtain ⟨⟨h1, h2⟩, h3⟩ := h
    simp only [Instr.findAsking, Sem.run_bind, h1, heq, Result.andThen_ok]
    by_cases hk : k = p.1
    · simp [hk, at?, get, h2]
    · simp only [hk, decide_false, Bool.false_eq_true, if_false, at?, get]
      exact findAsking_of heq k w es l (i + 1) h3
theorem KeyLaw.of_wide (hwide : (match P.underlying kt with | some (.array _ _) | some (.struct _) => true | _ => false) = true)
    (hcheck : ∀ (em : Bool) (k : κ) (w : World), (Instr.checkKey em 10000 kt (enc k)).run P w = .ok () w)
    (heq : ∀ (k k' : κ) (w : World), (Op.equal kt (enc k) (enc k')).run P w = .ok (decide (k = k')) w) (hst : ∀ k : κ, Instr.sameBits 10000 (enc k) (enc k) = true) : KeyLaw P kt enc where
  check := hcheck
  find k es l h w := by rw [run_findKey_eq w hwide]; exact findAsking_of heq k w es l 0 h
  stays k w := by simp [Instr.keyThatStays, hst]
end

/-! ### keys that are strings -/
section
variable {P : Program} {kt : TypeId}
theorem bytes_beq (a b : ByteArray) : (a == b) = decide (a = b) := by
  rw [beq_toListBytes, ByteArray.toList_eq, ByteArray.toList_eq]
  by_cases h : a = b
  · subst h; simp
  · have hn : a.data.toList ≠ b.data.toList := fun e => h (by
      obtain ⟨⟨x⟩⟩ := a
      obtain ⟨⟨y⟩⟩ := b
      simp at e; rw [e])
    simp [h]
    exact fun e => hn (by rw [e])
theorem findNow_string (k : ByteArray) : ∀ (es : List MapEntry) (l : List (ByteArray × Value)) (i : Nat), es.map (fun e => (e.key, e.val)) = l.map (fun p => (Value.string p.1, p.2)) →
      Instr.findNow .string (.string k) es i = some ((at? l k i).bind fun j => (get l k).map fun v => (j, v))
  | [], [], _, _ => rfl
  | [], _ :: _, _, h => by cases h
  | _ :: _, [], _, h => by cases h
  | e :: es, p :: l, i, h => by
    simp only [List.map_cons, List.cons.injEq, Prod.mk.injEq] at h
    obtain ⟨⟨h1, h2⟩, h3⟩ := h
    by_cases hk : k = p.1
    · subst hk
      simp [Instr.findNow, h1, Instr.sameNow, at?, get, h2, bytes_beq]
    · have hb : (k == p.1) = false := by rw [bytes_beq]; simpa using hk
      simp only [Instr.findNow, h1, Instr.sameNow, hb, at?, get, if_neg hk]
      exact findNow_string k es l (i + 1) h3
theorem stringLaw (h : P.underlying kt = some .string) : KeyLaw P kt Value.string where
  check em k w := by
    show (Instr.checkKey em (9999 + 1) kt (.string k)).run P w = _
    generalize 9999 = n
    simp [Instr.checkKey, run_underlying h]
  find k es l he w := by rw [MapKept.run_findKey h (findNow_string k es l 0 he)]
  stays k w := by simp [Instr.keyThatStays, Instr.sameBits, bytes_beq]
end
end Go.Proofs.Ytpppknopbjpciaa.Maps
