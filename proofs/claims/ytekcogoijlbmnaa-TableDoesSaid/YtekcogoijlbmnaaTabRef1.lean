/- The document's own table (layer 9): where it lies; step, at. -/
import Derived.Test.YtekcogoijlbmnaaTabI16
import Derived.Test.YtekcogoijlbmnaaTabL1
import Derived.Deep.LoopGhost
import Derived.BigQuiet
namespace Go.Proofs.Ytekcogoijlbmnaa.RefTab
open Go Go.RowKit Go.Proofs.Ytekcogoijlbmnaa.Mem Go.Proofs.Ytekcogoijlbmnaa.Tab Go.Proofs.Ytekcogoijlbmnaa.TabI Go.Proofs.Ytekcogoijlbmnaa.App

/-! ### the place of a text -/
def place (L : Pairs V) (k : ByteArray) : Nat := (L.takeWhile fun p => ltK p.1 k).length
theorem place_le (L : Pairs V) (k : ByteArray) : place L k ≤ L.length := (List.takeWhile_sublist _).length_le
theorem place_eq {L : Pairs V} {k : ByteArray} : ∀ {m : Nat}, m ≤ L.length → (∀ j p, j < m → L[j]? = some p → ltK p.1 k = true) → (∀ p, L[m]? = some p → ltK p.1 k = false) → place L k = m := by
  induction L with
  | nil => intro m hm _ _; simp at hm; rw [hm]; rfl
  | cons p l ih =>
    intro m hm h1 h2
    unfold place
    rcases m with _ | m
    · have := h2 p rfl
      rw [List.takeWhile_cons, this]; rfl
    · have := h1 0 p (by omega) rfl
      rw [List.takeWhile_cons, this]
      have hp := ih (m := m) (by simp at hm; omega) (fun j q hj hq => h1 (j + 1) q (by omega) (by simpa using hq)) (fun q hq => h2 q (by simpa using hq))
      unfold place at hp
      simp [hp]
/-- What there is to say of a text in a rising list. -/
theorem place_get {L : Pairs V} (hr : Rising L) (k : ByteArray) : (∃ v, L[place L k]? = some (k, v) ∧ Tab.get L k = some v ∧ (∀ u, put L k u = L.set (place L k) (k, u)) ∧ del L k = L.take (place L k) ++ L.drop (place L k + 1)) ∨
    ((∀ p, L[place L k]? = some p → p.1 ≠ k) ∧ Tab.get L k = none ∧ (∀ u, put L k u = L.take (place L k) ++ [(k, u)] ++ L.drop (place L k)) ∧ del L k = L) := by
  induction L with
  | nil => exact .inr ⟨fun p hp => by simp at hp, rfl, fun u => rfl, rfl⟩
  | cons p l ih =>
    have hp := List.pairwise_cons.1 hr
    have hlt : ∀ (l : Pairs V), (∀ q ∈ l, ltK p.1 q.1 = true) → (ltK k p.1 = true ∨ p.1 = k) → del l k = l := fun l hl hk => List.filter_eq_self.2 fun q hq => by
      have h1 := hl q hq
      have : q.1 ≠ k := fun e => by
        rcases hk with hk | hk
        · have := ltK_trans hk h1; rw [e, ltK_irrefl] at this; cases this
        · rw [e, hk, ltK_irrefl] at h1; cases h1
      simpa using this
    by_cases h1 : p.1 = k
    · subst h1
      have h0 : place (p :: l) p.1 = 0 := by unfold place; rw [List.takeWhile_cons, ltK_irrefl]; rfl
      rw [h0]
      refine .inl ⟨p.2, rfl, by simp [Tab.get], fun u => by simp [put], ?_⟩
      have : del l p.1 = l := hlt l hp.1 (.inr rfl)
      unfold del at this ⊢
      rw [List.filter_cons]
      simpa using this
    · by_cases h2 : ltK k p.1 = true
      · have h0 : place (p :: l) k = 0 := by unfold place; rw [List.takeWhile_cons, ltK_asymm h2]; rfl
        rw [h0]
        refine .inr ⟨fun q hq => by simp at hq; rw [← hq]; exact h1, ?_, fun u => by simp [put, h1, h2], ?_⟩
        · rw [get_none]
          intro hm
          obtain ⟨q, hq, e⟩ := List.mem_map.1 hm
          rcases List.mem_cons.1 hq with rfl | hq
          · exact h1 e
          · have := ltK_trans h2 (hp.1 q hq)
            rw [e, ltK_irrefl] at this; cases this
        · have : del l k = l := hlt l hp.1 (.inl h2)
          unfold del at this ⊢
          rw [List.filter_cons, this]
          simp [h1]
      · have h3 : ltK p.1 k = true := ltK_total (by simpa using h2) (fun e => h1 e.symm)
        have h0 : place (p :: l) k = place l k + 1 := by unfold place; rw [List.takeWhile_cons, h3]; rfl
        rw [h0]
        have hd : del (p :: l) k = p :: del l k := by unfold del; rw [List.filter_cons]; simp [h1]
        rcases ih hp.2 with ⟨v, e1, e2, e3, e4⟩ | ⟨e1, e2, e3, e4⟩
        · refine .inl ⟨v, by simpa using e1, by simp [Tab.get, h1, e2], fun u => by simp [put, h1, h2, e3], by rw [hd, e4]; simp⟩
        · refine .inr ⟨fun q hq => e1 q (by simpa using hq), by simp [Tab.get, h1, e2], fun u => by simp [put, h1, h2, e3], by rw [hd, e4]⟩

/-! ### where it lies -/
abbrev OwnR (w : World) (v : Value) (L : Pairs V) : Prop := w.ownsRow 0 48 2 v L.length (cellsP L)
def refObj (v : Value) (s : St V) : Obj := .cells #[v, .int .i64 (s.buckets : Nat), .int .i64 (s.left : Nat)] 44 (0, 0)
structure RAtW (w : World) (b : Nat) (G : Nat → Prop) (s : St V) (v : Value) : Prop where
  blk : w.heap[b]? = some (refObj v s)
  row : OwnR w v s.L
  gb : G b
  gr : ∀ g, v.ownBlock = some g → G g
  nb : v.ownBlock ≠ some b
  lt : ∀ k, G k → k < w.heap.size
def RAt (w : World) (b : Nat) (G : Nat → Prop) (s : St V) : Prop := ∃ v, RAtW w b G s v
section
variable {w w' : World} {b : Nat} {G : Nat → Prop} {s : St V} {v v' : Value}
theorem row_same {e : TypeId} {base size n : Nat} {xs : List Value} (h : w.ownsRow base e size v n xs) (hs : ∀ g, v.ownBlock = some g → w'.heap[g]? = w.heap[g]?) : w'.ownsRow base e size v n xs := by
  refine ⟨h.1, ?_⟩
  rcases h.2 with h1 | ⟨g, cap, cur, h1, h2, h3, h4⟩
  · exact .inl h1
  · exact .inr ⟨g, cap, cur, h1, h2, (hs g (by rw [h1]; rfl)).trans h3, h4⟩
theorem RAtW.same (h : RAtW w b G s v) (hs : ∀ k, G k → w'.heap[k]? = w.heap[k]?) (hz : w.heap.size ≤ w'.heap.size) : RAtW w' b G s v :=
  ⟨(hs _ h.gb).trans h.blk, row_same h.row fun g e => hs g (h.gr g e), h.gb, h.gr, h.nb, fun k hk => Nat.lt_of_lt_of_le (h.lt k hk) hz⟩
theorem RAt.same (h : RAt w b G s) (hs : ∀ k, G k → w'.heap[k]? = w.heap[k]?) (hz : w.heap.size ≤ w'.heap.size) : RAt w' b G s := by
  obtain ⟨v, h⟩ := h; exact ⟨v, h.same hs hz⟩
theorem RAt.lt (h : RAt w b G s) : ∀ k, G k → k < w.heap.size := by obtain ⟨_, h⟩ := h; exact h.lt
theorem RAt.below (h : RAt w b G s) (hb : Below w.heap.size w w') : RAt w' b G s := h.same (fun k hk => hb.block k (h.lt k hk)) hb.size
theorem RAt.only {F : Nat → Prop} (h : RAt w b G s) (ho : Only F w w') (hd : ∀ k, G k → ¬ F k) : RAt w' b G s := h.same (fun k hk => ho.same k (h.lt k hk) (hd k hk)) ho.size
/-- A number of the table's own block changes. -/
theorem RAtW.set (h : RAtW w b G s v) (i : Nat) (x : Value) {t : St V} (hL : t.L = s.L) (ho : ((#[v, .int .i64 (s.buckets : Nat), .int .i64 (s.left : Nat)] : Array Value).setIfInBounds i x) = #[v, .int .i64 (t.buckets : Nat), .int .i64 (t.left : Nat)]) :
    RAtW (w.setCell ⟨b, i, none⟩ x) b G t v ∧ Only G w (w.setCell ⟨b, i, none⟩ x) := by
  have hset : ∀ k, k ≠ b → (w.setCell ⟨b, i, none⟩ x).heap[k]? = w.heap[k]? := fun k hk => TabL.set_far hk
  have hz2 : (w.setCell ⟨b, i, none⟩ x).heap.size = w.heap.size := TabL.set_size _ _ _
  refine ⟨⟨?_, ?_, h.gb, h.gr, h.nb, fun k hk => by rw [hz2]; exact h.lt k hk⟩, (Only.refl G w).setCell (p := ⟨b, i, none⟩) (.inl h.gb) x⟩
  · rw [Mem.row_set h.blk i x]
    unfold refObj
    rw [ho]
  · rw [hL]; exact row_same h.row fun g e => hset g (fun e1 => h.nb (e1 ▸ e))
end
def RPost (w : World) (b : Nat) (G : Nat → Prop) (t : St V) (v : Value) (e : Ending) (w' : World) : Prop := ∃ G', e = .returned v ∧ RAt w' b G' t ∧ Only G w w' ∧ Grows w G G'
theorem new_any (w : World) : Calls Try.prog 19 #[] w fun e w' => ∃ b G, e = .returned (.pointer (some ⟨b, 0, none⟩)) ∧ RAt w' b G new ∧ (∀ k, G k → w.heap.size ≤ k) ∧ Below w.heap.size w w' := by
  go_enter Try.func19, Try.ntmps19
  go_wp2
  go_ret
  refine ⟨w.heap.size, fun k => k = w.heap.size, rfl, ⟨.slice none 0 0, ?_, World.ownsRow_nil _ _ _ _, rfl, fun g e => (by cases e), fun e => (by cases e), fun k hk => (by subst hk; simp)⟩, fun k hk => (by omega), Mem.al (Below.refl _ _) _⟩
  exact Mem.new_block w _
theorem step_any {w : World} {b : Nat} {G : Nat → Prop} {s : St V} {v : Value} (h : RAtW w b G s v) (hl : s.left ≤ 1099511627776) : Calls Try.prog 27 #[.pointer (some ⟨b, 0, none⟩)] w fun e w' => e = .returned (.tuple #[]) ∧ RAtW w' b G s.tick v ∧ Only G w w' := by
  have c2 : w.cell? ⟨b, 2, none⟩ = some (.int .i64 (s.left : Nat)) := Mem.row_cell h.blk 2
  have f2 : w.frozen? ⟨b, 2, none⟩ = false := Mem.row_free h.blk 2
  by_cases h0 : s.left = 0
  · have hd : decide (0 < s.left) = false := decide_eq_false (by omega)
    have hd2 : decide ((0 : Int) < (s.left : Int)) = false := decide_eq_false (by omega)
    have e : s.tick = s := by unfold St.tick; rw [h0]; cases s; simp_all
    have HH := Lib.hid h
    rw [e]
    clear h h0 e f2
    generalize s.left = n at *
    go_enter Try.func27, Try.ntmps27
    go_wp2_with fail
    go_end0
    exact ⟨rfl, HH.out, Only.refl _ _⟩
  · have hset := h.set 2 (.int .i64 ((s.left : Int) - 1)) (t := s.tick) rfl (by
      unfold St.tick
      simp
      omega)
    have hp : (0 : Int) < s.left := by omega
    have hp2 : 0 < s.left := by omega
    have hi : (s.left : Int) ≤ 1099511627776 := by omega
    have HH := Lib.hid hset
    clear h h0 hset hl
    generalize s.left = n at *
    go_enter Try.func27, Try.ntmps27
    go_wp2_with fail
    go_end0
    exact ⟨rfl, HH.out⟩
/-- The row behind the table's value: nothing, or from its block's begin. -/
theorem row_shape {w : World} {v : Value} {L : Pairs V} (h : OwnR w v L) : ∃ a c, v = .slice a L.length c ∧ L.length ≤ c ∧ ∀ i p, L[i]? = some p → ∃ g, a = some ⟨g, 0, none⟩ ∧ w.cell? ⟨g, i * 2, none⟩ = some (.string p.1) ∧ w.cell? ⟨g, i * 2 + 1, none⟩ = some (.int .i64 p.2) ∧ w.frozen? ⟨g, i * 2 + 1, none⟩ = false := by
  rcases h.2 with ⟨e1, e2⟩ | ⟨g, cap, cur, e1, _, e2, e3, _, e4, e5⟩
  · have : L = [] := List.eq_nil_of_length_eq_zero (by omega)
    subst this
    exact ⟨none, 0, by rw [e1]; rfl, Nat.le_refl _, fun i k hi => by simp at hi⟩
  · refine ⟨some ⟨g, 0, none⟩, cap, e1, e3, fun i p hi => ⟨g, rfl, ?_⟩⟩
    have hil := (List.getElem?_eq_some_iff.1 hi).1
    obtain ⟨q1, q2⟩ := cellsP_get L i p hi
    have hcell : ∀ m x, m < L.length * 2 → (cellsP L)[m]? = some x → w.cell? ⟨g, m, none⟩ = some x := fun m x hm hx => by
      rw [← e5, List.getElem?_take, if_pos hm, Array.getElem?_toList] at hx
      exact (Mem.row_cell e2 m).trans hx
    exact ⟨hcell _ _ (by omega) q1, hcell _ _ (by omega) q2, Mem.row_free e2 _⟩
set_option maxHeartbeats 1000000 in
theorem at_any {w : World} {b : Nat} {G : Nat → Prop} {s : St V} {v : Value} (h : RAtW w b G s v) (hr : Rising s.L) (k : ByteArray) (hl : s.L.length ≤ 1000000000) :
    Calls Try.prog 28 #[.pointer (some ⟨b, 0, none⟩), .string k] w fun e w' => e = .returned (.tuple #[.int .i64 (place s.L k : Nat), .bool (Tab.get s.L k).isSome]) ∧ ∃ d, w' = w.drewN d := by
  obtain ⟨a, c, rfl, hc, hcell⟩ := row_shape h.row
  have c0 : w.cell? ⟨b, 0, none⟩ = some (.slice a s.L.length c) := Mem.row_cell h.blk 0
  have hpg := Lib.hid (place_get hr k)
  have hHC := Lib.hid hcell
  clear h hcell
  generalize s.L = L at *
  go_enter Try.func28, Try.ntmps28
  go_wp2_with fail
  go_loopg [6] L.length (fun g i wr => ∃ m : Nat, i = .int .i64 m ∧ g + m = L.length ∧ Hid (∀ j p, j < m → L[j]? = some p → ltK p.1 k = true) ∧ wr = w)
  case atStart => exact ⟨0, rfl, by omega, Lib.hid (fun j p h => absurd h (by omega)), rfl⟩
  case round =>
    obtain ⟨m, rfl, hg, hs, rfl⟩ := hrel
    have HG := Lib.hid hg
    clear hg
    by_cases hm : m < L.length
    · obtain ⟨⟨k0, v0⟩, hk0⟩ : ∃ q, L[m]? = some q := ⟨_, List.getElem?_eq_getElem hm⟩
      obtain ⟨g, rfl, cc0, cc1, -⟩ := hHC.out m _ hk0
      have hmi : (m : Int) < L.length := by omega
      have HK := Lib.hid hk0
      clear hk0
      by_cases hlt : ltK k0 k = true
      · have hbl : Op.bytesLess k0.toList k.toList = true := by rw [toList_data, toList_data]; exact hlt
        go_wp2_with fail
        go_roundg (L.length - (m + 1))
        case measure => have := HG.out; omega
        case rel =>
          refine ⟨m + 1, by go_num, by have := HG.out; omega, Lib.hid (fun j p hj hp => ?_), rfl⟩
          by_cases e : j = m
          · subst e; rw [HK.out] at hp; injection hp with hp; subst hp; exact hlt
          · exact hs.out j p (by omega) hp
      · have hbl : Op.bytesLess k0.toList k.toList = false := by rw [toList_data, toList_data]; unfold ltK at hlt; simpa using hlt
        have hpl : place L k = m := place_eq (by omega) hs.out (fun p hp => by rw [HK.out] at hp; injection hp with hp; subst hp; simpa using hlt)
        rw [hpl] at hpg
        have hd : decide (m < L.length) = true := decide_eq_true hm
        have hd2 : decide ((m : Int) < L.length) = true := decide_eq_true hmi
        have HPL := Lib.hid hpl
        clear hlt hpl
        by_cases hkk : k0 = k
        · subst hkk
          have hf : (Tab.get L k0).isSome = true := by
            rcases hpg.out with ⟨u, _, e, _⟩ | ⟨e, _⟩
            · rw [e]; rfl
            · exact absurd rfl (e _ HK.out)
          have HE := Lib.hid hf
          have hse := str_eq k0
          clear hf
          go_wp2_with fail
          go_quiet (fail)
          go_wp2_with fail
          refine bodyPost_ret (v := .tuple #[.int .i64 m, .bool true]) (by simp [results, Try.results28, go_sem]) rfl ?_
          exact ⟨by rw [HPL.out, HE.out], _, rfl⟩
        · have hf : (Tab.get L k).isSome = false := by
            rcases hpg.out with ⟨u, e2, e, _⟩ | ⟨_, e, _⟩
            · rw [HK.out] at e2; injection e2 with e2; injection e2 with e2; exact absurd e2 hkk
            · rw [e]; rfl
          have HE := Lib.hid hf
          have hse := str_ne hkk
          clear hf hkk
          go_wp2_with fail
          go_quiet (fail)
          go_wp2_with fail
          refine bodyPost_ret (v := .tuple #[.int .i64 m, .bool false]) (by simp [results, Try.results28, go_sem]) rfl ?_
          exact ⟨by rw [HPL.out, HE.out], _, rfl⟩
    · have hml : (L.length : Int) ≤ m := by omega
      have hd : decide (m < L.length) = false := decide_eq_false hm
      have hd2 : decide ((m : Int) < L.length) = false := decide_eq_false (by omega)
      have hme : m = L.length := by have := HG.out; omega
      have hpl : place L k = m := place_eq (by omega) hs.out (fun p hp => by rw [hme] at hp; simp at hp)
      rw [hpl] at hpg
      have hf : (Tab.get L k).isSome = false := by
        rcases hpg.out with ⟨u, e2, e, _⟩ | ⟨_, e, _⟩
        · rw [hme] at e2; simp at e2
        · rw [e]; rfl
      have HE := Lib.hid hf
      have HPL := Lib.hid hpl
      clear hme hf hpl hm
      go_wp2_with fail
      go_quiet (fail)
      go_wp2_with fail
      refine bodyPost_ret (v := .tuple #[.int .i64 m, .bool false]) (by simp [results, Try.results28, go_sem]) rfl ?_
      exact ⟨by rw [HPL.out, HE.out], _, rfl⟩
end Go.Proofs.Ytekcogoijlbmnaa.RefTab
