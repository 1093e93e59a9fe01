/- The slab in memory, and the walks of New, Used, Has, number. -/
import Derived.Test.YtohnnlimkmofbaaSlab2
import Derived.StillTailTactics
import Derived.Deep.QuietTactic
import Derived.BigQuiet
namespace Go.Proofs.Ytohnnlimkmofbaa.Slab
open Go Go.RowKit Go.Proofs.Ytohnnlimkmofbaa.Mem

/-- The cells of a slab's struct. -/
def cells (s : St) (mb : Nat) (gv : Nat → Value) : Array Value :=
  #[.int .i64 s.budget, .int .i64 s.used, .map (some mb), gv 0, gv 1, gv 2, gv 3, gv 4, gv 5, .int .i64 (s.made 0), .int .i64 (s.made 1), .int .i64 (s.made 2), .int .i64 (s.made 3), .int .i64 (s.made 4), .int .i64 (s.made 5)]
def pairs (l : List (Int × Int)) : List ((Int × Int) × Value) := l.map fun c => (c, .bool true)

structure AtW (w : World) (b : Nat) (F : Nat → Prop) (s : St) (mb : Nat) (gv : Nat → Value) : Prop where
  blk : w.heap[b]? = some (.cells (cells s mb gv) 51 (0, 0))
  map : Maps.Is encC w mb (pairs s.inn)
  rows : ∀ k, k < 6 → w.ownsRow 0 3 1 (gv k) (s.gone k).length ((s.gone k).map (Value.int .i64))
  fb : F b
  fm : F mb
  fr : ∀ k, k < 6 → ∀ g, (gv k).ownBlock = some g → F g
  apart : ∀ j k, j < 6 → k < 6 → j ≠ k → ∀ g, (gv j).ownBlock = some g → (gv k).ownBlock ≠ some g
  lt : ∀ k, F k → k < w.heap.size

/-- A slab in state s lies at block b, its memory the blocks F. -/
def At (w : World) (b : Nat) (F : Nat → Prop) (s : St) : Prop := ∃ mb gv, AtW w b F s mb gv

structure Small (N : Nat) (s : St) : Prop where
  u0 : 0 ≤ s.used
  u1 : s.used ≤ 2048 * N
  g : ∀ k, (s.gone k).length ≤ N
  m0 : ∀ k, 0 ≤ s.made k
  m1 : ∀ k, s.made k ≤ N
  cls : ∀ c ∈ s.inn, 0 ≤ c.1 ∧ c.1 < 6
  b0 : -9223372036854775808 ≤ s.budget
  b1 : s.budget ≤ 9223372036854775807

section
variable {w w' : World} {b : Nat} {F : Nat → Prop} {s : St} {mb : Nat} {gv : Nat → Value}

theorem cells_gone (k : Nat) (hk : k < 6) : (cells s mb gv)[3 + k]? = some (gv k) := by
  match k, hk with
  | 0, _ | 1, _ | 2, _ | 3, _ | 4, _ | 5, _ => rfl
theorem cells_made (k : Nat) (hk : k < 6) : (cells s mb gv)[9 + k]? = some (.int .i64 (s.made k)) := by
  match k, hk with
  | 0, _ | 1, _ | 2, _ | 3, _ | 4, _ | 5, _ => rfl
theorem cells_set_gone (k : Nat) (hk : k < 6) (v : Value) (l : List Int) : (cells s mb gv).setIfInBounds (3 + k) v = cells { s with gone := put s.gone k l } mb (put gv k v) := by
  match k, hk with
  | 0, _ | 1, _ | 2, _ | 3, _ | 4, _ | 5, _ => rfl
theorem cells_set_made (k : Nat) (hk : k < 6) (n : Int) : (cells s mb gv).setIfInBounds (9 + k) (.int .i64 n) = cells { s with made := put s.made k n } mb gv := by
  match k, hk with
  | 0, _ | 1, _ | 2, _ | 3, _ | 4, _ | 5, _ => rfl
theorem cells_set_used (n : Int) : (cells s mb gv).setIfInBounds 1 (.int .i64 n) = cells { s with used := n } mb gv := rfl

theorem AtW.row_ne (h : AtW w b F s mb gv) {k : Nat} (hk : k < 6) : (gv k).ownBlock ≠ some b := fun e => by
  rcases (h.rows k hk).2 with ⟨e1, _⟩ | ⟨g, cap, cur, e1, _, e2, _⟩
  · rw [e1] at e; simp [Value.ownBlock] at e
  · rw [e1] at e
    have : g = b := by simpa [Value.ownBlock] using e
    subst this
    rw [h.blk] at e2
    injection e2 with e2
    injection e2 with _ e3
    exact absurd e3 (by decide)
theorem AtW.map_ne (h : AtW w b F s mb gv) : mb ≠ b := fun e => by
  obtain ⟨es, c, h1, _⟩ := h.map
  rw [e, h.blk] at h1
  cases h1
theorem AtW.row_map (h : AtW w b F s mb gv) {k : Nat} (hk : k < 6) : (gv k).ownBlock ≠ some mb := fun e => by
  obtain ⟨es, c, h1, _⟩ := h.map
  rcases (h.rows k hk).2 with ⟨e1, _⟩ | ⟨g, cap, cur, e1, _, e2, _⟩
  · rw [e1] at e; simp [Value.ownBlock] at e
  · rw [e1] at e
    have : g = mb := by simpa [Value.ownBlock] using e
    subst this
    rw [h1] at e2
    cases e2
theorem row_same {base : Nat} {e : TypeId} {size n : Nat} {v : Value} {xs : List Value} (h : w.ownsRow base e size v n xs) (hs : ∀ g, v.ownBlock = some g → w'.heap[g]? = w.heap[g]?) : w'.ownsRow base e size v n xs := by
  refine ⟨h.1, ?_⟩
  rcases h.2 with h1 | ⟨g, cap, cur, h1, h2, h3, h4⟩
  · exact .inl h1
  · exact .inr ⟨g, cap, cur, h1, h2, (hs g (by rw [h1]; rfl)).trans h3, h4⟩
/-- What is the slab's lies as it lay. -/
theorem At.same (h : At w b F s) (hs : ∀ k, F k → w'.heap[k]? = w.heap[k]?) (hz : w.heap.size ≤ w'.heap.size) : At w' b F s := by
  obtain ⟨mb, gv, h⟩ := h
  exact ⟨mb, gv, (hs _ h.fb).trans h.blk, h.map.same (hs _ h.fm), fun k hk => row_same (h.rows k hk) fun g e => hs g (h.fr k hk g e), h.fb, h.fm, h.fr, h.apart, fun k hk => Nat.lt_of_lt_of_le (h.lt k hk) hz⟩
theorem At.only {G : Nat → Prop} (h : At w b F s) (ho : Only G w w') (hd : ∀ k, F k → ¬ G k) : At w' b F s := by
  have hl : ∀ k, F k → k < w.heap.size := by obtain ⟨_, _, h⟩ := h; exact h.lt
  exact h.same (fun k hk => ho.same k (hl k hk) (hd k hk)) ho.size
theorem At.below (h : At w b F s) (ho : Below w.heap.size w w') : At w' b F s := by
  have hl : ∀ k, F k → k < w.heap.size := by obtain ⟨_, _, h⟩ := h; exact h.lt
  exact h.same (fun k hk => ho.block k (hl k hk)) ho.size
end

theorem new_any (budget : Int) (w : World) : Calls Try.prog 13 #[.int .i64 budget] w fun e w' =>
    e = .returned (.pointer (some ⟨w.heap.size + 1, 0, none⟩)) ∧ w' = (w.alloc (.map #[] 0)).alloc (.cells (cells (new budget) w.heap.size fun _ => .slice none 0 0) 51) := by
  have hmm := @run_makeMap Try.prog
  go_enter Try.func13, Try.ntmps13
  go_wp2
  go_ret
  exact ⟨rfl, rfl⟩

theorem new_at (budget : Int) (w : World) : At ((w.alloc (.map #[] 0)).alloc (.cells (cells (new budget) w.heap.size fun _ => .slice none 0 0) 51)) (w.heap.size + 1) (fun k => k = w.heap.size ∨ k = w.heap.size + 1) (new budget) := by
  refine ⟨w.heap.size, fun _ => .slice none 0 0, ?_, (Maps.Is.new w).same ?_, fun k _ => World.ownsRow_nil _ _ _ _, .inr rfl, .inl rfl, fun k _ g e => ?_, fun j k _ _ _ g e => ?_, ?_⟩
  · have := Mem.new_block (w.alloc (.map #[] 0)) (.cells (cells (new budget) w.heap.size fun _ => .slice none 0 0) 51)
    rwa [World.size_alloc] at this
  · exact Below.heap_alloc _ _ _ (by simp)
  · cases e
  · cases e
  · rintro k (rfl | rfl) <;> simp <;> omega
/-- New: a slab of which no chunk is in use. -/
theorem new_gives (budget : Int) (w : World) : Calls Try.prog 13 #[.int .i64 budget] w fun e w' =>
    ∃ (b : Nat) (F : Nat → Prop), e = .returned (.pointer (some ⟨b, 0, none⟩)) ∧ At w' b F (new budget) ∧ (∀ k, F k → w.heap.size ≤ k) ∧ Below w.heap.size w w' :=
  (new_any budget w).mono fun e w' ⟨he, hw⟩ => by
    subst hw
    exact ⟨_, _, he, new_at budget w, fun k hk => by omega, Mem.al (Mem.al (Below.refl _ _) _) _⟩

theorem used_any {w : World} {b : Nat} {F : Nat → Prop} {s : St} (h : At w b F s) : Calls Try.prog 15 #[.pointer (some ⟨b, 0, none⟩)] w fun e w' => e = .returned (.int .i64 s.used) ∧ w = w' := by
  obtain ⟨mb, gv, h⟩ := h
  have c1 : w.cell? ⟨b, 1, none⟩ = some (.int .i64 s.used) := Mem.row_cell h.blk 1
  clear h
  go_enter Try.func15, Try.ntmps15
  go_wp2
  go_ret
  exact ⟨rfl, rfl⟩

theorem get_pairs (l : List (Int × Int)) (c : Int × Int) : Maps.get (pairs l) c = if c ∈ l then some (.bool true) else none := by
  induction l with
  | nil => rfl
  | cons p l ih =>
    simp only [pairs, List.map_cons, Maps.get, List.mem_cons] at ih ⊢
    by_cases h : c = p
    · rw [if_pos h, if_pos (.inl h)]
    · rw [if_neg h, ih]; simp [h]
theorem zeroBool (w : World) : (zeroValue 4).run Try.prog w = .ok (.bool false) w := by kernel_rfl
theorem lookup_pairs {w : World} {mb : Nat} {l : List (Int × Int)} (h : Maps.Is encC w mb (pairs l)) (c n : Int) :
    (Instr.lookup 46 (.map (some mb)) (.agg #[.int .i64 c, .int .i64 n]) false).run Try.prog w = .ok (.bool (decide ((c, n) ∈ l))) w := by
  have := Maps.run_lookup chunkLaw Try.underlying46 zeroBool h (c, n)
  rw [get_pairs] at this
  refine this.trans ?_
  by_cases hm : (c, n) ∈ l <;> simp [hm]

set_option maxHeartbeats 400000 in
theorem has_any {w : World} {b : Nat} {F : Nat → Prop} {s : St} (h : At w b F s) (c n : Int) :
    Calls Try.prog 17 #[.pointer (some ⟨b, 0, none⟩), .agg #[.int .i64 c, .int .i64 n]] w fun e w' => e = .returned (.bool (decide ((c, n) ∈ s.inn))) ∧ Below w.heap.size w w' := by
  have hat := h
  obtain ⟨mb, gv, h⟩ := h
  have c2 : w.cell? ⟨b, 2, none⟩ = some (.map (some mb)) := Mem.row_cell h.blk 2
  have hb : b < w.heap.size := h.lt _ h.fb
  have hml := h.map.lt
  have hlk : ∀ m, (Instr.lookup 46 (.map (some mb)) (.agg #[.int .i64 c, .int .i64 n]) false).run Try.prog ((w.alloc (.cells #[.int .i64 c, .int .i64 n] 34)).drewN m) = .ok (.bool (decide ((c, n) ∈ s.inn))) ((w.alloc (.cells #[.int .i64 c, .int .i64 n] 34)).drewN m) := fun m =>
    lookup_pairs (h.map.same (by show (w.alloc _).heap[mb]? = _; exact Below.heap_alloc _ _ _ hml)) c n
  clear h hat
  go_enter Try.func17, Try.ntmps17
  go_wp2
  go_quiet (fail)
  go_wp2
  go_ret
  exact ⟨rfl, Mem.dn (Mem.al (Below.refl _ _) _) _⟩
end Go.Proofs.Ytohnnlimkmofbaa.Slab
