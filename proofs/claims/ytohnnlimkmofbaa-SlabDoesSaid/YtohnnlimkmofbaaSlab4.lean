/- The walks of the slab's number, Fits, Take, Free. -/
import Derived.Test.YtohnnlimkmofbaaSlab3
import Derived.Outline
namespace Go.Proofs.Ytohnnlimkmofbaa.Slab
open Go Go.RowKit Go.Proofs.Ytohnnlimkmofbaa.Mem

/-- What number comes to. -/
def NumberPost (w : World) (b : Nat) (F : Nat → Prop) (s : St) (k : Nat) (e : Ending) (w' : World) : Prop :=
  e = .returned (.int .i64 (s.number k).1) ∧ At w' b F (s.number k).2 ∧ Only F w w'

theorem AtW.setGone {w : World} {b : Nat} {F : Nat → Prop} {s : St} {mb : Nat} {gv : Nat → Value} (h : AtW w b F s mb gv) {k : Nat} (hk : k < 6) (v : Value) (l : List Int)
    (hv : w.ownsRow 0 3 1 v l.length (l.map (Value.int .i64))) (hown : v.ownBlock = (gv k).ownBlock ∨ v.ownBlock = none) :
    AtW (w.setCell ⟨b, 3 + k, none⟩ v) b F { s with gone := put s.gone k l } mb (put gv k v) := by
  have hsame : ∀ j, j ≠ b → (w.setCell ⟨b, 3 + k, none⟩ v).heap[j]? = w.heap[j]? := fun j hj => Below.heap_setCell _ _ _ _ hj
  have hvb : v.ownBlock ≠ some b := fun e => by
    rcases hown with h1 | h1
    · exact h.row_ne hk (h1 ▸ e)
    · rw [h1] at e; cases e
  refine ⟨?_, h.map.same (hsame _ h.map_ne), fun j hj => ?_, h.fb, h.fm, fun j hj g e => ?_, fun i j hi hj hij g e e' => ?_, fun j hj => Nat.lt_of_lt_of_le (h.lt j hj) (by simp [World.setCell])⟩
  · have := Mem.row_set h.blk (3 + k) v
    rwa [cells_set_gone k hk v l] at this
  · by_cases hjk : j = k
    · subst hjk
      simp only [put_same]
      exact row_same hv fun g e => hsame g (fun e' => hvb (e' ▸ e))
    · simp only [put_other _ _ hjk]
      exact row_same (h.rows j hj) fun g e => hsame g (fun e' => h.row_ne hj (e' ▸ e))
  · by_cases hjk : j = k
    · subst hjk
      rw [put_same] at e
      rcases hown with h1 | h1
      · exact h.fr j hj g (h1 ▸ e)
      · rw [h1] at e; cases e
    · rw [put_other _ _ hjk] at e
      exact h.fr j hj g e
  · by_cases hik : i = k
    · subst hik
      rw [put_same] at e
      rw [put_other _ _ (Ne.symm hij)] at e'
      rcases hown with h1 | h1
      · exact h.apart i j hi hj hij g (h1 ▸ e) e'
      · rw [h1] at e; cases e
    · rw [put_other _ _ hik] at e
      by_cases hjk : j = k
      · subst hjk
        rw [put_same] at e'
        rcases hown with h1 | h1
        · exact h.apart i j hi hj hij g e (h1 ▸ e')
        · rw [h1] at e'; cases e'
      · rw [put_other _ _ hjk] at e'
        exact h.apart i j hi hj hij g e e'
/-- A store into one of the struct's own plain cells. -/
theorem AtW.setOwn {w : World} {b : Nat} {F : Nat → Prop} {s t : St} {mb : Nat} {gv : Nat → Value} (h : AtW w b F s mb gv) (i : Nat) (v : Value) (hc : (cells s mb gv).setIfInBounds i v = cells t mb gv)
    (hi : t.inn = s.inn) (hg : t.gone = s.gone) : AtW (w.setCell ⟨b, i, none⟩ v) b F t mb gv := by
  have hsame : ∀ j, j ≠ b → (w.setCell ⟨b, i, none⟩ v).heap[j]? = w.heap[j]? := fun j hj => Below.heap_setCell _ _ _ _ hj
  refine ⟨?_, ?_, fun j hj => ?_, h.fb, h.fm, h.fr, h.apart, fun j hj => Nat.lt_of_lt_of_le (h.lt j hj) (by simp [World.setCell])⟩
  · have := Mem.row_set h.blk i v
    rwa [hc] at this
  · rw [hi]; exact h.map.same (hsame _ h.map_ne)
  · rw [hg]; exact row_same (h.rows j hj) fun g e => hsame g (fun e' => h.row_ne hj (e' ▸ e))

theorem number_none {s : St} {k : Nat} (h : s.gone k = []) : s.number k = (s.made k, { s with made := put s.made k (s.made k + 1) }) := by unfold St.number; rw [h]; rfl
theorem number_some {s : St} {k : Nat} (h : s.gone k ≠ []) : s.number k = ((s.gone k).getLast h, { s with gone := put s.gone k (s.gone k).dropLast }) := by
  unfold St.number; rw [List.getLast?_eq_some_getLast h]

set_option maxHeartbeats 1000000 in
theorem number_new {w : World} {b : Nat} {F : Nat → Prop} {s : St} (h : At w b F s) (k : Nat) (hk : k < 6) (m0 : 0 ≤ s.made k) (m1 : s.made k ≤ 1099511627776) (hg : s.gone k = []) :
    Calls Try.prog 25 #[.pointer (some ⟨b, 0, none⟩), .int .i64 k] w (NumberPost w b F s k) := by
  obtain ⟨mb, gv, h⟩ := h
  have ck : w.cell? ⟨b, 3 + k, none⟩ = some (gv k) := (Mem.row_cell h.blk (3 + k)).trans (cells_gone k hk)
  have cm : w.cell? ⟨b, 9 + k, none⟩ = some (.int .i64 (s.made k)) := (Mem.row_cell h.blk (9 + k)).trans (cells_made k hk)
  have fm := Mem.row_free h.blk (9 + k)
  obtain ⟨A, c, hv⟩ : ∃ A c, gv k = .slice A 0 c := by
    have hr := h.rows k hk
    rw [hg] at hr
    rcases hr.2 with ⟨e1, _⟩ | ⟨g, cap, cur, e1, _⟩
    · exact ⟨_, _, e1⟩
    · exact ⟨_, _, e1⟩
  rw [hv] at ck
  have hk0 : (0 : Int) ≤ k := by omega
  have hk6 : (k : Int) < 6 := by omega
  have hfin : ∀ w', w' = (w.setCell ⟨b, 9 + k, none⟩ (.int .i64 (s.made k + 1))).drew → NumberPost w b F s k (.returned (.int .i64 (s.made k))) w' := fun w' e => by
    subst e
    unfold NumberPost
    rw [number_none hg]
    exact ⟨rfl, At.same (w := w.setCell ⟨b, 9 + k, none⟩ (.int .i64 (s.made k + 1))) ⟨mb, gv, h.setOwn (t := { s with made := put s.made k (s.made k + 1) }) (9 + k) _ (cells_set_made k hk _) rfl rfl⟩ (fun _ _ => rfl) (Nat.le_refl _), ((Only.refl F w).setCell (.inl h.fb) _).drew⟩
  have hmk : s.made k + 1 - 1 = s.made k := by omega
  generalize s.made k = m at *
  clear hv h hg
  have HK := Lib.hid hmk
  clear hmk hk
  go_enter Try.func25, Try.ntmps25
  go_wp2
  refine wp_region_still_tail 10 (by kernel_rfl) (by kernel_rfl) ?_
  simp only [List.take_succ_cons, List.take_zero, List.drop_succ_cons, List.drop_zero]
  repeat still_step
  refine wpStill_nil ?_
  change wpList _ _ _ _ _ w.drew
  go_wp2
  go_ret
  exact hfin _ rfl

theorem row_pop {w : World} {base : Nat} {e : TypeId} {g n cap : Nat} {xs : List Value} (h : w.ownsRow base e 1 (.slice (some ⟨g, 0, none⟩) (n + 1) cap) (n + 1) xs) : w.ownsRow base e 1 (.slice (some ⟨g, 0, none⟩) n cap) n xs.dropLast := by
  have hl : xs.length = n + 1 := by have := h.1; omega
  refine ⟨by simp [hl], ?_⟩
  rcases h.2 with ⟨h1, _⟩ | ⟨g', cap', cur, h1, h2, h3, h4, h5, h6, h7⟩
  · cases h1
  · injection h1 with e1 _ e2
    injection e1 with e1
    injection e1 with e1
    subst e1; subst e2
    refine .inr ⟨g, cap, cur, rfl, h2, h3, by omega, h5, h6, ?_⟩
    rw [← h7, List.dropLast_eq_take, List.length_take, List.take_take]
    have : cur.toList.length = cap := by simp [h6]
    rw [this]
    congr 1
    omega

set_option maxHeartbeats 1000000 in
theorem number_old {w : World} {b : Nat} {F : Nat → Prop} {s : St} (h : At w b F s) (k : Nat) (hk : k < 6) (hg : s.gone k ≠ []) (hlen : (s.gone k).length ≤ 1099511627776) :
    Calls Try.prog 25 #[.pointer (some ⟨b, 0, none⟩), .int .i64 k] w (NumberPost w b F s k) := by
  obtain ⟨mb, gv, h⟩ := h
  obtain ⟨n, hn⟩ : ∃ n, (s.gone k).length = n + 1 := ⟨(s.gone k).length - 1, by have := List.length_pos_iff.2 hg; omega⟩
  have hr := h.rows k hk
  rw [hn] at hr hlen
  obtain ⟨g, cap, cur, hv, _, hgb, hcap, hcap', hcur⟩ := Mem.row_block hr
  have ck : w.cell? ⟨b, 3 + k, none⟩ = some (gv k) := (Mem.row_cell h.blk (3 + k)).trans (cells_gone k hk)
  have fk := Mem.row_free h.blk (3 + k)
  have hlast : ((s.gone k).map (Value.int .i64))[n]? = some (.int .i64 ((s.gone k).getLast hg)) := by
    rw [List.getElem?_map, List.getLast_eq_getElem, List.getElem?_eq_getElem (by omega)]
    simp [hn]
  have hgb' : g ≠ b := fun e => h.row_ne hk (by rw [hv, e]; rfl)
  have cl : (w.setCell ⟨b, 3 + k, none⟩ (.slice (some ⟨g, 0, none⟩) n cap)).cell? ⟨g, n, none⟩ = some (.int .i64 ((s.gone k).getLast hg)) := by
    rw [World.cell?_setCell_other _ _ _ _ (by intro e; injection e with e1; exact hgb' e1.symm)]
    exact (Mem.row_cell hgb n).trans (hcur n _ hlast)
  have hk0 : (0 : Int) ≤ k := by omega
  have hk6 : (k : Int) < 6 := by omega
  have hfin : ∀ w', w' = (w.setCell ⟨b, 3 + k, none⟩ (.slice (some ⟨g, 0, none⟩) n cap)).drew → NumberPost w b F s k (.returned (.int .i64 ((s.gone k).getLast hg))) w' := fun w' e => by
    subst e
    unfold NumberPost
    rw [number_some hg]
    rw [hv] at hr
    have hrow := row_pop hr
    refine ⟨rfl, At.same (w := w.setCell ⟨b, 3 + k, none⟩ (.slice (some ⟨g, 0, none⟩) n cap)) ⟨mb, _, h.setGone hk _ (s.gone k).dropLast ?_ (.inl (by rw [hv]; rfl))⟩ (fun _ _ => rfl) (Nat.le_refl _), ((Only.refl F w).setCell (.inl h.fb) _).drew⟩
    rw [List.length_dropLast, hn, List.map_dropLast]
    exact hrow
  rw [hv] at ck
  generalize (s.gone k).getLast hg = x at *
  have HN := Lib.hid hn
  have hw1 : IntKind.i64.wrap (n : Int) = n := by rw [IntKind.wrap_i64]; omega
  have hw2 : (n : Int) ≤ cap := by omega
  have hw3 : (0 : Int) ≤ n := by omega
  clear hr hv h hgb hcur hlast hn
  go_enter Try.func25, Try.ntmps25
  go_wp2
  refine wp_region_still_tail 10 (by kernel_rfl) (by kernel_rfl) ?_
  simp only [List.take_succ_cons, List.take_zero, List.drop_succ_cons, List.drop_zero]
  repeat still_step
  refine wpStill_nil ?_
  change wpList _ _ _ _ _ w.drew
  go_wp2
  go_ret
  exact hfin _ rfl

theorem number_any {w : World} {b : Nat} {F : Nat → Prop} {s : St} (h : At w b F s) {N : Nat} (hs : Small N s) (hN : N ≤ 1099511627776) (k : Nat) (hk : k < 6) :
    Calls Try.prog 25 #[.pointer (some ⟨b, 0, none⟩), .int .i64 k] w (NumberPost w b F s k) := by
  by_cases hg : s.gone k = []
  · exact number_new h k hk (hs.m0 k) (by have := hs.m1 k; omega) hg
  · exact number_old h k hk hg (Nat.le_trans (hs.g k) hN)

theorem classE_ok {size : Int} (h : classN size < 6) : classE size = 0 ∧ classR size = (classN size : Nat) := by unfold classE classR; rw [if_neg (by omega), if_neg (by omega)]; exact ⟨rfl, rfl⟩
theorem classE_no {size : Int} (h : classN size = 6) : classE size = 4 ∧ classR size = 0 := by unfold classE classR; rw [if_pos h, if_pos h]; exact ⟨rfl, rfl⟩

set_option maxHeartbeats 1000000 in
theorem fits_any {w : World} {b : Nat} {F : Nat → Prop} {s : St} (h : At w b F s) {N : Nat} (hs : Small N s) (hN : N ≤ 1099511627776) (size less : Int) (hl : -9223372036854775808 ≤ less ∧ less ≤ 9223372036854775807) :
    Calls Try.prog 22 #[.pointer (some ⟨b, 0, none⟩), .int .i64 size, .int .i64 less] w fun e w' => e = .returned (.bool (s.fits size less)) ∧ ∃ n, w' = w.drewN n := by
  obtain ⟨mb, gv, h⟩ := h
  have c0 : w.cell? ⟨b, 0, none⟩ = some (.int .i64 s.budget) := Mem.row_cell h.blk 0
  have c1 : w.cell? ⟨b, 1, none⟩ = some (.int .i64 s.used) := Mem.row_cell h.blk 1
  have u0 := hs.u0
  have u1 : s.used ≤ 2251799813685248 := by have := hs.u1; omega
  obtain ⟨l0, l1⟩ := hl
  clear h hs
  by_cases h6 : classN size = 6
  · have hr : s.fits size less = false := by unfold St.fits; simp [h6]
    rw [hr]
    have e0 : (classE size == 0) = false := by rw [(classE_no h6).1]; rfl
    clear h6 hr
    go_enter Try.func22, Try.ntmps22
    go_wp2_with (go_at_call 9; refine (class_any _ _).mono ?_; rintro e w' ⟨rfl, rfl⟩)
    go_quiet (fail)
    go_wp2
    go_ret
    exact ⟨rfl, _, rfl⟩
  have hc := class_six size
  have e0 : (classE size == 0) = true := by rw [(classE_ok (by omega)).1]; rfl
  have er : classR size = (classN size : Nat) := (classE_ok (by omega)).2
  have hb := bytes_range (classN size : Nat)
  by_cases h0 : 0 ≤ less
  case neg =>
    have hr : s.fits size less = false := by unfold St.fits; simp; intros; omega
    rw [hr]
    have d0 : decide ((0 : Int) ≤ less) = false := by simpa using h0
    clear h6 hr er hb hc h0
    go_enter Try.func22, Try.ntmps22
    go_wp2_with (go_at_call 9; refine (class_any _ _).mono ?_; rintro e w' ⟨rfl, rfl⟩)
    go_quiet (fail)
    go_wp2
    go_ret
    exact ⟨rfl, _, rfl⟩
  have d0 : decide ((0 : Int) ≤ less) = true := by simpa using h0
  by_cases h1 : less ≤ s.used
  case neg =>
    have hr : s.fits size less = false := by unfold St.fits; simp; intros; omega
    rw [hr]
    have d1 : decide (less ≤ s.used) = false := by simpa using h1
    clear h6 hr er hb hc h1
    go_enter Try.func22, Try.ntmps22
    go_wp2_with (go_at_call 9; refine (class_any _ _).mono ?_; rintro e w' ⟨rfl, rfl⟩)
    go_quiet (fail)
    go_wp2
    go_ret
    exact ⟨rfl, _, rfl⟩
  have d1 : decide (less ≤ s.used) = true := by simpa using h1
  have hr : s.fits size less = decide (s.used - less + bytesI (classR size) ≤ s.budget) := by
    unfold St.fits; rw [er]
    by_cases hx : s.used - less + bytesI ((classN size : Nat) : Int) ≤ s.budget
    · simp [hx, h0, h1]; omega
    · simp [hx]
  rw [hr]
  rw [← er] at hb
  obtain ⟨hb0, hb1⟩ := hb
  have w1 : IntKind.i64.wrap (s.used - less) = s.used - less := by rw [IntKind.wrap_i64]; omega
  have w2 : IntKind.i64.wrap (s.used - less + bytesI (classR size)) = s.used - less + bytesI (classR size) := by rw [IntKind.wrap_i64]; omega
  clear h6 hr er hc
  go_enter Try.func22, Try.ntmps22
  go_wp2_with (go_at_call 9; refine (class_any _ _).mono ?_; rintro e w' ⟨rfl, rfl⟩)
  go_quiet ((go_at_call 11; exact Calls.quiet_of_same ((bytes_any _ _).mono fun _ _ ⟨h, e⟩ => ⟨h, e.symm⟩)))
  go_wp2
  go_ret
  exact ⟨rfl, _, rfl⟩
end Go.Proofs.Ytohnnlimkmofbaa.Slab
