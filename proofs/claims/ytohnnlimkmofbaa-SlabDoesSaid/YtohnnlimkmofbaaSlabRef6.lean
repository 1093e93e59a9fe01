/- The document's own slab of layer 7: Take. -/
import Derived.Test.YtohnnlimkmofbaaSlabRef5
namespace Go.Proofs.Ytohnnlimkmofbaa.RefSlab
open Go Go.RowKit Go.Proofs.Ytohnnlimkmofbaa.Slab Go.Proofs.Ytohnnlimkmofbaa.Mem

/-- The last of a class, among those that were let go. -/
def IsLast (l : List (Int × Int)) (k : Int) (a : Nat) (n : Int) : Prop := l[a]? = some (k, n) ∧ ∀ i c, a < i → l[i]? = some c → c.1 ≠ k
def NoClass (l : List (Int × Int)) (k : Int) : Prop := ∀ (i : Nat) c, l[i]? = some c → c.1 ≠ k
def rtook (r : RSt) (c : Int × Int) : RSt := { r with inn := r.inn ++ [c] }
def RTook (r : RSt) (size : Int) (c n err : Int) (r' : RSt) : Prop :=
  (classN size = 6 ∧ (c, n, err) = (0, 0, 4) ∧ r' = r) ∨
  (classN size < 6 ∧ r.budget < total r.inn + bytesI (classN size) ∧ (c, n, err) = (0, 0, 5) ∧ r' = r) ∨
  (classN size < 6 ∧ ¬ r.budget < total r.inn + bytesI (classN size) ∧ c = (classN size : Nat) ∧ err = 0 ∧
    ((NoClass r.gone c ∧ n = r.made (classN size) ∧ r' = rtook { r with made := put r.made (classN size) (r.made (classN size) + 1) } (c, n)) ∨
     (∃ a, IsLast r.gone c a n ∧ r' = rtook { r with gone := r.gone.take a ++ r.gone.drop (a + 1) } (c, n))))
def RTakePost (w : World) (b : Nat) (F : Nat → Prop) (r : RSt) (size : Int) (e : Ending) (w' : World) : Prop :=
  ∃ c n err r' F', e = .returned (.tuple #[.agg #[.int .i64 c, .int .i64 n], .int .i64 err]) ∧ RAt w' b F' r' ∧ Only F w w' ∧ Grows w F F' ∧ RTook r size c n err r'
def LastTo (l : List (Int × Int)) (k : Int) (m : Nat) (a : Int) : Prop :=
  (a = -1 ∧ ∀ i c, i < m → l[i]? = some c → c.1 ≠ k) ∨ (∃ (j : Nat) (n : Int), a = (j : Int) ∧ j < m ∧ l[j]? = some (k, n) ∧ ∀ i c, j < i → i < m → l[i]? = some c → c.1 ≠ k)
theorem LastTo.skip {l : List (Int × Int)} {k : Int} {m : Nat} {a : Int} (h : LastTo l k m a) {c : Int × Int} (hc : l[m]? = some c) (hne : c.1 ≠ k) : LastTo l k (m + 1) a := by
  rcases h with ⟨h1, h2⟩ | ⟨j, n, h1, h2, h3, h4⟩
  · refine .inl ⟨h1, fun i d hi hd => ?_⟩
    by_cases e : i = m
    · subst e; rw [hc] at hd; injection hd with hd; subst hd; exact hne
    · exact h2 i d (by omega) hd
  · refine .inr ⟨j, n, h1, by omega, h3, fun i d hj hi hd => ?_⟩
    by_cases e : i = m
    · subst e; rw [hc] at hd; injection hd with hd; subst hd; exact hne
    · exact h4 i d hj (by omega) hd
theorem LastTo.take {l : List (Int × Int)} {k : Int} {m : Nat} {n : Int} (hc : l[m]? = some (k, n)) : LastTo l k (m + 1) (m : Int) := .inr ⟨m, n, rfl, by omega, hc, fun i d hj hi => by omega⟩
theorem mcells_set (r : RSt) {k : Nat} (hk : k < 6) (v : Int) : (mcells r).setIfInBounds k (.int .i64 v) = mcells { r with made := put r.made k v } := by
  match k, hk with
  | 0, _ | 1, _ | 2, _ | 3, _ | 4, _ | 5, _ => rfl
theorem RAtW.mde {w : World} {b : Nat} {F : Nat → Prop} {r : RSt} {vi vg : Value} {gm : Nat} (h : RAtW w b F r vi vg gm) {k : Nat} (hk : k < 6) (v : Int) : RAtW (w.setCell ⟨gm, k, none⟩ (.int .i64 v)) b F { r with made := put r.made k v } vi vg gm := by
  have hbm : gm ≠ b := fun e => by have h1 := h.blk; rw [← e, h.mad] at h1; injection h1 with h1; injection h1 with _ h1; exact absurd h1 (by decide)
  have hvi : vi.ownBlock ≠ some gm := row_not h.ri h.mad (by decide)
  have hvg : vg.ownBlock ≠ some gm := row_not h.rg h.mad (by decide)
  have hset : ∀ j, j ≠ gm → (w.setCell ⟨gm, k, none⟩ (.int .i64 v)).heap[j]? = w.heap[j]? := fun j hj => Below.heap_setCell _ _ _ _ hj
  refine ⟨(hset b (fun e => hbm e.symm)).trans h.blk, ?_, row_same h.ri fun g e => hset g (fun e1 => hvi (by rw [e, e1])), row_same h.rg fun g e => hset g (fun e1 => hvg (by rw [e, e1])), h.fb, h.fm, h.fi, h.fg, h.apart, fun j hj => Nat.lt_of_lt_of_le (h.lt j hj) (by simp [World.setCell])⟩
  have := Mem.row_set h.mad k (.int .i64 v)
  rw [mcells_set r hk v] at this
  exact this
section
variable {w : World} {b : Nat} {F : Nat → Prop} {r : RSt}
theorem take_long (h : RAt w b F r) (size : Int) (h6 : classN size = 6) :
    Calls Try.prog 19 #[.pointer (some ⟨b, 0, none⟩), .int .i64 size] w (RTakePost w b F r size) := by
  have hfin : ∀ w', Below w.heap.size w w' → RTakePost w b F r size (.returned (.tuple #[.agg #[.int .i64 0, .int .i64 0], .int .i64 4])) w' := fun w' hb =>
    ⟨0, 0, 4, r, F, rfl, h.below hb, Only.of_below hb (fun k h1 h2 => by omega), Grows.refl _ _, .inl ⟨h6, rfl, rfl⟩⟩
  have HF := Lib.hid hfin
  obtain ⟨e1, er⟩ := classE_no h6
  have e0 : (classE size != 0) = true := by rw [e1]; rfl
  clear h hfin h6 er
  go_enter Try.func19, Try.ntmps19
  go_wp2_with (go_at_call 10; refine (rclass_any _ _).mono ?_; rintro e w' ⟨rfl, rfl⟩)
  have r0 : (w.alloc (.cells #[.int .i64 0, .int .i64 0] 34)).cell? ⟨w.heap.size, 0, none⟩ = some (.int .i64 0) := Mem.row_cell (Mem.new_block w _) 0
  have r1 : (w.alloc (.cells #[.int .i64 0, .int .i64 0] 34)).cell? ⟨w.heap.size, 1, none⟩ = some (.int .i64 0) := Mem.row_cell (Mem.new_block w _) 1
  refine bodyPost_ret (v := .tuple #[.agg #[.int .i64 0, .int .i64 0], .int .i64 4]) (by simp [results, Try.results19, go_sem, r0, r1]) rfl ?_
  exact HF.out _ (Mem.al (Below.refl _ _) _)
theorem take_full (h : RAt w b F r) (hl : r.inn.length ≤ 1000000) (hbud : -9223372036854775808 ≤ r.budget ∧ r.budget ≤ 9223372036854775807) (size : Int) (h6 : classN size < 6) (hx : r.budget < total r.inn + bytesI (classN size)) :
    Calls Try.prog 19 #[.pointer (some ⟨b, 0, none⟩), .int .i64 size] w (RTakePost w b F r size) := by
  have hfin : ∀ w', Below w.heap.size w w' → RTakePost w b F r size (.returned (.tuple #[.agg #[.int .i64 0, .int .i64 0], .int .i64 5])) w' := fun w' hb =>
    ⟨0, 0, 5, r, F, rfl, h.below hb, Only.of_below hb (fun k h1 h2 => by omega), Grows.refl _ _, .inr (.inl ⟨h6, hx, rfl, rfl⟩)⟩
  have HF := Lib.hid hfin
  have h1 : RAt (w.alloc (.cells #[.int .i64 0, .int .i64 0] 34)) b F r := h.below (Mem.al (Below.refl _ _) _)
  have hu := fun n => used_any (h1.same (w' := (w.alloc (.cells #[.int .i64 0, .int .i64 0] 34)).drewN n) (fun _ _ => rfl) (Nat.le_refl _)) hl
  have c0 : (w.alloc (.cells #[.int .i64 0, .int .i64 0] 34)).cell? ⟨b, 0, none⟩ = some (.int .i64 r.budget) := by obtain ⟨vi, vg, gm, h1⟩ := h1; exact Mem.row_cell h1.blk 0
  have u0 := total_pos r.inn
  have u1 := total_most r.inn
  have u2 : total r.inn ≤ 2251799813685248 := by omega
  obtain ⟨e1, er⟩ := classE_ok h6
  have e0 : (classE size != 0) = false := by rw [e1]; rfl
  rw [← er] at hx
  obtain ⟨hb0, hb1⟩ := bytes_range (classR size)
  have w2 : IntKind.i64.wrap (total r.inn + bytesI (classR size)) = total r.inn + bytesI (classR size) := by rw [IntKind.wrap_i64]; omega
  have r0 : (w.alloc (.cells #[.int .i64 0, .int .i64 0] 34)).cell? ⟨w.heap.size, 0, none⟩ = some (.int .i64 0) := Mem.row_cell (Mem.new_block w _) 0
  have r1 : (w.alloc (.cells #[.int .i64 0, .int .i64 0] 34)).cell? ⟨w.heap.size, 1, none⟩ = some (.int .i64 0) := Mem.row_cell (Mem.new_block w _) 1
  have HB : Below w.heap.size w (w.alloc (.cells #[.int .i64 0, .int .i64 0] 34)) := Mem.al (Below.refl _ _) _
  have HB := Lib.hid HB
  clear h h1 h6 er e1 hfin
  generalize total r.inn = u at *
  go_enter Try.func19, Try.ntmps19
  go_wp2_with (go_at_call 10; refine (rclass_any _ _).mono ?_; rintro e w' ⟨rfl, rfl⟩)
  go_quiet (first | (go_at_call 24; exact Calls.quiet_of_same ((hu _).mono fun _ _ ⟨h, e⟩ => ⟨h, e.symm⟩)) | (go_at_call 12; exact Calls.quiet_of_same ((rbytes_any _ _).mono fun _ _ ⟨h, e⟩ => ⟨h, e.symm⟩)))
  go_wp2
  generalize w.alloc (.cells #[.int .i64 0, .int .i64 0] 34) = A at *
  have q1 : (((A.drewN nq).setCell ⟨w.heap.size, 0, none⟩ (.int .i64 0)).setCell ⟨w.heap.size, 1, none⟩ (.int .i64 0)).cell? ⟨w.heap.size, 1, none⟩ = some (.int .i64 0) :=
    World.cell?_setCell_same' _ _ _ (by rw [World.cell?_setCell_other _ _ _ _ (by simp)]; exact (congrArg Option.isSome (show (A.drewN nq).cell? ⟨w.heap.size, 1, none⟩ = _ from r1)))
  have q0 : (((A.drewN nq).setCell ⟨w.heap.size, 0, none⟩ (.int .i64 0)).setCell ⟨w.heap.size, 1, none⟩ (.int .i64 0)).cell? ⟨w.heap.size, 0, none⟩ = some (.int .i64 0) := by
    rw [World.cell?_setCell_other _ _ _ _ (by simp)]
    exact World.cell?_setCell_same' _ _ _ (congrArg Option.isSome (show (A.drewN nq).cell? ⟨w.heap.size, 0, none⟩ = _ from r0))
  refine bodyPost_ret (v := .tuple #[.agg #[.int .i64 0, .int .i64 0], .int .i64 5]) (by simp [results, Try.results19, go_sem, q0, q1]) rfl ?_
  exact HF.out _ (Mem.sc (Mem.sc (Mem.dn HB.out nq) (p := ⟨w.heap.size, 0, none⟩) (Nat.le_refl _) _) (p := ⟨w.heap.size, 1, none⟩) (Nat.le_refl _) _)
set_option maxRecDepth 20000 in
set_option maxHeartbeats 4000000 in
theorem take_ok (h : RAt w b F r) (hl : r.inn.length ≤ 1000000) (hl2 : r.gone.length ≤ 1000000) (hm : ∀ k, 0 ≤ r.made k ∧ r.made k ≤ 1000000) (hbud : -9223372036854775808 ≤ r.budget ∧ r.budget ≤ 9223372036854775807) (size : Int) (h6 : classN size < 6) (hx : ¬ r.budget < total r.inn + bytesI (classN size)) :
    Calls Try.prog 19 #[.pointer (some ⟨b, 0, none⟩), .int .i64 size] w (RTakePost w b F r size) := by
  have hst : Below w.heap.size w (w.alloc (.cells #[.int .i64 0, .int .i64 0] 34)) := Mem.al (Below.refl _ _) _
  have h1 := h.below hst
  have hlt0 := h.lt
  have hu := fun n => used_any (h1.same (w' := (w.alloc (.cells #[.int .i64 0, .int .i64 0] 34)).drewN n) (fun _ _ => rfl) (Nat.le_refl _)) hl
  have c0 : (w.alloc (.cells #[.int .i64 0, .int .i64 0] 34)).cell? ⟨b, 0, none⟩ = some (.int .i64 r.budget) := by obtain ⟨vi, vg, gm, h1⟩ := h1; exact Mem.row_cell h1.blk 0
  have u0 := total_pos r.inn
  have u1 := total_most r.inn
  have u2 : total r.inn ≤ 2251799813685248 := by omega
  obtain ⟨e1, er⟩ := classE_ok h6
  have e0 : (classE size != 0) = false := by rw [e1]; rfl
  have hx' : total r.inn + bytesI (classR size) ≤ r.budget := by rw [er]; omega
  obtain ⟨hb0, hb1⟩ := bytes_range (classR size)
  have w2 : IntKind.i64.wrap (total r.inn + bytesI (classR size)) = total r.inn + bytesI (classR size) := by rw [IntKind.wrap_i64]; omega
  have hkb := Mem.new_block w (.cells #[.int .i64 0, .int .i64 0] 34)
  have HX := Lib.hid (And.intro h6 (And.intro hx (And.intro er (And.intro hm (And.intro h1 (And.intro hst (And.intro hlt0 hkb)))))))
  clear h h1 h6 er e1 hm hx hst hlt0 hkb
  obtain ⟨u, hue⟩ : ∃ u, total r.inn = u := ⟨_, rfl⟩
  rw [hue] at HX u0 u1 u2 hx' w2
  simp only [hue] at hu
  have HU := Lib.hid hue
  clear hue
  go_enter Try.func19, Try.ntmps19
  go_wp2_with (go_at_call 10; refine (rclass_any _ _).mono ?_; rintro e w' ⟨rfl, rfl⟩)
  go_quiet (first | (go_at_call 24; exact Calls.quiet_of_same ((hu _).mono fun _ _ ⟨h, e⟩ => ⟨h, e.symm⟩)) | (go_at_call 12; exact Calls.quiet_of_same ((rbytes_any _ _).mono fun _ _ ⟨h, e⟩ => ⟨h, e.symm⟩)))
  have h5 : RAt ((w.alloc (.cells #[.int .i64 0, .int .i64 0] 34)).drewN nq) b F r := HX.out.2.2.2.2.1.same (fun _ _ => rfl) (Nat.le_refl _)
  have hb5 : Below w.heap.size w ((w.alloc (.cells #[.int .i64 0, .int .i64 0] 34)).drewN nq) := Mem.dn HX.out.2.2.2.2.2.1 nq
  have hk5 : ((w.alloc (.cells #[.int .i64 0, .int .i64 0] 34)).drewN nq).heap[w.heap.size]? = some (.cells #[.int .i64 0, .int .i64 0] 34 (0, 0)) := HX.out.2.2.2.2.2.2.2
  have hkR : classR size = (classN size : Nat) := HX.out.2.2.1
  obtain ⟨k, hk⟩ : ∃ k, classN size = k := ⟨_, rfl⟩
  rw [hk] at hkR
  have hk6 : k < 6 := by rw [← hk]; exact HX.out.1
  have hk6i : (k : Int) < 6 := by omega
  have hk0i : (0 : Int) ≤ k := by omega
  have HKK := Lib.hid hk
  have hdx : decide (r.budget < u + bytesI (k : Int)) = false := by rw [← hkR]; simp; omega
  clear hk c0 hu u1
  rw [hkR] at hx' hb0 hb1
  simp only [hkR]
  simp only [hdx]
  clear w2
  generalize (w.alloc (.cells #[.int .i64 0, .int .i64 0] 34)).drewN nq = w5 at *
  obtain ⟨vi, vg, gm, h5⟩ := h5
  have c3 : w5.cell? ⟨b, 3, none⟩ = some (.slice (some ⟨gm, 0, none⟩) 6 6) := Mem.row_cell h5.blk 3
  have cm : w5.cell? ⟨gm, k, none⟩ = some (.int .i64 (r.made k)) := by
    rw [Mem.row_cell h5.mad k]
    match k, hk6 with
    | 0, _ | 1, _ | 2, _ | 3, _ | 4, _ | 5, _ => rfl
  obtain ⟨sz, hsz⟩ : ∃ sz, w.heap.size = sz := ⟨_, rfl⟩
  have HS := Lib.hid hsz
  rw [hsz] at hk5
  simp only [hsz]
  clear hsz
  have H5 := Lib.hid (And.intro h5 (And.intro hb5 hk5))
  clear h5 hb5 hk5
  go_wp2_with fail
  -- LOOP
  have h6 : RAtW (w5.alloc (.cells #[.int .i64 k, .int .i64 (r.made k)] 34)) b F r vi vg gm := H5.out.1.same (fun x hx => Below.heap_alloc _ _ _ (H5.out.1.lt x hx)) (by simp)
  have hcb6 := Mem.new_block w5 (.cells #[.int .i64 k, .int .i64 (r.made k)] 34)
  have hsz6 : (w5.alloc (.cells #[.int .i64 k, .int .i64 (r.made k)] 34)).heap[sz]? = some (.cells #[.int .i64 0, .int .i64 0] 34 (0, 0)) := Mem.new_later H5.out.2.2 _
  have hb6 : Below w.heap.size w (w5.alloc (.cells #[.int .i64 k, .int .i64 (r.made k)] 34)) := Mem.al H5.out.2.1 _
  have hcbs : sz < w5.heap.size := (Array.getElem?_eq_some_iff.1 H5.out.2.2).1
  generalize w5.alloc (.cells #[.int .i64 k, .int .i64 (r.made k)] 34) = w6 at *
  obtain ⟨cb, hcb⟩ : ∃ cb, w5.heap.size = cb := ⟨_, rfl⟩
  rw [hcb] at hcb6 hcbs
  simp only [hcb]
  have HCS := Lib.hid hcbs
  have H6 := Lib.hid (And.intro h6 (And.intro hcb6 (And.intro hsz6 hb6)))
  clear h6 hcb6 hsz6 hb6 hcb c3 cm hcbs
  go_loopg [9, 10] r.gone.length (fun gk p i wr => ∃ (m : Nat) (a : Int), p = .int .i64 a ∧ i = .int .i64 m ∧ gk + m = r.gone.length ∧ Hid (LastTo r.gone k m a) ∧ wr = w6)
  case atStart => exact ⟨0, -1, rfl, rfl, by omega, Lib.hid (.inl ⟨rfl, fun i c hi => by omega⟩), rfl⟩
  case round =>
    obtain ⟨m, a, rfl, rfl, hg, HA, rfl⟩ := hrel
    have HG := Lib.hid hg
    have c2 : wr.cell? ⟨b, 2, none⟩ = some vg := Mem.row_cell H6.out.1.blk 2
    obtain ⟨ya, yc, hv⟩ := row_shape H6.out.1.rg
    by_cases hm : m < r.gone.length
    · obtain ⟨⟨cj, nj⟩, hcj⟩ : ∃ q, r.gone[m]? = some q := ⟨_, List.getElem?_eq_getElem hm⟩
      obtain ⟨g', cap', hya, z0, z1⟩ := row_at H6.out.1.rg hcj
      rw [hya] at c2
      have hmi : (m : Int) < r.gone.length := by omega
      have HC := Lib.hid hcj
      clear hg hcj hv hya z1
      by_cases hck : cj = k
      · have hckb : (cj == (k : Int)) = true := by simpa using hck
        have HK := Lib.hid hck
        clear hck
        go_wp2
        go_roundg (r.gone.length - (m + 1))
        case measure => have := HG.out; omega
        case rel => exact ⟨m + 1, m, rfl, by go_num, by have := HG.out; omega, Lib.hid (LastTo.take (n := nj) (by rw [HC.out, HK.out])), rfl⟩
      · have hckb : (cj == (k : Int)) = false := by simpa using hck
        have HK := Lib.hid hck
        clear hck
        go_wp2
        go_roundg (r.gone.length - (m + 1))
        case measure => have := HG.out; omega
        case rel => exact ⟨m + 1, a, rfl, by go_num, by have := HG.out; omega, Lib.hid (HA.out.skip HC.out HK.out), rfl⟩
    · have hmg : (r.gone.length : Int) ≤ m := by omega
      have hdm : decide (m < r.gone.length) = false := by simp; omega
      rw [hv] at c2
      by_cases ha : a = -1
      · subst ha
        have hno : NoClass r.gone k := by
          rcases HA.out with ⟨-, h2⟩ | ⟨j, n, h1, -⟩
          · exact fun i c hc => h2 i c (by have := (List.getElem?_eq_some_iff.1 hc).1; omega) hc
          · omega
        have hmk := HX.out.2.2.2.1 k
        obtain ⟨n8, hn8⟩ : ∃ n, r.made k = n := ⟨_, rfl⟩
        have c3 : wr.cell? ⟨b, 3, none⟩ = some (.slice (some ⟨gm, 0, none⟩) 6 6) := Mem.row_cell H6.out.1.blk 3
        have cm : wr.cell? ⟨gm, k, none⟩ = some (.int .i64 n8) := by
          rw [← hn8, Mem.row_cell H6.out.1.mad k]
          match k, hk6 with
          | 0, _ | 1, _ | 2, _ | 3, _ | 4, _ | 5, _ => rfl
        have fm : wr.frozen? ⟨gm, k, none⟩ = false := Mem.row_free H6.out.1.mad k
        rw [hn8] at hmk
        obtain ⟨hm0, hm1⟩ := hmk
        have HN8 := Lib.hid hn8
        have HNo := Lib.hid hno
        clear hn8 hno hg hm hv
        go_wp2_with fail
        have hm8 := H6.out.1.mde hk6 (n8 + 1)
        have hgc : cb ≠ gm := fun e => by have h1 := H6.out.2.1; rw [e, H6.out.1.mad] at h1; injection h1 with h1; injection h1 with _ h1; exact absurd h1 (by decide)
        have hgs : sz ≠ gm := fun e => by have h1 := H6.out.2.2.1; rw [e, H6.out.1.mad] at h1; injection h1 with h1; injection h1 with _ h1; exact absurd h1 (by decide)
        have hFsz : ¬ F sz := fun e => by have := HX.out.2.2.2.2.2.2.1 sz e; have := HS.out; omega
        have hFcb : ¬ F cb := fun e => by have := HX.out.2.2.2.2.2.2.1 cb e; have := HS.out; have := HCS.out; omega
        have H8 := Lib.hid (show RAtW (wr.setCell ⟨gm, k, none⟩ (.int .i64 (n8 + 1))) b F { r with made := put r.made k (n8 + 1) } vi vg gm ∧ Only F w (wr.setCell ⟨gm, k, none⟩ (.int .i64 (n8 + 1))) ∧ Grows w F F ∧
            (wr.setCell ⟨gm, k, none⟩ (.int .i64 (n8 + 1))).heap[cb]? = some (.cells #[.int .i64 k, .int .i64 n8] 34 (0, 0)) ∧ (wr.setCell ⟨gm, k, none⟩ (.int .i64 (n8 + 1))).heap[sz]? = some (.cells #[.int .i64 0, .int .i64 0] 34 (0, 0)) ∧ ¬ F cb ∧ ¬ F sz ∧ { r with made := put r.made k (n8 + 1) }.inn.length ≤ 1000000 from
          ⟨hm8, (Only.of_below H6.out.2.2.2 (fun k h1 h2 => by omega)).setCell (.inl H6.out.1.fm) _, Grows.refl _ _, (Below.heap_setCell _ _ _ _ (by simpa using hgc)).trans (by rw [← HN8.out]; exact H6.out.2.1), (Below.heap_setCell _ _ _ _ (by simpa using hgs)).trans H6.out.2.2.1, hFcb, hFsz, hl⟩)
        have HT8 : Hid ((NoClass r.gone k ∧ n8 = r.made (classN size) ∧ rtook { r with made := put r.made k (n8 + 1) } (k, n8) = rtook { r with made := put r.made (classN size) (r.made (classN size) + 1) } (k, n8)) ∨
            (∃ a, IsLast r.gone k a n8 ∧ rtook { r with made := put r.made k (n8 + 1) } (k, n8) = rtook { r with gone := r.gone.take a ++ r.gone.drop (a + 1) } (k, n8))) := Lib.hid (.inl ⟨HNo.out, by rw [HKK.out, HN8.out], by rw [HKK.out, HN8.out]⟩)
        clear hm8 c2 c3 cm fm hgc hgs hFsz hFcb
        generalize wr.setCell ⟨gm, k, none⟩ (.int .i64 (n8 + 1)) = w8 at *
        obtain ⟨vi8, hvi8⟩ : ∃ vi8, vi = vi8 := ⟨_, rfl⟩
        obtain ⟨r8, hr8⟩ : ∃ r8, { r with made := put r.made k (n8 + 1) } = r8 := ⟨_, rfl⟩
        rw [hvi8, hr8] at H8
        rw [hr8] at HT8
        clear hvi8 hr8 H6 HA
        obtain ⟨i0, hi, hz0, hz1, hz2⟩ := info_parts infoChunk
        have ck : w8.cell? ⟨b, 1, none⟩ = some vi8 := Mem.row_cell H8.out.1.blk 1
        have fk := Mem.row_free H8.out.1.blk 1
        have d0' := Mem.row_cell H8.out.2.2.2.1 0
        have d1' := Mem.row_cell H8.out.2.2.2.1 1
        simp only [List.getElem?_toArray, List.getElem?_cons_zero, List.getElem?_cons_succ] at d0' d1'
        have hrow := H8.out.1.ri
        have hlb8 : b < w8.heap.size := H8.out.1.lt _ H8.out.1.fb
        have hlc8 : cb < w8.heap.size := (Array.getElem?_eq_some_iff.1 H8.out.2.2.2.1).1
        have hls8 : sz < w8.heap.size := (Array.getElem?_eq_some_iff.1 H8.out.2.2.2.2.1).1
        have hne : vi8.ownBlock ≠ some b := row_not H8.out.1.ri H8.out.1.blk (by decide)
        have hneC : vi8.ownBlock ≠ some cb := fun e => H8.out.2.2.2.2.2.1 (H8.out.1.fi cb e)
        have hneS : vi8.ownBlock ≠ some sz := fun e => H8.out.2.2.2.2.2.2.1 (H8.out.1.fi sz e)
        obtain ⟨L, hL⟩ : ∃ L, r8.inn.length = L := ⟨_, rfl⟩
        obtain ⟨X, hX⟩ : ∃ X, cellsC r8.inn = X := ⟨_, rfl⟩
        have hL8 := H8.out.2.2.2.2.2.2.2
        simp only [hL, hX] at hrow
        rw [hL] at hL8
        have hmx : L + 1 ≤ maxLen := by unfold maxLen; omega
        have hby : (L + 1) * 16 ≤ 140737488355328 := by omega
        have HLX := Lib.hid (And.intro hL hX)
        clear hL hX
        have hstep : ∀ {ops : Array Oper} {o : Oper} {a : Act} {K : Act → World → Prop} {Q : Exit → Act → World → Prop} {E : Prop}, o.guard = none → o.op = .call { callee := .builtin .append, args := #[.tmp 103, .tmp 105], argTypes := #[31, 31] } → a.eval (.tmp 103) = vi8 → a.eval (.tmp 105) = .slice (some ⟨w8.heap.size, 0, none⟩) 1 1 → (∀ g cap w', w'.ownsRow 0 34 2 (.slice (some ⟨g, 0, none⟩) (L + 1) cap) (L + 1) (X ++ [.int .i64 k, .int .i64 n8]) → (w8.alloc (.cells #[.int .i64 k, .int .i64 n8] 34)).drew.grownBy w' vi8.ownBlock → (vi8.ownBlock = some g ∨ g = w8.heap.size + 1) → g < w'.heap.size → K (a.put o.dst (.slice (some ⟨g, 0, none⟩) (L + 1) cap)) w') → if Region.wanted o (yielded ops a.tmps) = true then Oper.wp Try.prog o a (w8.alloc (.cells #[.int .i64 k, .int .i64 n8] 34)).drew K Q else E := fun hg ho he hx hK => step_append_lies _ hg _ _ _ ho 0 34 i0 _ 2 16 Try.underlying31 hi hz0 hz1 hz2 rfl (by omega) vi8 L X he ((hrow.alloc _).drew) ⟨w8.heap.size, 0, none⟩ 1 1 [.int .i64 k, .int .i64 n8] hx rfl (World.news_of_block (cs := #[.int .i64 k, .int .i64 n8]) (t := 34) (fr := (0, 0)) (heap_alloc_new w8 _)) (by simp [Value.oneCell']) (by decide) hmx hby (Nat.zero_le _) (w8.heap.size + 1) (by simp) hK
        have hblk : ∀ (w1 : World) (j : Nat), (w8.alloc (.cells #[.int .i64 k, .int .i64 n8] 34)).drew.grownBy w1 vi8.ownBlock → j < w8.heap.size → vi8.ownBlock ≠ some j → w1.heap[j]? = w8.heap[j]? := fun w1 j hg hj hn => (hg.block j (show j < (w8.alloc (.cells #[.int .i64 k, .int .i64 n8] 34)).heap.size by simp; omega) (Ne.symm hn)).trans (Below.heap_alloc w8 _ _ hj)
        have hfarb : ∀ w1 : World, (w8.alloc (.cells #[.int .i64 k, .int .i64 n8] 34)).drew.grownBy w1 vi8.ownBlock → w1.cell? ⟨b, 1, none⟩ = some vi8 ∧ w1.frozen? ⟨b, 1, none⟩ = false := fun w1 hg => ⟨(World.cell?_of_block (hblk w1 b hg hlb8 hne)).trans ck, (World.frozen?_of_block (hblk w1 b hg hlb8 hne)).trans fk⟩
        have hfars : ∀ w1 : World, (w8.alloc (.cells #[.int .i64 k, .int .i64 n8] 34)).drew.grownBy w1 vi8.ownBlock → w1.cell? ⟨cb, 0, none⟩ = some (.int .i64 k) ∧ w1.cell? ⟨cb, 1, none⟩ = some (.int .i64 n8) := fun w1 hg =>
          ⟨(World.cell?_of_block (hblk w1 cb hg hlc8 hneC)).trans d0', (World.cell?_of_block (hblk w1 cb hg hlc8 hneC)).trans d1'⟩
        go_cut [] from 61 to 108 (fun wx => ∃ g cap w1, w1.ownsRow 0 34 2 (.slice (some ⟨g, 0, none⟩) (L + 1) cap) (L + 1) (X ++ [.int .i64 k, .int .i64 n8]) ∧ (w8.alloc (.cells #[.int .i64 k, .int .i64 n8] 34)).drew.grownBy w1 vi8.ownBlock ∧ (vi8.ownBlock = some g ∨ g = w8.heap.size + 1) ∧ g < w1.heap.size ∧ wx = w1.setCell ⟨b, 1, none⟩ (.slice (some ⟨g, 0, none⟩) (L + 1) cap))
        case first =>
          go_region_law (refine hstep (by rfl) (by rfl) (by kernel_rfl) (by kernel_rfl) ?_; intro gg cap w1 hown1 hgrow hat hlt; have cw1 := (hfarb w1 hgrow).1; have fw1 := (hfarb w1 hgrow).2; have ew1 := (hfars w1 hgrow).1; have gw1 := (hfars w1 hgrow).2)
          all_goals (go_wp2_with fail; go_meet; exact ⟨_, _, _, hown1, hgrow, hat, hlt, rfl⟩)
        case rest =>
          obtain ⟨g, cap, w9, hown, hgrow, hat, hlt, rfl⟩ := hcut
          have hX := HLX.out.2
          have hL := HLX.out.1
          subst hX hL
          have hw8 := H8.out.2.1.size
          have hw89 : w8.heap.size ≤ w9.heap.size := Nat.le_trans (by simp) hgrow.size
          have hown' : w9.ownsRow 0 34 2 (.slice (some ⟨g, 0, none⟩) (r8.inn.length + 1) cap) (r8.inn ++ [((k : Int), n8)]).length (cellsC (r8.inn ++ [((k : Int), n8)])) := by
            rw [List.length_append, cellsC_app]; exact hown
          have hat' : ∀ x, (Value.slice (some ⟨g, 0, none⟩) (r8.inn.length + 1) cap).ownBlock = some x → vi8.ownBlock = some x ∨ w8.heap.size ≤ x := fun x e => by
            have : g = x := by simpa [Value.ownBlock] using e
            subst this
            exact hat.imp id (fun e => by omega)
          have h10 := H8.out.1.inn (w' := w9) (fun j hj hv => hblk w9 j hgrow (H8.out.1.lt j hj) hv) hw89 hown' hat'
          have ho10 : Only F w (w9.setCell ⟨b, 1, none⟩ (.slice (some ⟨g, 0, none⟩) (r8.inn.length + 1) cap)) :=
            (((H8.out.2.1.alloc _).drew.grown hgrow (fun x e => H8.out.2.2.1 x (H8.out.1.fi x e)))).setCell (H8.out.2.2.1 b H8.out.1.fb) _
          have hg10 : Grows w F (fun x => F x ∨ (Value.slice (some ⟨g, 0, none⟩) (r8.inn.length + 1) cap).ownBlock = some x) := fun x hx => by
            rcases hx with hx | hx
            · exact H8.out.2.2.1 x hx
            · rcases hat' x hx with e | e
              · exact H8.out.2.2.1 x (H8.out.1.fi x e)
              · exact .inr (by omega)
          have hcbb : cb ≠ b := fun e => H8.out.2.2.2.2.2.1 (e ▸ H8.out.1.fb)
          have hszb : sz ≠ b := fun e => H8.out.2.2.2.2.2.2.1 (e ▸ H8.out.1.fb)
          have kc : (w9.setCell ⟨b, 1, none⟩ (.slice (some ⟨g, 0, none⟩) (r8.inn.length + 1) cap)).heap[cb]? = some (.cells #[.int .i64 k, .int .i64 n8] 34 (0, 0)) := (Below.heap_setCell _ _ _ _ (by simpa using hcbb)).trans ((hblk w9 cb hgrow hlc8 hneC).trans H8.out.2.2.2.1)
          have ks : (w9.setCell ⟨b, 1, none⟩ (.slice (some ⟨g, 0, none⟩) (r8.inn.length + 1) cap)).heap[sz]? = some (.cells #[.int .i64 0, .int .i64 0] 34 (0, 0)) := (Below.heap_setCell _ _ _ _ (by simpa using hszb)).trans ((hblk w9 sz hgrow hls8 hneS).trans H8.out.2.2.2.2.1)
          have hszg : g ≠ sz := fun e => by subst e; exact hat.elim (fun e => hneS e) (fun e => by omega)
          have hnF : ¬ (F sz ∨ (Value.slice (some ⟨g, 0, none⟩) (r8.inn.length + 1) cap).ownBlock = some sz) := fun e => e.elim H8.out.2.2.2.2.2.2.1 (fun e => hszg (by simpa [Value.ownBlock] using e))
          have H10 := Lib.hid (And.intro h10 (And.intro ho10 (And.intro hg10 (And.intro ks hnF))))
          have e0' := Mem.row_cell kc 0
          have e1' := Mem.row_cell kc 1
          have s0' := Mem.row_cell ks 0
          have s1' := Mem.row_cell ks 1
          have t0' := Mem.row_free ks 0
          have t1' := Mem.row_free ks 1
          simp only [List.getElem?_toArray, List.getElem?_cons_zero, List.getElem?_cons_succ] at e0' e1' s0' s1'
          have hcs : cb ≠ sz := fun e => by have h1 := H8.out.2.2.2.1; subst e; have := HCS.out; omega
          clear h10 ho10 hg10 hown hgrow hat hlt hown' hat' hstep hblk hfarb hfars kc ks hnF
          generalize w9.setCell ⟨b, 1, none⟩ (.slice (some ⟨g, 0, none⟩) (r8.inn.length + 1) cap) = wA at *
          go_wp2
          have r1 : ((wA.setCell ⟨sz, 0, none⟩ (.int .i64 k)).setCell ⟨sz, 1, none⟩ (.int .i64 n8)).cell? ⟨sz, 1, none⟩ = some (.int .i64 n8) :=
            World.cell?_setCell_same' _ _ _ (by rw [World.cell?_setCell_other _ _ _ _ (by simp), s1']; rfl)
          have r0 : ((wA.setCell ⟨sz, 0, none⟩ (.int .i64 k)).setCell ⟨sz, 1, none⟩ (.int .i64 n8)).cell? ⟨sz, 0, none⟩ = some (.int .i64 k) := by
            rw [World.cell?_setCell_other _ _ _ _ (by simp)]; exact World.cell?_setCell_same' _ _ _ (by rw [s0']; rfl)
          refine bodyPost_ret (v := .tuple #[.agg #[.int .i64 k, .int .i64 n8], .int .i64 0]) (by simp [results, Try.results19, go_sem, r0, r1]) rfl ?_
          have hset : ∀ x, x ≠ sz → ((wA.setCell ⟨sz, 0, none⟩ (.int .i64 k)).setCell ⟨sz, 1, none⟩ (.int .i64 n8)).heap[x]? = wA.heap[x]? := fun x hx => (Below.heap_setCell _ _ _ _ (by simpa using hx)).trans (Below.heap_setCell _ _ _ _ (by simpa using hx))
          have hsw : w.heap.size ≤ sz := by have := HS.out; omega
          refine ⟨k, n8, 0, _, _, rfl, ⟨_, _, _, H10.out.1.same (fun x hx => hset x (fun e => H10.out.2.2.2.2 (e ▸ hx))) (by simp [World.setCell])⟩, (H10.out.2.1.setCell (p := ⟨sz, 0, none⟩) (.inr hsw) _).setCell (p := ⟨sz, 1, none⟩) (.inr hsw) _, H10.out.2.2.1, .inr (.inr ⟨HX.out.1, by rw [HU.out]; have := HX.out.2.1; omega, by rw [HKK.out], rfl, ?_⟩)⟩
          exact HT8.out
      · obtain ⟨j, n8, rfl, hjm, hcj, hlast⟩ : ∃ (j : Nat) (n : Int), a = (j : Int) ∧ j < m ∧ r.gone[j]? = some ((k : Int), n) ∧ ∀ i c, j < i → i < m → r.gone[i]? = some c → c.1 ≠ k := by
          rcases HA.out with ⟨h1, -⟩ | h
          · exact absurd h1 ha
          · exact h
        have hil : IsLast r.gone k j n8 := ⟨hcj, fun i c hi hc => hlast i c hi (by have := (List.getElem?_eq_some_iff.1 hc).1; omega) hc⟩
        have hjl : j < r.gone.length := (List.getElem?_eq_some_iff.1 hcj).1
        obtain ⟨g', cap', hya, z0, z1⟩ := row_at H6.out.1.rg hcj
        rw [hv] at hya
        injection hya with hya hle hyc
        clear hle
        subst hya hyc
        subst hv
        have ec0 := Mem.row_cell H6.out.2.1 0
        have ec1 := Mem.row_cell H6.out.2.1 1
        have ef0 := Mem.row_free H6.out.2.1 0
        have ef1 := Mem.row_free H6.out.2.1 1
        simp only [List.getElem?_toArray, List.getElem?_cons_zero, List.getElem?_cons_succ] at ec0 ec1
        have hji : (j : Int) < r.gone.length := by omega
        have hj0 : (0 : Int) ≤ j := by omega
        have HIL := Lib.hid (And.intro hil hcj)
        have hFsz : ¬ F sz := fun e => by have := HX.out.2.2.2.2.2.2.1 sz e; have := HS.out; omega
        have hFcb : ¬ F cb := fun e => by have := HX.out.2.2.2.2.2.2.1 cb e; have := HS.out; have := HCS.out; omega
        have hcbb : b ≠ cb := fun e => hFcb (e ▸ H6.out.1.fb)
        clear hil hcj hlast hg hm ha HA
        have hset7 : ∀ x, x ≠ cb → ((wr.setCell ⟨cb, 0, none⟩ (.int .i64 k)).setCell ⟨cb, 1, none⟩ (.int .i64 n8)).heap[x]? = wr.heap[x]? := fun x hx => (Below.heap_setCell _ _ _ _ (by simpa using hx)).trans (Below.heap_setCell _ _ _ _ (by simpa using hx))
        have h7 : RAtW ((wr.setCell ⟨cb, 0, none⟩ (.int .i64 k)).setCell ⟨cb, 1, none⟩ (.int .i64 n8)) b F r vi (.slice (some ⟨g', 0, none⟩) r.gone.length yc) gm := H6.out.1.same (fun x hx => hset7 x (fun e => hFcb (e ▸ hx))) (by simp [World.setCell])
        have hc7 : ((wr.setCell ⟨cb, 0, none⟩ (.int .i64 k)).setCell ⟨cb, 1, none⟩ (.int .i64 n8)).heap[cb]? = some (.cells #[.int .i64 k, .int .i64 n8] 34 (0, 0)) := by
          have h1 := Mem.row_set H6.out.2.1 0 (.int .i64 k)
          have h2 := Mem.row_set h1 1 (.int .i64 n8)
          exact h2
        have hs7 : ((wr.setCell ⟨cb, 0, none⟩ (.int .i64 k)).setCell ⟨cb, 1, none⟩ (.int .i64 n8)).heap[sz]? = some (.cells #[.int .i64 0, .int .i64 0] 34 (0, 0)) := (hset7 sz (fun e => by have := HCS.out; omega)).trans H6.out.2.2.1
        have ho7 : Only F w ((wr.setCell ⟨cb, 0, none⟩ (.int .i64 k)).setCell ⟨cb, 1, none⟩ (.int .i64 n8)) :=
          ((Only.of_below H6.out.2.2.2 (fun k h1 h2 => by omega)).setCell (p := ⟨cb, 0, none⟩) (.inr (by have := HS.out; have := HCS.out; simp; omega)) _).setCell (p := ⟨cb, 1, none⟩) (.inr (by have := HS.out; have := HCS.out; simp; omega)) _
        have d1 : ((wr.setCell ⟨cb, 0, none⟩ (.int .i64 k)).setCell ⟨cb, 1, none⟩ (.int .i64 n8)).cell? ⟨b, 2, none⟩ = some (.slice (some ⟨g', 0, none⟩) r.gone.length yc) := Mem.row_cell h7.blk 2
        have f1 : ((wr.setCell ⟨cb, 0, none⟩ (.int .i64 k)).setCell ⟨cb, 1, none⟩ (.int .i64 n8)).frozen? ⟨b, 2, none⟩ = false := Mem.row_free h7.blk 2
        clear hset7
        obtain ⟨w7, hw7⟩ : ∃ w7, (wr.setCell ⟨cb, 0, none⟩ (.int .i64 k)).setCell ⟨cb, 1, none⟩ (.int .i64 n8) = w7 := ⟨_, rfl⟩
        rw [hw7] at h7 hc7 hs7 ho7 d1 f1
        have hcap : r.gone.length ≤ yc := by
          rcases h7.rg.2 with ⟨e1, _⟩ | ⟨g1, c1, cur, e1, _, _, e2, _⟩
          · cases e1
          · injection e1 with _ _ e1; omega
        have hrd : ReadsC w7 g' 0 r.gone := fun i u hu => by
          obtain ⟨n', hn'⟩ : ∃ n', r.gone.length = n' + 1 := ⟨r.gone.length - 1, by omega⟩
          have ho := h7.rg
          rw [hn'] at ho
          obtain ⟨g1, c1, cur, e1, _, e2, _, _, e3⟩ := Mem.row_block ho
          injection e1 with e1
          injection e1 with e1
          injection e1 with e1
          subst e1
          rw [Nat.zero_add]
          exact (Mem.row_cell e2 _).trans (e3 _ _ hu)
        have hgl : g' < w7.heap.size := h7.lt _ (h7.fg g' rfl)
        have hl1 : (r.gone.take j).length = j := by rw [List.length_take]; omega
        have hl2' : (r.gone.drop (j + 1)).length = r.gone.length - (j + 1) := by rw [List.length_drop]
        have hcapi : (j : Int) ≤ yc := by omega
        have hcapi1 : (r.gone.length : Int) ≤ yc := by omega
        have hw1 : IntKind.i64.wrap ((j : Int) + 1) = (j : Int) + 1 := by rw [IntKind.wrap_i64]; omega
        have htn : ((j : Int) + 1).toNat = j + 1 := by omega
        have hk1i : (j : Int) + 1 ≤ r.gone.length := by omega
        have hk01 : (0 : Int) ≤ (j : Int) + 1 := by omega
        obtain ⟨off2, hoff2, hrd2⟩ : ∃ off2, (if yc = j + 1 then some (⟨g', 0, none⟩ : Addr) else some ⟨g', (j + 1) * 2, none⟩) = some ⟨g', off2, none⟩ ∧ ReadsC w7 g' off2 (r.gone.drop (j + 1)) := by
          by_cases hy : yc = j + 1
          · refine ⟨0, by rw [if_pos hy], ?_⟩
            rw [List.drop_eq_nil_of_le (by omega)]
            exact fun i u hu => by simp [cellsC] at hu
          · refine ⟨(j + 1) * 2, by rw [if_neg hy], ?_⟩
            have := hrd.drop (j + 1)
            rwa [Nat.zero_add] at this
        have H7 := Lib.hid (And.intro h7 (And.intro hc7 (And.intro hs7 (And.intro ho7 (And.intro hrd hrd2)))))
        have hlb : b < w7.heap.size := h7.lt _ h7.fb
        have hlc : cb < w7.heap.size := (Array.getElem?_eq_some_iff.1 hc7).1
        have hls : sz < w7.heap.size := (Array.getElem?_eq_some_iff.1 hs7).1
        clear h7 hc7 hs7 ho7 hrd hrd2
        have hkeep1 : ∀ wx, w7.grownBy wx (Value.slice none 0 0).ownBlock → ∀ k, k < w7.heap.size → wx.heap[k]? = w7.heap[k]? := fun wx hg k hk => hg.block k hk (fun e => by cases e)
        have hkeep2 : ∀ (wx wy : World) (v1 : Value), w7.grownBy wx (Value.slice none 0 0).ownBlock → wx.grownBy wy v1.ownBlock → (v1.ownBlock = (Value.slice none 0 0).ownBlock ∨ v1.ownBlock = some w7.heap.size) → ∀ k, k < w7.heap.size → wy.heap[k]? = w7.heap[k]? := fun wx wy v1 hg hg2 hat k hk =>
          (hg2.block k (Nat.lt_of_lt_of_le hk hg.size) (fun e => by
            rcases hat with e1 | e1
            · rw [e1] at e; cases e
            · rw [e1] at e; injection e with e; omega)).trans (hkeep1 wx hg k hk)
        have HK2 := Lib.hid hkeep2
        have HK1 := Lib.hid hkeep1
        clear hkeep1 hkeep2
        go_wp2_with (first
          | (at_builtin; refine list_appC _ _ 0 _ [] (r.gone.take j) g' 0 yc rfl rfl rfl (by rw [hl1]; kernel_rfl) (World.ownsRow_nil _ _ _ _) (H7.out.2.2.2.2.1.take j) (by rw [hl1]; simp; omega) (Nat.zero_le _) ?_; intro v1 wx hown1 hgrow1 hat1; have d1' : wx.cell? ⟨b, 2, none⟩ = some (.slice (some ⟨g', 0, none⟩) r.gone.length yc) := (World.cell?_of_block (HK1.out _ hgrow1 b hlb)).trans d1)
          | (at_builtin; refine list_appC _ _ 0 v1 (r.gone.take j) (r.gone.drop (j + 1)) g' off2 (yc - (j + 1)) rfl rfl rfl (by rw [hl2']; kernel_rfl) hown1 (H7.out.2.2.2.2.2.same (HK1.out _ hgrow1 g' hgl)) (by rw [hl1, hl2']; omega) (Nat.zero_le _) ?_; intro v2 wy hown2 hgrow2 hat2; obtain ⟨xs, hxs⟩ : ∃ xs, r.gone.take j ++ r.gone.drop (j + 1) = xs := ⟨_, rfl⟩; rw [hxs] at hown2; obtain ⟨ya2, yc2, hv2⟩ := row_shape hown2; subst hv2; have d2' : wy.cell? ⟨b, 2, none⟩ = some (.slice (some ⟨g', 0, none⟩) r.gone.length yc) := (World.cell?_of_block (HK2.out _ _ _ hgrow1 hgrow2 hat1 b hlb)).trans d1; have f2' : wy.frozen? ⟨b, 2, none⟩ = false := (World.frozen?_of_block (HK2.out _ _ _ hgrow1 hgrow2 hat1 b hlb)).trans f1))
        have h7 := HK2.out _ _ _ hgrow1 hgrow2 hat1
        have hat7 : ∀ g, (Value.slice ya2 xs.length yc2).ownBlock = some g → w7.heap.size ≤ g := fun g e => by
          rw [e] at hat2
          rcases hat2 with e1 | e1
          · rcases hat1 with e2 | e2
            · rw [e2] at e1; cases e1
            · rw [e2] at e1; injection e1 with e1; omega
          · injection e1 with e1
            have := hgrow1.size; omega
        have hz7 : w7.heap.size ≤ wy.heap.size := Nat.le_trans hgrow1.size hgrow2.size
        have hwz : w.heap.size ≤ w7.heap.size := H7.out.2.2.2.1.size
        have h8 := H7.out.1.gne (fun k hk _ => h7 k (H7.out.1.lt k hk)) hz7 hown2 (fun g e => .inr (hat7 g e))
        have ho8 : Only F w (wy.setCell ⟨b, 2, none⟩ (.slice ya2 xs.length yc2)) := ((H7.out.2.2.2.1.grown hgrow1 (fun g e => (by cases e))).grown hgrow2 (fun g e => .inr (by
          rcases hat1 with e2 | e2
          · rw [e2] at e; cases e
          · rw [e2] at e; injection e with e; omega))).setCell (.inl H7.out.1.fb) _
        have hsb : sz ≠ b := fun e => hFsz (e ▸ H6.out.1.fb)
        have hgr8 : Grows w F (fun k => F k ∨ (Value.slice ya2 xs.length yc2).ownBlock = some k) := fun k hk => hk.imp id (fun e => by have := hat7 k e; omega)
        have hF8c : ¬ (F cb ∨ (Value.slice ya2 xs.length yc2).ownBlock = some cb) := fun e => e.elim hFcb (fun e => by have := hat7 cb e; omega)
        have hF8s : ¬ (F sz ∨ (Value.slice ya2 xs.length yc2).ownBlock = some sz) := fun e => e.elim hFsz (fun e => by have := hat7 sz e; omega)
        have H8 := Lib.hid (show RAtW (wy.setCell ⟨b, 2, none⟩ (.slice ya2 xs.length yc2)) b (fun k => F k ∨ (Value.slice ya2 xs.length yc2).ownBlock = some k) { r with gone := xs } vi (.slice ya2 xs.length yc2) gm ∧ Only F w (wy.setCell ⟨b, 2, none⟩ (.slice ya2 xs.length yc2)) ∧ Grows w F (fun k => F k ∨ (Value.slice ya2 xs.length yc2).ownBlock = some k) ∧
            (wy.setCell ⟨b, 2, none⟩ (.slice ya2 xs.length yc2)).heap[cb]? = some (.cells #[.int .i64 k, .int .i64 n8] 34 (0, 0)) ∧ (wy.setCell ⟨b, 2, none⟩ (.slice ya2 xs.length yc2)).heap[sz]? = some (.cells #[.int .i64 0, .int .i64 0] 34 (0, 0)) ∧ ¬ (F cb ∨ (Value.slice ya2 xs.length yc2).ownBlock = some cb) ∧ ¬ (F sz ∨ (Value.slice ya2 xs.length yc2).ownBlock = some sz) ∧ { r with gone := xs }.inn.length ≤ 1000000 from
          ⟨h8, ho8, hgr8, (Below.heap_setCell _ _ _ _ (by simpa using fun e => hcbb e.symm)).trans ((h7 cb hlc).trans H7.out.2.1), (Below.heap_setCell _ _ _ _ (by simpa using hsb)).trans ((h7 sz hls).trans H7.out.2.2.1), hF8c, hF8s, hl⟩)
        have HT8 : Hid ((NoClass r.gone k ∧ n8 = r.made (classN size) ∧ rtook { r with gone := xs } (k, n8) = rtook { r with made := put r.made (classN size) (r.made (classN size) + 1) } (k, n8)) ∨
            (∃ a, IsLast r.gone k a n8 ∧ rtook { r with gone := xs } (k, n8) = rtook { r with gone := r.gone.take a ++ r.gone.drop (a + 1) } (k, n8))) := Lib.hid (.inr ⟨j, HIL.out.1, by rw [hxs]⟩)
        clear c2 ec0 ec1 ef0 ef1 z0 z1 hw7 h7 hat7 hz7 hwz h8 ho8 hgr8 hF8c hF8s hown1 hown2 hgrow1 hgrow2 hat1 hat2 hxs d1' d2' f2' d1 f1 hFsz hFcb hcbb hsb
        generalize wy.setCell ⟨b, 2, none⟩ (.slice ya2 xs.length yc2) = w8 at *
        obtain ⟨vi8, hvi8⟩ : ∃ vi8, vi = vi8 := ⟨_, rfl⟩
        obtain ⟨r8, hr8⟩ : ∃ r8, { r with gone := xs } = r8 := ⟨_, rfl⟩
        rw [hvi8, hr8] at H8
        rw [hr8] at HT8
        obtain ⟨F8, hF8⟩ : ∃ F8 : Nat → Prop, (fun k => F k ∨ (Value.slice ya2 xs.length yc2).ownBlock = some k) = F8 := ⟨_, rfl⟩
        have H8 : Hid (RAtW w8 b F8 r8 vi8 (.slice ya2 xs.length yc2) gm ∧ Only F w w8 ∧ Grows w F F8 ∧ w8.heap[cb]? = some (.cells #[.int .i64 k, .int .i64 n8] 34 (0, 0)) ∧ w8.heap[sz]? = some (.cells #[.int .i64 0, .int .i64 0] 34 (0, 0)) ∧ ¬ F8 cb ∧ ¬ F8 sz ∧ r8.inn.length ≤ 1000000) := by rw [← hF8]; exact H8
        clear hvi8 hr8 H6 hF8
        obtain ⟨i0, hi, hz0, hz1, hz2⟩ := info_parts infoChunk
        have ck : w8.cell? ⟨b, 1, none⟩ = some vi8 := Mem.row_cell H8.out.1.blk 1
        have fk := Mem.row_free H8.out.1.blk 1
        have d0' := Mem.row_cell H8.out.2.2.2.1 0
        have d1' := Mem.row_cell H8.out.2.2.2.1 1
        simp only [List.getElem?_toArray, List.getElem?_cons_zero, List.getElem?_cons_succ] at d0' d1'
        have hrow := H8.out.1.ri
        have hlb8 : b < w8.heap.size := H8.out.1.lt _ H8.out.1.fb
        have hlc8 : cb < w8.heap.size := (Array.getElem?_eq_some_iff.1 H8.out.2.2.2.1).1
        have hls8 : sz < w8.heap.size := (Array.getElem?_eq_some_iff.1 H8.out.2.2.2.2.1).1
        have hne : vi8.ownBlock ≠ some b := row_not H8.out.1.ri H8.out.1.blk (by decide)
        have hneC : vi8.ownBlock ≠ some cb := fun e => H8.out.2.2.2.2.2.1 (H8.out.1.fi cb e)
        have hneS : vi8.ownBlock ≠ some sz := fun e => H8.out.2.2.2.2.2.2.1 (H8.out.1.fi sz e)
        obtain ⟨L, hL⟩ : ∃ L, r8.inn.length = L := ⟨_, rfl⟩
        obtain ⟨X, hX⟩ : ∃ X, cellsC r8.inn = X := ⟨_, rfl⟩
        have hL8 := H8.out.2.2.2.2.2.2.2
        simp only [hL, hX] at hrow
        rw [hL] at hL8
        have hmx : L + 1 ≤ maxLen := by unfold maxLen; omega
        have hby : (L + 1) * 16 ≤ 140737488355328 := by omega
        have HLX := Lib.hid (And.intro hL hX)
        clear hL hX
        have hstep : ∀ {ops : Array Oper} {o : Oper} {a : Act} {K : Act → World → Prop} {Q : Exit → Act → World → Prop} {E : Prop}, o.guard = none → o.op = .call { callee := .builtin .append, args := #[.tmp 103, .tmp 105], argTypes := #[31, 31] } → a.eval (.tmp 103) = vi8 → a.eval (.tmp 105) = .slice (some ⟨w8.heap.size, 0, none⟩) 1 1 → (∀ g cap w', w'.ownsRow 0 34 2 (.slice (some ⟨g, 0, none⟩) (L + 1) cap) (L + 1) (X ++ [.int .i64 k, .int .i64 n8]) → (w8.alloc (.cells #[.int .i64 k, .int .i64 n8] 34)).drew.grownBy w' vi8.ownBlock → (vi8.ownBlock = some g ∨ g = w8.heap.size + 1) → g < w'.heap.size → K (a.put o.dst (.slice (some ⟨g, 0, none⟩) (L + 1) cap)) w') → if Region.wanted o (yielded ops a.tmps) = true then Oper.wp Try.prog o a (w8.alloc (.cells #[.int .i64 k, .int .i64 n8] 34)).drew K Q else E := fun hg ho he hx hK => step_append_lies _ hg _ _ _ ho 0 34 i0 _ 2 16 Try.underlying31 hi hz0 hz1 hz2 rfl (by omega) vi8 L X he ((hrow.alloc _).drew) ⟨w8.heap.size, 0, none⟩ 1 1 [.int .i64 k, .int .i64 n8] hx rfl (World.news_of_block (cs := #[.int .i64 k, .int .i64 n8]) (t := 34) (fr := (0, 0)) (heap_alloc_new w8 _)) (by simp [Value.oneCell']) (by decide) hmx hby (Nat.zero_le _) (w8.heap.size + 1) (by simp) hK
        have hblk : ∀ (w1 : World) (j : Nat), (w8.alloc (.cells #[.int .i64 k, .int .i64 n8] 34)).drew.grownBy w1 vi8.ownBlock → j < w8.heap.size → vi8.ownBlock ≠ some j → w1.heap[j]? = w8.heap[j]? := fun w1 j hg hj hn => (hg.block j (show j < (w8.alloc (.cells #[.int .i64 k, .int .i64 n8] 34)).heap.size by simp; omega) (Ne.symm hn)).trans (Below.heap_alloc w8 _ _ hj)
        have hfarb : ∀ w1 : World, (w8.alloc (.cells #[.int .i64 k, .int .i64 n8] 34)).drew.grownBy w1 vi8.ownBlock → w1.cell? ⟨b, 1, none⟩ = some vi8 ∧ w1.frozen? ⟨b, 1, none⟩ = false := fun w1 hg => ⟨(World.cell?_of_block (hblk w1 b hg hlb8 hne)).trans ck, (World.frozen?_of_block (hblk w1 b hg hlb8 hne)).trans fk⟩
        have hfars : ∀ w1 : World, (w8.alloc (.cells #[.int .i64 k, .int .i64 n8] 34)).drew.grownBy w1 vi8.ownBlock → w1.cell? ⟨cb, 0, none⟩ = some (.int .i64 k) ∧ w1.cell? ⟨cb, 1, none⟩ = some (.int .i64 n8) := fun w1 hg =>
          ⟨(World.cell?_of_block (hblk w1 cb hg hlc8 hneC)).trans d0', (World.cell?_of_block (hblk w1 cb hg hlc8 hneC)).trans d1'⟩
        go_cut [] from 61 to 108 (fun wx => ∃ g cap w1, w1.ownsRow 0 34 2 (.slice (some ⟨g, 0, none⟩) (L + 1) cap) (L + 1) (X ++ [.int .i64 k, .int .i64 n8]) ∧ (w8.alloc (.cells #[.int .i64 k, .int .i64 n8] 34)).drew.grownBy w1 vi8.ownBlock ∧ (vi8.ownBlock = some g ∨ g = w8.heap.size + 1) ∧ g < w1.heap.size ∧ wx = w1.setCell ⟨b, 1, none⟩ (.slice (some ⟨g, 0, none⟩) (L + 1) cap))
        case first =>
          go_region_law (refine hstep (by rfl) (by rfl) (by kernel_rfl) (by kernel_rfl) ?_; intro gg cap w1 hown1 hgrow hat hlt; have cw1 := (hfarb w1 hgrow).1; have fw1 := (hfarb w1 hgrow).2; have ew1 := (hfars w1 hgrow).1; have gw1 := (hfars w1 hgrow).2)
          all_goals (go_wp2_with fail; go_meet; exact ⟨_, _, _, hown1, hgrow, hat, hlt, rfl⟩)
        case rest =>
          obtain ⟨g, cap, w9, hown, hgrow, hat, hlt, rfl⟩ := hcut
          have hX := HLX.out.2
          have hL := HLX.out.1
          subst hX hL
          have hw8 := H8.out.2.1.size
          have hw89 : w8.heap.size ≤ w9.heap.size := Nat.le_trans (by simp) hgrow.size
          have hown' : w9.ownsRow 0 34 2 (.slice (some ⟨g, 0, none⟩) (r8.inn.length + 1) cap) (r8.inn ++ [((k : Int), n8)]).length (cellsC (r8.inn ++ [((k : Int), n8)])) := by
            rw [List.length_append, cellsC_app]; exact hown
          have hat' : ∀ x, (Value.slice (some ⟨g, 0, none⟩) (r8.inn.length + 1) cap).ownBlock = some x → vi8.ownBlock = some x ∨ w8.heap.size ≤ x := fun x e => by
            have : g = x := by simpa [Value.ownBlock] using e
            subst this
            exact hat.imp id (fun e => by omega)
          have h10 := H8.out.1.inn (w' := w9) (fun j hj hv => hblk w9 j hgrow (H8.out.1.lt j hj) hv) hw89 hown' hat'
          have ho10 : Only F w (w9.setCell ⟨b, 1, none⟩ (.slice (some ⟨g, 0, none⟩) (r8.inn.length + 1) cap)) :=
            (((H8.out.2.1.alloc _).drew.grown hgrow (fun x e => H8.out.2.2.1 x (H8.out.1.fi x e)))).setCell (H8.out.2.2.1 b H8.out.1.fb) _
          have hg10 : Grows w F (fun x => F8 x ∨ (Value.slice (some ⟨g, 0, none⟩) (r8.inn.length + 1) cap).ownBlock = some x) := fun x hx => by
            rcases hx with hx | hx
            · exact H8.out.2.2.1 x hx
            · rcases hat' x hx with e | e
              · exact H8.out.2.2.1 x (H8.out.1.fi x e)
              · exact .inr (by omega)
          have hcbb : cb ≠ b := fun e => H8.out.2.2.2.2.2.1 (e ▸ H8.out.1.fb)
          have hszb : sz ≠ b := fun e => H8.out.2.2.2.2.2.2.1 (e ▸ H8.out.1.fb)
          have kc : (w9.setCell ⟨b, 1, none⟩ (.slice (some ⟨g, 0, none⟩) (r8.inn.length + 1) cap)).heap[cb]? = some (.cells #[.int .i64 k, .int .i64 n8] 34 (0, 0)) := (Below.heap_setCell _ _ _ _ (by simpa using hcbb)).trans ((hblk w9 cb hgrow hlc8 hneC).trans H8.out.2.2.2.1)
          have ks : (w9.setCell ⟨b, 1, none⟩ (.slice (some ⟨g, 0, none⟩) (r8.inn.length + 1) cap)).heap[sz]? = some (.cells #[.int .i64 0, .int .i64 0] 34 (0, 0)) := (Below.heap_setCell _ _ _ _ (by simpa using hszb)).trans ((hblk w9 sz hgrow hls8 hneS).trans H8.out.2.2.2.2.1)
          have hszg : g ≠ sz := fun e => by subst e; exact hat.elim (fun e => hneS e) (fun e => by omega)
          have hnF : ¬ (F8 sz ∨ (Value.slice (some ⟨g, 0, none⟩) (r8.inn.length + 1) cap).ownBlock = some sz) := fun e => e.elim H8.out.2.2.2.2.2.2.1 (fun e => hszg (by simpa [Value.ownBlock] using e))
          have H10 := Lib.hid (And.intro h10 (And.intro ho10 (And.intro hg10 (And.intro ks hnF))))
          have e0' := Mem.row_cell kc 0
          have e1' := Mem.row_cell kc 1
          have s0' := Mem.row_cell ks 0
          have s1' := Mem.row_cell ks 1
          have t0' := Mem.row_free ks 0
          have t1' := Mem.row_free ks 1
          simp only [List.getElem?_toArray, List.getElem?_cons_zero, List.getElem?_cons_succ] at e0' e1' s0' s1'
          have hcs : cb ≠ sz := fun e => by have h1 := H8.out.2.2.2.1; subst e; have := HCS.out; omega
          clear h10 ho10 hg10 hown hgrow hat hlt hown' hat' hstep hblk hfarb hfars kc ks hnF
          generalize w9.setCell ⟨b, 1, none⟩ (.slice (some ⟨g, 0, none⟩) (r8.inn.length + 1) cap) = wA at *
          go_wp2
          have r1 : ((wA.setCell ⟨sz, 0, none⟩ (.int .i64 k)).setCell ⟨sz, 1, none⟩ (.int .i64 n8)).cell? ⟨sz, 1, none⟩ = some (.int .i64 n8) :=
            World.cell?_setCell_same' _ _ _ (by rw [World.cell?_setCell_other _ _ _ _ (by simp), s1']; rfl)
          have r0 : ((wA.setCell ⟨sz, 0, none⟩ (.int .i64 k)).setCell ⟨sz, 1, none⟩ (.int .i64 n8)).cell? ⟨sz, 0, none⟩ = some (.int .i64 k) := by
            rw [World.cell?_setCell_other _ _ _ _ (by simp)]; exact World.cell?_setCell_same' _ _ _ (by rw [s0']; rfl)
          refine bodyPost_ret (v := .tuple #[.agg #[.int .i64 k, .int .i64 n8], .int .i64 0]) (by simp [results, Try.results19, go_sem, r0, r1]) rfl ?_
          have hset : ∀ x, x ≠ sz → ((wA.setCell ⟨sz, 0, none⟩ (.int .i64 k)).setCell ⟨sz, 1, none⟩ (.int .i64 n8)).heap[x]? = wA.heap[x]? := fun x hx => (Below.heap_setCell _ _ _ _ (by simpa using hx)).trans (Below.heap_setCell _ _ _ _ (by simpa using hx))
          have hsw : w.heap.size ≤ sz := by have := HS.out; omega
          refine ⟨k, n8, 0, _, _, rfl, ⟨_, _, _, H10.out.1.same (fun x hx => hset x (fun e => H10.out.2.2.2.2 (e ▸ hx))) (by simp [World.setCell])⟩, (H10.out.2.1.setCell (p := ⟨sz, 0, none⟩) (.inr hsw) _).setCell (p := ⟨sz, 1, none⟩) (.inr hsw) _, H10.out.2.2.1, .inr (.inr ⟨HX.out.1, by rw [HU.out]; have := HX.out.2.1; omega, by rw [HKK.out], rfl, ?_⟩)⟩
          exact HT8.out
end
end Go.Proofs.Ytohnnlimkmofbaa.RefSlab
