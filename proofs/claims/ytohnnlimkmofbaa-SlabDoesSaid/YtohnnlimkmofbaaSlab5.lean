/- The walks of the slab's Take and Free. -/
import Derived.Test.YtohnnlimkmofbaaSlab4
namespace Go.Proofs.Ytohnnlimkmofbaa.Slab
open Go Go.RowKit Go.Proofs.Ytohnnlimkmofbaa.Mem

/-- What Take, Free come to. -/
def TakePost (w : World) (b : Nat) (F : Nat → Prop) (s : St) (size : Int) (e : Ending) (w' : World) : Prop :=
  ∃ F', e = .returned (.tuple #[.agg #[.int .i64 (s.take size).1.1.1, .int .i64 (s.take size).1.1.2], .int .i64 (s.take size).1.2]) ∧ At w' b F' (s.take size).2 ∧ Only F w w' ∧ Grows w F F'

set_option maxHeartbeats 1000000 in
theorem take_long {w : World} {b : Nat} {F : Nat → Prop} {s : St} (h : At w b F s) (size : Int) (h6 : classN size = 6) :
    Calls Try.prog 14 #[.pointer (some ⟨b, 0, none⟩), .int .i64 size] w (TakePost w b F s size) := by
  have hfin : ∀ w', Below w.heap.size w w' → TakePost w b F s size (.returned (.tuple #[.agg #[.int .i64 0, .int .i64 0], .int .i64 4])) w' := fun w' hb => by
    have ht : s.take size = (((0, 0), 4), s) := by unfold St.take; rw [if_pos h6]
    unfold TakePost; rw [ht]
    have hl : ∀ k, F k → k < w.heap.size := by obtain ⟨_, _, h⟩ := h; exact h.lt
    exact ⟨F, rfl, h.below hb, Only.of_below hb (fun k h1 h2 => by omega), Grows.refl _ _⟩
  have e0 : (classE size == 0) = false := by rw [(classE_no h6).1]; rfl
  have e1 := Lib.hid (classE_no h6).1
  clear h h6
  go_enter Try.func14, Try.ntmps14
  go_wp2_with (go_at_call 9; refine (class_any _ _).mono ?_; rintro e w' ⟨rfl, rfl⟩)
  refine bodyPost_ret (v := .tuple #[.agg #[.int .i64 0, .int .i64 0], .int .i64 (classE size)]) (by simp [results, Try.results14, go_sem]) rfl ?_
  rw [e1.out]
  refine hfin _ ?_
  repeat (first | exact Below.refl _ _ | refine Below.drew ?_ | refine Mem.al ?_ _ | refine Below.setCell ?_ (by first | omega | (simp; omega) | simp) _)

set_option maxHeartbeats 1000000 in
theorem take_full {w : World} {b : Nat} {F : Nat → Prop} {s : St} (h : At w b F s) {N : Nat} (hs : Small N s) (hN : N ≤ 1099511627776) (size : Int) (h6 : classN size < 6) (hx : s.budget < s.used + bytesI (classN size)) :
    Calls Try.prog 14 #[.pointer (some ⟨b, 0, none⟩), .int .i64 size] w (TakePost w b F s size) := by
  have hfin : ∀ w', Below w.heap.size w w' → TakePost w b F s size (.returned (.tuple #[.agg #[.int .i64 0, .int .i64 0], .int .i64 5])) w' := fun w' hb => by
    have ht : s.take size = (((0, 0), 5), s) := by unfold St.take; rw [if_neg (by omega), if_pos hx]
    unfold TakePost; rw [ht]
    have hl : ∀ k, F k → k < w.heap.size := by obtain ⟨_, _, h⟩ := h; exact h.lt
    exact ⟨F, rfl, h.below hb, Only.of_below hb (fun k h1 h2 => by omega), Grows.refl _ _⟩
  obtain ⟨mb, gv, h⟩ := h
  have hbl := h.lt _ h.fb
  have c0 : w.cell? ⟨b, 0, none⟩ = some (.int .i64 s.budget) := Mem.row_cell h.blk 0
  have c1 : w.cell? ⟨b, 1, none⟩ = some (.int .i64 s.used) := Mem.row_cell h.blk 1
  have u0 := hs.u0
  have u1 : s.used ≤ 2251799813685248 := by have := hs.u1; omega
  obtain ⟨e1, er⟩ := classE_ok h6
  have e0 : (classE size == 0) = true := by rw [e1]; rfl
  rw [← er] at hx
  have hb := bytes_range (classR size)
  obtain ⟨hb0, hb1⟩ := hb
  have w2 : IntKind.i64.wrap (s.used + bytesI (classR size)) = s.used + bytesI (classR size) := by rw [IntKind.wrap_i64]; omega
  clear h h6 hs er e1
  go_enter Try.func14, Try.ntmps14
  go_wp2_with (go_at_call 9; refine (class_any _ _).mono ?_; rintro e w' ⟨rfl, rfl⟩)
  go_quiet ((go_at_call 11; exact Calls.quiet_of_same ((bytes_any _ _).mono fun _ _ ⟨h, e⟩ => ⟨h, e.symm⟩)))
  go_wp2
  refine bodyPost_ret (v := .tuple #[.agg #[.int .i64 0, .int .i64 0], .int .i64 5]) (by simp [results, Try.results14, go_sem]) rfl ?_
  refine hfin _ ?_
  repeat (first | exact Below.refl _ _ | refine Below.drew ?_ | refine Mem.dn ?_ _ | refine Mem.al ?_ _ | refine Below.setCell ?_ (by first | omega | (simp; omega) | simp) _)

/-- A new pair in the map of chunks. -/
theorem set_pairs (l : List (Int × Int)) (c : Int × Int) : Maps.set (pairs l) c (.bool true) = pairs (addIn l c) := by
  induction l with
  | nil => rfl
  | cons p l ih =>
    simp only [pairs, List.map_cons, Maps.set, addIn, List.mem_cons] at ih ⊢
    by_cases h : c = p
    · subst h; simp
    · rw [if_neg h, ih]
      by_cases hm : c ∈ l <;> simp [h, hm]

theorem AtW.addIn {w : World} {b : Nat} {F : Nat → Prop} {s : St} {mb : Nat} {gv : Nat → Value} (h : AtW w b F s mb gv) {o : Obj} {c : Int × Int} (hm : Maps.Is encC (w.putObj mb o) mb (Maps.set (pairs s.inn) c (.bool true))) :
    AtW (w.putObj mb o) b F { s with inn := Slab.addIn s.inn c } mb gv := by
  have hsame : ∀ j, j ≠ mb → (w.putObj mb o).heap[j]? = w.heap[j]? := fun j hj => World.putObj_heap_other hj
  exact ⟨(hsame _ (Ne.symm h.map_ne)).trans h.blk, by rw [set_pairs] at hm; exact hm, fun k hk => row_same (h.rows k hk) fun g e => hsame g (fun e' => h.row_map hk (e' ▸ e)), h.fb, h.fm, h.fr, h.apart, fun k hk => by rw [World.putObj_size]; exact h.lt k hk⟩

set_option maxHeartbeats 2000000 in
theorem take_ok {w : World} {b : Nat} {F : Nat → Prop} {s : St} (h : At w b F s) {N : Nat} (hs : Small N s) (hN : N ≤ 1099511627776) (size : Int) (h6 : classN size < 6) (hx : ¬ s.budget < s.used + bytesI (classN size)) :
    Calls Try.prog 14 #[.pointer (some ⟨b, 0, none⟩), .int .i64 size] w (TakePost w b F s size) := by
  obtain ⟨k, hk⟩ : ∃ k, classN size = k := ⟨_, rfl⟩
  obtain ⟨e1, er⟩ := classE_ok h6
  rw [hk] at er hx h6
  have hb := bytes_range (k : Nat)
  obtain ⟨hb0, hb1⟩ := hb
  have u0 := hs.u0
  have u1 : s.used ≤ 2251799813685248 := by have := hs.u1; omega
  have hbl : b < w.heap.size := by obtain ⟨_, _, h⟩ := h; exact h.lt _ h.fb
  have c0 : w.cell? ⟨b, 0, none⟩ = some (.int .i64 s.budget) := by obtain ⟨_, _, h⟩ := h; exact Mem.row_cell h.blk 0
  have c1 : w.cell? ⟨b, 1, none⟩ = some (.int .i64 s.used) := by obtain ⟨_, _, h⟩ := h; exact Mem.row_cell h.blk 1
  have w2 : IntKind.i64.wrap (s.used + bytesI k) = s.used + bytesI k := by rw [IntKind.wrap_i64]; omega
  have hx' : decide (s.budget < s.used + bytesI k) = false := by simpa using hx
  have HE := Lib.hid er
  have HE1 := Lib.hid e1
  have HK := Lib.hid hk
  have HX := Lib.hid hx
  clear er e1 hk hx
  go_enter Try.func14, Try.ntmps14
  go_wp2_with (go_at_call 9; refine (class_any _ _).mono ?_; rw [HE.out, HE1.out]; rintro e w' ⟨rfl, rfl⟩)
  go_quiet ((go_at_call 11; exact Calls.quiet_of_same ((bytes_any _ _).mono fun _ _ ⟨h, e⟩ => ⟨h, e.symm⟩)))
  go_wp2_with fail
  have hat := (h.below (Mem.al (Below.refl _ w) (.cells #[.int .i64 0, .int .i64 0] 34))).same (w' := (w.alloc (.cells #[.int .i64 0, .int .i64 0] 34)).drewN nq) (fun _ _ => rfl) (Nat.le_refl _)
  refine (number_any hat hs hN k h6).mono ?_
  have hn1 : (s.number k).2.used = s.used ∧ (s.number k).2.inn = s.inn ∧ (s.number k).2.budget = s.budget := by
    unfold St.number; split <;> exact ⟨rfl, rfl, rfl⟩
  obtain ⟨n, t, hnt⟩ : ∃ n t, s.number k = (n, t) := ⟨_, _, rfl⟩
  have ht : s.take size = ((((k : Int), n), 0), { t with used := s.used + bytesI k, inn := Slab.addIn s.inn (k, n) }) := by
    unfold St.take; rw [HK.out, if_neg (by omega), if_neg (by have := HX.out; omega), hnt]
  have hFl : ∀ k, F k → k < w.heap.size := by obtain ⟨_, _, h⟩ := h; exact h.lt
  unfold NumberPost
  rw [hnt] at hn1 ⊢
  rintro e w3 ⟨rfl, ⟨mb, gv, h3⟩, ho⟩
  obtain ⟨hn1, hn2, hn3⟩ := hn1
  simp only at hn1 hn2 hn3 h3 ⊢
  have hs3 : w.heap.size < w3.heap.size := by have := ho.size; simp at this; omega
  have hR : w3.heap[w.heap.size]? = some (.cells #[.int .i64 0, .int .i64 0] 34 (0, 0)) := (ho.same _ (by simp) (fun e => by have := hFl _ e; omega)).trans (Mem.new_block w _)
  have hC := Mem.new_block w3 (.cells #[.int .i64 k, .int .i64 n] 34)
  have c1' : w3.cell? ⟨b, 1, none⟩ = some (.int .i64 s.used) := by rw [← hn1]; exact Mem.row_cell h3.blk 1
  have f1' := Mem.row_free h3.blk 1
  have c2' : w3.cell? ⟨b, 2, none⟩ = some (.map (some mb)) := Mem.row_cell h3.blk 2
  have hb3 : b < w3.heap.size := h3.lt _ h3.fb
  have hm3 : mb < w3.heap.size := h3.lt _ h3.fm
  -- the world behind the store of used, then of the chunk
  have h4 : AtW ((w3.alloc (.cells #[.int .i64 k, .int .i64 n] 34)).setCell ⟨b, 1, none⟩ (.int .i64 (s.used + bytesI k))) b F { t with used := s.used + bytesI k } mb gv := by
    refine AtW.setOwn (s := t) ?_ 1 _ (cells_set_used _) rfl rfl
    have hsm : ∀ j, j < w3.heap.size → (w3.alloc (.cells #[.int .i64 k, .int .i64 n] 34)).heap[j]? = w3.heap[j]? := fun j hj => Below.heap_alloc _ _ _ hj
    exact ⟨(hsm _ hb3).trans h3.blk, h3.map.same (hsm _ hm3), fun j hj => row_same (h3.rows j hj) fun g e => hsm g (h3.lt _ (h3.fr j hj g e)), h3.fb, h3.fm, h3.fr, h3.apart, fun j hj => by have := h3.lt j hj; simp; omega⟩
  obtain ⟨o, hmu, hIs⟩ := Maps.run_update (w := ((w3.alloc (.cells #[.int .i64 k, .int .i64 n] 34)).setCell ⟨b, 1, none⟩ (.int .i64 (s.used + bytesI k))).drew.drew) chunkLaw Try.underlying46 (h4.map.same rfl) ((k : Int), n) (.bool true)
  have h5 := AtW.addIn (w := ((w3.alloc (.cells #[.int .i64 k, .int .i64 n] 34)).setCell ⟨b, 1, none⟩ (.int .i64 (s.used + bytesI k))).drew.drew) ⟨h4.blk, h4.map, h4.rows, h4.fb, h4.fm, h4.fr, h4.apart, h4.lt⟩ hIs
  have hO : Only F w (((w3.alloc (.cells #[.int .i64 k, .int .i64 n] 34)).setCell ⟨b, 1, none⟩ (.int .i64 (s.used + bytesI k))).drew.drew.putObj mb o) := by
    refine Only.putObj (Only.drew (Only.drew (Only.setCell (Only.alloc ?_ _) (.inl h3.fb) _))) (.inl h3.fm) _
    exact Only.trans (F' := F) (y := (w.alloc (.cells #[.int .i64 0, .int .i64 0] 34)).drewN nq) (Only.drewN (Only.alloc (Only.refl F w) _) nq) ho (Grows.refl _ _)
  have hne1 : w.heap.size ≠ b := by omega
  have hne2 : w.heap.size ≠ mb := by have := hFl _ h3.fm; omega
  have hR9 : (((w3.alloc (.cells #[.int .i64 k, .int .i64 n] 34)).setCell ⟨b, 1, none⟩ (.int .i64 (s.used + bytesI k))).drew.drew.putObj mb o).heap[w.heap.size]? = some (.cells #[.int .i64 0, .int .i64 0] 34 (0, 0)) :=
    (World.putObj_heap_other hne2).trans ((Below.heap_setCell _ _ _ _ hne1).trans ((Below.heap_alloc _ _ _ hs3).trans hR))
  have hC9 : (((w3.alloc (.cells #[.int .i64 k, .int .i64 n] 34)).setCell ⟨b, 1, none⟩ (.int .i64 (s.used + bytesI k))).drew.drew.putObj mb o).heap[w3.heap.size]? = some (.cells #[.int .i64 k, .int .i64 n] 34 (0, 0)) :=
    (World.putObj_heap_other (by omega)).trans ((Below.heap_setCell _ _ _ _ (by simp; omega)).trans hC)
  generalize ((w3.alloc (.cells #[.int .i64 k, .int .i64 n] 34)).setCell ⟨b, 1, none⟩ (.int .i64 (s.used + bytesI k))).drew.drew.putObj mb o = W9 at *
  clear hs hat hnt hIs h4 h h3 ho hC hR
  have hmu' : ∀ _ : True, (Instr.mapUpdate 46 (.map (some mb)) (.agg #[.int .i64 k, .int .i64 n]) (.bool true)).run Try.prog
      (((w3.alloc (.cells #[.int .i64 k, .int .i64 n] 34)).setCell ⟨b, 1, none⟩ (.int .i64 (s.used + bytesI k))).drew.drew) = .ok () W9 := fun _ => hmu
  rw [hn2] at h5
  have q0 := Mem.row_cell hR9 0
  have q1 := Mem.row_cell hR9 1
  have q2 := Mem.row_free hR9 0
  have q3 := Mem.row_free hR9 1
  have p0 := Mem.row_cell hC9 0
  have p1 := Mem.row_cell hC9 1
  simp only [List.getElem?_toArray, List.getElem?_cons_zero, List.getElem?_cons_succ] at q0 q1 p0 p1
  have H5 := Lib.hid h5
  have HO := Lib.hid hO
  have HT := Lib.hid ht
  have HR := Lib.hid hR9
  have HS := Lib.hid hs3
  clear hmu h5 hO ht hR9 hC9 hn1 hn2 hn3 HK HX HE HE1 hx'
  go_wp2
  have k1 : (w3.alloc (.cells #[.int .i64 k, .int .i64 n] 34)).cell? ⟨b, 1, none⟩ = some (.int .i64 s.used) := (World.cell?_alloc_lt _ _ _ hb3).trans c1'
  have k2 : (w3.alloc (.cells #[.int .i64 k, .int .i64 n] 34)).frozen? ⟨b, 1, none⟩ = false := (World.frozen?_of_block (Below.heap_alloc _ _ _ hb3)).trans f1'
  have k3 : ((w3.alloc (.cells #[.int .i64 k, .int .i64 n] 34)).setCell ⟨b, 1, none⟩ (.int .i64 (s.used + bytesI k))).cell? ⟨b, 2, none⟩ = some (.map (some mb)) := by
    rw [World.cell?_setCell_other _ _ _ _ (by simp)]; exact (World.cell?_alloc_lt _ _ _ hb3).trans c2'
  have k4 : ((w3.alloc (.cells #[.int .i64 k, .int .i64 n] 34)).setCell ⟨b, 1, none⟩ (.int .i64 (s.used + bytesI k))).heap[w3.heap.size]? = some (.cells #[.int .i64 k, .int .i64 n] 34 (0, 0)) :=
    (Below.heap_setCell _ _ _ _ (by simp; omega)).trans (Mem.new_block w3 _)
  have k5 := Mem.row_cell k4 0
  have k6 := Mem.row_cell k4 1
  simp only [List.getElem?_toArray, List.getElem?_cons_zero, List.getElem?_cons_succ] at k5 k6
  clear k4
  generalize w3.alloc (.cells #[.int .i64 k, .int .i64 n] 34) = Wa at *
  refine wp_region_still_tail 9 (by kernel_rfl) (by kernel_rfl) ?_
  simp only [List.take_succ_cons, List.take_zero, List.drop_succ_cons, List.drop_zero]
  repeat (first | still_step | still_call ((bytes_any _ _).mono fun _ _ ⟨h, e⟩ => ⟨h, e.symm⟩))
  refine wpStill_nil ?_
  change wpList _ _ _ _ _ Wa.drew
  go_wp2
  replace k3 : (Wa.setCell ⟨b, 1, none⟩ (.int .i64 (s.used + bytesI k))).drew.cell? ⟨b, 2, none⟩ = _ := k3
  replace k5 : (Wa.setCell ⟨b, 1, none⟩ (.int .i64 (s.used + bytesI k))).drew.cell? ⟨w3.heap.size, 0, none⟩ = _ := k5
  replace k6 : (Wa.setCell ⟨b, 1, none⟩ (.int .i64 (s.used + bytesI k))).drew.cell? ⟨w3.heap.size, 1, none⟩ = _ := k6
  generalize (Wa.setCell ⟨b, 1, none⟩ (.int .i64 (s.used + bytesI k))).drew = Wb at *
  refine wp_region_still_tail 5 (by kernel_rfl) (by kernel_rfl) ?_
  simp only [List.take_succ_cons, List.take_zero, List.drop_succ_cons, List.drop_zero]
  repeat still_step
  refine wpStill_nil ?_
  change wpList _ _ _ _ _ Wb.drew
  go_wp2
  have r1 : ((W9.setCell ⟨w.heap.size, 0, none⟩ (.int .i64 k)).setCell ⟨w.heap.size, 1, none⟩ (.int .i64 n)).cell? ⟨w.heap.size, 1, none⟩ = some (.int .i64 n) :=
    World.cell?_setCell_same' _ _ _ (by rw [World.cell?_setCell_other _ _ _ _ (by simp), q1]; rfl)
  have r0 : ((W9.setCell ⟨w.heap.size, 0, none⟩ (.int .i64 k)).setCell ⟨w.heap.size, 1, none⟩ (.int .i64 n)).cell? ⟨w.heap.size, 0, none⟩ = some (.int .i64 k) := by
    rw [World.cell?_setCell_other _ _ _ _ (by simp)]; exact World.cell?_setCell_same' _ _ _ (by rw [q0]; rfl)
  refine bodyPost_ret (v := .tuple #[.agg #[.int .i64 k, .int .i64 n], .int .i64 0]) (by simp [results, Try.results14, go_sem, r0, r1]) rfl ?_
  unfold TakePost
  rw [HT.out]
  have hsm : ∀ j, F j → ((W9.setCell ⟨w.heap.size, 0, none⟩ (.int .i64 k)).setCell ⟨w.heap.size, 1, none⟩ (.int .i64 n)).heap[j]? = W9.heap[j]? := fun j hj => by
    have := hFl j hj
    rw [Below.heap_setCell _ _ _ _ (by simp; omega), Below.heap_setCell _ _ _ _ (by simp; omega)]
  exact ⟨F, rfl, At.same (w := W9) ⟨mb, gv, H5.out⟩ hsm (by simp [World.setCell]), (HO.out.setCell (.inr (Nat.le_refl _)) _).setCell (.inr (Nat.le_refl _)) _, Grows.refl _ _⟩

theorem take_any {w : World} {b : Nat} {F : Nat → Prop} {s : St} (h : At w b F s) {N : Nat} (hs : Small N s) (hN : N ≤ 1099511627776) (size : Int) :
    Calls Try.prog 14 #[.pointer (some ⟨b, 0, none⟩), .int .i64 size] w (TakePost w b F s size) := by
  by_cases h6 : classN size = 6
  · exact take_long h size h6
  have := class_six size
  by_cases hx : s.budget < s.used + bytesI (classN size)
  · exact take_full h hs hN size (by omega) hx
  · exact take_ok h hs hN size (by omega) hx
end Go.Proofs.Ytohnnlimkmofbaa.Slab
