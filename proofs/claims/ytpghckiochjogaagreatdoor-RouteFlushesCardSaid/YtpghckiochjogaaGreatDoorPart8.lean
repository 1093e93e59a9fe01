/- Part8: Slab6, one behind the other. -/
import Derived.Test.YtpghckiochjogaaGreatDoorPart7
import Derived.Maps.AppendAt
import Derived.Deep.RegionHeld3
import Derived.Deep.RegionLaw
import Derived.Deep.AppendLies
import Derived.Deep.CutRange
/- The walk of the slab's Free. -/
namespace Go.Proofs.YtpghckiochjogaaGreatDoor.Slab
open Go Go.RowKit Go.Proofs.YtpghckiochjogaaGreatDoor.Mem
def FreePost (w : World) (b : Nat) (F : Nat → Prop) (s : St) (c : Int × Int) (e : Ending) (w' : World) : Prop :=
  ∃ F', e = .returned (.int .i64 (s.free c).1) ∧ At w' b F' (s.free c).2 ∧ Only F w w' ∧ Grows w F F'
set_option maxRecDepth 100000 in
set_option maxHeartbeats 1000000 in
theorem free_no {w : World} {b : Nat} {F : Nat → Prop} {s : St} (h : At w b F s) (c n : Int) (hc : (c, n) ∉ s.inn) :
    Calls Tryz.prog 86 #[.pointer (some ⟨b, 0, none⟩), .agg #[.int .i64 c, .int .i64 n]] w (FreePost w b F s (c, n)) := by
  have hfin : ∀ w', Below w.heap.size w w' → FreePost w b F s (c, n) (.returned (.int .i64 1)) w' := fun w' hb => by
    have ht : s.free (c, n) = (1, s) := by unfold St.free; rw [if_neg hc]
    unfold FreePost; rw [ht]
    have hl : ∀ k, F k → k < w.heap.size := by obtain ⟨_, _, h⟩ := h; exact h.lt
    exact ⟨F, rfl, h.below hb, Only.of_below hb (fun k h1 h2 => by omega), Grows.refl _ _⟩
  obtain ⟨mb, gv, h⟩ := h
  have c2 : w.cell? ⟨b, 2, none⟩ = some (.map (some mb)) := Mem.row_cell h.blk 2
  have hb : b < w.heap.size := h.lt _ h.fb
  have hml := h.map.lt
  have hlk : ∀ m, (Instr.lookup 102 (.map (some mb)) (.agg #[.int .i64 c, .int .i64 n]) false).run Tryz.prog ((w.alloc (.cells #[.int .i64 c, .int .i64 n] 123)).drewN m) = .ok (.bool false) ((w.alloc (.cells #[.int .i64 c, .int .i64 n] 123)).drewN m) := fun m => by
    have := lookup_pairs (w := (w.alloc (.cells #[.int .i64 c, .int .i64 n] 123)).drewN m) (h.map.same (by show (w.alloc _).heap[mb]? = _; exact Below.heap_alloc _ _ _ hml)) c n
    simpa [hc] using this
  clear h hc
  go_enter Tryz.func86, Tryz.ntmps86
  go_wp2
  go_quiet (fail)
  go_wp2
  go_ret
  exact hfin _ (Mem.dn (Mem.al (Below.refl _ _) _) _)
theorem del_pairs (l : List (Int × Int)) (c : Int × Int) : Maps.del (pairs l) c = pairs (l.erase c) := by
  induction l with
  | nil => rfl
  | cons p l ih =>
    simp only [pairs, List.map_cons, Maps.del, List.erase_cons] at ih ⊢
    by_cases h : c = p
    · subst h; simp
    · rw [if_neg h, ih]
      have : (p == c) = false := by simpa using Ne.symm h
      simp [this]
theorem AtW.delIn {w : World} {b : Nat} {F : Nat → Prop} {s : St} {mb : Nat} {gv : Nat → Value} (h : AtW w b F s mb gv) {o : Obj} {c : Int × Int} (hm : Maps.Is encC (w.putObj mb o) mb (Maps.del (pairs s.inn) c)) :
    AtW (w.putObj mb o) b F { s with inn := s.inn.erase c } mb gv := by
  have hsame : ∀ j, j ≠ mb → (w.putObj mb o).heap[j]? = w.heap[j]? := fun j hj => World.putObj_heap_other hj
  exact ⟨(hsame _ (Ne.symm h.map_ne)).trans h.blk, by rw [del_pairs] at hm; exact hm, fun k hk => row_same (h.rows k hk) fun g e => hsame g (fun e' => h.row_map hk (e' ▸ e)), h.fb, h.fm, h.fr, h.apart, fun k hk => by rw [World.putObj_size]; exact h.lt k hk⟩
theorem infoInt : (Tryz.prog.info? 3).map (fun i => (i.zero, i.size, i.bytes)) = some (some (.int .i64 0), 1, 8) := by kernel_rfl
theorem AtW.pushGone {w w1 : World} {b : Nat} {F : Nat → Prop} {s : St} {mb : Nat} {gv : Nat → Value} (h : AtW w b F s mb gv) {k : Nat} (hk : k < 6) {o : Obj} {g cap : Nat} {n : Int}
    (hown : w1.ownsRow 0 3 1 (.slice (some ⟨g, 0, none⟩) ((s.gone k).length + 1) cap) ((s.gone k).length + 1) ((s.gone k).map (Value.int .i64) ++ [.int .i64 n]))
    (hgrow : (w.alloc o).drew.grownBy w1 (gv k).ownBlock) (hat : (gv k).ownBlock = some g ∨ g = w.heap.size + 1) (hlt : g < w1.heap.size) :
    AtW (w1.setCell ⟨b, 3 + k, none⟩ (.slice (some ⟨g, 0, none⟩) ((s.gone k).length + 1) cap)) b (fun j => F j ∨ j = g) { s with gone := put s.gone k (s.gone k ++ [n]) } mb (put gv k (.slice (some ⟨g, 0, none⟩) ((s.gone k).length + 1) cap)) := by
  have hgb : g ≠ b := fun e => hat.elim (fun e1 => h.row_ne hk (e ▸ e1)) (fun e1 => by have := h.lt _ h.fb; omega)
  have hgm : g ≠ mb := fun e => hat.elim (fun e1 => h.row_map hk (e ▸ e1)) (fun e1 => by have := h.lt _ h.fm; omega)
  have hsz : w.heap.size + 1 ≤ w1.heap.size := by have := hgrow.size; simpa using this
  have hsame : ∀ j, F j → (gv k).ownBlock ≠ some j → w1.heap[j]? = w.heap[j]? := fun j hj hne => by
    have hl := h.lt j hj
    exact (hgrow.block j (by simp; omega) (Ne.symm hne)).trans (Below.heap_alloc w o j hl)
  have hset : ∀ j, j ≠ b → ∀ v, (w1.setCell ⟨b, 3 + k, none⟩ v).heap[j]? = w1.heap[j]? := fun j hj v => Below.heap_setCell _ _ _ _ hj
  have hgj : ∀ j, j < 6 → j ≠ k → ∀ g', (gv j).ownBlock = some g' → g' ≠ g := fun j hj hjk g' e e1 => by
    subst e1
    exact hat.elim (fun e2 => h.apart j k hj hk hjk g' e e2) (fun e2 => by have := h.lt _ (h.fr j hj g' e); omega)
  refine ⟨?_, h.map.same ((hset _ h.map_ne _).trans (hsame _ h.fm (h.row_map hk))), fun j hj => ?_, .inl h.fb, .inl h.fm, fun j hj g' e => ?_, fun i j hi hj hij g' e e' => ?_, fun j hj => ?_⟩
  · have := Mem.row_set ((hsame _ h.fb (h.row_ne hk)).trans h.blk) (3 + k) (.slice (some ⟨g, 0, none⟩) ((s.gone k).length + 1) cap)
    rwa [cells_set_gone k hk _ (s.gone k ++ [n])] at this
  · by_cases hjk : j = k
    · subst hjk
      simp only [put_same]
      have : w1.ownsRow 0 3 1 (.slice (some ⟨g, 0, none⟩) ((s.gone j).length + 1) cap) (s.gone j ++ [n]).length ((s.gone j ++ [n]).map (Value.int .i64)) := by simpa using hown
      exact row_same this fun g' e => hset _ (fun e' => hgb (by simp [Value.ownBlock] at e; omega)) _
    · simp only [put_other _ _ hjk]
      exact row_same (h.rows j hj) fun g' e => (hset _ (fun e' => h.row_ne hj (e' ▸ e)) _).trans (hsame _ (h.fr j hj g' e) (fun e2 => h.apart j k hj hk hjk g' e e2))
  · by_cases hjk : j = k
    · subst hjk
      simp only [put_same] at e
      exact .inr (by simp [Value.ownBlock] at e; exact e.symm)
    · simp only [put_other _ _ hjk] at e
      exact .inl (h.fr j hj g' e)
  · by_cases hik : i = k
    · subst hik
      have hji := Ne.symm hij
      simp only [put_same, put_other _ _ hji] at e e'
      exact hgj j hj hji g' e' (by simp [Value.ownBlock] at e; exact e.symm)
    · by_cases hjk : j = k
      · subst hjk
        simp only [put_same, put_other _ _ hij] at e e'
        exact hgj i hi hij g' e (by simp [Value.ownBlock] at e'; exact e'.symm)
      · simp only [put_other _ _ hik, put_other _ _ hjk] at e e'
        exact h.apart i j hi hj hij g' e e'
  · rw [show (w1.setCell ⟨b, 3 + k, none⟩ (.slice (some ⟨g, 0, none⟩) ((s.gone k).length + 1) cap)).heap.size = w1.heap.size from by simp [World.setCell]]
    exact hj.elim (fun e => by have := h.lt j e; omega) (fun e => e ▸ hlt)
set_option maxRecDepth 100000 in
set_option maxHeartbeats 2000000 in
theorem free_yes {w : World} {b : Nat} {F : Nat → Prop} {s : St} (h : At w b F s) {N : Nat} (hs : Small N s) (hN : N ≤ 2199023255552) (k : Nat) (n : Int) (hk : k < 6) (hc : ((k : Int), n) ∈ s.inn) :
    Calls Tryz.prog 86 #[.pointer (some ⟨b, 0, none⟩), .agg #[.int .i64 k, .int .i64 n]] w (FreePost w b F s (k, n)) := by
  obtain ⟨mb, gv, h⟩ := h
  obtain ⟨i0, hi, hz0, hz1, hz2⟩ := info_parts infoInt
  have hb : b < w.heap.size := h.lt _ h.fb
  have hml := h.map.lt
  have hFl : ∀ k, F k → k < w.heap.size := h.lt
  have h1 : AtW (w.alloc (.cells #[.int .i64 k, .int .i64 n] 123)) b F s mb gv := by
    have hsm : ∀ j, j < w.heap.size → (w.alloc (.cells #[.int .i64 k, .int .i64 n] 123)).heap[j]? = w.heap[j]? := fun j hj => Below.heap_alloc _ _ _ hj
    exact ⟨(hsm _ hb).trans h.blk, h.map.same (hsm _ hml), fun j hj => row_same (h.rows j hj) fun g e => hsm g (h.lt _ (h.fr j hj g e)), h.fb, h.fm, h.fr, h.apart, fun j hj => by have := h.lt j hj; simp; omega⟩
  have c2 : w.cell? ⟨b, 2, none⟩ = some (.map (some mb)) := Mem.row_cell h.blk 2
  have hlk : ∀ m, (Instr.lookup 102 (.map (some mb)) (.agg #[.int .i64 k, .int .i64 n]) false).run Tryz.prog ((w.alloc (.cells #[.int .i64 k, .int .i64 n] 123)).drewN m) = .ok (.bool true) ((w.alloc (.cells #[.int .i64 k, .int .i64 n] 123)).drewN m) := fun m => by
    have := lookup_pairs (w := (w.alloc (.cells #[.int .i64 k, .int .i64 n] 123)).drewN m) (h.map.same (by show (w.alloc _).heap[mb]? = _; exact Below.heap_alloc _ _ _ hml)) k n
    simpa [hc] using this
  have H1 := Lib.hid h1
  have HC := Lib.hid hc
  clear h h1 hc
  go_enter Tryz.func86, Tryz.ntmps86
  go_wp2
  go_quiet (fail)
  go_wp2
  have ha : AtW ((w.alloc (.cells #[.int .i64 k, .int .i64 n] 123)).drewN nq) b F s mb gv := ⟨H1.out.blk, H1.out.map, H1.out.rows, H1.out.fb, H1.out.fm, H1.out.fr, H1.out.apart, H1.out.lt⟩
  have hR : ((w.alloc (.cells #[.int .i64 k, .int .i64 n] 123)).drewN nq).heap[w.heap.size]? = some (.cells #[.int .i64 k, .int .i64 n] 123 (0, 0)) := Mem.new_block w _
  have hO : Only F w ((w.alloc (.cells #[.int .i64 k, .int .i64 n] 123)).drewN nq) := Only.drewN (Only.alloc (Only.refl F w) _) nq
  have hsz : ((w.alloc (.cells #[.int .i64 k, .int .i64 n] 123)).drewN nq).heap.size = w.heap.size + 1 := by show (w.alloc _).heap.size = _; simp
  clear hlk H1
  generalize (w.alloc (.cells #[.int .i64 k, .int .i64 n] 123)).drewN nq = Wa at *
  obtain ⟨o, hdel, hIs⟩ := Maps.run_delete (w := Wa.drew) chunkLaw Tryz.underlying102 (ha.map.same rfl) ((k : Int), n) 0 123
  have hb4 := AtW.delIn (w := Wa.drew) ⟨ha.blk, ha.map, ha.rows, ha.fb, ha.fm, ha.fr, ha.apart, ha.lt⟩ hIs
  have hR4 : (Wa.drew.putObj mb o).heap[w.heap.size]? = some (.cells #[.int .i64 k, .int .i64 n] 123 (0, 0)) := (World.putObj_heap_other (by have := hFl _ ha.fm; omega)).trans hR
  have hO4 : Only F w (Wa.drew.putObj mb o) := hO.drew.putObj (.inl ha.fm) o
  have hsz4 : (Wa.drew.putObj mb o).heap.size = w.heap.size + 1 := by rw [World.putObj_size]; exact hsz
  have d2 : Wa.cell? ⟨b, 2, none⟩ = some (.map (some mb)) := Mem.row_cell ha.blk 2
  have d0 := Mem.row_cell hR 0
  have d1 := Mem.row_cell hR 1
  simp only [List.getElem?_toArray, List.getElem?_cons_zero, List.getElem?_cons_succ] at d0 d1
  generalize Wa.drew.putObj mb o = Wb at *
  have hdel' : ∀ _ : True, (Builtin.delete_ #[102, 123] 0 #[.map (some mb), .agg #[.int .i64 k, .int .i64 n]]).run Tryz.prog Wa.drew = .ok (.tuple #[]) Wb := fun _ => hdel
  have HA := Lib.hid hb4
  have HR := Lib.hid hR4
  have HO := Lib.hid hO4
  have HZ := Lib.hid hsz4
  clear hdel hIs ha hR hO hsz hb4 hR4 hO4 hsz4
  refine wp_region_still_tail 5 (by kernel_rfl) (by kernel_rfl) ?_
  simp only [List.take_succ_cons, List.take_zero, List.drop_succ_cons, List.drop_zero]
  repeat still_step
  refine wpStill_nil ?_
  change wpList _ _ _ _ _ Wa.drew
  go_wp2
  have hb4 := HA.out
  have ck : Wb.cell? ⟨b, 3 + k, none⟩ = some (gv k) := (Mem.row_cell hb4.blk (3 + k)).trans (cells_gone k hk)
  have fk := Mem.row_free hb4.blk (3 + k)
  have d0' := Mem.row_cell HR.out 0
  have d1' := Mem.row_cell HR.out 1
  simp only [List.getElem?_toArray, List.getElem?_cons_zero, List.getElem?_cons_succ] at d0' d1'
  have hrow := hb4.rows k hk
  have hk0 : (0 : Int) ≤ k := by omega
  have hk6 : (k : Int) < 6 := by omega
  clear hb4 d2 d0 d1 hdel'
  have hRn := HR.out
  have hW0 : 0 < Wb.heap.size := by have := HZ.out; omega
  have hne : (gv k).ownBlock ≠ some b := HA.out.row_ne hk
  have hneR : (gv k).ownBlock ≠ some w.heap.size := fun e => by have := hFl _ (HA.out.fr k hk _ e); omega
  have hlb : b < Wb.heap.size := by have := HZ.out; omega
  have hlR : w.heap.size < Wb.heap.size := by have := HZ.out; omega
  have hlen : (s.gone k).length ≤ 2199023255552 := Nat.le_trans (hs.g k) hN
  obtain ⟨v0, hv0⟩ : ∃ v0, gv k = v0 := ⟨_, rfl⟩
  obtain ⟨L, hL⟩ : ∃ L, (s.gone k).length = L := ⟨_, rfl⟩
  obtain ⟨X, hX⟩ : ∃ X, (s.gone k).map (Value.int .i64) = X := ⟨_, rfl⟩
  simp only [hv0, hL, hX] at ck hrow hne hneR hlen
  have HV := Lib.hid hv0
  have HL := Lib.hid hL
  have HX := Lib.hid hX
  clear hv0 hL hX
  have hmx : L + 1 ≤ maxLen := by unfold maxLen; omega
  have hby : (L + 1) * 8 ≤ 140737488355328 := by omega
  have hstep : ∀ {ops : Array Oper} {o : Oper} {a : Act} {K : Act → World → Prop} {Q : Exit → Act → World → Prop} {E : Prop}, o.guard = none → o.op = .call { callee := .builtin .append, args := #[.tmp 26, .tmp 29], argTypes := #[103, 103] } → a.eval (.tmp 26) = v0 → a.eval (.tmp 29) = .slice (some ⟨Wb.heap.size, 0, none⟩) 1 1 → (∀ g cap w', w'.ownsRow 0 3 1 (.slice (some ⟨g, 0, none⟩) (L + 1) cap) (L + 1) (X ++ [.int .i64 n]) → (Wb.alloc (.cells #[.int .i64 n] 3)).drew.grownBy w' v0.ownBlock → (v0.ownBlock = some g ∨ g = Wb.heap.size + 1) → g < w'.heap.size → K (a.put o.dst (.slice (some ⟨g, 0, none⟩) (L + 1) cap)) w') → if Region.wanted o (yielded ops a.tmps) = true then Oper.wp Tryz.prog o a (Wb.alloc (.cells #[.int .i64 n] 3)).drew K Q else E := fun hg ho he hx hK => step_append_lies _ hg _ _ _ ho 0 3 i0 _ 1 8 Tryz.underlying103 hi hz0 hz1 hz2 rfl (by omega) v0 L X he ((hrow.alloc _).drew) ⟨Wb.heap.size, 0, none⟩ 1 1 [.int .i64 n] hx rfl (World.news_of_block (cs := #[.int .i64 n]) (t := 3) (fr := (0, 0)) (heap_alloc_new Wb _)) (by simp [Value.oneCell']) (by decide) hmx hby (Nat.zero_le _) (Wb.heap.size + 1) (by simp) hK
  have hsl : b < (Wb.alloc (.cells #[.int .i64 n] 3)).drew.heap.size := by simp; omega
  have hsR : w.heap.size < (Wb.alloc (.cells #[.int .i64 n] 3)).drew.heap.size := by simp; omega
  have hblk : ∀ w1 : World, (Wb.alloc (.cells #[.int .i64 n] 3)).drew.grownBy w1 v0.ownBlock → w1.heap[b]? = Wb.heap[b]? ∧ w1.heap[w.heap.size]? = Wb.heap[w.heap.size]? := fun w1 hg => by
    constructor
    · exact (hg.block b hsl (Ne.symm hne)).trans (Below.heap_alloc Wb _ _ hlb)
    · exact (hg.block _ hsR (Ne.symm hneR)).trans (Below.heap_alloc Wb _ _ hlR)
  have hfarb : ∀ w1 : World, (Wb.alloc (.cells #[.int .i64 n] 3)).drew.grownBy w1 v0.ownBlock → w1.cell? ⟨b, 3 + k, none⟩ = some v0 ∧ w1.frozen? ⟨b, 3 + k, none⟩ = false ∧ w1.cell? ⟨w.heap.size, 0, none⟩ = some (.int .i64 k) ∧ w1.cell? ⟨w.heap.size, 1, none⟩ = some (.int .i64 n) := fun w1 hg => by
    obtain ⟨e1, e2⟩ := hblk w1 hg
    exact ⟨(World.cell?_of_block e1).trans ck, (World.frozen?_of_block e1).trans fk, (World.cell?_of_block e2).trans d0', (World.cell?_of_block e2).trans d1'⟩
  go_cut [] from 17 to 33 (fun wx => ∃ g cap w1, w1.ownsRow 0 3 1 (.slice (some ⟨g, 0, none⟩) (L + 1) cap) (L + 1) (X ++ [.int .i64 n]) ∧ (Wb.alloc (.cells #[.int .i64 n] 3)).drew.grownBy w1 v0.ownBlock ∧ (v0.ownBlock = some g ∨ g = Wb.heap.size + 1) ∧ g < w1.heap.size ∧ wx = w1.setCell ⟨b, 3 + k, none⟩ (.slice (some ⟨g, 0, none⟩) (L + 1) cap))
  case first =>
    go_region_law (refine hstep (by rfl) (by rfl) (by rfl) (by rfl) ?_; intro gg cap w1 hown1 hgrow hat hlt; have cw1 := (hfarb w1 hgrow).1; have fw1 := (hfarb w1 hgrow).2.1; have ew1 := (hfarb w1 hgrow).2.2.1; have gw1 := (hfarb w1 hgrow).2.2.2)
    all_goals (go_wp2_with fail; go_meet; exact ⟨_, _, _, hown1, hgrow, hat, hlt, rfl⟩)
  case rest =>
    obtain ⟨g, cap, w1, hown1, hgrow, hat, hlt, rfl⟩ := hcut
    have hv0 := HV.out
    have hL := HL.out
    have hX := HX.out
    subst hL hX hv0
    have h5 := HA.out.pushGone hk hown1 hgrow hat hlt
    have hO5 : Only F w (w1.setCell ⟨b, 3 + k, none⟩ (.slice (some ⟨g, 0, none⟩) ((s.gone k).length + 1) cap)) :=
      ((((HO.out.alloc _).drew.grown hgrow fun g' e => .inl (HA.out.fr k hk g' e)).setCell (.inl HA.out.fb) _))
    have hFg : F g ∨ w.heap.size ≤ g := hat.elim (fun e => .inl (HA.out.fr k hk g e)) (fun e => .inr (by have := HZ.out; omega))
    have hR5 : (w1.setCell ⟨b, 3 + k, none⟩ (.slice (some ⟨g, 0, none⟩) ((s.gone k).length + 1) cap)).heap[w.heap.size]? = some (.cells #[.int .i64 k, .int .i64 n] 123 (0, 0)) :=
      (Below.heap_setCell _ _ _ _ (by simp; omega)).trans ((hblk w1 hgrow).2.trans HR.out)
    have hu0 := hs.u0
    have hu1 : s.used ≤ 4503599627370496 := by have := hs.u1; omega
    clear hown1 hgrow hat hlt hstep hfarb hblk hrow ck fk d0' d1' hRn hne hneR
    generalize w1.setCell ⟨b, 3 + k, none⟩ (.slice (some ⟨g, 0, none⟩) ((s.gone k).length + 1) cap) = Wc at *
    have e1 := Mem.row_cell h5.blk 1
    have e2 := Mem.row_free h5.blk 1
    have e3 := Mem.row_cell hR5 0
    simp only [List.getElem?_toArray, List.getElem?_cons_zero] at e3
    replace e1 : Wc.cell? ⟨b, 1, none⟩ = some (.int .i64 s.used) := e1
    obtain ⟨hb0, hb1⟩ := bytes_range (k : Int)
    have hw2 : IntKind.i64.wrap (s.used - bytesI k) = s.used - bytesI k := by rw [IntKind.wrap_i64]; omega
    have H5 := Lib.hid h5
    have HO5 := Lib.hid hO5
    have HF := Lib.hid hFg
    clear h5 hO5 hFg hs hR5
    go_wp2
    refine wp_region_still_tail 10 (by kernel_rfl) (by kernel_rfl) ?_
    simp only [List.take_succ_cons, List.take_zero, List.drop_succ_cons, List.drop_zero]
    repeat (first | still_step | still_call ((bytes_any _ _).mono fun _ _ ⟨h, e⟩ => ⟨h, e.symm⟩))
    refine wpStill_nil ?_
    change wpList _ _ _ _ _ Wc.drew
    go_wp2
    go_ret
    have ht : s.free ((k : Int), n) = (0, { s with inn := s.inn.erase ((k : Int), n), gone := put s.gone k (s.gone k ++ [n]), used := s.used - bytesI k }) := by
      unfold St.free; rw [if_pos HC.out]; rfl
    unfold FreePost
    rw [ht]
    have h6 := AtW.setOwn H5.out 1 _ (cells_set_used (s.used - bytesI k)) rfl rfl
    refine ⟨fun j => F j ∨ j = g, rfl, At.same (w := Wc.setCell ⟨b, 1, none⟩ (.int .i64 (s.used - bytesI k))) ⟨mb, _, h6⟩ (fun _ _ => rfl) (Nat.le_refl _), (HO5.out.setCell (.inl HA.out.fb) _).drew, fun j hj => hj.elim .inl (fun e => ?_)⟩
    subst e
    exact HF.out
theorem free_any {w : World} {b : Nat} {F : Nat → Prop} {s : St} (h : At w b F s) {N : Nat} (hs : Small N s) (hN : N ≤ 2199023255552) (c n : Int) :
    Calls Tryz.prog 86 #[.pointer (some ⟨b, 0, none⟩), .agg #[.int .i64 c, .int .i64 n]] w (FreePost w b F s (c, n)) := by
  by_cases hc : (c, n) ∈ s.inn
  · have h6 := hs.cls _ hc
    simp only at h6
    obtain ⟨k, rfl⟩ : ∃ k : Nat, c = k := ⟨c.toNat, by omega⟩
    exact free_yes h hs hN k n (by omega) hc
  · exact free_no h c n hc
end Go.Proofs.YtpghckiochjogaaGreatDoor.Slab

