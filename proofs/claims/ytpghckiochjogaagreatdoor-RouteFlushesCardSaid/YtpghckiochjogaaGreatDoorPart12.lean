/- Part12: Exec7, one behind the other. -/
import Derived.Test.YtpghckiochjogaaGreatDoorPart11
/- Layer 12: win. -/
namespace Go.Proofs.YtpghckiochjogaaGreatDoor.Exec
set_option maxRecDepth 100000
open Go Go.RowKit Go.Proofs.YtpghckiochjogaaGreatDoor.Mem Go.Proofs.YtpghckiochjogaaGreatDoor.App Go.Proofs.YtpghckiochjogaaGreatDoor.Shard
theorem status_of (z : Int) (v : Value) (a b c d : Int) (e f g : Bool) (W : World) : (Instr.field 37 (.agg #[.int .i64 z, v, .int .u32 a, .int .u64 b, .int .i64 c, .int .u64 d, .bool e, .bool f, .bool g]) 0).run Tryz.prog W = .ok (.int .i64 z) W := by
  simp [Instr.field, run_underlying Tryz.underlying37, asAgg, part, Result.andThen, Tryz.isAgg3]
theorem set10 (w : World) (t9 : Nat) (v0 v1 v2 v3 v4 v5 v6 v7 v8 v9 : Value) : Only (fun k => k = t9) w ((((((((((w.setCell ⟨t9, 0, none⟩ v0).setCell ⟨t9, 1, none⟩ v1).setCell ⟨t9, 2, none⟩ v2).setCell ⟨t9, 3, none⟩ v3).setCell ⟨t9, 4, none⟩ v4).setCell ⟨t9, 5, none⟩ v5).setCell ⟨t9, 6, none⟩ v6).setCell ⟨t9, 7, none⟩ v7).setCell ⟨t9, 8, none⟩ v8).setCell ⟨t9, 9, none⟩ v9) := only_set (only_set (only_set (only_set (only_set (only_set (only_set (only_set (only_set (only_set (Only.refl (fun k => k = t9) w) 0 v0) 1 v1) 2 v2) 3 v3) 4 v4) 5 v5) 6 v6) 7 v7) 8 v8) 9 v9
theorem set10_row {w : World} {t9 : Nat} {T : TypeId} (ht : w.heap[t9]? = some (.cells Shard.zeroI T (0, 0))) (v0 v1 v2 v3 v4 v5 v6 v7 v8 v9 : Value) : ((((((((((w.setCell ⟨t9, 0, none⟩ v0).setCell ⟨t9, 1, none⟩ v1).setCell ⟨t9, 2, none⟩ v2).setCell ⟨t9, 3, none⟩ v3).setCell ⟨t9, 4, none⟩ v4).setCell ⟨t9, 5, none⟩ v5).setCell ⟨t9, 6, none⟩ v6).setCell ⟨t9, 7, none⟩ v7).setCell ⟨t9, 8, none⟩ v8).setCell ⟨t9, 9, none⟩ v9).heap[t9]? = some (.cells #[v0, v1, v2, v3, v4, v5, v6, v7, v8, v9] T (0, 0)) := by
  rw [Mem.row_set (Mem.row_set (Mem.row_set (Mem.row_set (Mem.row_set (Mem.row_set (Mem.row_set (Mem.row_set (Mem.row_set (Mem.row_set (ht) 0 v0) 1 v1) 2 v2) 3 v3) 4 v4) 5 v5) 6 v6) 7 v7) 8 v8) 9 v9]
  simp [Shard.zeroI]
theorem set10_other (w : World) (t9 : Nat) (v0 v1 v2 v3 v4 v5 v6 v7 v8 v9 : Value) {k : Nat} (hk : k ≠ t9) : ((((((((((w.setCell ⟨t9, 0, none⟩ v0).setCell ⟨t9, 1, none⟩ v1).setCell ⟨t9, 2, none⟩ v2).setCell ⟨t9, 3, none⟩ v3).setCell ⟨t9, 4, none⟩ v4).setCell ⟨t9, 5, none⟩ v5).setCell ⟨t9, 6, none⟩ v6).setCell ⟨t9, 7, none⟩ v7).setCell ⟨t9, 8, none⟩ v8).setCell ⟨t9, 9, none⟩ v9).heap[k]? = w.heap[k]? := by
  repeat rw [Below.heap_setCell _ _ _ _ hk]
section
variable {W w : World} {M b : Nat} {col : Col} {seed : Int} {s : St} {c : Cmd} {env : Env}
set_option maxHeartbeats 4000000 in
theorem win_any (h : Run W w M b col seed s) (hM : M + 1 ≤ 1050000) (cv : Value) (hks : c.key.size ≤ 2000000) :
    Calls Tryz.prog 55 #[.agg (rarr b c cv env)] w (ExecP W w (M + 1) b col seed s.tab.L fun f => win c env f s) := by
  have hb2 : Below w.heap.size w ((w.alloc (.cells (rarr b c cv env) 86)).alloc (.cells (zeroR) 37)) := Mem.al (Mem.al (Below.refl _ _) _) _
  have n1 : ((w.alloc (.cells (rarr b c cv env) 86)).alloc (.cells (zeroR) 37)).heap[w.heap.size]? = some (.cells (rarr b c cv env) 86 (0, 0)) := Mem.new_later (Mem.new_block w _) _
  have n2 : ((w.alloc (.cells (rarr b c cv env) 86)).alloc (.cells (zeroR) 37)).heap[w.heap.size + 1]? = some (.cells (zeroR) 37 (0, 0)) := Mem.new_block2 w _ _
  have hz : ((w.alloc (.cells (rarr b c cv env) 86)).alloc (.cells (zeroR) 37)).heap.size = w.heap.size + 2 := by simp
  obtain ⟨w1, hw1⟩ : ∃ w1, ((w.alloc (.cells (rarr b c cv env) 86)).alloc (.cells (zeroR) 37)) = w1 := ⟨_, rfl⟩
  rw [hw1] at hb2 hz n1 n2
  have hin := In.start h hb2
  rw [hz] at hin
  have hcr := CellsR.of n1
  have hS : ∀ W', W'.heap[w.heap.size]? = w1.heap[w.heap.size]? → CellsR b c cv env w.heap.size W' := fun W' e => CellsR.of (e.trans n1)
  have hSd := hS w1.drew rfl
  have hSa := hS (w1.alloc (.cells #[.string ⟨#[]⟩, .slice none 0 0, .int .u32 0, .int .i64 0, .int .u64 0, .int .i64 0, .int .u64 0, .bool false, .bool false, .bool false] 51)).drew (Below.heap_alloc w1 _ _ (by omega))
  have hat := fun w' => at_any b c cv env w'
  have hfr := fun w' => fresh_any b c cv env [] none 0 0 0 (atS c.exp env.now) w'
  have hn9 : ∀ j, w.heap.size ≤ j → col j = none := fun j hj => Run.none h hj
  have HB := Lib.hid (And.intro hin (And.intro n1 (And.intro n2 (And.intro hz (And.intro hn9 (And.intro hM hks))))))
  clear hb2 n1 n2 hz hin h hM hks hn9
  obtain ⟨it, hit⟩ : ∃ it, freshI c env [] 0 (atS c.exp env.now) = it := ⟨_, rfl⟩
  rw [hit] at hfr
  have HI := Lib.hid hit
  clear hit
  unfold CellsR at hcr hS hSd hSa
  obtain ⟨r0, r1, r2, r3, r4, r5, r6, r7, r8, r9, r10, r11, r12, r13, r14⟩ := hcr
  unfold rarr at hat hfr
  unfold Item.arr at hfr
  unfold rarr zeroR at hw1
  unfold rarr
  go_enter Tryz.func55, Tryz.ntmps55
  go_upto_region 1 with (fail)
  go_cut [3] from 4 to 8 (fun p wx => ∃ (t9 : Nat), p = .pointer (some ⟨t9, 0, none⟩) ∧ Hid (wx.heap[t9]? = some (.cells (it.arr (.slice none 0 0)) 51 (0, 0)) ∧ w.heap.size + 1 < t9 ∧ Below w1.heap.size w1 wx))
  case first =>
    go_region_held3 (fun W' : World => W'.cell? ⟨w.heap.size, 0, none⟩ = some (.pointer (some ⟨b, 0, none⟩)) ∧ W'.cell? ⟨w.heap.size, 1, none⟩ = some (.int .i64 c.op) ∧ W'.cell? ⟨w.heap.size, 2, none⟩ = some (.string c.key) ∧ W'.cell? ⟨w.heap.size, 3, none⟩ = some (cv) ∧ W'.cell? ⟨w.heap.size, 4, none⟩ = some (.int .u32 c.flags) ∧ W'.cell? ⟨w.heap.size, 5, none⟩ = some (.int .i64 c.exp) ∧ W'.cell? ⟨w.heap.size, 6, none⟩ = some (.int .u64 c.cas) ∧ W'.cell? ⟨w.heap.size, 7, none⟩ = some (.int .u64 c.delta) ∧ W'.cell? ⟨w.heap.size, 8, none⟩ = some (.int .u64 c.initial) ∧ W'.cell? ⟨w.heap.size, 9, none⟩ = some (.bool c.makes) ∧ W'.cell? ⟨w.heap.size, 10, none⟩ = some (.bool c.sets) ∧ W'.cell? ⟨w.heap.size, 11, none⟩ = some (.int .i64 env.now) ∧ W'.cell? ⟨w.heap.size, 12, none⟩ = some (.int .u64 env.seq) ∧ W'.cell? ⟨w.heap.size, 13, none⟩ = some (.int .i64 env.flush) ∧ W'.cell? ⟨w.heap.size, 14, none⟩ = some (.int .u64 env.flushSeq)) (first
      | (have hA2 := HA.out.2; with_reducible exact hS _ ((set10_other wF _ _ _ _ _ _ _ _ _ _ _ (Nat.ne_of_lt (Nat.lt_trans (Nat.lt_succ_self _) hA2))).trans (H2.out.block _ (by have := HB.out.2.2.2.1; omega))))
      | with_reducible exact hS _ (((Below.heap_alloc _ _ _ (by have := HB.out.2.2.2.1; have := H2.out.size; omega))).trans (H2.out.block _ (by have := HB.out.2.2.2.1; omega)))
      | with_reducible exact hS _ (H2.out.block _ (by have := HB.out.2.2.2.1; omega))
      | with_reducible exact hS _ (((Below.heap_alloc _ _ _ (by have := HB.out.2.2.2.1; have := H1.out.size; omega))).trans (H1.out.block _ (by have := HB.out.2.2.2.1; omega)))
      | with_reducible exact hS _ (H1.out.block _ (by have := HB.out.2.2.2.1; omega))
      | with_reducible exact hSa
      | with_reducible exact hSd) (first
      | (go_at_call 53; refine (hat _).mono ?_; rintro en wA ⟨rfl, hbA⟩; have hbB : Below (w1.alloc (.cells #[.string ⟨#[]⟩, .slice none 0 0, .int .u32 0, .int .i64 0, .int .u64 0, .int .i64 0, .int .u64 0, .bool false, .bool false, .bool false] 51)).drew.heap.size (w1.alloc (.cells #[.string ⟨#[]⟩, .slice none 0 0, .int .u32 0, .int .i64 0, .int .u64 0, .int .i64 0, .int .u64 0, .bool false, .bool false, .bool false] 51)).drew wA := (by with_reducible exact hbA); have HA := Lib.hid (And.intro ((hbA.block w1.heap.size (by show w1.heap.size < (w1.alloc _).heap.size; rw [World.size_alloc]; omega)).trans (show (w1.alloc (.cells Shard.zeroI 51)).drew.heap[w1.heap.size]? = some (.cells Shard.zeroI 51) from Mem.new_block w1 _)) (show w.heap.size + 1 < w1.heap.size by have := HB.out.2.2.2.1; omega)); have H1 := Lib.hid (Mem.tr (Below.drew (Mem.al (Below.refl w1.heap.size w1) (.cells Shard.zeroI 51))) hbA); clear hbA hbB)
      | (go_at_call 53; refine (hat _).mono ?_; rintro en wA ⟨rfl, hbA⟩; have H1 := Lib.hid (Mem.tr (Below.drew (Below.refl w1.heap.size w1)) hbA); clear hbA)
      | (go_at_call 52; refine (hfr _).mono ?_; rintro en wF ⟨rfl, hbF⟩; have HA := Lib.hid (And.intro ((hbF.block _ (Array.getElem?_eq_some_iff.1 HA.out.1).1).trans HA.out.1) HA.out.2); have hA := HA.out.1; have c0 := Mem.row_cell hA 0; have f0 := Mem.row_free hA 0; have c1 := Mem.row_cell hA 1; have f1 := Mem.row_free hA 1; have c2 := Mem.row_cell hA 2; have f2 := Mem.row_free hA 2; have c3 := Mem.row_cell hA 3; have f3 := Mem.row_free hA 3; have c4 := Mem.row_cell hA 4; have f4 := Mem.row_free hA 4; have c5 := Mem.row_cell hA 5; have f5 := Mem.row_free hA 5; have c6 := Mem.row_cell hA 6; have f6 := Mem.row_free hA 6; have c7 := Mem.row_cell hA 7; have f7 := Mem.row_free hA 7; have c8 := Mem.row_cell hA 8; have f8 := Mem.row_free hA 8; have c9 := Mem.row_cell hA 9; have f9 := Mem.row_free hA 9; simp only [Shard.zeroI, List.getElem?_toArray, List.getElem?_cons_zero, List.getElem?_cons_succ] at c0 c1 c2 c3 c4 c5 c6 c7 c8 c9; have hbG : Below wA.heap.size wA wF := (by with_reducible exact hbF); have H2 := Lib.hid (Mem.tr H1.out hbG); clear hbF hbG hA)
      | (go_at_call 52; refine (hfr _).mono ?_; rintro en wF ⟨rfl, hbF⟩; have hbG : Below wA.heap.size wA wF := (by with_reducible exact hbF); have H2 := Lib.hid (Mem.tr H1.out hbG); clear hbF hbG)
      | (go_at_call 52; refine (hfr _).mono ?_; rintro en wF ⟨rfl, hbF⟩; have HA := Lib.hid (And.intro ((hbF.block wA.heap.size (by rw [World.size_alloc]; omega)).trans (Mem.new_block wA (.cells Shard.zeroI 51))) (show w.heap.size + 1 < wA.heap.size by have := HB.out.2.2.2.1; have := H1.out.size; omega)); have hA := HA.out.1; have c0 := Mem.row_cell hA 0; have f0 := Mem.row_free hA 0; have c1 := Mem.row_cell hA 1; have f1 := Mem.row_free hA 1; have c2 := Mem.row_cell hA 2; have f2 := Mem.row_free hA 2; have c3 := Mem.row_cell hA 3; have f3 := Mem.row_free hA 3; have c4 := Mem.row_cell hA 4; have f4 := Mem.row_free hA 4; have c5 := Mem.row_cell hA 5; have f5 := Mem.row_free hA 5; have c6 := Mem.row_cell hA 6; have f6 := Mem.row_free hA 6; have c7 := Mem.row_cell hA 7; have f7 := Mem.row_free hA 7; have c8 := Mem.row_cell hA 8; have f8 := Mem.row_free hA 8; have c9 := Mem.row_cell hA 9; have f9 := Mem.row_free hA 9; simp only [Shard.zeroI, List.getElem?_toArray, List.getElem?_cons_zero, List.getElem?_cons_succ] at c0 c1 c2 c3 c4 c5 c6 c7 c8 c9; have H2 := Lib.hid (Mem.tr (Mem.al H1.out (.cells Shard.zeroI 51)) hbF); clear hbF hA))
    all_goals (go_wp2_with fail; go_meet)
    all_goals (first
      | (have hA := HA.out
         have hA2 := hA.2
         exact ⟨_, rfl, Lib.hid ⟨set10_row hA.1 _ _ _ _ _ _ _ _ _ _, hA.2, H2.out.trans ((set10 wF _ _ _ _ _ _ _ _ _ _ _).below (by have := H2.out.size; omega) (fun k e => by subst e; have := HB.out.2.2.2.1; omega))⟩⟩)
      | exact ⟨_, rfl, Lib.hid ⟨Mem.new_block wF _, by have := HB.out.2.2.2.1; have := H2.out.size; omega, Mem.al H2.out _⟩⟩)
  case rest =>
    obtain ⟨t9, rfl, H⟩ := hcut
    have hinC := HB.out.1.below H.out.2.2
    have hl : it.val.length = 0 := by rw [← HI.out]; rfl
    have hst := store_any (c := c) (env := env) hinC.run HB.out.2.2.2.2.2.1 cv it (a := none) (k := 0) (by rw [← HI.out]; exact HB.out.2.2.2.2.2.2) (by omega) (by
      have e1 : it.val = [] := by rw [← HI.out]; rfl
      rw [e1]
      exact Val.nil _ _)
    rw [hl] at hst
    have nR := (H.out.2.2.block w.heap.size (by have := HB.out.2.2.2.1; omega)).trans HB.out.2.1
    have nZ := (H.out.2.2.block (w.heap.size + 1) (by have := HB.out.2.2.2.1; omega)).trans HB.out.2.2.1
    have nI := H.out.1
    clear hw1 hS hSd hSa hat hfr r0 r1 r2 r3 r4 r5 r6 r7 r8 r9 r10 r11 r12 r13 r14
    have r0 := Mem.row_cell nR 0
    have r1 := Mem.row_cell nR 1
    have r2 := Mem.row_cell nR 2
    have r3 := Mem.row_cell nR 3
    have r4 := Mem.row_cell nR 4
    have r5 := Mem.row_cell nR 5
    have r6 := Mem.row_cell nR 6
    have r7 := Mem.row_cell nR 7
    have r8 := Mem.row_cell nR 8
    have r9 := Mem.row_cell nR 9
    have r10 := Mem.row_cell nR 10
    have r11 := Mem.row_cell nR 11
    have r12 := Mem.row_cell nR 12
    have r13 := Mem.row_cell nR 13
    have r14 := Mem.row_cell nR 14
    have i0 := Mem.row_cell nI 0
    have i1 := Mem.row_cell nI 1
    have i2 := Mem.row_cell nI 2
    have i3 := Mem.row_cell nI 3
    have i4 := Mem.row_cell nI 4
    have i5 := Mem.row_cell nI 5
    have i6 := Mem.row_cell nI 6
    have i7 := Mem.row_cell nI 7
    have i8 := Mem.row_cell nI 8
    have i9 := Mem.row_cell nI 9
    simp only [rarr, Item.arr, List.getElem?_toArray, List.getElem?_cons_zero, List.getElem?_cons_succ] at r0 r1 r2 r3 r4 r5 r6 r7 r8 r9 r10 r11 r12 r13 r14 i0 i1 i2 i3 i4 i5 i6 i7 i8 i9
    have HC := Lib.hid (And.intro hinC (And.intro nR (And.intro nZ nI)))
    unfold rarr Item.arr at hst
    clear hinC nR nZ nI hl
    go_wp2_with fail
    refine hst.mono ?_
    rintro en wT h9
    obtain ⟨f, r, t, va, vn, vk, col', hf, hg, rfl, hvn, hinT, hfr, hval⟩ := h9.use HC.out.1
    have nR := HC.out.1.row (by omega) (by omega) hfr HC.out.2.1
    have nZ := HC.out.1.row (by omega) (by omega) hfr HC.out.2.2.1
    obtain ⟨nI, cI⟩ := Box.turn hfr HC.out.2.2.2 (HB.out.2.2.2.2.1 t9 (by have := H.out.2.1; omega))
    have hg2 : doStore env (winI c env) f s = (r, t) := by
      rw [← HI.out] at hg
      exact hg
    have HT := Lib.hid (And.intro hinT (And.intro nR (And.intro nZ (And.intro nI (And.intro cI (And.intro hf hg2))))))
    clear hst h9 hinT hfr hval hf hg hg2 hvn nR nZ cI r0 r1 r2 r3 r4 r5 r6 r7 r8 r9 r10 r11 r12 r13 r14 i0 i1 i2 i3 i4 i5 i6 i7 i8 i9
    by_cases h2 : r.status = 2
    · have H2 := Lib.hid h2
      rw [h2]
      clear h2
      have i8 := Mem.row_cell nI 8
      have f8 := Mem.row_free nI 8
      simp only [Item.arr, List.getElem?_toArray, List.getElem?_cons_zero, List.getElem?_cons_succ] at i8
      obtain ⟨w5, hw5⟩ : ∃ w5, wT.setCell ⟨t9, 8, none⟩ (.bool true) = w5 := ⟨_, rfl⟩
      have ho5 : Only (fun k => k = t9) wT w5 := by rw [← hw5]; exact only_set (Only.refl _ _) 8 _
      have m5 : w5.heap[t9]? = some (.cells (({ it with won := true } : Shard.Item).arr (.slice none 0 0)) 51 (0, 0)) := by
        rw [← hw5, Mem.row_set nI 8]
        simp [Item.arr]
      have hin5 := HT.out.1.aside HT.out.2.2.2.2.1 (by have := H.out.2.1; omega) ho5
      have nR := (ho5.same w.heap.size (Array.getElem?_eq_some_iff.1 HT.out.2.1).1 (by have := H.out.2.1; omega)).trans HT.out.2.1
      have nZ := (ho5.same (w.heap.size + 1) (Array.getElem?_eq_some_iff.1 HT.out.2.2.1).1 (by have := H.out.2.1; omega)).trans HT.out.2.2.1
      have hup := update_run hin5.run HB.out.2.2.2.2.2.1 { it with won := true } none 0 (by rw [← HI.out]; exact HB.out.2.2.2.2.2.2) (by show it.val.length ≤ _; rw [← HI.out]; exact Nat.zero_le _) (by
        have e1 : it.val = [] := by rw [← HI.out]; rfl
        show SrcB _ (.slice none it.val.length 0) it.val
        rw [e1]
        exact src_nil _) (by
        have e1 : it.val = [] := by rw [← HI.out]; rfl
        show Apart _ (.slice none it.val.length 0) it.val
        rw [e1]
        exact apart_nil _ _)
      have hl : it.val.length = 0 := by rw [← HI.out]; rfl
      unfold Item.arr at hup
      simp only [hl] at hup
      have i0 := Mem.row_cell m5 0
      have i1 := Mem.row_cell m5 1
      have i2 := Mem.row_cell m5 2
      have i3 := Mem.row_cell m5 3
      have i4 := Mem.row_cell m5 4
      have i5 := Mem.row_cell m5 5
      have i6 := Mem.row_cell m5 6
      have i7 := Mem.row_cell m5 7
      have j8 := Mem.row_cell m5 8
      have i9 := Mem.row_cell m5 9
      have r0 := Mem.row_cell nR 0
      simp only [rarr, Item.arr, List.getElem?_toArray, List.getElem?_cons_zero, List.getElem?_cons_succ] at r0 i0 i1 i2 i3 i4 i5 i6 i7 j8 i9
      have H5 := Lib.hid (And.intro hin5 (And.intro nR (And.intro nZ m5)))
      clear hin5 nR nZ m5 nI ho5 hl
      have hfl := fun W' => status_of 2 (.slice va vn vk) r.flags r.cas r.ttl r.number r.stale r.won r.lost W'
      go_upto_region 5 with (fail)
      clear hw5
      have hvi := fun W' => view_any b c cv env { it with won := true } none 0 W'
      have hl : it.val.length = 0 := by rw [← HI.out]; rfl
      unfold rarr Item.arr at hvi
      simp only [hl] at hvi
      clear hl
      go_wp2_with fail
      refine hup.mono ?_
      rintro e w6 ⟨rfl, ht⟩
      obtain ⟨col6, hin6, hfr6⟩ := H5.out.1.turn ht
      have nR := H5.out.1.row (by omega) (by omega) hfr6 H5.out.2.1
      have nZ := H5.out.1.row (by omega) (by omega) hfr6 H5.out.2.2.1
      have nI := (Box.turn hfr6 H5.out.2.2.2 HT.out.2.2.2.2.1).1
      have H6 := Lib.hid (And.intro hin6 nZ)
      clear hup ht hin6 hfr6 nZ r0 i0 i1 i2 i3 i4 i5 i6 i7 j8 i9
      have r0 := Mem.row_cell nR 0
      have r1 := Mem.row_cell nR 1
      have r2 := Mem.row_cell nR 2
      have r3 := Mem.row_cell nR 3
      have r4 := Mem.row_cell nR 4
      have r5 := Mem.row_cell nR 5
      have r6 := Mem.row_cell nR 6
      have r7 := Mem.row_cell nR 7
      have r8 := Mem.row_cell nR 8
      have r9 := Mem.row_cell nR 9
      have r10 := Mem.row_cell nR 10
      have r11 := Mem.row_cell nR 11
      have r12 := Mem.row_cell nR 12
      have r13 := Mem.row_cell nR 13
      have r14 := Mem.row_cell nR 14
      have i0 := Mem.row_cell nI 0
      have i1 := Mem.row_cell nI 1
      have i2 := Mem.row_cell nI 2
      have i3 := Mem.row_cell nI 3
      have i4 := Mem.row_cell nI 4
      have i5 := Mem.row_cell nI 5
      have i6 := Mem.row_cell nI 6
      have i7 := Mem.row_cell nI 7
      have i8 := Mem.row_cell nI 8
      have i9 := Mem.row_cell nI 9
      simp only [rarr, Item.arr, List.getElem?_toArray, List.getElem?_cons_zero, List.getElem?_cons_succ] at r0 r1 r2 r3 r4 r5 r6 r7 r8 r9 r10 r11 r12 r13 r14 i0 i1 i2 i3 i4 i5 i6 i7 i8 i9
      clear nR nI
      go_wp2_with fail
      refine (hvi _).mono ?_
      rintro e w7 ⟨rfl, hb7⟩
      have H7 := Lib.hid (And.intro (H6.out.1.below hb7) ((hb7.block _ (Array.getElem?_eq_some_iff.1 H6.out.2).1).trans H6.out.2))
      clear hb7 hvi r0 r1 r2 r3 r4 r5 r6 r7 r8 r9 r10 r11 r12 r13 r14 i0 i1 i2 i3 i4 i5 i6 i7 i8 i9
      obtain ⟨y, hy⟩ : ∃ y, view { it with won := true } env = y := ⟨_, rfl⟩
      have hyv : y.val = [] := by rw [← hy, ← HI.out]; rfl
      have HY := Lib.hid (And.intro hy hyv)
      rw [hy]
      clear hy hyv
      unfold Res.arr
      have hlt : w.heap.size + 1 < w7.heap.size := by have := H7.out.1.hi; omega
      go_wp2_with (first
        | (refine wpList_store_row rfl 37 _ _ rfl (w.heap.size + 1) (({ y with won := true } : Res).arr (.slice none 0 0)) rfl rfl 37 zeroR ((Below.heap_alloc _ _ _ hlt).trans H7.out.2) (res_size _ _) rfl (res_one _ _ _ _) ?_)
        | fail)
      refine bodyPost_ret (results_cell_row Tryz.results55 _ _ (w.heap.size + 1) _ _ _ _ rfl (setRow_heap _ _ _ (({ y with won := true } : Res).arr (.slice none 0 0)) _ _ ((Below.heap_alloc _ _ _ hlt).trans H7.out.2)) Tryz.underlying37 rfl (res_size _ _)) rfl ?_
      refine ((H7.out.1.below (Mem.al (Below.refl _ _) _)).setRow (k := w.heap.size + 1) (by omega) (by omega) _).stop HT.out.2.2.2.2.2.1 ?_ ?_
      · unfold win winI
        have e1 := HT.out.2.2.2.2.2.2
        unfold winI at e1
        rw [HI.out] at e1 ⊢
        rw [e1, if_pos H2.out, HY.out.1]
      · show Val _ _ _ y.val
        rw [HY.out.2]
        exact Val.nil _ _
    · have h2b : (r.status != 2) = true := by simpa using h2
      have H2 := Lib.hid h2
      clear h2
      have hfl := fun W' => status_of r.status (.slice va vn vk) r.flags r.cas r.ttl r.number r.stale r.won r.lost W'
      clear nI
      go_wp2_with fail
      refine (only_any 1 _).mono ?_
      rintro e w3 ⟨rfl, hb3⟩
      have H3 := Lib.hid (And.intro (HT.out.1.below hb3) ((hb3.block _ (Array.getElem?_eq_some_iff.1 HT.out.2.2.1).1).trans HT.out.2.2.1))
      clear hb3
      unfold Res.arr only
      go_wp2_with (first
        | (refine wpList_store_row rfl 37 _ _ rfl (w.heap.size + 1) ((only 1).arr (.slice none 0 0)) rfl rfl 37 zeroR H3.out.2 (res_size _ _) rfl (res_one _ _ _ _) ?_)
        | fail)
      refine bodyPost_ret (results_cell_row Tryz.results55 _ _ (w.heap.size + 1) _ _ _ _ rfl (setRow_heap _ _ _ ((only 1).arr (.slice none 0 0)) _ _ H3.out.2) Tryz.underlying37 rfl (res_size _ _)) rfl ?_
      exact (H3.out.1.setRow (k := w.heap.size + 1) (by omega) (by omega) _).stop HT.out.2.2.2.2.2.1 (by unfold win; rw [HT.out.2.2.2.2.2.2, if_neg H2.out]) (Val.nil _ _)
end
end Go.Proofs.YtpghckiochjogaaGreatDoor.Exec

