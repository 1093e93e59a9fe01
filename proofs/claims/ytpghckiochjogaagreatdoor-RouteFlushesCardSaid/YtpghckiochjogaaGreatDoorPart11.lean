/- Part11: Exec6, one behind the other. -/
import Derived.Test.YtpghckiochjogaaGreatDoorPart10
import Derived.Deep.RegionHeldLaw
/- Layer 12: number, win, meta. -/
namespace Go.Proofs.YtpghckiochjogaaGreatDoor.Exec
set_option maxRecDepth 100000
open Go Go.RowKit Go.Proofs.YtpghckiochjogaaGreatDoor.Mem Go.Proofs.YtpghckiochjogaaGreatDoor.App Go.Proofs.YtpghckiochjogaaGreatDoor.Shard
def CellsR (b : Nat) (c : Cmd) (v : Value) (env : Env) (B : Nat) (W : World) : Prop :=
  W.cell? ⟨B, 0, none⟩ = some (.pointer (some ⟨b, 0, none⟩)) ∧ W.cell? ⟨B, 1, none⟩ = some (.int .i64 c.op) ∧ W.cell? ⟨B, 2, none⟩ = some (.string c.key) ∧ W.cell? ⟨B, 3, none⟩ = some (v) ∧ W.cell? ⟨B, 4, none⟩ = some (.int .u32 c.flags) ∧ W.cell? ⟨B, 5, none⟩ = some (.int .i64 c.exp) ∧ W.cell? ⟨B, 6, none⟩ = some (.int .u64 c.cas) ∧ W.cell? ⟨B, 7, none⟩ = some (.int .u64 c.delta) ∧ W.cell? ⟨B, 8, none⟩ = some (.int .u64 c.initial) ∧ W.cell? ⟨B, 9, none⟩ = some (.bool c.makes) ∧ W.cell? ⟨B, 10, none⟩ = some (.bool c.sets) ∧ W.cell? ⟨B, 11, none⟩ = some (.int .i64 env.now) ∧ W.cell? ⟨B, 12, none⟩ = some (.int .u64 env.seq) ∧ W.cell? ⟨B, 13, none⟩ = some (.int .i64 env.flush) ∧ W.cell? ⟨B, 14, none⟩ = some (.int .u64 env.flushSeq)
theorem CellsR.of {b : Nat} {c : Cmd} {v : Value} {env : Env} {B : Nat} {W : World} (h : W.heap[B]? = some (.cells (rarr b c v env) 86 (0, 0))) : CellsR b c v env B W := by
  have r0 := Mem.row_cell h 0
  have r1 := Mem.row_cell h 1
  have r2 := Mem.row_cell h 2
  have r3 := Mem.row_cell h 3
  have r4 := Mem.row_cell h 4
  have r5 := Mem.row_cell h 5
  have r6 := Mem.row_cell h 6
  have r7 := Mem.row_cell h 7
  have r8 := Mem.row_cell h 8
  have r9 := Mem.row_cell h 9
  have r10 := Mem.row_cell h 10
  have r11 := Mem.row_cell h 11
  have r12 := Mem.row_cell h 12
  have r13 := Mem.row_cell h 13
  have r14 := Mem.row_cell h 14
  simp only [rarr, List.getElem?_toArray, List.getElem?_cons_zero, List.getElem?_cons_succ] at r0 r1 r2 r3 r4 r5 r6 r7 r8 r9 r10 r11 r12 r13 r14
  exact ⟨r0, r1, r2, r3, r4, r5, r6, r7, r8, r9, r10, r11, r12, r13, r14⟩
theorem conv_bytes (s : ByteArray) (w : World) : (convert 9 30 (.string s)).run Tryz.prog w = .ok (.slice (some ⟨w.heap.size, 0, none⟩) s.size (grownCap w s.size 0 5)) (Lib.bytesWorld w 5 s) :=
  Lib.run_convert_string_bytes w 9 30 5 s Tryz.underlying9 Tryz.underlying30 Tryz.underlying5
theorem bytes_val {W w w' : World} {M b : Nat} {col : Col} {seed : Int} {s : St} (h : Run W w M b col seed s) (e : TypeId) (x : List UInt8) (k : Nat) (hb : Below (Lib.bytesWorld w e ⟨x.toArray⟩).heap.size (Lib.bytesWorld w e ⟨x.toArray⟩) w') : Val w' col (.slice (some ⟨w.heap.size, 0, none⟩) x.length k) x := by
  refine ⟨SrcB.below (.inr (.inr ⟨w.heap.size, 0, k, rfl, by simp [cellsB], by rw [Lib.bytesWorld_size]; omega, fun j u hu => ?_⟩)) hb, fun _ g e => ?_⟩
  · have hj : j < x.length := by have := (List.getElem?_eq_some_iff.1 hu).1; simpa [cellsB] using this
    rw [Nat.zero_add, Lib.bytesWorld_cell _ _ _ _ (by show j < x.toArray.size; simpa using hj), ← hu]
    simp [cellsB, List.getD, hj]
  · have e9 : w.heap.size = g := by simpa [Value.ownBlock] using e
    exact Run.none h (by omega)
section
variable {W w0 w w' : World} {M M' b B1 B2 : Nat} {col0 col col' : Col} {seed : Int} {s t : St} {env : Env}
theorem In.turn2 (h : In W w0 w M b col0 col seed s B1 B2) (hr : Run W w' M' b col' seed t) (hf : Fr col col' w w') : In W w0 w' M' b col0 col' seed t B1 B2 :=
  ⟨hr, h.fr.trans hf, h.low, fun k h1 h2 => (Shard.Fr.own hf (Nat.lt_of_lt_of_le h2 h.hi) (h.mine k h1 h2)).2.1, Nat.le_trans h.hi hf.1.size, h.wl⟩
theorem Val.empty {v : Value} (h : Val w col v []) (hs : w.heap.size ≤ w'.heap.size) : Val w' col' v [] := ⟨h.src.same (fun hx => absurd rfl hx) hs, apart_nil _ _⟩
theorem In.stop {L : Tab.Pairs Nat} {g : Nat → Res × St} {f : Nat} {r : Res} {v : Value} (h : In W w0 w M b col0 col seed t B1 B2) (hf : ∀ p ∈ L, p.2 ≠ f) (hg : g f = (r, t)) (hv : Val w col v r.val) : ExecP W w0 M b col0 seed L g (.returned (.agg (r.arr v))) w :=
  ⟨f, v, col, hf, by rw [hg], by rw [hg]; exact h.run, h.fr, by rw [hg]; exact hv⟩
theorem doStore_val {it : Shard.Item} {f : Nat} {r : Res} (h : doStore env it f s = (r, t)) : r.val = [] := by
  have := storeR_val it (s.store f it env).1
  unfold doStore at h
  injection h with h1 h2
  rw [← h1]; exact this
theorem ExecP.use {L : Tab.Pairs Nat} {g : Nat → Res × St} {e : Ending} (I : In W w0 w M b col0 col seed s B1 B2) (h : ExecP W w M' b col seed L g e w') : ∃ f r t a n k col', (∀ p ∈ L, p.2 ≠ f) ∧ g f = (r, t) ∧ e = .returned (.agg #[.int .i64 r.status, .slice a n k, .int .u32 r.flags, .int .u64 r.cas, .int .i64 r.ttl, .int .u64 r.number, .bool r.stale, .bool r.won, .bool r.lost]) ∧ n = r.val.length ∧ In W w0 w' M' b col0 col' seed t B1 B2 ∧ Fr col col' w w' ∧ Val w' col' (.slice a n k) r.val := by
  obtain ⟨f, v, col', h1, h2, h3, h4, h5⟩ := h
  obtain ⟨a, k, rfl⟩ := h5.shape
  exact ⟨f, (g f).1, (g f).2, a, _, k, col', h1, rfl, h2, rfl, I.turn2 h3 h4, h4, h5⟩
theorem In.aside (h : In W w0 w M b col0 col seed s B1 B2) {k : Nat} (hk : col k = none) (hl : w0.heap.size ≤ k) (ho : Only (fun j => j = k) w w') : In W w0 w' M b col0 col seed s B1 B2 :=
  ⟨⟨h.run.at_.aside ho (fun j e => by subst e; exact ⟨hk, Nat.le_trans h.wl hl⟩), h.run.inv⟩, ⟨h.fr.1.trans ho (fun j e => .inr (by omega)), h.fr.2⟩, h.low, h.mine, Nat.le_trans h.hi ho.size, h.wl⟩
theorem put9 {t9 : Nat} (h : In W w0 w M b col0 col seed s B1 B2) (ht : w.heap[t9]? = some (.cells zeroR 37 (0, 0))) (hc : col t9 = none) (hl : B2 ≤ t9) (hB : w0.heap.size ≤ B2) (v0 v1 v2 v3 v4 v5 v6 v7 v8 : Value) :
    In W w0 (((((((((w.setCell ⟨t9, 0, none⟩ v0).setCell ⟨t9, 1, none⟩ v1).setCell ⟨t9, 2, none⟩ v2).setCell ⟨t9, 3, none⟩ v3).setCell ⟨t9, 4, none⟩ v4).setCell ⟨t9, 5, none⟩ v5).setCell ⟨t9, 6, none⟩ v6).setCell ⟨t9, 7, none⟩ v7).setCell ⟨t9, 8, none⟩ v8) M b col0 col seed s B1 B2 ∧ (((((((((w.setCell ⟨t9, 0, none⟩ v0).setCell ⟨t9, 1, none⟩ v1).setCell ⟨t9, 2, none⟩ v2).setCell ⟨t9, 3, none⟩ v3).setCell ⟨t9, 4, none⟩ v4).setCell ⟨t9, 5, none⟩ v5).setCell ⟨t9, 6, none⟩ v6).setCell ⟨t9, 7, none⟩ v7).setCell ⟨t9, 8, none⟩ v8).heap[t9]? = some (.cells #[v0, v1, v2, v3, v4, v5, v6, v7, v8] 37 (0, 0)) ∧ (∀ k, k ≠ t9 → (((((((((w.setCell ⟨t9, 0, none⟩ v0).setCell ⟨t9, 1, none⟩ v1).setCell ⟨t9, 2, none⟩ v2).setCell ⟨t9, 3, none⟩ v3).setCell ⟨t9, 4, none⟩ v4).setCell ⟨t9, 5, none⟩ v5).setCell ⟨t9, 6, none⟩ v6).setCell ⟨t9, 7, none⟩ v7).setCell ⟨t9, 8, none⟩ v8).heap[k]? = w.heap[k]?) ∧ w.heap.size ≤ (((((((((w.setCell ⟨t9, 0, none⟩ v0).setCell ⟨t9, 1, none⟩ v1).setCell ⟨t9, 2, none⟩ v2).setCell ⟨t9, 3, none⟩ v3).setCell ⟨t9, 4, none⟩ v4).setCell ⟨t9, 5, none⟩ v5).setCell ⟨t9, 6, none⟩ v6).setCell ⟨t9, 7, none⟩ v7).setCell ⟨t9, 8, none⟩ v8).heap.size :=
  ⟨h.aside hc (Nat.le_trans hB hl) (only_set (only_set (only_set (only_set (only_set (only_set (only_set (only_set (only_set (Only.refl _ _) 0 v0) 1 v1) 2 v2) 3 v3) 4 v4) 5 v5) 6 v6) 7 v7) 8 v8), set9_row ht v0 v1 v2 v3 v4 v5 v6 v7 v8, fun _ hk => set9 w t9 v0 v1 v2 v3 v4 v5 v6 v7 v8 hk, (only_set (only_set (only_set (only_set (only_set (only_set (only_set (only_set (only_set (Only.refl (fun k => k = t9) w) 0 v0) 1 v1) 2 v2) 3 v3) 4 v4) 5 v5) 6 v6) 7 v7) 8 v8).size⟩
end
section
variable {W w : World} {M b : Nat} {col : Col} {seed : Int} {s : St} {c : Cmd} {env : Env}
set_option maxHeartbeats 4000000 in
theorem number_any (h : Run W w M b col seed s) (hM : M + 1 ≤ 1050000) (hp : Pows w) (cv : Value) (hks : c.key.size ≤ 2000000) (u : Nat) (hu : u < 18446744073709551616) (flags exp : Int) :
    Calls Tryz.prog 54 #[.agg (rarr b c cv env), .int .u64 u, .int .u32 flags, .int .i64 exp] w (ExecP W w (M + 1) b col seed s.tab.L fun f => number c env u flags exp f s) := by
  have hb2 : Below w.heap.size w ((w.alloc (.cells (rarr b c cv env) 86)).alloc (.cells (zeroR) 37)) := Mem.al (Mem.al (Below.refl _ _) _) _
  have n1 : ((w.alloc (.cells (rarr b c cv env) 86)).alloc (.cells (zeroR) 37)).heap[w.heap.size]? = some (.cells (rarr b c cv env) 86 (0, 0)) := Mem.new_later (Mem.new_block w _) _
  have n2 : ((w.alloc (.cells (rarr b c cv env) 86)).alloc (.cells (zeroR) 37)).heap[w.heap.size + 1]? = some (.cells (zeroR) 37 (0, 0)) := Mem.new_block2 w _ _
  have hz : ((w.alloc (.cells (rarr b c cv env) 86)).alloc (.cells (zeroR) 37)).heap.size = w.heap.size + 2 := by simp
  obtain ⟨w1, hw1⟩ : ∃ w1, ((w.alloc (.cells (rarr b c cv env) 86)).alloc (.cells (zeroR) 37)) = w1 := ⟨_, rfl⟩
  rw [hw1] at hb2 hz n1 n2
  have hin := In.start h hb2
  rw [hz] at hin
  have hcr := CellsR.of n1
  have hS : ∀ W', W'.heap[w.heap.size]? = w1.heap[w.heap.size]? → CellsR b c cv env w.heap.size W' := fun W' e => CellsR.of (e.trans n1)
  have hsh := fun w' (hb : Below w1.heap.size w1 w') => show_any u hu w' (tabIs_below (tabIs_below hp hb2) (hb.mono (by omega)))
  have hcv := conv_bytes ⟨(Lib.decDigits u).toArray⟩
  have HB := Lib.hid (And.intro hin (And.intro n1 (And.intro n2 (And.intro hz (show ∀ j, w.heap.size ≤ j → col j = none from fun j hj => Run.none h hj)))))
  have HK := Lib.hid (And.intro hM (And.intro (show (freshI c env (showS u) flags exp).key.size ≤ 2000000 from hks) (show (freshI c env (showS u) flags exp).val.length ≤ 2000000 from by have := show_len u hu; show (showS u).length ≤ _; omega)))
  clear hb2 n1 n2 hz hin h hM hks hp
  unfold CellsR at hcr hS
  obtain ⟨r0, r1, r2, r3, r4, r5, r6, r7, r8, r9, r10, r11, r12, r13, r14⟩ := hcr
  unfold rarr zeroR at hw1
  unfold rarr
  go_enter Tryz.func54, Tryz.ntmps54
  go_upto_region 1 with (fail)
  go_cut [9] from 10 to 18 (fun p wx => ∃ (t9 f : Nat) (r : Res) (t : St) (va : Option Addr) (vn vk : Nat) (col' : Col), p = .pointer (some ⟨t9, 0, none⟩) ∧ Hid (wx.heap[t9]? = some (.cells (r.arr (.slice va vn vk)) 37 (0, 0)) ∧ col' t9 = none ∧ w.heap.size + 1 < t9 ∧ In W w wx (M + 1) b col col' seed t w.heap.size (w.heap.size + 2) ∧ wx.heap[w.heap.size + 1]? = some (.cells zeroR 37 (0, 0)) ∧ (∀ p ∈ s.tab.L, p.2 ≠ f) ∧ doStore env (freshI c env (showS u) flags exp) f s = (r, t) ∧ Val wx col' (.slice va vn vk) r.val))
  case first =>
    go_region_held_law (fun W' : World => W'.cell? ⟨w.heap.size, 0, none⟩ = some (.pointer (some ⟨b, 0, none⟩)) ∧ W'.cell? ⟨w.heap.size, 1, none⟩ = some (.int .i64 c.op) ∧ W'.cell? ⟨w.heap.size, 2, none⟩ = some (.string c.key) ∧ W'.cell? ⟨w.heap.size, 3, none⟩ = some (cv) ∧ W'.cell? ⟨w.heap.size, 4, none⟩ = some (.int .u32 c.flags) ∧ W'.cell? ⟨w.heap.size, 5, none⟩ = some (.int .i64 c.exp) ∧ W'.cell? ⟨w.heap.size, 6, none⟩ = some (.int .u64 c.cas) ∧ W'.cell? ⟨w.heap.size, 7, none⟩ = some (.int .u64 c.delta) ∧ W'.cell? ⟨w.heap.size, 8, none⟩ = some (.int .u64 c.initial) ∧ W'.cell? ⟨w.heap.size, 9, none⟩ = some (.bool c.makes) ∧ W'.cell? ⟨w.heap.size, 10, none⟩ = some (.bool c.sets) ∧ W'.cell? ⟨w.heap.size, 11, none⟩ = some (.int .i64 env.now) ∧ W'.cell? ⟨w.heap.size, 12, none⟩ = some (.int .u64 env.seq) ∧ W'.cell? ⟨w.heap.size, 13, none⟩ = some (.int .i64 env.flush) ∧ W'.cell? ⟨w.heap.size, 14, none⟩ = some (.int .u64 env.flushSeq)) (first
      | with_reducible exact hS _ ((set9 _ _ _ _ _ _ _ _ _ _ _ (by have := H3.out.1.hi; omega)).trans ((Below.heap_alloc _ _ _ (by have := H3.out.1.hi; omega)).trans H3.out.2.1))
      | with_reducible exact hS _ ((set9 _ _ _ _ _ _ _ _ _ _ _ (by have := HA.out.2.1; omega)).trans H3.out.2.1)
      | with_reducible exact hS _ H3.out.2.1
      | with_reducible exact hS _ ((Below.heap_alloc _ _ _ (by have := H3.out.1.hi; omega)).trans H3.out.2.1)
      | with_reducible exact hS _ H2.out.2.1
      | with_reducible exact hS _ ((Below.heap_alloc _ _ _ (by have := H2.out.1.hi; omega)).trans H2.out.2.1)
      | with_reducible exact hS _ H1.out.2
      | with_reducible exact hS _ ((Below.heap_alloc _ _ _ (by have := H1.out.1.size; have := HB.out.2.2.2.1; omega)).trans H1.out.2)
      | with_reducible exact hS _ ((Lib.bytesWorld_at_old _ _ _ _ (by have := H1.out.1.size; have := HB.out.2.2.2.1; omega)).trans H1.out.2)
      | with_reducible exact hS _ ((Below.heap_alloc _ _ _ (by rw [Lib.bytesWorld_size]; have := H1.out.1.size; have := HB.out.2.2.2.1; omega)).trans ((Lib.bytesWorld_at_old _ _ _ _ (by have := H1.out.1.size; have := HB.out.2.2.2.1; omega)).trans H1.out.2))
      | with_reducible exact hS _ ((Lib.bytesWorld_at_old _ _ _ _ (by rw [World.size_alloc]; have := H1.out.1.size; have := HB.out.2.2.2.1; omega)).trans ((Below.heap_alloc _ _ _ (by have := H1.out.1.size; have := HB.out.2.2.2.1; omega)).trans H1.out.2))
      | exact hS _ (Below.heap_alloc _ _ _ (by have := HB.out.2.2.2.1; omega))
      | exact hS _ rfl) (first
      | (go_at_call 77; refine (hsh _ (by first | exact Below.drew (Below.refl _ _) | exact Below.drew (Mem.al (Below.refl _ _) _) | exact Below.refl _ _ | exact Mem.al (Below.refl _ _) _ | exact below_bytes _ _ _ | exact Mem.al (below_bytes _ _ _) _ | exact Mem.tr (Mem.al (Below.refl _ _) _) (below_bytes _ _ _))).mono ?_; rintro en wS ⟨rfl, hbS⟩; have HA := Lib.hid (And.intro ((hbS.block w1.heap.size (by show w1.heap.size < (w1.alloc _).heap.size; rw [World.size_alloc]; omega)).trans (show (w1.alloc (.cells zeroR 37)).drew.heap[w1.heap.size]? = some (Obj.cells zeroR 37) from Mem.new_block w1 _)) (And.intro (show w.heap.size + 1 < w1.heap.size by have := HB.out.2.2.2.1; omega) trivial)); replace hbS := Mem.tr (Below.drew (Mem.al (Below.refl w1.heap.size w1) (.cells zeroR 37))) hbS; have H1 := Lib.hid (And.intro hbS (hbS.block w.heap.size (by have := HB.out.2.2.2.1; omega))); clear hbS)
      | (go_at_call 77; refine (hsh _ (by first | exact Below.drew (Below.refl _ _) | exact Below.drew (Mem.al (Below.refl _ _) _) | exact Below.refl _ _ | exact Mem.al (Below.refl _ _) _ | exact below_bytes _ _ _ | exact Mem.al (below_bytes _ _ _) _ | exact Mem.tr (Mem.al (Below.refl _ _) _) (below_bytes _ _ _))).mono ?_; rintro en wS ⟨rfl, hbS⟩; replace hbS := Mem.tr (Below.drew (Below.refl w1.heap.size w1)) hbS; have H1 := Lib.hid (And.intro hbS (hbS.block w.heap.size (by have := HB.out.2.2.2.1; omega))); clear hbS)
      | (go_at_call 52; refine (fresh_any b c cv env (showS u) _ _ _ flags exp _).mono ?_; rintro en wF ⟨rfl, hbF⟩; have hin1 := HB.out.1.below H1.out.1; have hvF := bytes_val hin1.run 5 (showS u) (grownCap wS (Lib.decDigits u).length 0 5) hbF; have hbW := Mem.tr (below_bytes wS 5 ⟨(Lib.decDigits u).toArray⟩) hbF; have hinF := hin1.below hbW; have heF := (hbW.block w.heap.size (by have := H1.out.1.size; have := HB.out.2.2.2.1; omega)).trans H1.out.2; have hzF := (hbW.block (w.heap.size + 1) (by have := H1.out.1.size; have := HB.out.2.2.2.1; omega)).trans ((H1.out.1.block _ (by have := HB.out.2.2.2.1; omega)).trans HB.out.2.2.1); have H2 := Lib.hid (And.intro hinF (And.intro heF (And.intro hzF hvF))); have HA := Lib.hid (And.intro ((hbW.block _ (Array.getElem?_eq_some_iff.1 HA.out.1).1).trans HA.out.1) HA.out.2); clear hbF hbW hin1 hvF hinF heF hzF)
      | (go_at_call 52; refine (fresh_any b c cv env (showS u) _ _ _ flags exp _).mono ?_; rintro en wF ⟨rfl, hbF⟩; have hin1 := HB.out.1.below H1.out.1; have hvF := bytes_val hin1.run 5 (showS u) (grownCap wS (Lib.decDigits u).length 0 5) hbF; have hbW := Mem.tr (below_bytes wS 5 ⟨(Lib.decDigits u).toArray⟩) hbF; have hinF := hin1.below hbW; have heF := (hbW.block w.heap.size (by have := H1.out.1.size; have := HB.out.2.2.2.1; omega)).trans H1.out.2; have hzF := (hbW.block (w.heap.size + 1) (by have := H1.out.1.size; have := HB.out.2.2.2.1; omega)).trans ((H1.out.1.block _ (by have := HB.out.2.2.2.1; omega)).trans HB.out.2.2.1); have H2 := Lib.hid (And.intro hinF (And.intro heF (And.intro hzF hvF))); clear hbF hbW hin1 hvF hinF heF hzF)
      | (go_at_call 52; refine (fresh_any b c cv env (showS u) _ _ _ flags exp _).mono ?_; rintro en wF ⟨rfl, hbF⟩; have hin1 := HB.out.1.below H1.out.1; have hvF := bytes_val (hin1.below (Mem.al (Below.refl _ _) (.cells zeroR 37))).run 5 (showS u) (grownCap (wS.alloc (.cells zeroR 37)) (Lib.decDigits u).length 0 5) hbF; rw [World.size_alloc] at hvF; have hbW := Mem.tr (Mem.tr (Mem.al (Below.refl wS.heap.size wS) (.cells zeroR 37)) (below_bytes (wS.alloc (.cells zeroR 37)) 5 ⟨(Lib.decDigits u).toArray⟩)) hbF; have hinF := hin1.below hbW; have heF := (hbW.block w.heap.size (by have := H1.out.1.size; have := HB.out.2.2.2.1; omega)).trans H1.out.2; have hzF := (hbW.block (w.heap.size + 1) (by have := H1.out.1.size; have := HB.out.2.2.2.1; omega)).trans ((H1.out.1.block _ (by have := HB.out.2.2.2.1; omega)).trans HB.out.2.2.1); have H2 := Lib.hid (And.intro hinF (And.intro heF (And.intro hzF hvF))); have HA := Lib.hid (And.intro ((hbF.block wS.heap.size (by rw [Lib.bytesWorld_size, World.size_alloc]; omega)).trans ((Lib.bytesWorld_at_old _ _ _ _ (by rw [World.size_alloc]; omega)).trans (Mem.new_block wS (.cells zeroR 37)))) (And.intro (show w.heap.size + 1 < wS.heap.size by have := H1.out.1.size; have := HB.out.2.2.2.1; omega) trivial)); clear hbF hbW hin1 hvF hinF heF hzF)
      | (go_at_call 52; refine (fresh_any b c cv env (showS u) _ _ _ flags exp _).mono ?_; rintro en wF ⟨rfl, hbF⟩; have hin1 := HB.out.1.below H1.out.1; have hvF := bytes_val hin1.run 5 (showS u) (grownCap wS (Lib.decDigits u).length 0 5) (Mem.tr (Mem.al (Below.refl _ _) _) hbF); have hbW := Mem.tr (Mem.al (below_bytes wS 5 ⟨(Lib.decDigits u).toArray⟩) (.cells zeroR 37)) hbF; have hinF := hin1.below hbW; have heF := (hbW.block w.heap.size (by have := H1.out.1.size; have := HB.out.2.2.2.1; omega)).trans H1.out.2; have hzF := (hbW.block (w.heap.size + 1) (by have := H1.out.1.size; have := HB.out.2.2.2.1; omega)).trans ((H1.out.1.block _ (by have := HB.out.2.2.2.1; omega)).trans HB.out.2.2.1); have H2 := Lib.hid (And.intro hinF (And.intro heF (And.intro hzF hvF))); have HA := Lib.hid (And.intro ((hbF.block (Lib.bytesWorld wS 5 ⟨(Lib.decDigits u).toArray⟩).heap.size (by rw [World.size_alloc]; exact Nat.lt_succ_self _)).trans (Mem.new_block (Lib.bytesWorld wS 5 ⟨(Lib.decDigits u).toArray⟩) (.cells zeroR 37))) (And.intro (show w.heap.size + 1 < (Lib.bytesWorld wS 5 ⟨(Lib.decDigits u).toArray⟩).heap.size by rw [Lib.bytesWorld_size]; have := H1.out.1.size; have := HB.out.2.2.2.1; omega) trivial)); clear hbF hbW hin1 hvF hinF heF hzF)
      | (go_at_call 51; refine (store_any H2.out.1.run HK.out.1 cv (freshI c env (showS u) flags exp) HK.out.2.1 HK.out.2.2 H2.out.2.2.2).mono ?_; rintro en wT h9; obtain ⟨f, r, t, va, vn, vk, col', hf, hg, rfl, hvn, hinT, hfr, hval⟩ := h9.use H2.out.1; have heT := (H2.out.1.row (by omega) (by omega) hfr (H2.out.2.1.trans HB.out.2.1)).trans HB.out.2.1.symm; have hzT := H2.out.1.row (by omega) (by omega) hfr H2.out.2.2.1; have H3 := Lib.hid (And.intro hinT (And.intro heT (And.intro hzT (And.intro hval (And.intro hf (And.intro hg hvn)))))); have h8 := Box.turn hfr HA.out.1 (HB.out.2.2.2.2 _ (by have := HA.out.2.1; omega)); have HA := Lib.hid (And.intro h8.1 (And.intro HA.out.2.1 h8.2)); have c0 := Mem.row_cell h8.1 0; have f0 := Mem.row_free h8.1 0; have c1 := Mem.row_cell h8.1 1; have f1 := Mem.row_free h8.1 1; have c2 := Mem.row_cell h8.1 2; have f2 := Mem.row_free h8.1 2; have c3 := Mem.row_cell h8.1 3; have f3 := Mem.row_free h8.1 3; have c4 := Mem.row_cell h8.1 4; have f4 := Mem.row_free h8.1 4; have c5 := Mem.row_cell h8.1 5; have f5 := Mem.row_free h8.1 5; have c6 := Mem.row_cell h8.1 6; have f6 := Mem.row_free h8.1 6; have c7 := Mem.row_cell h8.1 7; have f7 := Mem.row_free h8.1 7; have c8 := Mem.row_cell h8.1 8; have f8 := Mem.row_free h8.1 8; simp only [zeroR, List.getElem?_toArray, List.getElem?_cons_zero, List.getElem?_cons_succ] at c0 c1 c2 c3 c4 c5 c6 c7 c8; clear h9 hf hg hinT heT hfr hval hzT hvn h8)
      | (go_at_call 51; refine (store_any H2.out.1.run HK.out.1 cv (freshI c env (showS u) flags exp) HK.out.2.1 HK.out.2.2 H2.out.2.2.2).mono ?_; rintro en wT h9; obtain ⟨f, r, t, va, vn, vk, col', hf, hg, rfl, hvn, hinT, hfr, hval⟩ := h9.use H2.out.1; have heT := (H2.out.1.row (by omega) (by omega) hfr (H2.out.2.1.trans HB.out.2.1)).trans HB.out.2.1.symm; have hzT := H2.out.1.row (by omega) (by omega) hfr H2.out.2.2.1; have H3 := Lib.hid (And.intro hinT (And.intro heT (And.intro hzT (And.intro hval (And.intro hf (And.intro hg hvn)))))); clear h9 hf hg hinT heT hfr hval hzT hvn)
      | (go_at_call 51; have hbA := Mem.al (Below.refl wF.heap.size wF) (.cells zeroR 37); have hinA := H2.out.1.below hbA; have heA := (hbA.block w.heap.size (by have := H2.out.1.hi; omega)).trans H2.out.2.1; have hzA := (hbA.block (w.heap.size + 1) (by have := H2.out.1.hi; omega)).trans H2.out.2.2.1; refine (store_any hinA.run HK.out.1 cv (freshI c env (showS u) flags exp) HK.out.2.1 HK.out.2.2 (H2.out.2.2.2.below hbA)).mono ?_; rintro en wT h9; obtain ⟨f, r, t, va, vn, vk, col', hf, hg, rfl, hvn, hinT, hfr, hval⟩ := h9.use hinA; have heT := (hinA.row (by omega) (by omega) hfr (heA.trans HB.out.2.1)).trans HB.out.2.1.symm; have hzT := hinA.row (by omega) (by omega) hfr hzA; have H3 := Lib.hid (And.intro hinT (And.intro heT (And.intro hzT (And.intro hval (And.intro hf (And.intro hg hvn)))))); have h8 := Box.turn hfr (Mem.new_block wF (.cells zeroR 37)) (HB.out.2.2.2.2 _ (by have := H2.out.1.hi; omega)); have HA := Lib.hid (And.intro h8.1 (And.intro (show w.heap.size + 1 < wF.heap.size by have := H2.out.1.hi; omega) h8.2)); have c0 := Mem.row_cell h8.1 0; have f0 := Mem.row_free h8.1 0; have c1 := Mem.row_cell h8.1 1; have f1 := Mem.row_free h8.1 1; have c2 := Mem.row_cell h8.1 2; have f2 := Mem.row_free h8.1 2; have c3 := Mem.row_cell h8.1 3; have f3 := Mem.row_free h8.1 3; have c4 := Mem.row_cell h8.1 4; have f4 := Mem.row_free h8.1 4; have c5 := Mem.row_cell h8.1 5; have f5 := Mem.row_free h8.1 5; have c6 := Mem.row_cell h8.1 6; have f6 := Mem.row_free h8.1 6; have c7 := Mem.row_cell h8.1 7; have f7 := Mem.row_free h8.1 7; have c8 := Mem.row_cell h8.1 8; have f8 := Mem.row_free h8.1 8; simp only [zeroR, List.getElem?_toArray, List.getElem?_cons_zero, List.getElem?_cons_succ] at c0 c1 c2 c3 c4 c5 c6 c7 c8; clear h9 hf hg hinT heT hfr hval hzT hvn hbA hinA heA hzA h8))
    all_goals (go_wp2_with fail; go_meet)
    all_goals (first
      | (have hA := HA.out
         have hA1 := hA.2.1
         obtain ⟨p1, p2, p3, p4⟩ := put9 H3.out.1 hA.1 hA.2.2 (by omega) (by omega) (.int .i64 r.status) (.slice va vn vk) (.int .u32 r.flags) (.int .u64 r.cas) (.int .i64 r.ttl) (.int .u64 r.number) (.bool r.stale) (.bool r.won) (.bool r.lost)
         have hv0 := doStore_val H3.out.2.2.2.2.2.1
         have hv1 := H3.out.2.2.2.1
         rw [hv0] at hv1
         exact ⟨_, f, r, t, va, vn, vk, col', rfl, Lib.hid ⟨p2, HA.out.2.2, HA.out.2.1, p1, (p3 _ (by have := HA.out.2.1; omega)).trans H3.out.2.2.1, H3.out.2.2.2.2.1, H3.out.2.2.2.2.2.1, by rw [hv0]; exact hv1.empty p4⟩⟩)
      | (have hv0 := doStore_val H3.out.2.2.2.2.2.1
         have hv1 := H3.out.2.2.2.1
         rw [hv0] at hv1
         exact ⟨_, f, r, t, va, vn, vk, col', rfl, Lib.hid ⟨Mem.new_block wT _, Run.none H3.out.1.run (Nat.le_refl _), H3.out.1.hi, H3.out.1.below (Mem.al (Below.refl _ _) _), (Below.heap_alloc _ _ _ (by have := H3.out.1.hi; omega)).trans H3.out.2.2.1, H3.out.2.2.2.2.1, H3.out.2.2.2.2.2.1, by rw [hv0]; exact hv1.empty (by simp)⟩⟩))
  case rest =>
    obtain ⟨t9, f, r, t, va, vn, vk, col', rfl, H⟩ := hcut
    have e9 := H.out.1
    unfold Res.arr at e9
    have d0 := Mem.row_cell e9 0
    have d1 := Mem.row_cell e9 1
    have d2 := Mem.row_cell e9 2
    have d3 := Mem.row_cell e9 3
    have d4 := Mem.row_cell e9 4
    have d5 := Mem.row_cell e9 5
    have d6 := Mem.row_cell e9 6
    have d7 := Mem.row_cell e9 7
    have d8 := Mem.row_cell e9 8
    have g0 := Mem.row_free e9 0
    have g5 := Mem.row_free e9 5
    simp only [List.getElem?_toArray, List.getElem?_cons_zero, List.getElem?_cons_succ] at d0 d1 d2 d3 d4 d5 d6 d7 d8
    clear e9 hw1 hS hsh hcv r0 r1 r2 r3 r4 r5 r6 r7 r8 r9 r10 r11 r12 r13 r14
    by_cases h2 : r.status = 2
    · rw [h2] at d0
      have h5 : ((wc.setCell ⟨t9, 0, none⟩ (.int .i64 7)).setCell ⟨t9, 5, none⟩ (.int .u64 u)).heap[w.heap.size + 1]? = some (.cells zeroR 37 (0, 0)) :=
        (Below.heap_setCell _ ⟨t9, 5, none⟩ _ _ (by have := H.out.2.2.1; show w.heap.size + 1 ≠ t9; omega)).trans ((Below.heap_setCell wc ⟨t9, 0, none⟩ _ _ (by have := H.out.2.2.1; show w.heap.size + 1 ≠ t9; omega)).trans H.out.2.2.2.2.1)
      have H5 := Lib.hid (And.intro h5 h2)
      clear h5 h2
      go_wp2_with (first
        | (refine wpList_store_row rfl 37 _ _ rfl (w.heap.size + 1) (({ r with status := 7, number := u } : Res).arr (.slice va vn vk)) rfl rfl 37 zeroR H5.out.1 (res_size _ _) rfl (res_one _ _ _ _) ?_)
        | fail)
      refine bodyPost_ret (results_cell_row Tryz.results54 _ _ (w.heap.size + 1) _ _ _ _ rfl (setRow_heap _ _ _ (({ r with status := 7, number := u } : Res).arr (.slice va vn vk)) _ _ H5.out.1) Tryz.underlying37 rfl (res_size _ _)) rfl ?_
      obtain ⟨k1, k2, k3, k4, k5, k6, k7, k8⟩ := H.out
      have hv0 := doStore_val k7
      have hi := (k4.aside k2 (by omega) (only_set (only_set (Only.refl _ _) 0 (.int .i64 7)) 5 (.int .u64 u))).setRow (k := w.heap.size + 1) (by omega) (by omega) (({ r with status := 7, number := u } : Res).arr (.slice va vn vk))
      rw [hv0] at k8
      refine hi.stop k6 (by unfold number; rw [k7, if_pos H5.out.2]) ?_
      show Val _ _ _ r.val
      rw [hv0]
      exact k8.empty (by simp)
    · have h2b : (r.status == 2) = false := by simpa using h2
      have H5 := Lib.hid h2
      clear h2
      go_wp2_with (first
        | (refine wpList_store_row rfl 37 _ _ rfl (w.heap.size + 1) (r.arr (.slice va vn vk)) rfl rfl 37 zeroR H.out.2.2.2.2.1 (res_size _ _) rfl (res_one _ _ _ _) ?_)
        | fail)
      refine bodyPost_ret (results_cell_row Tryz.results54 _ _ (w.heap.size + 1) _ _ _ _ rfl (setRow_heap _ _ _ (r.arr (.slice va vn vk)) _ _ H.out.2.2.2.2.1) Tryz.underlying37 rfl (res_size _ _)) rfl ?_
      obtain ⟨k1, k2, k3, k4, k5, k6, k7, k8⟩ := H.out
      have hv0 := doStore_val k7
      rw [hv0] at k8
      refine (k4.setRow (k := w.heap.size + 1) (by omega) (by omega) _).stop k6 (by unfold number; rw [k7, if_neg H5.out]) ?_
      rw [hv0]
      exact k8.empty (by simp)
end
end Go.Proofs.YtpghckiochjogaaGreatDoor.Exec

