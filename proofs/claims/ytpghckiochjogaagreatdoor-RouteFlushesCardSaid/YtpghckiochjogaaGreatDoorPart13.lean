/- Part13: Exec8, one behind the other. -/
import Derived.Test.YtpghckiochjogaaGreatDoorPart11
import Derived.BigRegion
/- Layer 12: meta. -/
namespace Go.Proofs.YtpghckiochjogaaGreatDoor.Exec
set_option maxRecDepth 100000
open Go Go.RowKit Go.Proofs.YtpghckiochjogaaGreatDoor.Mem Go.Proofs.YtpghckiochjogaaGreatDoor.App Go.Proofs.YtpghckiochjogaaGreatDoor.Shard
def ExecQ (W w : World) (M b : Nat) (col : Col) (seed : Int) (L : Tab.Pairs Nat) (v0 : Value) (xs0 : List UInt8) (g : Nat → Res × St) (e : Ending) (w' : World) : Prop :=
  ∃ f v col', (∀ p ∈ L, p.2 ≠ f) ∧ e = .returned (.agg ((g f).1.arr v)) ∧ Run W w' M b col' seed (g f).2 ∧ Fr col col' w w' ∧ Val w' col' v (g f).1.val ∧ ((g f).1.val = [] ∨ (v = v0 ∧ (g f).1.val = xs0))
section
variable {W w0 w w1 : World} {M M' b B1 B2 : Nat} {col0 col col1 : Col} {seed : Int} {s t : St} {v v0 : Value} {xs xs0 : List UInt8}
theorem Val.void (h : Val w1 col1 v xs) (he : xs = []) (hs : w1.heap.size ≤ w.heap.size) : Val w col v xs := by
  rw [he] at h ⊢
  exact h.empty hs
theorem In.stopQ {L : Tab.Pairs Nat} {g : Nat → Res × St} {f : Nat} {r : Res} (h : In W w0 w M b col0 col seed t B1 B2) (hv0 : Val w0 col0 v0 xs0) (hf : ∀ p ∈ L, p.2 ≠ f) (hg : g f = (r, t)) (hval : Val w1 col1 v r.val) (hs : w1.heap.size ≤ w.heap.size) (hq : r.val = [] ∨ (v = v0 ∧ r.val = xs0)) : ExecQ W w0 M b col0 seed L v0 xs0 g (.returned (.agg (r.arr v))) w := by
  have hv : Val w col v r.val := by
    rcases hq with e | ⟨rfl, e⟩
    · exact hval.void e hs
    · rw [e]
      exact h.val hv0
  exact ⟨f, v, col, hf, by rw [hg], by rw [hg]; exact h.run, h.fr, by rw [hg]; exact hv, by rw [hg]; exact hq⟩
theorem ExecQ.use {L : Tab.Pairs Nat} {g : Nat → Res × St} {e : Ending} {w' : World} (I : In W w0 w M b col0 col seed s B1 B2) (h : ExecQ W w M' b col seed L v0 xs0 g e w') : ∃ f r t a n k col', (∀ p ∈ L, p.2 ≠ f) ∧ g f = (r, t) ∧ e = .returned (.agg #[.int .i64 r.status, .slice a n k, .int .u32 r.flags, .int .u64 r.cas, .int .i64 r.ttl, .int .u64 r.number, .bool r.stale, .bool r.won, .bool r.lost]) ∧ n = r.val.length ∧ In W w0 w' M' b col0 col' seed t B1 B2 ∧ Fr col col' w w' ∧ Val w' col' (.slice a n k) r.val ∧ (r.val = [] ∨ (.slice a n k = v0 ∧ r.val = xs0)) := by
  obtain ⟨f, v, col', h1, h2, h3, h4, h5, h6⟩ := h
  obtain ⟨a, k, rfl⟩ := h5.shape
  exact ⟨f, (g f).1, (g f).2, a, _, k, col', h1, rfl, h2, rfl, I.turn2 h3 h4, h4, h5, h6⟩
end
section
variable {W w : World} {M b : Nat} {col : Col} {seed : Int} {s : St} {env : Env} {c : Cmd}
theorem update_n (h : Run W w M b col seed s) (hM : M ≤ 1050000) (it : Shard.Item) {a : Option Addr} {n k : Nat} (hn : it.val.length = n) (hks : it.key.size ≤ 2000000) (hvs : it.val.length ≤ 2000000) (hv : Val w col (.slice a n k) it.val) :
    Calls Tryz.prog 78 #[.pointer (some ⟨b, 0, none⟩), .agg (it.arr (.slice a n k))] w fun e w' => e = .returned (.int .i64 (s.update it).1) ∧ RunTurn W w M b col seed (s.update it).2 w' := by
  subst hn
  exact update_run h hM it a k hks hvs hv.src hv.own
theorem store_n (h : Run W w M b col seed s) (hM : M + 1 ≤ 1050000) (cv : Value) (it : Shard.Item) {a : Option Addr} {n k : Nat} (hn : it.val.length = n) (hks : it.key.size ≤ 2000000) (hvs : it.val.length ≤ 2000000) (hv : Val w col (.slice a n k) it.val) :
    Calls Tryz.prog 51 #[.agg (rarr b c cv env), .agg (it.arr (.slice a n k))] w (ExecP W w (M + 1) b col seed s.tab.L fun f => doStore env it f s) := by
  subst hn
  exact store_any h hM cv it hks hvs hv
end
section
variable {W w : World} {M b : Nat} {col : Col} {seed : Int} {s : St} {c : Cmd} {env : Env}
set_option maxHeartbeats 4000000 in
theorem meta_any (h : Run W w M b col seed s) (hM : M ≤ 1050000) (cv : Value) (it : Shard.Item) {a : Option Addr} {n k : Nat} (hn : it.val.length = n) (hks : it.key.size ≤ 2000000) (hvs : it.val.length ≤ 2000000) (hv : Val w col (.slice a n k) it.val) (L : Tab.Pairs Nat) (hL : ∃ f, ∀ p ∈ L, p.2 ≠ f) :
    Calls Tryz.prog 83 #[.agg (rarr b c cv env), .agg (it.arr (.slice a n k))] w (ExecQ W w M b col seed L (.slice a n k) it.val fun _ => metaS c env it s) := by
  have hb2 : Below w.heap.size w (((w.alloc (.cells (rarr b c cv env) 86)).alloc (.cells (it.arr (.slice a n k)) 51)).alloc (.cells (zeroR) 37)) := Mem.al (Mem.al (Mem.al (Below.refl _ _) _) _) _
  have n1 : (((w.alloc (.cells (rarr b c cv env) 86)).alloc (.cells (it.arr (.slice a n k)) 51)).alloc (.cells (zeroR) 37)).heap[w.heap.size]? = some (.cells (rarr b c cv env) 86 (0, 0)) := Mem.new_later (Mem.new_later (Mem.new_block w _) _) _
  have n2 : (((w.alloc (.cells (rarr b c cv env) 86)).alloc (.cells (it.arr (.slice a n k)) 51)).alloc (.cells (zeroR) 37)).heap[w.heap.size + 1]? = some (.cells (it.arr (.slice a n k)) 51 (0, 0)) := Mem.new_later (Mem.new_block2 w _ _) _
  have n3 : (((w.alloc (.cells (rarr b c cv env) 86)).alloc (.cells (it.arr (.slice a n k)) 51)).alloc (.cells (zeroR) 37)).heap[w.heap.size + 1 + 1]? = some (.cells (zeroR) 37 (0, 0)) := new_block3 w _ _ _
  have hz : (((w.alloc (.cells (rarr b c cv env) 86)).alloc (.cells (it.arr (.slice a n k)) 51)).alloc (.cells (zeroR) 37)).heap.size = w.heap.size + 3 := by simp
  obtain ⟨w1, hw1⟩ : ∃ w1, (((w.alloc (.cells (rarr b c cv env) 86)).alloc (.cells (it.arr (.slice a n k)) 51)).alloc (.cells (zeroR) 37)) = w1 := ⟨_, rfl⟩
  rw [hw1] at hb2 hz n1 n2 n3
  have hin := In.start h hb2
  rw [hz] at hin
  have hat := fun w' => at_any b c cv env w'
  unfold rarr at hat
  have r0 := Mem.row_cell n1 0
  have r1 := Mem.row_cell n1 1
  have r2 := Mem.row_cell n1 2
  have r3 := Mem.row_cell n1 3
  have r4 := Mem.row_cell n1 4
  have r5 := Mem.row_cell n1 5
  have r6 := Mem.row_cell n1 6
  have r7 := Mem.row_cell n1 7
  have r8 := Mem.row_cell n1 8
  have r9 := Mem.row_cell n1 9
  have r10 := Mem.row_cell n1 10
  have r11 := Mem.row_cell n1 11
  have r12 := Mem.row_cell n1 12
  have r13 := Mem.row_cell n1 13
  have r14 := Mem.row_cell n1 14
  have i0 := Mem.row_cell n2 0
  have i1 := Mem.row_cell n2 1
  have i2 := Mem.row_cell n2 2
  have i3 := Mem.row_cell n2 3
  have i4 := Mem.row_cell n2 4
  have i5 := Mem.row_cell n2 5
  have i6 := Mem.row_cell n2 6
  have i7 := Mem.row_cell n2 7
  have i8 := Mem.row_cell n2 8
  have i9 := Mem.row_cell n2 9
  simp only [rarr, Item.arr, List.getElem?_toArray, List.getElem?_cons_zero, List.getElem?_cons_succ] at r0 r1 r2 r3 r4 r5 r6 r7 r8 r9 r10 r11 r12 r13 r14 i0 i1 i2 i3 i4 i5 i6 i7 i8 i9
  obtain ⟨it1, hit1⟩ : ∃ it1, metaI c env it = it1 := ⟨_, rfl⟩
  have hv1 : it1.val = it.val := by rw [← hit1]; unfold metaI; split <;> rfl
  have hk1 : it1.key = it.key := by rw [← hit1]; unfold metaI; split <;> rfl
  have HB := Lib.hid (And.intro hin (And.intro n1 (And.intro n2 (And.intro n3 (And.intro hv (And.intro hL (And.intro hit1 (And.intro hv1 (And.intro hn (And.intro (show it1.key.size ≤ 2000000 by rw [hk1]; exact hks) (And.intro (show it1.val.length ≤ 2000000 by rw [hv1]; exact hvs) hM)))))))))))
  clear hb2 n1 n2 n3 hz hin h hv hL hv1 hk1 hn hks hvs hM
  unfold rarr Item.arr zeroR at hw1
  unfold rarr Item.arr
  go_enter Tryz.func83, Tryz.ntmps83
  rcases (by cases c.sets <;> simp : c.sets = false ∨ c.sets = true) with hs | hs
  · rw [hs] at r10
    have e1 : it1 = it := by rw [← hit1]; unfold metaI; rw [hs]; rfl
    clear hat hs hit1
    go_upto_region 3 with (fail)
    obtain ⟨wc, hwc⟩ : ∃ wc, w1 = wc := ⟨_, rfl⟩
    obtain ⟨hinC, nR, nI, nZ, -⟩ := HB.out
    rw [hwc] at hinC nR nI nZ ⊢
    rw [← e1] at nI
    clear hwc e1 hw1
    have HC := Lib.hid (And.intro hinC (And.intro nR (And.intro nZ nI)))
    clear r0 r1 r2 r3 r4 r5 r6 r7 r8 r9 r10 r11 r12 r13 r14 i0 i1 i2 i3 i4 i5 i6 i7 i8 i9
    have r0 := Mem.row_cell nR 0
    have r1 := Mem.row_cell nR 1
    have r2 := Mem.row_cell nR 2
    have r3 := Mem.row_cell nR 3
    have r4 := Mem.row_cell nR 4
    have r5 := Mem.row_cell nR 5
    have r6 := Mem.row_cell nR 6
    have r7 := Mem.row_cell nR 7
    have r8 := Mem.row_cell nR 8
    have r9 := Mem.row_cell nR 9
    have r10 := Mem.row_cell nR 10
    have r11 := Mem.row_cell nR 11
    have r12 := Mem.row_cell nR 12
    have r13 := Mem.row_cell nR 13
    have r14 := Mem.row_cell nR 14
    have i0 := Mem.row_cell nI 0
    have i1 := Mem.row_cell nI 1
    have i2 := Mem.row_cell nI 2
    have i3 := Mem.row_cell nI 3
    have i4 := Mem.row_cell nI 4
    have i5 := Mem.row_cell nI 5
    have i6 := Mem.row_cell nI 6
    have i7 := Mem.row_cell nI 7
    have i8 := Mem.row_cell nI 8
    have i9 := Mem.row_cell nI 9
    simp only [rarr, Item.arr, List.getElem?_toArray, List.getElem?_cons_zero, List.getElem?_cons_succ] at r0 r1 r2 r3 r4 r5 r6 r7 r8 r9 r10 r11 r12 r13 r14 i0 i1 i2 i3 i4 i5 i6 i7 i8 i9
    have hvi := fun W' => view_any b c cv env it1 a k W'
    rw [show it1.val.length = n by rw [HB.out.2.2.2.2.2.2.2.1]; exact HB.out.2.2.2.2.2.2.2.2.1] at hvi
    unfold rarr Item.arr at hvi
    obtain ⟨y, hy⟩ : ∃ y, view it1 env = y := ⟨_, rfl⟩
    rw [hy] at hvi
    have HY := Lib.hid hy
    clear hinC nR nI nZ hy
    unfold Res.arr at hvi
    go_wp2_with fail
    refine (hvi _).mono ?_
    rintro e w7 ⟨rfl, hb7⟩
    have hin7 := HC.out.1.below hb7
    have nR := (hb7.block _ (Array.getElem?_eq_some_iff.1 HC.out.2.1).1).trans HC.out.2.1
    have nZ := (hb7.block _ (Array.getElem?_eq_some_iff.1 HC.out.2.2.1).1).trans HC.out.2.2.1
    have nI := (hb7.block _ (Array.getElem?_eq_some_iff.1 HC.out.2.2.2).1).trans HC.out.2.2.2
    have H7 := Lib.hid (And.intro hin7 (And.intro nR (And.intro nZ nI)))
    clear hb7 hvi hin7 nR nZ nI r0 r1 r2 r3 r4 r5 r6 r7 r8 r9 r10 r11 r12 r13 r14 i0 i1 i2 i3 i4 i5 i6 i7 i8 i9
    obtain ⟨st, hst⟩ : ∃ x, it1.stale = x := ⟨_, rfl⟩
    obtain ⟨wn, hwn⟩ : ∃ x, it1.won = x := ⟨_, rfl⟩
    have HW := Lib.hid (And.intro hst hwn)
    clear hst hwn
    have hb8 : Below w7.heap.size w7 (w7.alloc (.cells (y.arr (.slice a n k)) 37)) := Mem.al (Below.refl _ _) _
    have nX := Mem.new_block w7 (.cells (y.arr (.slice a n k)) 37)
    have nI := (hb8.block _ (Array.getElem?_eq_some_iff.1 H7.out.2.2.2).1).trans H7.out.2.2.2
    obtain ⟨w8, hw8⟩ : ∃ w8, w7.alloc (.cells (y.arr (.slice a n k)) 37) = w8 := ⟨_, rfl⟩
    rw [hw8] at hb8 nX nI
    have hlt : w.heap.size + 2 < w7.heap.size := by have := H7.out.1.hi; omega
    have i7 := Mem.row_cell nI 7
    have i8 := Mem.row_cell nI 8
    have x7 := Mem.row_cell nX 7
    have x8 := Mem.row_cell nX 8
    have f7 := Mem.row_free nX 7
    have f8 := Mem.row_free nX 8
    simp only [Item.arr, Res.arr, List.getElem?_toArray, List.getElem?_cons_zero, List.getElem?_cons_succ, HW.out.1, HW.out.2] at i7 i8 x7 x8
    have hne : w.heap.size + 1 ≠ w7.heap.size := by omega
    have hk : ∀ (W' : World) i u j, (W'.setCell ⟨w7.heap.size, i, none⟩ u).cell? ⟨w.heap.size + 1, j, none⟩ = W'.cell? ⟨w.heap.size + 1, j, none⟩ := fun W' i u j => World.cell?_of_block (a := ⟨w.heap.size + 1, j, none⟩) (Below.heap_setCell _ _ _ _ hne)
    have H8 := Lib.hid (And.intro hb8 nX)
    have hne2 := Lib.hid hne
    clear hb8 nX nI hne
    unfold Res.arr at hw8
    go_upto_region 4 with (fail)
    rcases st with _ | _ <;> rcases wn with _ | _
    · go_region
      obtain ⟨w9, hw9⟩ : ∃ w9, ((w8.setCell ⟨w7.heap.size, 8, none⟩ (.bool false)).setCell ⟨w7.heap.size, 7, none⟩ (.bool false)).drew = w9 := ⟨_, rfl⟩
      have ho : Only (fun k => k = w7.heap.size) w8 w9 := by rw [← hw9]; exact (only_set (only_set (Only.refl _ _) 8 _) 7 _).drew
      obtain ⟨y2, hy2⟩ : ∃ y2 : Res, { y with lost := false, won := false } = y2 := ⟨_, rfl⟩
      have nX9 : w9.heap[w7.heap.size]? = some (.cells (y2.arr (.slice a n k)) 37 (0, 0)) := by
        rw [← hw9, ← hy2]
        refine (Mem.row_set (Mem.row_set H8.out.2 8 (.bool false)) 7 (.bool false)).trans ?_
        simp [Res.arr]
      have cX : col w7.heap.size = none := Run.none H7.out.1.run (Nat.le_refl _)
      have hin9 := (H7.out.1.below H8.out.1).aside cX (by omega) ho
      have nI9 := (ho.same (w.heap.size + 1) (block_lt_of_cell i7) (by omega)).trans ((H8.out.1.block _ (by omega)).trans H7.out.2.2.2)
      have nR9 := (ho.same w.heap.size (by have := H8.out.1.size; omega) (by omega)).trans ((H8.out.1.block _ (by omega)).trans H7.out.2.1)
      have nZ9 := (ho.same (w.heap.size + 1 + 1) (by have := H8.out.1.size; omega) (by omega)).trans ((H8.out.1.block _ (by omega)).trans H7.out.2.2.1)
      rw [hw9]
      have H9 := Lib.hid (And.intro hin9 (And.intro nX9 (And.intro nR9 (And.intro nZ9 (And.intro cX (And.intro hy2 nI9))))))
      clear hw9 ho nX9 cX hin9 nR9 nZ9 hk hw8 i7 i8 x7 x8 f7 f8 hy2
      have i7 := Mem.row_cell nI9 7
      have i8 := Mem.row_cell nI9 8
      have i9 := Mem.row_cell nI9 9
      have f8 := Mem.row_free nI9 8
      have f9 := Mem.row_free nI9 9
      simp only [Item.arr, List.getElem?_toArray, List.getElem?_cons_zero, List.getElem?_cons_succ, HW.out.1, HW.out.2] at i7 i8 i9
      clear nI9
      obtain ⟨wA, hwA⟩ : ∃ wA, (w9.setCell ⟨w.heap.size + 1, 9, none⟩ (.bool true)).setCell ⟨w.heap.size + 1, 8, none⟩ (.bool false) = wA := ⟨_, rfl⟩
      obtain ⟨it2, hit2⟩ : ∃ it2 : Shard.Item, { it1 with seen := true, won := false } = it2 := ⟨_, rfl⟩
      have hoA : Only (fun k => k = w.heap.size + 1) w9 wA := by rw [← hwA]; exact only_set (only_set (Only.refl _ _) 9 _) 8 _
      have nIA : wA.heap[w.heap.size + 1]? = some (.cells (it2.arr (.slice a n k)) 51 (0, 0)) := by
        rw [← hwA, ← hit2]
        refine (Mem.row_set (Mem.row_set H9.out.2.2.2.2.2.2 9 (.bool true)) 8 (.bool false)).trans ?_
        simp [Item.arr]
      have hinA := H9.out.1.only (by omega) (by omega) hoA
      have nRA := (hoA.same w.heap.size (Array.getElem?_eq_some_iff.1 H9.out.2.2.1).1 (by omega)).trans H9.out.2.2.1
      have nZA := (hoA.same (w.heap.size + 1 + 1) (Array.getElem?_eq_some_iff.1 H9.out.2.2.2.1).1 (by omega)).trans H9.out.2.2.2.1
      have nXA := (hoA.same w7.heap.size (Array.getElem?_eq_some_iff.1 H9.out.2.1).1 (by omega)).trans H9.out.2.1
      have hv2 : it2.val = it.val := by rw [← hit2]; exact HB.out.2.2.2.2.2.2.2.1
      have hn2 : it2.val.length = n := by rw [hv2]; exact HB.out.2.2.2.2.2.2.2.2.1
      have hup := update_n hinA.run HB.out.2.2.2.2.2.2.2.2.2.2.2 it2 hn2 (by rw [← hit2]; exact HB.out.2.2.2.2.2.2.2.2.2.1) (by rw [← hit2]; exact HB.out.2.2.2.2.2.2.2.2.2.2.1) (by rw [hv2]; exact hinA.val HB.out.2.2.2.2.1)
      unfold Item.arr at hup
      go_upto_region 6 with (fail)
      clear hwA i7 i8 i9 f8 f9
      have i0 := Mem.row_cell nIA 0
      have i1 := Mem.row_cell nIA 1
      have i2 := Mem.row_cell nIA 2
      have i3 := Mem.row_cell nIA 3
      have i4 := Mem.row_cell nIA 4
      have i5 := Mem.row_cell nIA 5
      have i6 := Mem.row_cell nIA 6
      have i7 := Mem.row_cell nIA 7
      have i8 := Mem.row_cell nIA 8
      have i9 := Mem.row_cell nIA 9
      have r0 := Mem.row_cell nRA 0
      simp only [rarr, Item.arr, List.getElem?_toArray, List.getElem?_cons_zero, List.getElem?_cons_succ] at i0 i1 i2 i3 i4 i5 i6 i7 i8 i9 r0
      have HA := Lib.hid (And.intro hinA (And.intro nZA (And.intro nXA hit2)))
      clear hinA nZA nXA hit2 hoA nIA nRA hv2 hn2
      go_wp2_with fail
      refine hup.mono ?_
      rintro e wB ⟨rfl, ht⟩
      obtain ⟨colB, hinB, hfr⟩ := HA.out.1.turn ht
      have nZB := HA.out.1.row (by omega) (by omega) hfr HA.out.2.1
      have nXB := (Box.turn hfr HA.out.2.2.1 H9.out.2.2.2.2.1).1
      clear hup ht hfr i0 i1 i2 i3 i4 i5 i6 i7 i8 i9 r0
      have x0 := Mem.row_cell nXB 0
      have x1 := Mem.row_cell nXB 1
      have x2 := Mem.row_cell nXB 2
      have x3 := Mem.row_cell nXB 3
      have x4 := Mem.row_cell nXB 4
      have x5 := Mem.row_cell nXB 5
      have x6 := Mem.row_cell nXB 6
      have x7 := Mem.row_cell nXB 7
      have x8 := Mem.row_cell nXB 8
      simp only [Res.arr, List.getElem?_toArray, List.getElem?_cons_zero, List.getElem?_cons_succ] at x0 x1 x2 x3 x4 x5 x6 x7 x8
      have HE := Lib.hid (And.intro hinB nZB)
      clear hinB nZB nXB
      go_wp2_with (first
        | (refine wpList_store_row rfl 37 _ _ rfl (w.heap.size + 1 + 1) (y2.arr (.slice a n k)) rfl rfl 37 zeroR HE.out.2 (res_size _ _) rfl (res_one _ _ _ _) ?_)
        | fail)
      refine bodyPost_ret (results_cell_row Tryz.results83 _ _ (w.heap.size + 1 + 1) _ _ _ _ rfl (setRow_heap _ _ _ (y2.arr (.slice a n k)) _ _ HE.out.2) Tryz.underlying37 rfl (res_size _ _)) rfl ?_
      obtain ⟨f, hf⟩ := HB.out.2.2.2.2.2.1
      have hE := HE.out.1.setRow (k := w.heap.size + 1 + 1) (by omega) (by omega) (y2.arr (.slice a n k))
      have hsw : it.stale = false ∧ it.won = false := by
        have e1 := HW.out
        rw [← HB.out.2.2.2.2.2.2.1] at e1
        have e2 : (metaI c env it).stale = it.stale ∧ (metaI c env it).won = it.won := by unfold metaI; split <;> exact ⟨rfl, rfl⟩
        rw [e2.1, e2.2] at e1
        exact e1
      have ev : y2.val = it.val := by
        rw [← H9.out.2.2.2.2.2.1, ← HB.out.2.2.2.2.2.2.2.1]
        show y.val = it1.val
        rw [← HY.out]
        rfl
      refine hE.stopQ (r := y2) HB.out.2.2.2.2.1 hf ?_ (hE.val (by rw [ev]; exact HB.out.2.2.2.2.1)) (Nat.le_refl _) (.inr ⟨rfl, ev⟩)
      · show metaS c env it s = _
        unfold metaS
        rw [HB.out.2.2.2.2.2.2.1, HY.out, hsw.1, hsw.2, ← H9.out.2.2.2.2.2.1, ← HA.out.2.2.2]
        rfl
    · go_region
      obtain ⟨w9, hw9⟩ : ∃ w9, ((w8.setCell ⟨w7.heap.size, 8, none⟩ (.bool true)).setCell ⟨w7.heap.size, 7, none⟩ (.bool false)).drew = w9 := ⟨_, rfl⟩
      have ho : Only (fun k => k = w7.heap.size) w8 w9 := by rw [← hw9]; exact (only_set (only_set (Only.refl _ _) 8 _) 7 _).drew
      obtain ⟨y2, hy2⟩ : ∃ y2 : Res, { y with lost := true, won := false } = y2 := ⟨_, rfl⟩
      have nX9 : w9.heap[w7.heap.size]? = some (.cells (y2.arr (.slice a n k)) 37 (0, 0)) := by
        rw [← hw9, ← hy2]
        refine (Mem.row_set (Mem.row_set H8.out.2 8 (.bool true)) 7 (.bool false)).trans ?_
        simp [Res.arr]
      have cX : col w7.heap.size = none := Run.none H7.out.1.run (Nat.le_refl _)
      have hin9 := (H7.out.1.below H8.out.1).aside cX (by omega) ho
      have nI9 := (ho.same (w.heap.size + 1) (block_lt_of_cell i7) (by omega)).trans ((H8.out.1.block _ (by omega)).trans H7.out.2.2.2)
      have nR9 := (ho.same w.heap.size (by have := H8.out.1.size; omega) (by omega)).trans ((H8.out.1.block _ (by omega)).trans H7.out.2.1)
      have nZ9 := (ho.same (w.heap.size + 1 + 1) (by have := H8.out.1.size; omega) (by omega)).trans ((H8.out.1.block _ (by omega)).trans H7.out.2.2.1)
      rw [hw9]
      have H9 := Lib.hid (And.intro hin9 (And.intro nX9 (And.intro nR9 (And.intro nZ9 (And.intro cX (And.intro hy2 nI9))))))
      clear hw9 ho nX9 cX hin9 nR9 nZ9 hk hw8 i7 i8 x7 x8 f7 f8 hy2
      have i7 := Mem.row_cell nI9 7
      have i8 := Mem.row_cell nI9 8
      have i9 := Mem.row_cell nI9 9
      have f8 := Mem.row_free nI9 8
      have f9 := Mem.row_free nI9 9
      simp only [Item.arr, List.getElem?_toArray, List.getElem?_cons_zero, List.getElem?_cons_succ, HW.out.1, HW.out.2] at i7 i8 i9
      clear nI9
      obtain ⟨wA, hwA⟩ : ∃ wA, (w9.setCell ⟨w.heap.size + 1, 9, none⟩ (.bool true)).setCell ⟨w.heap.size + 1, 8, none⟩ (.bool true) = wA := ⟨_, rfl⟩
      obtain ⟨it2, hit2⟩ : ∃ it2 : Shard.Item, { it1 with seen := true, won := true } = it2 := ⟨_, rfl⟩
      have hoA : Only (fun k => k = w.heap.size + 1) w9 wA := by rw [← hwA]; exact only_set (only_set (Only.refl _ _) 9 _) 8 _
      have nIA : wA.heap[w.heap.size + 1]? = some (.cells (it2.arr (.slice a n k)) 51 (0, 0)) := by
        rw [← hwA, ← hit2]
        refine (Mem.row_set (Mem.row_set H9.out.2.2.2.2.2.2 9 (.bool true)) 8 (.bool true)).trans ?_
        simp [Item.arr]
      have hinA := H9.out.1.only (by omega) (by omega) hoA
      have nRA := (hoA.same w.heap.size (Array.getElem?_eq_some_iff.1 H9.out.2.2.1).1 (by omega)).trans H9.out.2.2.1
      have nZA := (hoA.same (w.heap.size + 1 + 1) (Array.getElem?_eq_some_iff.1 H9.out.2.2.2.1).1 (by omega)).trans H9.out.2.2.2.1
      have nXA := (hoA.same w7.heap.size (Array.getElem?_eq_some_iff.1 H9.out.2.1).1 (by omega)).trans H9.out.2.1
      have hv2 : it2.val = it.val := by rw [← hit2]; exact HB.out.2.2.2.2.2.2.2.1
      have hn2 : it2.val.length = n := by rw [hv2]; exact HB.out.2.2.2.2.2.2.2.2.1
      have hup := update_n hinA.run HB.out.2.2.2.2.2.2.2.2.2.2.2 it2 hn2 (by rw [← hit2]; exact HB.out.2.2.2.2.2.2.2.2.2.1) (by rw [← hit2]; exact HB.out.2.2.2.2.2.2.2.2.2.2.1) (by rw [hv2]; exact hinA.val HB.out.2.2.2.2.1)
      unfold Item.arr at hup
      go_upto_region 6 with (fail)
      clear hwA i7 i8 i9 f8 f9
      have i0 := Mem.row_cell nIA 0
      have i1 := Mem.row_cell nIA 1
      have i2 := Mem.row_cell nIA 2
      have i3 := Mem.row_cell nIA 3
      have i4 := Mem.row_cell nIA 4
      have i5 := Mem.row_cell nIA 5
      have i6 := Mem.row_cell nIA 6
      have i7 := Mem.row_cell nIA 7
      have i8 := Mem.row_cell nIA 8
      have i9 := Mem.row_cell nIA 9
      have r0 := Mem.row_cell nRA 0
      simp only [rarr, Item.arr, List.getElem?_toArray, List.getElem?_cons_zero, List.getElem?_cons_succ] at i0 i1 i2 i3 i4 i5 i6 i7 i8 i9 r0
      have HA := Lib.hid (And.intro hinA (And.intro nZA (And.intro nXA hit2)))
      clear hinA nZA nXA hit2 hoA nIA nRA hv2 hn2
      go_wp2_with fail
      refine hup.mono ?_
      rintro e wB ⟨rfl, ht⟩
      obtain ⟨colB, hinB, hfr⟩ := HA.out.1.turn ht
      have nZB := HA.out.1.row (by omega) (by omega) hfr HA.out.2.1
      have nXB := (Box.turn hfr HA.out.2.2.1 H9.out.2.2.2.2.1).1
      clear hup ht hfr i0 i1 i2 i3 i4 i5 i6 i7 i8 i9 r0
      have x0 := Mem.row_cell nXB 0
      have x1 := Mem.row_cell nXB 1
      have x2 := Mem.row_cell nXB 2
      have x3 := Mem.row_cell nXB 3
      have x4 := Mem.row_cell nXB 4
      have x5 := Mem.row_cell nXB 5
      have x6 := Mem.row_cell nXB 6
      have x7 := Mem.row_cell nXB 7
      have x8 := Mem.row_cell nXB 8
      simp only [Res.arr, List.getElem?_toArray, List.getElem?_cons_zero, List.getElem?_cons_succ] at x0 x1 x2 x3 x4 x5 x6 x7 x8
      have HE := Lib.hid (And.intro hinB nZB)
      clear hinB nZB nXB
      go_wp2_with (first
        | (refine wpList_store_row rfl 37 _ _ rfl (w.heap.size + 1 + 1) (y2.arr (.slice a n k)) rfl rfl 37 zeroR HE.out.2 (res_size _ _) rfl (res_one _ _ _ _) ?_)
        | fail)
      refine bodyPost_ret (results_cell_row Tryz.results83 _ _ (w.heap.size + 1 + 1) _ _ _ _ rfl (setRow_heap _ _ _ (y2.arr (.slice a n k)) _ _ HE.out.2) Tryz.underlying37 rfl (res_size _ _)) rfl ?_
      obtain ⟨f, hf⟩ := HB.out.2.2.2.2.2.1
      have hE := HE.out.1.setRow (k := w.heap.size + 1 + 1) (by omega) (by omega) (y2.arr (.slice a n k))
      have hsw : it.stale = false ∧ it.won = true := by
        have e1 := HW.out
        rw [← HB.out.2.2.2.2.2.2.1] at e1
        have e2 : (metaI c env it).stale = it.stale ∧ (metaI c env it).won = it.won := by unfold metaI; split <;> exact ⟨rfl, rfl⟩
        rw [e2.1, e2.2] at e1
        exact e1
      have ev : y2.val = it.val := by
        rw [← H9.out.2.2.2.2.2.1, ← HB.out.2.2.2.2.2.2.2.1]
        show y.val = it1.val
        rw [← HY.out]
        rfl
      refine hE.stopQ (r := y2) HB.out.2.2.2.2.1 hf ?_ (hE.val (by rw [ev]; exact HB.out.2.2.2.2.1)) (Nat.le_refl _) (.inr ⟨rfl, ev⟩)
      · show metaS c env it s = _
        unfold metaS
        rw [HB.out.2.2.2.2.2.2.1, HY.out, hsw.1, hsw.2, ← H9.out.2.2.2.2.2.1, ← HA.out.2.2.2]
        rfl
    · go_region
      obtain ⟨w9, hw9⟩ : ∃ w9, ((w8.setCell ⟨w7.heap.size, 8, none⟩ (.bool false)).setCell ⟨w7.heap.size, 7, none⟩ (.bool true)).drew = w9 := ⟨_, rfl⟩
      have ho : Only (fun k => k = w7.heap.size) w8 w9 := by rw [← hw9]; exact (only_set (only_set (Only.refl _ _) 8 _) 7 _).drew
      obtain ⟨y2, hy2⟩ : ∃ y2 : Res, { y with lost := false, won := true } = y2 := ⟨_, rfl⟩
      have nX9 : w9.heap[w7.heap.size]? = some (.cells (y2.arr (.slice a n k)) 37 (0, 0)) := by
        rw [← hw9, ← hy2]
        refine (Mem.row_set (Mem.row_set H8.out.2 8 (.bool false)) 7 (.bool true)).trans ?_
        simp [Res.arr]
      have cX : col w7.heap.size = none := Run.none H7.out.1.run (Nat.le_refl _)
      have hin9 := (H7.out.1.below H8.out.1).aside cX (by omega) ho
      have nI9 := (ho.same (w.heap.size + 1) (block_lt_of_cell i7) (by omega)).trans ((H8.out.1.block _ (by omega)).trans H7.out.2.2.2)
      have nR9 := (ho.same w.heap.size (by have := H8.out.1.size; omega) (by omega)).trans ((H8.out.1.block _ (by omega)).trans H7.out.2.1)
      have nZ9 := (ho.same (w.heap.size + 1 + 1) (by have := H8.out.1.size; omega) (by omega)).trans ((H8.out.1.block _ (by omega)).trans H7.out.2.2.1)
      rw [hw9]
      have H9 := Lib.hid (And.intro hin9 (And.intro nX9 (And.intro nR9 (And.intro nZ9 (And.intro cX (And.intro hy2 nI9))))))
      clear hw9 ho nX9 cX hin9 nR9 nZ9 hk hw8 i7 i8 x7 x8 f7 f8 hy2
      have i7 := Mem.row_cell nI9 7
      have i8 := Mem.row_cell nI9 8
      have i9 := Mem.row_cell nI9 9
      have f8 := Mem.row_free nI9 8
      have f9 := Mem.row_free nI9 9
      simp only [Item.arr, List.getElem?_toArray, List.getElem?_cons_zero, List.getElem?_cons_succ, HW.out.1, HW.out.2] at i7 i8 i9
      clear nI9
      obtain ⟨wA, hwA⟩ : ∃ wA, (w9.setCell ⟨w.heap.size + 1, 9, none⟩ (.bool true)).setCell ⟨w.heap.size + 1, 8, none⟩ (.bool true) = wA := ⟨_, rfl⟩
      obtain ⟨it2, hit2⟩ : ∃ it2 : Shard.Item, { it1 with seen := true, won := true } = it2 := ⟨_, rfl⟩
      have hoA : Only (fun k => k = w.heap.size + 1) w9 wA := by rw [← hwA]; exact only_set (only_set (Only.refl _ _) 9 _) 8 _
      have nIA : wA.heap[w.heap.size + 1]? = some (.cells (it2.arr (.slice a n k)) 51 (0, 0)) := by
        rw [← hwA, ← hit2]
        refine (Mem.row_set (Mem.row_set H9.out.2.2.2.2.2.2 9 (.bool true)) 8 (.bool true)).trans ?_
        simp [Item.arr]
      have hinA := H9.out.1.only (by omega) (by omega) hoA
      have nRA := (hoA.same w.heap.size (Array.getElem?_eq_some_iff.1 H9.out.2.2.1).1 (by omega)).trans H9.out.2.2.1
      have nZA := (hoA.same (w.heap.size + 1 + 1) (Array.getElem?_eq_some_iff.1 H9.out.2.2.2.1).1 (by omega)).trans H9.out.2.2.2.1
      have nXA := (hoA.same w7.heap.size (Array.getElem?_eq_some_iff.1 H9.out.2.1).1 (by omega)).trans H9.out.2.1
      have hv2 : it2.val = it.val := by rw [← hit2]; exact HB.out.2.2.2.2.2.2.2.1
      have hn2 : it2.val.length = n := by rw [hv2]; exact HB.out.2.2.2.2.2.2.2.2.1
      have hup := update_n hinA.run HB.out.2.2.2.2.2.2.2.2.2.2.2 it2 hn2 (by rw [← hit2]; exact HB.out.2.2.2.2.2.2.2.2.2.1) (by rw [← hit2]; exact HB.out.2.2.2.2.2.2.2.2.2.2.1) (by rw [hv2]; exact hinA.val HB.out.2.2.2.2.1)
      unfold Item.arr at hup
      go_upto_region 6 with (fail)
      clear hwA i7 i8 i9 f8 f9
      have i0 := Mem.row_cell nIA 0
      have i1 := Mem.row_cell nIA 1
      have i2 := Mem.row_cell nIA 2
      have i3 := Mem.row_cell nIA 3
      have i4 := Mem.row_cell nIA 4
      have i5 := Mem.row_cell nIA 5
      have i6 := Mem.row_cell nIA 6
      have i7 := Mem.row_cell nIA 7
      have i8 := Mem.row_cell nIA 8
      have i9 := Mem.row_cell nIA 9
      have r0 := Mem.row_cell nRA 0
      simp only [rarr, Item.arr, List.getElem?_toArray, List.getElem?_cons_zero, List.getElem?_cons_succ] at i0 i1 i2 i3 i4 i5 i6 i7 i8 i9 r0
      have HA := Lib.hid (And.intro hinA (And.intro nZA (And.intro nXA hit2)))
      clear hinA nZA nXA hit2 hoA nIA nRA hv2 hn2
      go_wp2_with fail
      refine hup.mono ?_
      rintro e wB ⟨rfl, ht⟩
      obtain ⟨colB, hinB, hfr⟩ := HA.out.1.turn ht
      have nZB := HA.out.1.row (by omega) (by omega) hfr HA.out.2.1
      have nXB := (Box.turn hfr HA.out.2.2.1 H9.out.2.2.2.2.1).1
      clear hup ht hfr i0 i1 i2 i3 i4 i5 i6 i7 i8 i9 r0
      have x0 := Mem.row_cell nXB 0
      have x1 := Mem.row_cell nXB 1
      have x2 := Mem.row_cell nXB 2
      have x3 := Mem.row_cell nXB 3
      have x4 := Mem.row_cell nXB 4
      have x5 := Mem.row_cell nXB 5
      have x6 := Mem.row_cell nXB 6
      have x7 := Mem.row_cell nXB 7
      have x8 := Mem.row_cell nXB 8
      simp only [Res.arr, List.getElem?_toArray, List.getElem?_cons_zero, List.getElem?_cons_succ] at x0 x1 x2 x3 x4 x5 x6 x7 x8
      have HE := Lib.hid (And.intro hinB nZB)
      clear hinB nZB nXB
      go_wp2_with (first
        | (refine wpList_store_row rfl 37 _ _ rfl (w.heap.size + 1 + 1) (y2.arr (.slice a n k)) rfl rfl 37 zeroR HE.out.2 (res_size _ _) rfl (res_one _ _ _ _) ?_)
        | fail)
      refine bodyPost_ret (results_cell_row Tryz.results83 _ _ (w.heap.size + 1 + 1) _ _ _ _ rfl (setRow_heap _ _ _ (y2.arr (.slice a n k)) _ _ HE.out.2) Tryz.underlying37 rfl (res_size _ _)) rfl ?_
      obtain ⟨f, hf⟩ := HB.out.2.2.2.2.2.1
      have hE := HE.out.1.setRow (k := w.heap.size + 1 + 1) (by omega) (by omega) (y2.arr (.slice a n k))
      have hsw : it.stale = true ∧ it.won = false := by
        have e1 := HW.out
        rw [← HB.out.2.2.2.2.2.2.1] at e1
        have e2 : (metaI c env it).stale = it.stale ∧ (metaI c env it).won = it.won := by unfold metaI; split <;> exact ⟨rfl, rfl⟩
        rw [e2.1, e2.2] at e1
        exact e1
      have ev : y2.val = it.val := by
        rw [← H9.out.2.2.2.2.2.1, ← HB.out.2.2.2.2.2.2.2.1]
        show y.val = it1.val
        rw [← HY.out]
        rfl
      refine hE.stopQ (r := y2) HB.out.2.2.2.2.1 hf ?_ (hE.val (by rw [ev]; exact HB.out.2.2.2.2.1)) (Nat.le_refl _) (.inr ⟨rfl, ev⟩)
      · show metaS c env it s = _
        unfold metaS
        rw [HB.out.2.2.2.2.2.2.1, HY.out, hsw.1, hsw.2, ← H9.out.2.2.2.2.2.1, ← HA.out.2.2.2]
        rfl
    · go_region
      obtain ⟨w9, hw9⟩ : ∃ w9, ((w8.setCell ⟨w7.heap.size, 8, none⟩ (.bool true)).setCell ⟨w7.heap.size, 7, none⟩ (.bool false)).drew = w9 := ⟨_, rfl⟩
      have ho : Only (fun k => k = w7.heap.size) w8 w9 := by rw [← hw9]; exact (only_set (only_set (Only.refl _ _) 8 _) 7 _).drew
      obtain ⟨y2, hy2⟩ : ∃ y2 : Res, { y with lost := true, won := false } = y2 := ⟨_, rfl⟩
      have nX9 : w9.heap[w7.heap.size]? = some (.cells (y2.arr (.slice a n k)) 37 (0, 0)) := by
        rw [← hw9, ← hy2]
        refine (Mem.row_set (Mem.row_set H8.out.2 8 (.bool true)) 7 (.bool false)).trans ?_
        simp [Res.arr]
      have cX : col w7.heap.size = none := Run.none H7.out.1.run (Nat.le_refl _)
      have hin9 := (H7.out.1.below H8.out.1).aside cX (by omega) ho
      have nI9 := (ho.same (w.heap.size + 1) (block_lt_of_cell i7) (by omega)).trans ((H8.out.1.block _ (by omega)).trans H7.out.2.2.2)
      have nR9 := (ho.same w.heap.size (by have := H8.out.1.size; omega) (by omega)).trans ((H8.out.1.block _ (by omega)).trans H7.out.2.1)
      have nZ9 := (ho.same (w.heap.size + 1 + 1) (by have := H8.out.1.size; omega) (by omega)).trans ((H8.out.1.block _ (by omega)).trans H7.out.2.2.1)
      rw [hw9]
      have H9 := Lib.hid (And.intro hin9 (And.intro nX9 (And.intro nR9 (And.intro nZ9 (And.intro cX (And.intro hy2 nI9))))))
      clear hw9 ho nX9 cX hin9 nR9 nZ9 hk hw8 i7 i8 x7 x8 f7 f8 hy2
      have i7 := Mem.row_cell nI9 7
      have i8 := Mem.row_cell nI9 8
      have i9 := Mem.row_cell nI9 9
      have f8 := Mem.row_free nI9 8
      have f9 := Mem.row_free nI9 9
      simp only [Item.arr, List.getElem?_toArray, List.getElem?_cons_zero, List.getElem?_cons_succ, HW.out.1, HW.out.2] at i7 i8 i9
      clear nI9
      obtain ⟨wA, hwA⟩ : ∃ wA, (w9.setCell ⟨w.heap.size + 1, 9, none⟩ (.bool true)).setCell ⟨w.heap.size + 1, 8, none⟩ (.bool true) = wA := ⟨_, rfl⟩
      obtain ⟨it2, hit2⟩ : ∃ it2 : Shard.Item, { it1 with seen := true, won := true } = it2 := ⟨_, rfl⟩
      have hoA : Only (fun k => k = w.heap.size + 1) w9 wA := by rw [← hwA]; exact only_set (only_set (Only.refl _ _) 9 _) 8 _
      have nIA : wA.heap[w.heap.size + 1]? = some (.cells (it2.arr (.slice a n k)) 51 (0, 0)) := by
        rw [← hwA, ← hit2]
        refine (Mem.row_set (Mem.row_set H9.out.2.2.2.2.2.2 9 (.bool true)) 8 (.bool true)).trans ?_
        simp [Item.arr]
      have hinA := H9.out.1.only (by omega) (by omega) hoA
      have nRA := (hoA.same w.heap.size (Array.getElem?_eq_some_iff.1 H9.out.2.2.1).1 (by omega)).trans H9.out.2.2.1
      have nZA := (hoA.same (w.heap.size + 1 + 1) (Array.getElem?_eq_some_iff.1 H9.out.2.2.2.1).1 (by omega)).trans H9.out.2.2.2.1
      have nXA := (hoA.same w7.heap.size (Array.getElem?_eq_some_iff.1 H9.out.2.1).1 (by omega)).trans H9.out.2.1
      have hv2 : it2.val = it.val := by rw [← hit2]; exact HB.out.2.2.2.2.2.2.2.1
      have hn2 : it2.val.length = n := by rw [hv2]; exact HB.out.2.2.2.2.2.2.2.2.1
      have hup := update_n hinA.run HB.out.2.2.2.2.2.2.2.2.2.2.2 it2 hn2 (by rw [← hit2]; exact HB.out.2.2.2.2.2.2.2.2.2.1) (by rw [← hit2]; exact HB.out.2.2.2.2.2.2.2.2.2.2.1) (by rw [hv2]; exact hinA.val HB.out.2.2.2.2.1)
      unfold Item.arr at hup
      go_upto_region 6 with (fail)
      clear hwA i7 i8 i9 f8 f9
      have i0 := Mem.row_cell nIA 0
      have i1 := Mem.row_cell nIA 1
      have i2 := Mem.row_cell nIA 2
      have i3 := Mem.row_cell nIA 3
      have i4 := Mem.row_cell nIA 4
      have i5 := Mem.row_cell nIA 5
      have i6 := Mem.row_cell nIA 6
      have i7 := Mem.row_cell nIA 7
      have i8 := Mem.row_cell nIA 8
      have i9 := Mem.row_cell nIA 9
      have r0 := Mem.row_cell nRA 0
      simp only [rarr, Item.arr, List.getElem?_toArray, List.getElem?_cons_zero, List.getElem?_cons_succ] at i0 i1 i2 i3 i4 i5 i6 i7 i8 i9 r0
      have HA := Lib.hid (And.intro hinA (And.intro nZA (And.intro nXA hit2)))
      clear hinA nZA nXA hit2 hoA nIA nRA hv2 hn2
      go_wp2_with fail
      refine hup.mono ?_
      rintro e wB ⟨rfl, ht⟩
      obtain ⟨colB, hinB, hfr⟩ := HA.out.1.turn ht
      have nZB := HA.out.1.row (by omega) (by omega) hfr HA.out.2.1
      have nXB := (Box.turn hfr HA.out.2.2.1 H9.out.2.2.2.2.1).1
      clear hup ht hfr i0 i1 i2 i3 i4 i5 i6 i7 i8 i9 r0
      have x0 := Mem.row_cell nXB 0
      have x1 := Mem.row_cell nXB 1
      have x2 := Mem.row_cell nXB 2
      have x3 := Mem.row_cell nXB 3
      have x4 := Mem.row_cell nXB 4
      have x5 := Mem.row_cell nXB 5
      have x6 := Mem.row_cell nXB 6
      have x7 := Mem.row_cell nXB 7
      have x8 := Mem.row_cell nXB 8
      simp only [Res.arr, List.getElem?_toArray, List.getElem?_cons_zero, List.getElem?_cons_succ] at x0 x1 x2 x3 x4 x5 x6 x7 x8
      have HE := Lib.hid (And.intro hinB nZB)
      clear hinB nZB nXB
      go_wp2_with (first
        | (refine wpList_store_row rfl 37 _ _ rfl (w.heap.size + 1 + 1) (y2.arr (.slice a n k)) rfl rfl 37 zeroR HE.out.2 (res_size _ _) rfl (res_one _ _ _ _) ?_)
        | fail)
      refine bodyPost_ret (results_cell_row Tryz.results83 _ _ (w.heap.size + 1 + 1) _ _ _ _ rfl (setRow_heap _ _ _ (y2.arr (.slice a n k)) _ _ HE.out.2) Tryz.underlying37 rfl (res_size _ _)) rfl ?_
      obtain ⟨f, hf⟩ := HB.out.2.2.2.2.2.1
      have hE := HE.out.1.setRow (k := w.heap.size + 1 + 1) (by omega) (by omega) (y2.arr (.slice a n k))
      have hsw : it.stale = true ∧ it.won = true := by
        have e1 := HW.out
        rw [← HB.out.2.2.2.2.2.2.1] at e1
        have e2 : (metaI c env it).stale = it.stale ∧ (metaI c env it).won = it.won := by unfold metaI; split <;> exact ⟨rfl, rfl⟩
        rw [e2.1, e2.2] at e1
        exact e1
      have ev : y2.val = it.val := by
        rw [← H9.out.2.2.2.2.2.1, ← HB.out.2.2.2.2.2.2.2.1]
        show y.val = it1.val
        rw [← HY.out]
        rfl
      refine hE.stopQ (r := y2) HB.out.2.2.2.2.1 hf ?_ (hE.val (by rw [ev]; exact HB.out.2.2.2.2.1)) (Nat.le_refl _) (.inr ⟨rfl, ev⟩)
      · show metaS c env it s = _
        unfold metaS
        rw [HB.out.2.2.2.2.2.2.1, HY.out, hsw.1, hsw.2, ← H9.out.2.2.2.2.2.1, ← HA.out.2.2.2]
        rfl
  · rw [hs] at r10 hat
    have e1 : it1 = { it with exp := atS c.exp env.now } := by rw [← hit1]; unfold metaI; rw [hs]; rfl
    clear hs hit1
    go_wp2_with fail
    refine (hat _).mono ?_
    rintro e w2 ⟨rfl, hb⟩
    have e2 := (hb.block _ (Array.getElem?_eq_some_iff.1 HB.out.2.2.1).1).trans HB.out.2.2.1
    have j3 := Mem.row_cell e2 3
    have f3 := Mem.row_free e2 3
    simp only [Item.arr, List.getElem?_toArray, List.getElem?_cons_zero, List.getElem?_cons_succ] at j3
    obtain ⟨wc, hwc⟩ : ∃ wc, w2.setCell ⟨w.heap.size + 1, 3, none⟩ (.int .i64 (atS c.exp env.now)) = wc := ⟨_, rfl⟩
    have hinC := (HB.out.1.below hb).setCell (k := w.heap.size + 1) (by omega) (by omega) 3 (.int .i64 (atS c.exp env.now))
    have nR := (Below.heap_setCell w2 ⟨w.heap.size + 1, 3, none⟩ (.int .i64 (atS c.exp env.now)) w.heap.size (by show w.heap.size ≠ w.heap.size + 1; omega)).trans ((hb.block _ (Array.getElem?_eq_some_iff.1 HB.out.2.1).1).trans HB.out.2.1)
    have nI : (w2.setCell ⟨w.heap.size + 1, 3, none⟩ (.int .i64 (atS c.exp env.now))).heap[w.heap.size + 1]? = some (.cells (it1.arr (.slice a n k)) 51 (0, 0)) := by
      rw [Mem.row_set e2 3, e1]
      simp [Item.arr]
    have nZ := (Below.heap_setCell w2 ⟨w.heap.size + 1, 3, none⟩ (.int .i64 (atS c.exp env.now)) (w.heap.size + 1 + 1) (by show w.heap.size + 1 + 1 ≠ w.heap.size + 1; omega)).trans ((hb.block _ (Array.getElem?_eq_some_iff.1 HB.out.2.2.2.1).1).trans HB.out.2.2.2.1)
    rw [hwc] at hinC nR nI nZ
    clear hb e2 hat e1 hw1
    go_upto_region 3 with (fail)
    clear hwc j3 f3
    have HC := Lib.hid (And.intro hinC (And.intro nR (And.intro nZ nI)))
    clear r0 r1 r2 r3 r4 r5 r6 r7 r8 r9 r10 r11 r12 r13 r14 i0 i1 i2 i3 i4 i5 i6 i7 i8 i9
    have r0 := Mem.row_cell nR 0
    have r1 := Mem.row_cell nR 1
    have r2 := Mem.row_cell nR 2
    have r3 := Mem.row_cell nR 3
    have r4 := Mem.row_cell nR 4
    have r5 := Mem.row_cell nR 5
    have r6 := Mem.row_cell nR 6
    have r7 := Mem.row_cell nR 7
    have r8 := Mem.row_cell nR 8
    have r9 := Mem.row_cell nR 9
    have r10 := Mem.row_cell nR 10
    have r11 := Mem.row_cell nR 11
    have r12 := Mem.row_cell nR 12
    have r13 := Mem.row_cell nR 13
    have r14 := Mem.row_cell nR 14
    have i0 := Mem.row_cell nI 0
    have i1 := Mem.row_cell nI 1
    have i2 := Mem.row_cell nI 2
    have i3 := Mem.row_cell nI 3
    have i4 := Mem.row_cell nI 4
    have i5 := Mem.row_cell nI 5
    have i6 := Mem.row_cell nI 6
    have i7 := Mem.row_cell nI 7
    have i8 := Mem.row_cell nI 8
    have i9 := Mem.row_cell nI 9
    simp only [rarr, Item.arr, List.getElem?_toArray, List.getElem?_cons_zero, List.getElem?_cons_succ] at r0 r1 r2 r3 r4 r5 r6 r7 r8 r9 r10 r11 r12 r13 r14 i0 i1 i2 i3 i4 i5 i6 i7 i8 i9
    have hvi := fun W' => view_any b c cv env it1 a k W'
    rw [show it1.val.length = n by rw [HB.out.2.2.2.2.2.2.2.1]; exact HB.out.2.2.2.2.2.2.2.2.1] at hvi
    unfold rarr Item.arr at hvi
    obtain ⟨y, hy⟩ : ∃ y, view it1 env = y := ⟨_, rfl⟩
    rw [hy] at hvi
    have HY := Lib.hid hy
    clear hinC nR nI nZ hy
    unfold Res.arr at hvi
    go_wp2_with fail
    refine (hvi _).mono ?_
    rintro e w7 ⟨rfl, hb7⟩
    have hin7 := HC.out.1.below hb7
    have nR := (hb7.block _ (Array.getElem?_eq_some_iff.1 HC.out.2.1).1).trans HC.out.2.1
    have nZ := (hb7.block _ (Array.getElem?_eq_some_iff.1 HC.out.2.2.1).1).trans HC.out.2.2.1
    have nI := (hb7.block _ (Array.getElem?_eq_some_iff.1 HC.out.2.2.2).1).trans HC.out.2.2.2
    have H7 := Lib.hid (And.intro hin7 (And.intro nR (And.intro nZ nI)))
    clear hb7 hvi hin7 nR nZ nI r0 r1 r2 r3 r4 r5 r6 r7 r8 r9 r10 r11 r12 r13 r14 i0 i1 i2 i3 i4 i5 i6 i7 i8 i9
    obtain ⟨st, hst⟩ : ∃ x, it1.stale = x := ⟨_, rfl⟩
    obtain ⟨wn, hwn⟩ : ∃ x, it1.won = x := ⟨_, rfl⟩
    have HW := Lib.hid (And.intro hst hwn)
    clear hst hwn
    have hb8 : Below w7.heap.size w7 (w7.alloc (.cells (y.arr (.slice a n k)) 37)) := Mem.al (Below.refl _ _) _
    have nX := Mem.new_block w7 (.cells (y.arr (.slice a n k)) 37)
    have nI := (hb8.block _ (Array.getElem?_eq_some_iff.1 H7.out.2.2.2).1).trans H7.out.2.2.2
    obtain ⟨w8, hw8⟩ : ∃ w8, w7.alloc (.cells (y.arr (.slice a n k)) 37) = w8 := ⟨_, rfl⟩
    rw [hw8] at hb8 nX nI
    have hlt : w.heap.size + 2 < w7.heap.size := by have := H7.out.1.hi; omega
    have i7 := Mem.row_cell nI 7
    have i8 := Mem.row_cell nI 8
    have x7 := Mem.row_cell nX 7
    have x8 := Mem.row_cell nX 8
    have f7 := Mem.row_free nX 7
    have f8 := Mem.row_free nX 8
    simp only [Item.arr, Res.arr, List.getElem?_toArray, List.getElem?_cons_zero, List.getElem?_cons_succ, HW.out.1, HW.out.2] at i7 i8 x7 x8
    have hne : w.heap.size + 1 ≠ w7.heap.size := by omega
    have hk : ∀ (W' : World) i u j, (W'.setCell ⟨w7.heap.size, i, none⟩ u).cell? ⟨w.heap.size + 1, j, none⟩ = W'.cell? ⟨w.heap.size + 1, j, none⟩ := fun W' i u j => World.cell?_of_block (a := ⟨w.heap.size + 1, j, none⟩) (Below.heap_setCell _ _ _ _ hne)
    have H8 := Lib.hid (And.intro hb8 nX)
    have hne2 := Lib.hid hne
    clear hb8 nX nI hne
    unfold Res.arr at hw8
    go_upto_region 4 with (fail)
    rcases st with _ | _ <;> rcases wn with _ | _
    · go_region
      obtain ⟨w9, hw9⟩ : ∃ w9, ((w8.setCell ⟨w7.heap.size, 8, none⟩ (.bool false)).setCell ⟨w7.heap.size, 7, none⟩ (.bool false)).drew = w9 := ⟨_, rfl⟩
      have ho : Only (fun k => k = w7.heap.size) w8 w9 := by rw [← hw9]; exact (only_set (only_set (Only.refl _ _) 8 _) 7 _).drew
      obtain ⟨y2, hy2⟩ : ∃ y2 : Res, { y with lost := false, won := false } = y2 := ⟨_, rfl⟩
      have nX9 : w9.heap[w7.heap.size]? = some (.cells (y2.arr (.slice a n k)) 37 (0, 0)) := by
        rw [← hw9, ← hy2]
        refine (Mem.row_set (Mem.row_set H8.out.2 8 (.bool false)) 7 (.bool false)).trans ?_
        simp [Res.arr]
      have cX : col w7.heap.size = none := Run.none H7.out.1.run (Nat.le_refl _)
      have hin9 := (H7.out.1.below H8.out.1).aside cX (by omega) ho
      have nI9 := (ho.same (w.heap.size + 1) (block_lt_of_cell i7) (by omega)).trans ((H8.out.1.block _ (by omega)).trans H7.out.2.2.2)
      have nR9 := (ho.same w.heap.size (by have := H8.out.1.size; omega) (by omega)).trans ((H8.out.1.block _ (by omega)).trans H7.out.2.1)
      have nZ9 := (ho.same (w.heap.size + 1 + 1) (by have := H8.out.1.size; omega) (by omega)).trans ((H8.out.1.block _ (by omega)).trans H7.out.2.2.1)
      rw [hw9]
      have H9 := Lib.hid (And.intro hin9 (And.intro nX9 (And.intro nR9 (And.intro nZ9 (And.intro cX (And.intro hy2 nI9))))))
      clear hw9 ho nX9 cX hin9 nR9 nZ9 hk hw8 i7 i8 x7 x8 f7 f8 hy2
      have i7 := Mem.row_cell nI9 7
      have i8 := Mem.row_cell nI9 8
      have i9 := Mem.row_cell nI9 9
      have f8 := Mem.row_free nI9 8
      have f9 := Mem.row_free nI9 9
      simp only [Item.arr, List.getElem?_toArray, List.getElem?_cons_zero, List.getElem?_cons_succ, HW.out.1, HW.out.2] at i7 i8 i9
      clear nI9
      obtain ⟨wA, hwA⟩ : ∃ wA, (w9.setCell ⟨w.heap.size + 1, 9, none⟩ (.bool true)).setCell ⟨w.heap.size + 1, 8, none⟩ (.bool false) = wA := ⟨_, rfl⟩
      obtain ⟨it2, hit2⟩ : ∃ it2 : Shard.Item, { it1 with seen := true, won := false } = it2 := ⟨_, rfl⟩
      have hoA : Only (fun k => k = w.heap.size + 1) w9 wA := by rw [← hwA]; exact only_set (only_set (Only.refl _ _) 9 _) 8 _
      have nIA : wA.heap[w.heap.size + 1]? = some (.cells (it2.arr (.slice a n k)) 51 (0, 0)) := by
        rw [← hwA, ← hit2]
        refine (Mem.row_set (Mem.row_set H9.out.2.2.2.2.2.2 9 (.bool true)) 8 (.bool false)).trans ?_
        simp [Item.arr]
      have hinA := H9.out.1.only (by omega) (by omega) hoA
      have nRA := (hoA.same w.heap.size (Array.getElem?_eq_some_iff.1 H9.out.2.2.1).1 (by omega)).trans H9.out.2.2.1
      have nZA := (hoA.same (w.heap.size + 1 + 1) (Array.getElem?_eq_some_iff.1 H9.out.2.2.2.1).1 (by omega)).trans H9.out.2.2.2.1
      have nXA := (hoA.same w7.heap.size (Array.getElem?_eq_some_iff.1 H9.out.2.1).1 (by omega)).trans H9.out.2.1
      have hv2 : it2.val = it.val := by rw [← hit2]; exact HB.out.2.2.2.2.2.2.2.1
      have hn2 : it2.val.length = n := by rw [hv2]; exact HB.out.2.2.2.2.2.2.2.2.1
      have hup := update_n hinA.run HB.out.2.2.2.2.2.2.2.2.2.2.2 it2 hn2 (by rw [← hit2]; exact HB.out.2.2.2.2.2.2.2.2.2.1) (by rw [← hit2]; exact HB.out.2.2.2.2.2.2.2.2.2.2.1) (by rw [hv2]; exact hinA.val HB.out.2.2.2.2.1)
      unfold Item.arr at hup
      go_upto_region 6 with (fail)
      clear hwA i7 i8 i9 f8 f9
      have i0 := Mem.row_cell nIA 0
      have i1 := Mem.row_cell nIA 1
      have i2 := Mem.row_cell nIA 2
      have i3 := Mem.row_cell nIA 3
      have i4 := Mem.row_cell nIA 4
      have i5 := Mem.row_cell nIA 5
      have i6 := Mem.row_cell nIA 6
      have i7 := Mem.row_cell nIA 7
      have i8 := Mem.row_cell nIA 8
      have i9 := Mem.row_cell nIA 9
      have r0 := Mem.row_cell nRA 0
      simp only [rarr, Item.arr, List.getElem?_toArray, List.getElem?_cons_zero, List.getElem?_cons_succ] at i0 i1 i2 i3 i4 i5 i6 i7 i8 i9 r0
      have HA := Lib.hid (And.intro hinA (And.intro nZA (And.intro nXA hit2)))
      clear hinA nZA nXA hit2 hoA nIA nRA hv2 hn2
      go_wp2_with fail
      refine hup.mono ?_
      rintro e wB ⟨rfl, ht⟩
      obtain ⟨colB, hinB, hfr⟩ := HA.out.1.turn ht
      have nZB := HA.out.1.row (by omega) (by omega) hfr HA.out.2.1
      have nXB := (Box.turn hfr HA.out.2.2.1 H9.out.2.2.2.2.1).1
      clear hup ht hfr i0 i1 i2 i3 i4 i5 i6 i7 i8 i9 r0
      have x0 := Mem.row_cell nXB 0
      have x1 := Mem.row_cell nXB 1
      have x2 := Mem.row_cell nXB 2
      have x3 := Mem.row_cell nXB 3
      have x4 := Mem.row_cell nXB 4
      have x5 := Mem.row_cell nXB 5
      have x6 := Mem.row_cell nXB 6
      have x7 := Mem.row_cell nXB 7
      have x8 := Mem.row_cell nXB 8
      simp only [Res.arr, List.getElem?_toArray, List.getElem?_cons_zero, List.getElem?_cons_succ] at x0 x1 x2 x3 x4 x5 x6 x7 x8
      have HE := Lib.hid (And.intro hinB nZB)
      clear hinB nZB nXB
      go_wp2_with (first
        | (refine wpList_store_row rfl 37 _ _ rfl (w.heap.size + 1 + 1) (y2.arr (.slice a n k)) rfl rfl 37 zeroR HE.out.2 (res_size _ _) rfl (res_one _ _ _ _) ?_)
        | fail)
      refine bodyPost_ret (results_cell_row Tryz.results83 _ _ (w.heap.size + 1 + 1) _ _ _ _ rfl (setRow_heap _ _ _ (y2.arr (.slice a n k)) _ _ HE.out.2) Tryz.underlying37 rfl (res_size _ _)) rfl ?_
      obtain ⟨f, hf⟩ := HB.out.2.2.2.2.2.1
      have hE := HE.out.1.setRow (k := w.heap.size + 1 + 1) (by omega) (by omega) (y2.arr (.slice a n k))
      have hsw : it.stale = false ∧ it.won = false := by
        have e1 := HW.out
        rw [← HB.out.2.2.2.2.2.2.1] at e1
        have e2 : (metaI c env it).stale = it.stale ∧ (metaI c env it).won = it.won := by unfold metaI; split <;> exact ⟨rfl, rfl⟩
        rw [e2.1, e2.2] at e1
        exact e1
      have ev : y2.val = it.val := by
        rw [← H9.out.2.2.2.2.2.1, ← HB.out.2.2.2.2.2.2.2.1]
        show y.val = it1.val
        rw [← HY.out]
        rfl
      refine hE.stopQ (r := y2) HB.out.2.2.2.2.1 hf ?_ (hE.val (by rw [ev]; exact HB.out.2.2.2.2.1)) (Nat.le_refl _) (.inr ⟨rfl, ev⟩)
      · show metaS c env it s = _
        unfold metaS
        rw [HB.out.2.2.2.2.2.2.1, HY.out, hsw.1, hsw.2, ← H9.out.2.2.2.2.2.1, ← HA.out.2.2.2]
        rfl
    · go_region
      obtain ⟨w9, hw9⟩ : ∃ w9, ((w8.setCell ⟨w7.heap.size, 8, none⟩ (.bool true)).setCell ⟨w7.heap.size, 7, none⟩ (.bool false)).drew = w9 := ⟨_, rfl⟩
      have ho : Only (fun k => k = w7.heap.size) w8 w9 := by rw [← hw9]; exact (only_set (only_set (Only.refl _ _) 8 _) 7 _).drew
      obtain ⟨y2, hy2⟩ : ∃ y2 : Res, { y with lost := true, won := false } = y2 := ⟨_, rfl⟩
      have nX9 : w9.heap[w7.heap.size]? = some (.cells (y2.arr (.slice a n k)) 37 (0, 0)) := by
        rw [← hw9, ← hy2]
        refine (Mem.row_set (Mem.row_set H8.out.2 8 (.bool true)) 7 (.bool false)).trans ?_
        simp [Res.arr]
      have cX : col w7.heap.size = none := Run.none H7.out.1.run (Nat.le_refl _)
      have hin9 := (H7.out.1.below H8.out.1).aside cX (by omega) ho
      have nI9 := (ho.same (w.heap.size + 1) (block_lt_of_cell i7) (by omega)).trans ((H8.out.1.block _ (by omega)).trans H7.out.2.2.2)
      have nR9 := (ho.same w.heap.size (by have := H8.out.1.size; omega) (by omega)).trans ((H8.out.1.block _ (by omega)).trans H7.out.2.1)
      have nZ9 := (ho.same (w.heap.size + 1 + 1) (by have := H8.out.1.size; omega) (by omega)).trans ((H8.out.1.block _ (by omega)).trans H7.out.2.2.1)
      rw [hw9]
      have H9 := Lib.hid (And.intro hin9 (And.intro nX9 (And.intro nR9 (And.intro nZ9 (And.intro cX (And.intro hy2 nI9))))))
      clear hw9 ho nX9 cX hin9 nR9 nZ9 hk hw8 i7 i8 x7 x8 f7 f8 hy2
      have i7 := Mem.row_cell nI9 7
      have i8 := Mem.row_cell nI9 8
      have i9 := Mem.row_cell nI9 9
      have f8 := Mem.row_free nI9 8
      have f9 := Mem.row_free nI9 9
      simp only [Item.arr, List.getElem?_toArray, List.getElem?_cons_zero, List.getElem?_cons_succ, HW.out.1, HW.out.2] at i7 i8 i9
      clear nI9
      obtain ⟨wA, hwA⟩ : ∃ wA, (w9.setCell ⟨w.heap.size + 1, 9, none⟩ (.bool true)).setCell ⟨w.heap.size + 1, 8, none⟩ (.bool true) = wA := ⟨_, rfl⟩
      obtain ⟨it2, hit2⟩ : ∃ it2 : Shard.Item, { it1 with seen := true, won := true } = it2 := ⟨_, rfl⟩
      have hoA : Only (fun k => k = w.heap.size + 1) w9 wA := by rw [← hwA]; exact only_set (only_set (Only.refl _ _) 9 _) 8 _
      have nIA : wA.heap[w.heap.size + 1]? = some (.cells (it2.arr (.slice a n k)) 51 (0, 0)) := by
        rw [← hwA, ← hit2]
        refine (Mem.row_set (Mem.row_set H9.out.2.2.2.2.2.2 9 (.bool true)) 8 (.bool true)).trans ?_
        simp [Item.arr]
      have hinA := H9.out.1.only (by omega) (by omega) hoA
      have nRA := (hoA.same w.heap.size (Array.getElem?_eq_some_iff.1 H9.out.2.2.1).1 (by omega)).trans H9.out.2.2.1
      have nZA := (hoA.same (w.heap.size + 1 + 1) (Array.getElem?_eq_some_iff.1 H9.out.2.2.2.1).1 (by omega)).trans H9.out.2.2.2.1
      have nXA := (hoA.same w7.heap.size (Array.getElem?_eq_some_iff.1 H9.out.2.1).1 (by omega)).trans H9.out.2.1
      have hv2 : it2.val = it.val := by rw [← hit2]; exact HB.out.2.2.2.2.2.2.2.1
      have hn2 : it2.val.length = n := by rw [hv2]; exact HB.out.2.2.2.2.2.2.2.2.1
      have hup := update_n hinA.run HB.out.2.2.2.2.2.2.2.2.2.2.2 it2 hn2 (by rw [← hit2]; exact HB.out.2.2.2.2.2.2.2.2.2.1) (by rw [← hit2]; exact HB.out.2.2.2.2.2.2.2.2.2.2.1) (by rw [hv2]; exact hinA.val HB.out.2.2.2.2.1)
      unfold Item.arr at hup
      go_upto_region 6 with (fail)
      clear hwA i7 i8 i9 f8 f9
      have i0 := Mem.row_cell nIA 0
      have i1 := Mem.row_cell nIA 1
      have i2 := Mem.row_cell nIA 2
      have i3 := Mem.row_cell nIA 3
      have i4 := Mem.row_cell nIA 4
      have i5 := Mem.row_cell nIA 5
      have i6 := Mem.row_cell nIA 6
      have i7 := Mem.row_cell nIA 7
      have i8 := Mem.row_cell nIA 8
      have i9 := Mem.row_cell nIA 9
      have r0 := Mem.row_cell nRA 0
      simp only [rarr, Item.arr, List.getElem?_toArray, List.getElem?_cons_zero, List.getElem?_cons_succ] at i0 i1 i2 i3 i4 i5 i6 i7 i8 i9 r0
      have HA := Lib.hid (And.intro hinA (And.intro nZA (And.intro nXA hit2)))
      clear hinA nZA nXA hit2 hoA nIA nRA hv2 hn2
      go_wp2_with fail
      refine hup.mono ?_
      rintro e wB ⟨rfl, ht⟩
      obtain ⟨colB, hinB, hfr⟩ := HA.out.1.turn ht
      have nZB := HA.out.1.row (by omega) (by omega) hfr HA.out.2.1
      have nXB := (Box.turn hfr HA.out.2.2.1 H9.out.2.2.2.2.1).1
      clear hup ht hfr i0 i1 i2 i3 i4 i5 i6 i7 i8 i9 r0
      have x0 := Mem.row_cell nXB 0
      have x1 := Mem.row_cell nXB 1
      have x2 := Mem.row_cell nXB 2
      have x3 := Mem.row_cell nXB 3
      have x4 := Mem.row_cell nXB 4
      have x5 := Mem.row_cell nXB 5
      have x6 := Mem.row_cell nXB 6
      have x7 := Mem.row_cell nXB 7
      have x8 := Mem.row_cell nXB 8
      simp only [Res.arr, List.getElem?_toArray, List.getElem?_cons_zero, List.getElem?_cons_succ] at x0 x1 x2 x3 x4 x5 x6 x7 x8
      have HE := Lib.hid (And.intro hinB nZB)
      clear hinB nZB nXB
      go_wp2_with (first
        | (refine wpList_store_row rfl 37 _ _ rfl (w.heap.size + 1 + 1) (y2.arr (.slice a n k)) rfl rfl 37 zeroR HE.out.2 (res_size _ _) rfl (res_one _ _ _ _) ?_)
        | fail)
      refine bodyPost_ret (results_cell_row Tryz.results83 _ _ (w.heap.size + 1 + 1) _ _ _ _ rfl (setRow_heap _ _ _ (y2.arr (.slice a n k)) _ _ HE.out.2) Tryz.underlying37 rfl (res_size _ _)) rfl ?_
      obtain ⟨f, hf⟩ := HB.out.2.2.2.2.2.1
      have hE := HE.out.1.setRow (k := w.heap.size + 1 + 1) (by omega) (by omega) (y2.arr (.slice a n k))
      have hsw : it.stale = false ∧ it.won = true := by
        have e1 := HW.out
        rw [← HB.out.2.2.2.2.2.2.1] at e1
        have e2 : (metaI c env it).stale = it.stale ∧ (metaI c env it).won = it.won := by unfold metaI; split <;> exact ⟨rfl, rfl⟩
        rw [e2.1, e2.2] at e1
        exact e1
      have ev : y2.val = it.val := by
        rw [← H9.out.2.2.2.2.2.1, ← HB.out.2.2.2.2.2.2.2.1]
        show y.val = it1.val
        rw [← HY.out]
        rfl
      refine hE.stopQ (r := y2) HB.out.2.2.2.2.1 hf ?_ (hE.val (by rw [ev]; exact HB.out.2.2.2.2.1)) (Nat.le_refl _) (.inr ⟨rfl, ev⟩)
      · show metaS c env it s = _
        unfold metaS
        rw [HB.out.2.2.2.2.2.2.1, HY.out, hsw.1, hsw.2, ← H9.out.2.2.2.2.2.1, ← HA.out.2.2.2]
        rfl
    · go_region
      obtain ⟨w9, hw9⟩ : ∃ w9, ((w8.setCell ⟨w7.heap.size, 8, none⟩ (.bool false)).setCell ⟨w7.heap.size, 7, none⟩ (.bool true)).drew = w9 := ⟨_, rfl⟩
      have ho : Only (fun k => k = w7.heap.size) w8 w9 := by rw [← hw9]; exact (only_set (only_set (Only.refl _ _) 8 _) 7 _).drew
      obtain ⟨y2, hy2⟩ : ∃ y2 : Res, { y with lost := false, won := true } = y2 := ⟨_, rfl⟩
      have nX9 : w9.heap[w7.heap.size]? = some (.cells (y2.arr (.slice a n k)) 37 (0, 0)) := by
        rw [← hw9, ← hy2]
        refine (Mem.row_set (Mem.row_set H8.out.2 8 (.bool false)) 7 (.bool true)).trans ?_
        simp [Res.arr]
      have cX : col w7.heap.size = none := Run.none H7.out.1.run (Nat.le_refl _)
      have hin9 := (H7.out.1.below H8.out.1).aside cX (by omega) ho
      have nI9 := (ho.same (w.heap.size + 1) (block_lt_of_cell i7) (by omega)).trans ((H8.out.1.block _ (by omega)).trans H7.out.2.2.2)
      have nR9 := (ho.same w.heap.size (by have := H8.out.1.size; omega) (by omega)).trans ((H8.out.1.block _ (by omega)).trans H7.out.2.1)
      have nZ9 := (ho.same (w.heap.size + 1 + 1) (by have := H8.out.1.size; omega) (by omega)).trans ((H8.out.1.block _ (by omega)).trans H7.out.2.2.1)
      rw [hw9]
      have H9 := Lib.hid (And.intro hin9 (And.intro nX9 (And.intro nR9 (And.intro nZ9 (And.intro cX (And.intro hy2 nI9))))))
      clear hw9 ho nX9 cX hin9 nR9 nZ9 hk hw8 i7 i8 x7 x8 f7 f8 hy2
      have i7 := Mem.row_cell nI9 7
      have i8 := Mem.row_cell nI9 8
      have i9 := Mem.row_cell nI9 9
      have f8 := Mem.row_free nI9 8
      have f9 := Mem.row_free nI9 9
      simp only [Item.arr, List.getElem?_toArray, List.getElem?_cons_zero, List.getElem?_cons_succ, HW.out.1, HW.out.2] at i7 i8 i9
      clear nI9
      obtain ⟨wA, hwA⟩ : ∃ wA, (w9.setCell ⟨w.heap.size + 1, 9, none⟩ (.bool true)).setCell ⟨w.heap.size + 1, 8, none⟩ (.bool true) = wA := ⟨_, rfl⟩
      obtain ⟨it2, hit2⟩ : ∃ it2 : Shard.Item, { it1 with seen := true, won := true } = it2 := ⟨_, rfl⟩
      have hoA : Only (fun k => k = w.heap.size + 1) w9 wA := by rw [← hwA]; exact only_set (only_set (Only.refl _ _) 9 _) 8 _
      have nIA : wA.heap[w.heap.size + 1]? = some (.cells (it2.arr (.slice a n k)) 51 (0, 0)) := by
        rw [← hwA, ← hit2]
        refine (Mem.row_set (Mem.row_set H9.out.2.2.2.2.2.2 9 (.bool true)) 8 (.bool true)).trans ?_
        simp [Item.arr]
      have hinA := H9.out.1.only (by omega) (by omega) hoA
      have nRA := (hoA.same w.heap.size (Array.getElem?_eq_some_iff.1 H9.out.2.2.1).1 (by omega)).trans H9.out.2.2.1
      have nZA := (hoA.same (w.heap.size + 1 + 1) (Array.getElem?_eq_some_iff.1 H9.out.2.2.2.1).1 (by omega)).trans H9.out.2.2.2.1
      have nXA := (hoA.same w7.heap.size (Array.getElem?_eq_some_iff.1 H9.out.2.1).1 (by omega)).trans H9.out.2.1
      have hv2 : it2.val = it.val := by rw [← hit2]; exact HB.out.2.2.2.2.2.2.2.1
      have hn2 : it2.val.length = n := by rw [hv2]; exact HB.out.2.2.2.2.2.2.2.2.1
      have hup := update_n hinA.run HB.out.2.2.2.2.2.2.2.2.2.2.2 it2 hn2 (by rw [← hit2]; exact HB.out.2.2.2.2.2.2.2.2.2.1) (by rw [← hit2]; exact HB.out.2.2.2.2.2.2.2.2.2.2.1) (by rw [hv2]; exact hinA.val HB.out.2.2.2.2.1)
      unfold Item.arr at hup
      go_upto_region 6 with (fail)
      clear hwA i7 i8 i9 f8 f9
      have i0 := Mem.row_cell nIA 0
      have i1 := Mem.row_cell nIA 1
      have i2 := Mem.row_cell nIA 2
      have i3 := Mem.row_cell nIA 3
      have i4 := Mem.row_cell nIA 4
      have i5 := Mem.row_cell nIA 5
      have i6 := Mem.row_cell nIA 6
      have i7 := Mem.row_cell nIA 7
      have i8 := Mem.row_cell nIA 8
      have i9 := Mem.row_cell nIA 9
      have r0 := Mem.row_cell nRA 0
      simp only [rarr, Item.arr, List.getElem?_toArray, List.getElem?_cons_zero, List.getElem?_cons_succ] at i0 i1 i2 i3 i4 i5 i6 i7 i8 i9 r0
      have HA := Lib.hid (And.intro hinA (And.intro nZA (And.intro nXA hit2)))
      clear hinA nZA nXA hit2 hoA nIA nRA hv2 hn2
      go_wp2_with fail
      refine hup.mono ?_
      rintro e wB ⟨rfl, ht⟩
      obtain ⟨colB, hinB, hfr⟩ := HA.out.1.turn ht
      have nZB := HA.out.1.row (by omega) (by omega) hfr HA.out.2.1
      have nXB := (Box.turn hfr HA.out.2.2.1 H9.out.2.2.2.2.1).1
      clear hup ht hfr i0 i1 i2 i3 i4 i5 i6 i7 i8 i9 r0
      have x0 := Mem.row_cell nXB 0
      have x1 := Mem.row_cell nXB 1
      have x2 := Mem.row_cell nXB 2
      have x3 := Mem.row_cell nXB 3
      have x4 := Mem.row_cell nXB 4
      have x5 := Mem.row_cell nXB 5
      have x6 := Mem.row_cell nXB 6
      have x7 := Mem.row_cell nXB 7
      have x8 := Mem.row_cell nXB 8
      simp only [Res.arr, List.getElem?_toArray, List.getElem?_cons_zero, List.getElem?_cons_succ] at x0 x1 x2 x3 x4 x5 x6 x7 x8
      have HE := Lib.hid (And.intro hinB nZB)
      clear hinB nZB nXB
      go_wp2_with (first
        | (refine wpList_store_row rfl 37 _ _ rfl (w.heap.size + 1 + 1) (y2.arr (.slice a n k)) rfl rfl 37 zeroR HE.out.2 (res_size _ _) rfl (res_one _ _ _ _) ?_)
        | fail)
      refine bodyPost_ret (results_cell_row Tryz.results83 _ _ (w.heap.size + 1 + 1) _ _ _ _ rfl (setRow_heap _ _ _ (y2.arr (.slice a n k)) _ _ HE.out.2) Tryz.underlying37 rfl (res_size _ _)) rfl ?_
      obtain ⟨f, hf⟩ := HB.out.2.2.2.2.2.1
      have hE := HE.out.1.setRow (k := w.heap.size + 1 + 1) (by omega) (by omega) (y2.arr (.slice a n k))
      have hsw : it.stale = true ∧ it.won = false := by
        have e1 := HW.out
        rw [← HB.out.2.2.2.2.2.2.1] at e1
        have e2 : (metaI c env it).stale = it.stale ∧ (metaI c env it).won = it.won := by unfold metaI; split <;> exact ⟨rfl, rfl⟩
        rw [e2.1, e2.2] at e1
        exact e1
      have ev : y2.val = it.val := by
        rw [← H9.out.2.2.2.2.2.1, ← HB.out.2.2.2.2.2.2.2.1]
        show y.val = it1.val
        rw [← HY.out]
        rfl
      refine hE.stopQ (r := y2) HB.out.2.2.2.2.1 hf ?_ (hE.val (by rw [ev]; exact HB.out.2.2.2.2.1)) (Nat.le_refl _) (.inr ⟨rfl, ev⟩)
      · show metaS c env it s = _
        unfold metaS
        rw [HB.out.2.2.2.2.2.2.1, HY.out, hsw.1, hsw.2, ← H9.out.2.2.2.2.2.1, ← HA.out.2.2.2]
        rfl
    · go_region
      obtain ⟨w9, hw9⟩ : ∃ w9, ((w8.setCell ⟨w7.heap.size, 8, none⟩ (.bool true)).setCell ⟨w7.heap.size, 7, none⟩ (.bool false)).drew = w9 := ⟨_, rfl⟩
      have ho : Only (fun k => k = w7.heap.size) w8 w9 := by rw [← hw9]; exact (only_set (only_set (Only.refl _ _) 8 _) 7 _).drew
      obtain ⟨y2, hy2⟩ : ∃ y2 : Res, { y with lost := true, won := false } = y2 := ⟨_, rfl⟩
      have nX9 : w9.heap[w7.heap.size]? = some (.cells (y2.arr (.slice a n k)) 37 (0, 0)) := by
        rw [← hw9, ← hy2]
        refine (Mem.row_set (Mem.row_set H8.out.2 8 (.bool true)) 7 (.bool false)).trans ?_
        simp [Res.arr]
      have cX : col w7.heap.size = none := Run.none H7.out.1.run (Nat.le_refl _)
      have hin9 := (H7.out.1.below H8.out.1).aside cX (by omega) ho
      have nI9 := (ho.same (w.heap.size + 1) (block_lt_of_cell i7) (by omega)).trans ((H8.out.1.block _ (by omega)).trans H7.out.2.2.2)
      have nR9 := (ho.same w.heap.size (by have := H8.out.1.size; omega) (by omega)).trans ((H8.out.1.block _ (by omega)).trans H7.out.2.1)
      have nZ9 := (ho.same (w.heap.size + 1 + 1) (by have := H8.out.1.size; omega) (by omega)).trans ((H8.out.1.block _ (by omega)).trans H7.out.2.2.1)
      rw [hw9]
      have H9 := Lib.hid (And.intro hin9 (And.intro nX9 (And.intro nR9 (And.intro nZ9 (And.intro cX (And.intro hy2 nI9))))))
      clear hw9 ho nX9 cX hin9 nR9 nZ9 hk hw8 i7 i8 x7 x8 f7 f8 hy2
      have i7 := Mem.row_cell nI9 7
      have i8 := Mem.row_cell nI9 8
      have i9 := Mem.row_cell nI9 9
      have f8 := Mem.row_free nI9 8
      have f9 := Mem.row_free nI9 9
      simp only [Item.arr, List.getElem?_toArray, List.getElem?_cons_zero, List.getElem?_cons_succ, HW.out.1, HW.out.2] at i7 i8 i9
      clear nI9
      obtain ⟨wA, hwA⟩ : ∃ wA, (w9.setCell ⟨w.heap.size + 1, 9, none⟩ (.bool true)).setCell ⟨w.heap.size + 1, 8, none⟩ (.bool true) = wA := ⟨_, rfl⟩
      obtain ⟨it2, hit2⟩ : ∃ it2 : Shard.Item, { it1 with seen := true, won := true } = it2 := ⟨_, rfl⟩
      have hoA : Only (fun k => k = w.heap.size + 1) w9 wA := by rw [← hwA]; exact only_set (only_set (Only.refl _ _) 9 _) 8 _
      have nIA : wA.heap[w.heap.size + 1]? = some (.cells (it2.arr (.slice a n k)) 51 (0, 0)) := by
        rw [← hwA, ← hit2]
        refine (Mem.row_set (Mem.row_set H9.out.2.2.2.2.2.2 9 (.bool true)) 8 (.bool true)).trans ?_
        simp [Item.arr]
      have hinA := H9.out.1.only (by omega) (by omega) hoA
      have nRA := (hoA.same w.heap.size (Array.getElem?_eq_some_iff.1 H9.out.2.2.1).1 (by omega)).trans H9.out.2.2.1
      have nZA := (hoA.same (w.heap.size + 1 + 1) (Array.getElem?_eq_some_iff.1 H9.out.2.2.2.1).1 (by omega)).trans H9.out.2.2.2.1
      have nXA := (hoA.same w7.heap.size (Array.getElem?_eq_some_iff.1 H9.out.2.1).1 (by omega)).trans H9.out.2.1
      have hv2 : it2.val = it.val := by rw [← hit2]; exact HB.out.2.2.2.2.2.2.2.1
      have hn2 : it2.val.length = n := by rw [hv2]; exact HB.out.2.2.2.2.2.2.2.2.1
      have hup := update_n hinA.run HB.out.2.2.2.2.2.2.2.2.2.2.2 it2 hn2 (by rw [← hit2]; exact HB.out.2.2.2.2.2.2.2.2.2.1) (by rw [← hit2]; exact HB.out.2.2.2.2.2.2.2.2.2.2.1) (by rw [hv2]; exact hinA.val HB.out.2.2.2.2.1)
      unfold Item.arr at hup
      go_upto_region 6 with (fail)
      clear hwA i7 i8 i9 f8 f9
      have i0 := Mem.row_cell nIA 0
      have i1 := Mem.row_cell nIA 1
      have i2 := Mem.row_cell nIA 2
      have i3 := Mem.row_cell nIA 3
      have i4 := Mem.row_cell nIA 4
      have i5 := Mem.row_cell nIA 5
      have i6 := Mem.row_cell nIA 6
      have i7 := Mem.row_cell nIA 7
      have i8 := Mem.row_cell nIA 8
      have i9 := Mem.row_cell nIA 9
      have r0 := Mem.row_cell nRA 0
      simp only [rarr, Item.arr, List.getElem?_toArray, List.getElem?_cons_zero, List.getElem?_cons_succ] at i0 i1 i2 i3 i4 i5 i6 i7 i8 i9 r0
      have HA := Lib.hid (And.intro hinA (And.intro nZA (And.intro nXA hit2)))
      clear hinA nZA nXA hit2 hoA nIA nRA hv2 hn2
      go_wp2_with fail
      refine hup.mono ?_
      rintro e wB ⟨rfl, ht⟩
      obtain ⟨colB, hinB, hfr⟩ := HA.out.1.turn ht
      have nZB := HA.out.1.row (by omega) (by omega) hfr HA.out.2.1
      have nXB := (Box.turn hfr HA.out.2.2.1 H9.out.2.2.2.2.1).1
      clear hup ht hfr i0 i1 i2 i3 i4 i5 i6 i7 i8 i9 r0
      have x0 := Mem.row_cell nXB 0
      have x1 := Mem.row_cell nXB 1
      have x2 := Mem.row_cell nXB 2
      have x3 := Mem.row_cell nXB 3
      have x4 := Mem.row_cell nXB 4
      have x5 := Mem.row_cell nXB 5
      have x6 := Mem.row_cell nXB 6
      have x7 := Mem.row_cell nXB 7
      have x8 := Mem.row_cell nXB 8
      simp only [Res.arr, List.getElem?_toArray, List.getElem?_cons_zero, List.getElem?_cons_succ] at x0 x1 x2 x3 x4 x5 x6 x7 x8
      have HE := Lib.hid (And.intro hinB nZB)
      clear hinB nZB nXB
      go_wp2_with (first
        | (refine wpList_store_row rfl 37 _ _ rfl (w.heap.size + 1 + 1) (y2.arr (.slice a n k)) rfl rfl 37 zeroR HE.out.2 (res_size _ _) rfl (res_one _ _ _ _) ?_)
        | fail)
      refine bodyPost_ret (results_cell_row Tryz.results83 _ _ (w.heap.size + 1 + 1) _ _ _ _ rfl (setRow_heap _ _ _ (y2.arr (.slice a n k)) _ _ HE.out.2) Tryz.underlying37 rfl (res_size _ _)) rfl ?_
      obtain ⟨f, hf⟩ := HB.out.2.2.2.2.2.1
      have hE := HE.out.1.setRow (k := w.heap.size + 1 + 1) (by omega) (by omega) (y2.arr (.slice a n k))
      have hsw : it.stale = true ∧ it.won = true := by
        have e1 := HW.out
        rw [← HB.out.2.2.2.2.2.2.1] at e1
        have e2 : (metaI c env it).stale = it.stale ∧ (metaI c env it).won = it.won := by unfold metaI; split <;> exact ⟨rfl, rfl⟩
        rw [e2.1, e2.2] at e1
        exact e1
      have ev : y2.val = it.val := by
        rw [← H9.out.2.2.2.2.2.1, ← HB.out.2.2.2.2.2.2.2.1]
        show y.val = it1.val
        rw [← HY.out]
        rfl
      refine hE.stopQ (r := y2) HB.out.2.2.2.2.1 hf ?_ (hE.val (by rw [ev]; exact HB.out.2.2.2.2.1)) (Nat.le_refl _) (.inr ⟨rfl, ev⟩)
      · show metaS c env it s = _
        unfold metaS
        rw [HB.out.2.2.2.2.2.2.1, HY.out, hsw.1, hsw.2, ← H9.out.2.2.2.2.2.1, ← HA.out.2.2.2]
        rfl
end
end Go.Proofs.YtpghckiochjogaaGreatDoor.Exec

