/- Part26: Exec13a, one behind the other. -/
import Derived.Test.YtpghckiochjogaaGreatDoorPart24
import Derived.Test.YtpghckiochjogaaGreatDoorPart25
/- Layer 12: with. -/
namespace Go.Proofs.YtpghckiochjogaaGreatDoor.Exec
set_option maxRecDepth 100000
open Go Go.RowKit Go.Proofs.YtpghckiochjogaaGreatDoor.Mem Go.Proofs.YtpghckiochjogaaGreatDoor.App Go.Proofs.YtpghckiochjogaaGreatDoor.Shard
theorem join_val {c : Cmd} {env : Env} {it : Shard.Item} {xs ys : List UInt8} {f : Nat} {s : St} {r : Res} {t : St} (h : join c env it xs ys f s = (r, t)) : r.val = [] := by
  unfold join at h
  split at h
  · injection h with h1 h2
    rw [← h1]
    rfl
  · exact doStore_val h
theorem reckon_val {c : Cmd} {env : Env} {it : Shard.Item} {f : Nat} {s : St} {r : Res} {t : St} (h : reckon c env it f s = (r, t)) : r.val = [] := by
  unfold reckon at h
  split at h
  · injection h with h1 h2
    rw [← h1]
    rfl
  · split at h
    · injection h with h1 h2
      rw [← h1]
      rfl
    · split at h
      · exact number_val h
      · exact number_val h
section
variable {W w : World} {M b : Nat} {col : Col} {seed : Int} {s : St} {c : Cmd} {env : Env}
set_option maxHeartbeats 4000000 in
theorem with_peace (h : Run W w M b col seed s) (hM : M + 1 ≤ 1050000) {a : Option Addr} {n k : Nat} (it : Shard.Item) {a2 : Option Addr} {m2 k2 : Nat} (hv : Val w col (.slice a2 m2 k2) it.val) (rt : Res × St) (hpe : ∀ w' col', Run W w' M b col' seed s → Val w' col' (.slice a2 m2 k2) it.val → Calls Tryz.prog 56 #[.agg (rarr b c (.slice a n k) env), .agg (it.arr (.slice a2 m2 k2))] w' (PeaceP W w' M b col' seed (.slice a2 m2 k2) it.val rt)) (hg : ∀ f, withI c env it f s = rt) :
    Calls Tryz.prog 36 #[.agg (rarr b c (.slice a n k) env), .agg (it.arr (.slice a2 m2 k2))] w (ExecQ W w (M + 1) b col seed s.tab.L (.slice a2 m2 k2) it.val fun f => withI c env it f s) := by
  have hb2 : Below w.heap.size w (((w.alloc (.cells (rarr b c (.slice a n k) env) 86)).alloc (.cells (it.arr (.slice a2 m2 k2)) 51)).alloc (.cells (zeroR) 37)) := Mem.al (Mem.al (Mem.al (Below.refl _ _) _) _) _
  have n1 : (((w.alloc (.cells (rarr b c (.slice a n k) env) 86)).alloc (.cells (it.arr (.slice a2 m2 k2)) 51)).alloc (.cells (zeroR) 37)).heap[w.heap.size]? = some (.cells (rarr b c (.slice a n k) env) 86 (0, 0)) := Mem.new_later (Mem.new_later (Mem.new_block w _) _) _
  have n2 : (((w.alloc (.cells (rarr b c (.slice a n k) env) 86)).alloc (.cells (it.arr (.slice a2 m2 k2)) 51)).alloc (.cells (zeroR) 37)).heap[w.heap.size + 1]? = some (.cells (it.arr (.slice a2 m2 k2)) 51 (0, 0)) := Mem.new_later (Mem.new_block2 w _ _) _
  have n3 : (((w.alloc (.cells (rarr b c (.slice a n k) env) 86)).alloc (.cells (it.arr (.slice a2 m2 k2)) 51)).alloc (.cells (zeroR) 37)).heap[w.heap.size + 1 + 1]? = some (.cells (zeroR) 37 (0, 0)) := new_block3 w _ _ _
  have hz : (((w.alloc (.cells (rarr b c (.slice a n k) env) 86)).alloc (.cells (it.arr (.slice a2 m2 k2)) 51)).alloc (.cells (zeroR) 37)).heap.size = w.heap.size + 3 := by simp
  obtain ⟨w1, hw1⟩ : ∃ w1, (((w.alloc (.cells (rarr b c (.slice a n k) env) 86)).alloc (.cells (it.arr (.slice a2 m2 k2)) 51)).alloc (.cells (zeroR) 37)) = w1 := ⟨_, rfl⟩
  rw [hw1] at hb2 hz n1 n2 n3
  have hin := In.start h hb2
  rw [hz] at hin
  have hpc := hpe _ _ hin.run (hin.val hv)
  obtain ⟨f0, hf0⟩ := fresh_ex s.tab.L
  have HB := Lib.hid (And.intro hin (And.intro n1 (And.intro n2 (And.intro n3 hz))))
  have HK := Lib.hid (And.intro hM (And.intro hv (And.intro hf0 hg)))
  have r0 := Mem.row_cell n1 0
  have r1 := Mem.row_cell n1 1
  have r2 := Mem.row_cell n1 2
  have r3 := Mem.row_cell n1 3
  have r4 := Mem.row_cell n1 4
  have r5 := Mem.row_cell n1 5
  have r6 := Mem.row_cell n1 6
  have r7 := Mem.row_cell n1 7
  have r8 := Mem.row_cell n1 8
  have r9 := Mem.row_cell n1 9
  have r10 := Mem.row_cell n1 10
  have r11 := Mem.row_cell n1 11
  have r12 := Mem.row_cell n1 12
  have r13 := Mem.row_cell n1 13
  have r14 := Mem.row_cell n1 14
  have i0 := Mem.row_cell n2 0
  have i1 := Mem.row_cell n2 1
  have i2 := Mem.row_cell n2 2
  have i3 := Mem.row_cell n2 3
  have i4 := Mem.row_cell n2 4
  have i5 := Mem.row_cell n2 5
  have i6 := Mem.row_cell n2 6
  have i7 := Mem.row_cell n2 7
  have i8 := Mem.row_cell n2 8
  have i9 := Mem.row_cell n2 9
  simp only [rarr, Item.arr, List.getElem?_toArray, List.getElem?_cons_zero, List.getElem?_cons_succ] at r0 r1 r2 r3 r4 r5 r6 r7 r8 r9 r10 r11 r12 r13 r14 i0 i1 i2 i3 i4 i5 i6 i7 i8 i9
  clear hb2 n1 n2 n3 hz hin h hM hv hpe hg hf0
  unfold rarr Item.arr at hpc
  unfold rarr Item.arr zeroR at hw1
  unfold rarr Item.arr
  go_enter Tryz.func36, Tryz.ntmps36
  go_wp2_with fail
  refine hpc.mono ?_
  rintro e wP ⟨v, colP, rfl, hrP, hfP, hvP, hqP⟩
  obtain ⟨va, vk, hsh⟩ := hvP.shape
  subst hsh
  have hinP := HB.out.1.turn2 hrP hfP
  have nZ := HB.out.1.row (by omega) (by omega) hfP HB.out.2.2.2.1
  obtain ⟨r, t⟩ := rt
  have HP := Lib.hid (And.intro hinP (And.intro nZ (And.intro hvP hqP)))
  clear hrP hfP hvP hqP hinP nZ hpc r0 r1 r2 r3 r4 r5 r6 r7 r8 r9 r10 r11 r12 r13 r14 i0 i1 i2 i3 i4 i5 i6 i7 i8 i9
  obtain ⟨vn, hvn⟩ : ∃ vn, (r, t).1.val.length = vn := ⟨_, rfl⟩
  rw [hvn] at HP ⊢
  unfold Res.arr
  go_upto_region 3 with (fail)
  have nX := Mem.new_block wP (.cells (r.arr (.slice va vn vk)) 37)
  have nZ := (Below.heap_alloc wP (.cells (r.arr (.slice va vn vk)) 37) (w.heap.size + 1 + 1) (by have := HP.out.1.hi; omega)).trans HP.out.2.1
  have hinX := HP.out.1.below (Mem.al (Below.refl wP.heap.size wP) (.cells (r.arr (.slice va vn vk)) 37))
  obtain ⟨wX, hwX⟩ : ∃ wX, wP.alloc (.cells (r.arr (.slice va vn vk)) 37) = wX := ⟨_, rfl⟩
  rw [hwX] at nX nZ hinX
  have hsz : wP.heap.size ≤ wX.heap.size := by rw [← hwX]; simp
  have x0 := Mem.row_cell nX 0
  have x1 := Mem.row_cell nX 1
  have x2 := Mem.row_cell nX 2
  have x3 := Mem.row_cell nX 3
  have x4 := Mem.row_cell nX 4
  have x5 := Mem.row_cell nX 5
  have x6 := Mem.row_cell nX 6
  have x7 := Mem.row_cell nX 7
  have x8 := Mem.row_cell nX 8
  simp only [Res.arr, List.getElem?_toArray, List.getElem?_cons_zero, List.getElem?_cons_succ] at x0 x1 x2 x3 x4 x5 x6 x7 x8
  have HX := Lib.hid (And.intro hinX (And.intro nZ hsz))
  clear nX nZ hinX hsz
  unfold Res.arr at hwX
  go_wp2_with (first
    | (refine wpList_store_row rfl 37 _ _ rfl (w.heap.size + 1 + 1) (r.arr (.slice va vn vk)) rfl rfl 37 zeroR HX.out.2.1 (res_size _ _) rfl (res_one _ _ _ _) ?_)
    | fail)
  refine bodyPost_ret (results_cell_row Tryz.results36 _ _ (w.heap.size + 1 + 1) _ _ _ _ rfl (setRow_heap _ _ _ (r.arr (.slice va vn vk)) _ _ HX.out.2.1) Tryz.underlying37 rfl (res_size _ _)) rfl ?_
  exact ((HX.out.1.setRow (k := w.heap.size + 1 + 1) (by omega) (by omega) _).more_n (Nat.le_succ _) HK.out.1).stopQ (r := r) (v := .slice va vn vk) HK.out.2.1 HK.out.2.2.1 (HK.out.2.2.2 _) HP.out.2.2.1 (by have := HX.out.2.2; simpa using this) HP.out.2.2.2
end
end Go.Proofs.YtpghckiochjogaaGreatDoor.Exec

