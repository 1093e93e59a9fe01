/- Part6: TabE9, Cells, TabE10, one behind the other. -/
import Derived.Test.YtodoglljjhdbeaaGreatDoorPart5
import Derived.RegionTactic
import Derived.ChangeAlike
import Derived.Test.YtodoglljjhdbeaaGreatDoorPart1
import Derived.Laws.IdiomCopy
/- Layer 9: Put. -/
namespace Go.Proofs.YtodoglljjhdbeaaGreatDoor.TabE
open Go Go.RowKit Go.Proofs.YtodoglljjhdbeaaGreatDoor.Mem Go.Proofs.YtodoglljjhdbeaaGreatDoor.Tab

/-- Only one block's cells are new. -/
structure Turned (w w' : World) (b : Nat) (o : Obj) : Prop where
  blk : w'.heap[b]? = some o
  same : ∀ j, j ≠ b → w'.heap[j]? = w.heap[j]?
  only : Only (· = b) w w'
set_option maxRecDepth 100000 in
set_option maxHeartbeats 2000000 in
theorem put_any {w : World} {b : Nat} {F : Nat → Prop} {seed : Int} {s : St V} {n : Nat} (h : At w b F seed s) (hs : Sm n seed s) (hn : n + 1 ≤ 1000000000) (k : ByteArray) (v : V) (hk : k.size ≤ maxLen) :
    Calls Tryz.prog 78 #[.pointer (some ⟨b, 0, none⟩), .string k, (.pointer (some ⟨v, 0, none⟩))] w (TurnPost w b F seed (s.put k v) (.tuple #[])) := by
  obtain ⟨i0, hi, hz0, hz1, hz2⟩ := info_parts infoPair
  obtain ⟨j0, hj, hy0, hy1, hy2⟩ := info_parts infoBk
  obtain ⟨c, ea, eb, nb, gv, hat, ha, hE, hcN, hcl, hks⟩ := h
  have hf := hs.fits ha hE hcN hks
  have hrise := ha.rise
  have hcall := find_any hat hf k hk
  obtain ⟨q1, q2, q3⟩ := step_shape (H := hN seed) c
  have hpos := pos_cases hf.step k
  have hfs := hf.step
  have hcN2 : (c.step (hN seed)).N = s.buckets := q2.trans hcN
  have hE2 : (c.step (hN seed)).E ≤ (c.step (hN seed)).N := by rw [q1, q2]; exact hE
  have hl2 : (c.step (hN seed)).left = s.left - 1 := by rw [q3, hcl]
  obtain ⟨c2, hc2⟩ : ∃ c2, c.step (hN seed) = c2 := ⟨_, rfl⟩
  rw [hc2] at hcall hpos hfs hcN2 hE2 hl2
  have HS := Lib.hid (And.intro hs (And.intro hfs (And.intro hcN2 (And.intro hE2 (And.intro hl2 (And.intro hks hrise))))))
  have HP := Lib.hid hpos
  clear hat ha hE hcN hcl hks hrise hf q1 q2 q3 hpos hfs hcN2 hE2 hl2 hc2 hs
  unfold FindPost at hcall
  obtain ⟨ps, hps⟩ : ∃ ps, pos (c2.bs (c2.idx (hN seed) k)) k = ps := ⟨_, rfl⟩
  rw [hps] at hcall
  go_enter Tryz.func78, Tryz.ntmps78
  go_wp2_with fail
  refine hcall.mono ?_
  rintro e w1 ⟨F1, gv1, rfl, hm⟩
  have hidx := HS.out.2.1.abs.idx_lt k
  obtain ⟨g, i, hadr, _, cg, fg, hgb, hgr⟩ := hm.at_.loc hidx
  rw [hadr]
  have HM := Lib.hid (And.intro hm (And.intro hadr hidx))
  have HPs := Lib.hid hps
  have hbg : ¬ (g = b) := hgb
  clear hm hadr hidx hcall hps hgb
  go_upto_if 15 with (fail)
  go_cut [] from 16 to 39 (fun wx => Hid (Stored w b F seed s k v wx))
  case first =>
    rcases HP.out with ⟨hg, hkn, hp⟩ | ⟨i1, u, hi1, hp, hg, -⟩
    · rw [HPs.out] at hp
      subst hp
      have hrow := HM.out.1.at_.rows _ HM.out.2.2
      have hbl := bs_len HS.out.2.1.abs (c2.idx (hN seed) k)
      have hl1 := HS.out.2.1.len
      have c4 : w1.cell? ⟨b, 4, none⟩ = some (.int .i64 (s.L.length : Nat)) := Mem.row_cell HM.out.1.at_.blk 4
      obtain ⟨ya, yc, hsh⟩ := own_shape hrow
      have hlen : s.L.length ≤ 1000000000 := by omega
      have hbn : (c2.bs (c2.idx (hN seed) k)).length ≤ 1000000000 := by omega
      have hro := (World.ownsRow.alloc (o := .cells #[.string k, (.pointer (some ⟨v, 0, none⟩))] 136) hrow)
      have hbfar : ∀ w6, (w1.alloc (.cells #[.string k, (.pointer (some ⟨v, 0, none⟩))] 136)).grownBy w6 (gv1 (c2.idx (hN seed) k)).ownBlock → w6.heap[g]? = w1.heap[g]? ∧ w6.heap[b]? = w1.heap[b]? := fun w6 hgw => by
        have hFg : F1 g := by
          obtain ⟨g3, i3, e, hF, _⟩ := HM.out.1.at_.loc HM.out.2.2
          rw [HM.out.2.1] at e
          have e9 : g = g3 := congrArg Addr.block e
          rw [e9]; exact hF
        exact ⟨(hgw.block g (Nat.lt_of_lt_of_le (HM.out.1.at_.lt g hFg) (by simp)) (Ne.symm (hgr _ HM.out.2.2))).trans (Below.heap_alloc _ _ _ (HM.out.1.at_.lt g hFg)),
          (hgw.block b (Nat.lt_of_lt_of_le (HM.out.1.at_.lt b HM.out.1.at_.fb) (by simp)) (Ne.symm (HM.out.1.at_.row_b HM.out.2.2))).trans (Below.heap_alloc _ _ _ (HM.out.1.at_.lt b HM.out.1.at_.fb))⟩
      have hfin : ∀ g' cap' w6, w6.ownsRow 0 136 2 (.slice (some ⟨g', 0, none⟩) ((c2.bs (c2.idx (hN seed) k)).length + 1) cap') ((c2.bs (c2.idx (hN seed) k)).length + 1) (cellsP (c2.bs (c2.idx (hN seed) k)) ++ [.string k, (.pointer (some ⟨v, 0, none⟩))]) → (w1.alloc (.cells #[.string k, (.pointer (some ⟨v, 0, none⟩))] 136)).grownBy w6 (gv1 (c2.idx (hN seed) k)).ownBlock → ((gv1 (c2.idx (hN seed) k)).ownBlock = some g' ∨ g' = w1.heap.size + 1) →
          w6.cell? ⟨g, i, none⟩ = some (gv1 (c2.idx (hN seed) k)) ∧ w6.frozen? ⟨g, i, none⟩ = false ∧ w6.cell? ⟨b, 4, none⟩ = some (.int .i64 (s.L.length : Nat)) ∧ w6.frozen? ⟨b, 4, none⟩ = false ∧
          Stored w b F seed s k v ((w6.setCell ⟨g, i, none⟩ (.slice (some ⟨g', 0, none⟩) ((c2.bs (c2.idx (hN seed) k)).length + 1) cap')).setCell ⟨b, 4, none⟩ (.int .i64 ((s.L.length : Int) + 1))) := fun g' cap' w6 hown hgw hat => by
        obtain ⟨e1, e2⟩ := hbfar w6 hgw
        refine ⟨(World.cell?_of_block e1).trans cg, (World.frozen?_of_block e1).trans fg, (World.cell?_of_block e2).trans c4, (World.frozen?_of_block e2).trans (Mem.row_free HM.out.1.at_.blk 4), ?_⟩
        refine stored_new v HM.out.1 HS.out.2.1 HS.out.2.2.2.1 HS.out.2.2.1 HS.out.2.2.2.2.1 hkn HM.out.2.1 ?_ hgw hat
        unfold OwnP
        rw [List.length_append, cellsP_app]; exact hown
      have HFn := Lib.hid hfin
      obtain ⟨L, hL⟩ : ∃ L, (c2.bs (c2.idx (hN seed) k)).length = L := ⟨_, rfl⟩
      obtain ⟨X, hX⟩ : ∃ X, cellsP (c2.bs (c2.idx (hN seed) k)) = X := ⟨_, rfl⟩
      rw [hL, hX, hsh, hL] at HFn
      rw [hsh, hL] at cg
      rw [hL] at hbn
      rw [hL, hX, hsh, hL] at hro
      have HR := Lib.hid hro
      clear hrow hbl hl1 hfin hbfar hL hX hsh hgr hkn hg hro c4
      go_wp2_with (at_builtin; refine wpList_append_lies _ rfl _ _ _ rfl 0 136 i0 _ 2 24 Tryz.underlying138 hi hz0 hz1 hz2 rfl (by omega) _ L X rfl HR.out ⟨w1.heap.size, 0, none⟩ 1 1 [.string k, (.pointer (some ⟨v, 0, none⟩))] rfl rfl (World.news_of_block (Mem.new_block w1 _)) (by simp [Value.oneCell']) (by decide) (by unfold maxLen; omega) (by omega) (Nat.zero_le _) (w1.heap.size + 1) (by simp) ?_; intro gg cap w6 hown hgrow hat hlt; obtain ⟨d1, d2, d3, d4, d5⟩ := HFn.out _ _ _ hown hgrow hat; have H5 := Lib.hid d5; clear d5 hown hgrow hat hlt)
      go_meet
      exact H5
    · rw [HPs.out] at hp
      subst hp
      have hil := (List.getElem?_eq_some_iff.1 hi1).1
      have hbl := bs_len HS.out.2.1.abs (c2.idx (hN seed) k)
      have hl1 := HS.out.2.1.len
      obtain ⟨g2, cap, e2, _, _, _⟩ := own_get (HM.out.1.at_.rows _ HM.out.2.2) hi1
      have hst := stored_old v HM.out.1 HS.out.2.1 HS.out.2.2.2.1 HS.out.2.2.1 HS.out.2.2.2.2.1 hi1 e2
      have hfz : w1.frozen? ⟨g2, i1 * 2 + 1, none⟩ = false := by
        have hrow := HM.out.1.at_.rows _ HM.out.2.2
        rw [e2] at hrow
        rcases hrow.2 with ⟨e, _⟩ | ⟨g3, cap3, cur, e, _, e3, _⟩
        · cases e
        · injection e with e; injection e with e; injection e with e
          subst e
          exact Mem.row_free e3 _
      have H5 := Lib.hid hst
      have hi2 : (i1 : Int) < (c2.bs (c2.idx (hN seed) k)).length := by omega
      rw [e2] at cg
      obtain ⟨L, hL⟩ : ∃ L, (c2.bs (c2.idx (hN seed) k)).length = L := ⟨_, rfl⟩
      rw [hL] at cg hi2
      have hi3 : (i1 : Int) ≤ 1000000000 := by omega
      clear hil hbl hl1 e2 hst hL hgr hg hi1
      go_wp2_with fail
      go_meet
      exact H5
  case rest =>
    have HT := Lib.hid hcut.out
    have HS2 := Lib.hid (And.intro HS.out.1 HS.out.2.2.2.2.2)
    clear hcut HM HPs HP HS cg fg hgr hbg
    obtain ⟨F2, c3, ea2, eb2, nb2, gv2, hm, ha, hE, hN3, hl3⟩ := HT.out
    clear HT
    have hks' : ∀ p ∈ Tab.put s.L k v, p.1.size ≤ maxLen := fun p hp => by
      rcases (mem_put HS2.out.2.2 k v p).1 hp with rfl | ⟨hp, _⟩
      · exact hk
      · exact HS2.out.2.1 p hp
    have hlen := (Tab.put_len (L := s.L) k v).1
    have hsl := HS2.out.1.len
    have hbk := HS2.out.1.bk
    have hlf := ha.le
    have c4 : wc.cell? ⟨b, 4, none⟩ = some (.int .i64 ((Tab.put s.L k v).length : Nat)) := Mem.row_cell hm.at_.blk 4
    have c22 : wc.cell? ⟨b, 2, none⟩ = some (.slice (some ⟨nb2, 0, none⟩) c3.N c3.N) := Mem.row_cell hm.at_.blk 2
    have c33 : wc.cell? ⟨b, 3, none⟩ = some (.int .i64 (c3.left : Nat)) := Mem.row_cell hm.at_.blk 3
    have c11 : wc.cell? ⟨b, 1, none⟩ = some (.slice ea2 c3.E c3.E) := Mem.row_cell hm.at_.blk 1
    have f1 := Mem.row_free hm.at_.blk 1
    have f2 := Mem.row_free hm.at_.blk 2
    have f3 := Mem.row_free hm.at_.blk 3
    have hN1 : c3.N ≤ 1000000100 := by omega
    have hM1 : (Tab.put s.L k v).length ≤ 1000000100 := by omega
    have hl1 : c3.left ≤ 1000000100 := by omega
    have hput : s.put k v = if 2 * c3.N < (Tab.put s.L k v).length ∧ c3.left = 0 then ⟨Tab.put s.L k v, 2 * c3.N, c3.N⟩ else ⟨Tab.put s.L k v, c3.N, c3.left⟩ := by
      unfold St.put St.grown; rw [hN3, hl3]
    have HM := Lib.hid (And.intro hm (And.intro ha (And.intro hE (And.intro hks' hput))))
    obtain ⟨M, hM⟩ : ∃ M, (Tab.put s.L k v).length = M := ⟨_, rfl⟩
    obtain ⟨N, hN⟩ : ∃ N, c3.N = N := ⟨_, rfl⟩
    obtain ⟨lf, hlf2⟩ : ∃ lf, c3.left = lf := ⟨_, rfl⟩
    rw [hM] at c4 hM1
    rw [hN] at c22 hN1
    rw [hlf2] at c33 hl1
    have HE := Lib.hid (And.intro hM (And.intro hN hlf2))
    have hw2 : IntKind.i64.wrap (2 * (N : Int)) = 2 * (N : Int) := by rw [IntKind.wrap_i64]; omega
    clear hm ha hE hks' hlen hsl hbk hlf hput hM hN hlf2 hN3 hl3
    by_cases hg : 2 * N < M ∧ lf = 0
    · obtain ⟨hg1, rfl⟩ := hg
      have hd1 : decide (2 * (N : Int) < (M : Int)) = true := by simp only [decide_eq_true_eq]; omega
      have hd2 : decide (2 * N < M) = true := by simpa using hg1
      have hgi : 2 * (N : Int) < M := by omega
      go_wp2_with fail
      go_quiet (fail)
      go_wp2_with fail
      have htu : ∀ d, Turned wc (((wc.drewN d).setCell ⟨b, 1, none⟩ (.slice (some ⟨nb2, 0, none⟩) N N)).setCell ⟨b, 3, none⟩ (.int .i64 (N : Nat))) b (tabObj seed (.slice (some ⟨nb2, 0, none⟩) N N) (.slice (some ⟨nb2, 0, none⟩) N N) N M) := fun d => by
        have hb := HM.out.1.at_.blk
        rw [HE.out.1, HE.out.2.1, HE.out.2.2] at hb
        exact ⟨Mem.row_set (Mem.row_set (W := wc.drewN d) hb 1 _) 3 _, fun j hj => (Below.heap_setCell _ _ _ _ hj).trans (Below.heap_setCell _ _ _ _ hj), ((Only.drewN (Only.refl (· = b) wc) d).setCell (p := ⟨b, 1, none⟩) (.inl rfl) _).setCell (p := ⟨b, 3, none⟩) (.inl rfl) _⟩
      have htu2 : ∀ d, Turned wc (((wc.drewN d).setCell ⟨b, 3, none⟩ (.int .i64 (N : Nat))).setCell ⟨b, 1, none⟩ (.slice (some ⟨nb2, 0, none⟩) N N)) b (tabObj seed (.slice (some ⟨nb2, 0, none⟩) N N) (.slice (some ⟨nb2, 0, none⟩) N N) N M) := fun d => by
        have hb := HM.out.1.at_.blk
        rw [HE.out.1, HE.out.2.1, HE.out.2.2] at hb
        exact ⟨Mem.row_set (Mem.row_set (W := wc.drewN d) hb 3 _) 1 _, fun j hj => (Below.heap_setCell _ _ _ _ hj).trans (Below.heap_setCell _ _ _ _ hj), ((Only.drewN (Only.refl (· = b) wc) d).setCell (p := ⟨b, 3, none⟩) (.inl rfl) _).setCell (p := ⟨b, 1, none⟩) (.inl rfl) _⟩
      have HU := Lib.hid (And.intro htu htu2)
      clear htu htu2
      go_cut [] from 58 to 72 (fun wy => Hid (Turned wc wy b (tabObj seed (.slice (some ⟨nb2, 0, none⟩) N N) (.slice (some ⟨nb2, 0, none⟩) N N) N M)))
      case first =>
        go_region
        all_goals (go_wp2_with fail; go_meet; first | exact Lib.hid (HU.out.1 _) | exact Lib.hid (HU.out.2 _))
      case rest =>
        have c25 : wc.cell? ⟨b, 2, none⟩ = some (.slice (some ⟨nb2, 0, none⟩) N N) := Mem.row_cell hcut.out.blk 2
        have hblt : b < wc.heap.size := (Array.getElem?_eq_some_iff.1 hcut.out.blk).1
        have hfin : ∀ w5, w5.ownsRow wc.heap.size 138 1 (.slice (some ⟨wc.heap.size, 0, none⟩) (2 * N) (2 * N)) (2 * N) (madeCells (Value.slice none 0 0).cells (2 * N * 1)).toList → wc.grownBy w5 none →
            w5.cell? ⟨b, 2, none⟩ = some (.slice (some ⟨nb2, 0, none⟩) N N) ∧ w5.frozen? ⟨b, 2, none⟩ = false ∧ TurnPost w b F seed (s.put k v) (.tuple #[]) (.returned (.tuple #[])) (w5.setCell ⟨b, 2, none⟩ (.slice (some ⟨wc.heap.size, 0, none⟩) (2 * N) (2 * N))) := fun w5 hown hgw => by
          obtain ⟨hm, ha, hE, hks', hput⟩ := HM.out
          obtain ⟨h1, h2, h3⟩ := HE.out
          have ht := hcut.out
          have hb5 : w5.heap[b]? = wc.heap[b]? := hgw.block b hblt (fun e => by cases e)
          rcases hown.2 with ⟨e, _⟩ | ⟨g5, cap5, cur, e, _, hg5, _, _, hsz, htk⟩
          · cases e
          injection e with e _ e2
          injection e with e
          injection e with e
          subst e; subst e2
          have hz5 := ht.only.size
          have hz6 := hgw.size
          refine ⟨(World.cell?_of_block hb5).trans c25, (World.frozen?_of_block hb5).trans (Mem.row_free ht.blk 2), ?_⟩
          rw [hput, h1, h2, h3, if_pos ⟨hg1, rfl⟩]
          have hne : wc.heap.size ≠ b := by omega
          have hold : ∀ j, F2 j → j ≠ b → (w5.setCell ⟨b, 2, none⟩ (.slice (some ⟨wc.heap.size, 0, none⟩) (2 * N) (2 * N))).heap[j]? = _ := fun j hj hjb => (Below.heap_setCell _ _ _ _ hjb).trans ((hgw.block j (Nat.lt_of_lt_of_le (hm.at_.lt j hj) hz5) (fun e => by cases e)).trans (ht.same j hjb))
          have hgrow := hm.at_.grow (w' := w5.setCell ⟨b, 2, none⟩ (.slice (some ⟨wc.heap.size, 0, none⟩) (2 * N) (2 * N))) (nb' := wc.heap.size) (a := cur) hz5 (by rw [h2, h1]; exact Mem.row_set (hb5.trans ht.blk) 2 _) ((Below.heap_setCell _ _ _ _ hne).trans hg5) (by rw [h2]; omega) (fun j hj => made_nil hsz htk j (by rw [h2] at hj; exact hj)) hold (by simp [World.setCell]; omega)
          have hon : Only F w (w5.setCell ⟨b, 2, none⟩ (.slice (some ⟨wc.heap.size, 0, none⟩) (2 * N) (2 * N))) := by
            have o1 := hm.only.trans (ht.only.mono (F' := F2) (fun j hj => hj ▸ hm.at_.fb)) hm.grows
            exact (o1.grown hgw (fun g e => by cases e)).setCell (p := ⟨b, 2, none⟩) (hm.grows b hm.at_.fb) _
          have hmid : Mid w F (w5.setCell ⟨b, 2, none⟩ (.slice (some ⟨wc.heap.size, 0, none⟩) (2 * N) (2 * N))) b (fun j => F2 j ∨ j = wc.heap.size) seed c3.grow (Tab.put s.L k v).length (some ⟨nb2, 0, none⟩) nb2 wc.heap.size _ :=
            ⟨hgrow, hon, fun j hj => hj.elim (hm.grows j) (fun e => .inr (by have := hm.only.size; omega))⟩
          exact hmid.done (s := ⟨Tab.put s.L k v, 2 * N, N⟩) rfl (ha.grow h3) (by show c3.N ≤ 2 * c3.N; omega) (by show 2 * c3.N = 2 * N; rw [h2]) (by show c3.N = N; exact h2) hks'
        have HFn := Lib.hid hfin
        have hb24 : j0.bytes * (2 * N) ≤ 281474976710656 := by rw [hy2]; omega
        have hml : 2 * N ≤ maxLen := by unfold maxLen; omega
        clear hcut hfin hblt hd1 hd2 hgi hg1 c4 c22 c33 c11 f1 f2 f3
        go_wp2_with (at_make; refine wpList_make_full _ rfl _ _ _ rfl wc.heap.size 138 j0 _ 1 Tryz.underlying91 hj hy0 hy1 .i64 .i64 (2 * (N : Int)) (2 * (N : Int)) (2 * N) rfl rfl (by omega) (by omega) hb24 hml (Nat.le_refl _) ?_; intro w5 hown hgw; obtain ⟨d1, d2, d3⟩ := HFn.out w5 hown hgw; have H5 := Lib.hid d3; clear d3 hown hgw)
        go_end0
        exact H5.out
    · have hd : (2 * N < M ∧ (lf : Int) ≠ 0) ∨ ¬ 2 * N < M := by omega
      have hfin : ∀ d, TurnPost w b F seed (s.put k v) (.tuple #[]) (.returned (.tuple #[])) (wc.drewN d) := fun d => by
        obtain ⟨hm, ha, hE, hks', hput⟩ := HM.out
        obtain ⟨h1, h2, h3⟩ := HE.out
        rw [hput, h1, h2, h3, if_neg hg]
        have hm2 : Mid w F (wc.drewN d) b F2 seed c3 (Tab.put s.L k v).length ea2 eb2 nb2 gv2 := ⟨hm.at_.same (fun _ _ => rfl) (Nat.le_refl _), hm.only.drewN d, hm.grows⟩
        exact hm2.done (s := ⟨Tab.put s.L k v, N, lf⟩) rfl ha hE h2 h3 hks'
      have HFn := Lib.hid hfin
      clear hfin
      rcases hd with ⟨hd, hl0⟩ | hd
      · have hd1 : decide (2 * (N : Int) < (M : Int)) = true := by simp only [decide_eq_true_eq]; omega
        have hd2 : decide (2 * N < M) = true := by simpa using hd
        have hd3 : ((lf : Int) == 0) = false := by simpa using hl0
        clear hg hl0
        go_wp2_with fail
        go_quiet (fail)
        go_wp2_with fail
        go_end0
        exact HFn.out _
      · have hd1 : decide (2 * (N : Int) < (M : Int)) = false := by simp only [decide_eq_false_iff_not]; omega
        have hd2 : decide (2 * N < M) = false := by simpa using hd
        clear hg
        go_wp2_with fail
        go_quiet (fail)
        go_wp2_with fail
        go_end0
        exact HFn.out _
end Go.Proofs.YtodoglljjhdbeaaGreatDoor.TabE

/- Cells stored one behind the other, as a block sees it. -/
namespace Go.Proofs.YtodoglljjhdbeaaGreatDoor.Mem
open Go Go.RowKit

def lay (cs : Array Value) : Nat → List Value → Array Value
  | _, [] => cs
  | o, x :: xs => lay (cs.setIfInBounds o x) (o + 1) xs
theorem lay_size : ∀ (xs : List Value) (o : Nat) (cs : Array Value), (lay cs o xs).size = cs.size
  | [], _, _ => rfl
  | x :: xs, o, cs => by rw [lay, lay_size xs]; simp
theorem lay_out : ∀ (xs : List Value) (o : Nat) (cs : Array Value) (j : Nat), j < o ∨ o + xs.length ≤ j → (lay cs o xs)[j]? = cs[j]?
  | [], _, _, _, _ => rfl
  | x :: xs, o, cs, j, h => by
    simp only [List.length_cons] at h
    rw [lay, lay_out xs (o + 1) _ j (by omega), Array.getElem?_setIfInBounds, if_neg (by omega)]
theorem lay_in : ∀ (xs : List Value) (o : Nat) (cs : Array Value) (j : Nat), o + xs.length ≤ cs.size → o ≤ j → j < o + xs.length → (lay cs o xs)[j]? = xs[j - o]?
  | [], _, _, _, _, _, h => by simp at h; omega
  | x :: xs, o, cs, j, h1, h2, h3 => by
    simp only [List.length_cons] at h1 h3
    rw [lay]
    by_cases e : j = o
    · subst e
      rw [lay_out xs (j + 1) _ j (by omega), Array.getElem?_setIfInBounds, if_pos rfl, if_pos (by omega)]
      simp
    · rw [lay_in xs (o + 1) _ j (by simp; omega) (by omega) (by omega), show j - o = j - (o + 1) + 1 from by omega, List.getElem?_cons_succ]
theorem set_cells {b : Nat} {t : TypeId} {fz : Nat × Nat} : ∀ (xs : List Value) (o : Nat) (cs : Array Value) {W : World}, W.heap[b]? = some (.cells cs t fz) → (W.setCells b o xs).heap[b]? = some (.cells (lay cs o xs) t fz)
  | [], _, _, _, h => h
  | x :: xs, o, _, _, h => set_cells xs (o + 1) _ (Mem.row_set h o x)
theorem set_cells_far {b : Nat} : ∀ (xs : List Value) (o : Nat) {W : World} {j : Nat}, j ≠ b → (W.setCells b o xs).heap[j]? = W.heap[j]?
  | [], _, _, _, _ => rfl
  | _ :: xs, o, _, _, h => (set_cells_far xs (o + 1) h).trans (Below.heap_setCell _ _ _ _ h)
theorem set_cells_size {b : Nat} : ∀ (xs : List Value) (o : Nat) {W : World}, (W.setCells b o xs).heap.size = W.heap.size
  | [], _, _ => rfl
  | _ :: xs, o, _ => (set_cells_size xs (o + 1)).trans (by simp [World.setCell])
theorem Only.setCells {F : Nat → Prop} {x : World} {b : Nat} (hb : F b ∨ x.heap.size ≤ b) : ∀ (xs : List Value) (o : Nat) {y : World}, Only F x y → Only F x (y.setCells b o xs)
  | [], _, _, h => h
  | u :: xs, o, _, h => Only.setCells hb xs (o + 1) (h.setCell (p := ⟨b, o, none⟩) hb u)
end Go.Proofs.YtodoglljjhdbeaaGreatDoor.Mem

/- Layer 9: slices.Delete of one pair. -/
namespace Go.Proofs.YtodoglljjhdbeaaGreatDoor.TabE
open Go Go.RowKit Go.Proofs.YtodoglljjhdbeaaGreatDoor.Mem Go.Proofs.YtodoglljjhdbeaaGreatDoor.Tab

abbrev zeros : List Value := [.string ⟨#[]⟩, (.pointer none)]
theorem run_clear_one {w : World} (ty : TypeId) {g o c : Nat} {cs : Array Value} (hb : w.heap[g]? = some (.cells cs 136 (0, 0))) (ho : o + 2 ≤ cs.size) :
    (Builtin.clear_ #[138] ty #[.slice (some ⟨g, o, none⟩) 1 c]).run Tryz.prog w = .ok (.tuple #[]) (w.setCells g o zeros) := by
  have hst := run_storeCells_cells (P := Tryz.prog) g o zeros 0 w (fun j hj => by
    have : j < 2 := hj
    rw [Mem.row_cell hb, Nat.add_zero, Array.getElem?_eq_getElem (by omega)]; rfl) (fun j _ => Mem.row_free hb _) (by intro v hv; simp at hv; rcases hv with rfl | rfl <;> rfl)
  simp only [Nat.add_zero] at hst
  have hz : (Builtin.zeroCells (Value.agg #[.string ⟨#[]⟩, (.pointer none)]).cells 1).toList = zeros := by kernel_rfl
  simp [Builtin.clear_, run_underlying Tryz.underlying138, hz, hst]
theorem cellsP_take (l : Pairs V) (k : Nat) : cellsP (l.take k) = (cellsP l).take (k * 2) := by
  rcases Nat.lt_or_ge k l.length with h | h
  · conv => rhs; rw [← List.take_append_drop k l]
    rw [cellsP_app, List.take_left']
    rw [cellsP_len, List.length_take]; omega
  · rw [List.take_of_length_le h, List.take_of_length_le (by rw [cellsP_len]; omega)]
theorem cellsP_drop (l : Pairs V) (k : Nat) : cellsP (l.drop k) = (cellsP l).drop (k * 2) := by
  rcases Nat.lt_or_ge k l.length with h | h
  · conv => rhs; rw [← List.take_append_drop k l]
    rw [cellsP_app, List.drop_left']
    rw [cellsP_len, List.length_take]; omega
  · rw [List.drop_of_length_le h, List.drop_of_length_le (by rw [cellsP_len]; omega)]; rfl
/-- The row behind the two stores. -/
theorem row_erased {w : World} {g cap i m : Nat} {l : Pairs V} (h : OwnP w (.slice (some ⟨g, 0, none⟩) (i + 1 + m) cap) l) (hl : l.length = i + 1 + m) :
    OwnP ((w.setCells g (i * 2) (cellsP (l.drop (i + 1)))).setCells g ((i + m) * 2) zeros) (.slice (some ⟨g, 0, none⟩) (i + m) cap) (l.eraseIdx i) ∧ ∃ cs, (w.setCells g (i * 2) (cellsP (l.drop (i + 1)))).heap[g]? = some (.cells cs 136 (0, 0)) ∧ (i + m) * 2 + 2 ≤ cs.size := by
  have hel : (l.eraseIdx i).length = i + m := by rw [List.length_eraseIdx, if_pos (by omega)]; omega
  have hdl : (cellsP (l.drop (i + 1))).length = m * 2 := by rw [cellsP_len, List.length_drop]; omega
  rcases h.2 with ⟨e, _⟩ | ⟨g', cap', cur, e, h2, h3, h4, h5, h6, h7⟩
  · cases e
  injection e with e e1 e2
  injection e with e
  injection e with e
  subst e; subst e2
  rw [hl] at h4 h7
  have hb1 := Mem.set_cells (cellsP (l.drop (i + 1))) (i * 2) cur h3
  have hb2 := Mem.set_cells zeros ((i + m) * 2) _ hb1
  refine ⟨⟨by rw [cellsP_len], .inr ⟨g, cap, _, by rw [hel], h2, hb2, by rw [hel]; omega, h5, by rw [lay_size, lay_size]; exact h6, ?_⟩⟩, _, hb1, by rw [lay_size]; omega⟩
  rw [hel]
  refine List.ext_getElem? fun j => ?_
  rw [List.getElem?_take]
  rw [List.eraseIdx_eq_take_drop_succ, cellsP_app, cellsP_take]
  by_cases hj : j < (i + m) * 2
  · rw [if_pos hj, Array.getElem?_toList, lay_out zeros _ _ j (.inl hj)]
    have hl2 : ((cellsP l).take (i * 2)).length = i * 2 := by rw [List.length_take, cellsP_len]; omega
    by_cases hj2 : j < i * 2
    · rw [lay_out _ _ _ j (.inl hj2), List.getElem?_append_left (by omega), List.getElem?_take, if_pos hj2, ← h7, List.getElem?_take, if_pos (by omega), Array.getElem?_toList]
    · rw [lay_in _ _ _ j (by rw [hdl]; omega) (by omega) (by rw [hdl]; omega), List.getElem?_append_right (by omega), hl2]
  · rw [if_neg hj]
    symm
    rw [List.getElem?_eq_none_iff, List.length_append, List.length_take, cellsP_len, hdl]
    omega
theorem Only.two {F : Nat → Prop} {w : World} {g : Nat} (hF : F g) (o1 o2 : Nat) (xs ys : List Value) (d : Nat) : Only F w (((w.drewN d).setCells g o1 xs).setCells g o2 ys) := Only.setCells (.inl hF) ys o2 (Only.setCells (.inl hF) xs o1 (Only.drewN (Only.refl F w) d))
def ErasedPost (w : World) (g cap i m : Nat) (l : Pairs V) (e : Ending) (w' : World) : Prop :=
  e = .returned (.slice (some ⟨g, 0, none⟩) (i + m) cap) ∧ ∃ d, w' = ((w.drewN d).setCells g (i * 2) (cellsP (l.drop (i + 1)))).setCells g ((i + m) * 2) zeros
set_option maxRecDepth 100000 in
set_option maxHeartbeats 1000000 in
theorem erase_any {w : World} {g cap i m : Nat} {l : Pairs V} (h : OwnP w (.slice (some ⟨g, 0, none⟩) (i + 1 + m) cap) l) (hl : l.length = i + 1 + m) (hb : i + 1 + m ≤ 1000000000) :
    Calls Tryz.prog 84 #[.slice (some ⟨g, 0, none⟩) (i + 1 + m) cap, .int .i64 i, .int .i64 ((i : Int) + 1)] w (ErasedPost w g cap i m l) := by
  obtain ⟨i0, hi, hz0, hz1, hz2⟩ := info_parts infoPair
  have her := row_erased h hl
  have hdl : (cellsP (l.drop (i + 1))).length = m * 2 := by rw [cellsP_len, List.length_drop]; omega
  rcases h.2 with ⟨e, _⟩ | ⟨g', cap', cur, e, h2, h3, h4, h5, h6, h7⟩
  · cases e
  injection e with e e1 e2
  injection e with e
  injection e with e
  subst e; subst e2
  rw [hl] at h4 h7
  unfold maxLen at h5
  obtain ⟨A, hA, hnews⟩ : ∃ A : Addr, (if cap = i + 1 then some (⟨g, 0, none⟩ : Addr) else some ⟨g, (i + 1) * 2, none⟩) = some A ∧ Hid (∀ j u, (cellsP (l.drop (i + 1)))[j]? = some u → w.drew.cell? (A.add j) = some u) := by
    by_cases hc : cap = i + 1
    · refine ⟨⟨g, 0, none⟩, by simp [hc], fun j u hu => ?_⟩
      have h0 : (cellsP (l.drop (i + 1))).length = 0 := by rw [hdl]; omega
      rw [List.length_eq_zero_iff.1 h0] at hu
      simp at hu
    · refine ⟨⟨g, (i + 1) * 2, none⟩, by simp [hc], fun j u hu => ?_⟩
      rw [Addr.add_lit]
      show w.cell? _ = _
      rw [Mem.row_cell h3]
      have hj : j < m * 2 := by have := (List.getElem?_eq_some_iff.1 hu).1; rwa [hdl] at this
      rw [cellsP_drop, List.getElem?_drop, ← h7, List.getElem?_take, if_pos (by omega), Array.getElem?_toList] at hu
      exact hu
  have s1 : Hid ((cellsP (l.drop (i + 1))).length = m * 2) := hdl
  have s2 : Hid (∀ u ∈ cellsP (l.drop (i + 1)), u.oneCell' = true) := one_cellsP _
  have s3 : Hid (∀ j, j < (cellsP (l.drop (i + 1))).length → (w.drew.cell? ⟨g, 0 + i * 2 + j, none⟩).isSome = true ∧ w.drew.frozen? ⟨g, 0 + i * 2 + j, none⟩ = false) := by
    intro j hj
    rw [hdl] at hj
    refine ⟨?_, Mem.row_free (W := w.drew) h3 _⟩
    show (w.cell? _).isSome = true
    rw [Mem.row_cell h3, Array.getElem?_eq_getElem (by omega)]; rfl
  have s4 : Hid (cap ≠ i + m) := by intro e; omega
  have hcl := fun ty => run_clear_one (w := w.drew.setCells g (i * 2) (cellsP (l.drop (i + 1)))) ty (g := g) (o := (i + m) * 2) (c := cap - (i + m)) (cs := lay cur (i * 2) (cellsP (l.drop (i + 1)))) (Mem.set_cells (W := w.drew) _ _ _ h3) (by rw [lay_size]; omega)
  have hic : i ≤ cap := by omega
  have hi1 : i + 1 ≤ i + 1 + m := by omega
  have hlen2 : i + 1 + m - (i + 1) = m := by omega
  have hlen3 : i + 1 + m - (i + m) = 1 := by omega
  have hwr : IntKind.i64.wrap ((i : Int) + 1) = (i : Int) + 1 := by rw [IntKind.wrap_i64]; omega
  have hne : ((i : Int) == (i : Int) + 1) = false := by simp; omega
  have hp0 : (0 : Int) ≤ (i : Int) + 1 := by omega
  have hp3 : (i : Int) + 1 ≤ (i : Int) + 1 + m := by omega
  have hp4 : (i : Int) + m ≤ (i : Int) + 1 + m := by omega
  have hp5 : (0 : Int) ≤ (i : Int) + m := by omega
  have hp6 : (0 : Int) ≤ (i : Int) + 1 + m := by omega
  have hp7 : ((i : Int) + m).toNat = i + m := by omega
  have hp8 : ((i : Int) + 1 + m).toNat = i + 1 + m := by omega
  have hp9 : (i : Int) + 1 + m ≤ cap := by omega
  have hp2 : ((i : Int) + 1).toNat = i + 1 := by omega
  clear h her hl h3 h7 hdl e1
  go_enter Tryz.func84, Tryz.ntmps84
  go_wp2_with fail
  go_region_law (refine step_append_room rfl (.tmp 22) (.tmp 25) 138 rfl 136 i0 2 Tryz.underlying138 hi hz1 g 0 i cap (by simp [Act.eval, Act.put]) A m (cap - (i + 1)) (cellsP (l.drop (i + 1))) (by simp [Act.eval, Act.put]) s1.out hnews.out s2.out (by omega) s3.out ?_)
  all_goals go_wp2_with fail
  go_ret
  exact ⟨rfl, 1, rfl⟩
end Go.Proofs.YtodoglljjhdbeaaGreatDoor.TabE

