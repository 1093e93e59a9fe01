/- Part9: TabE9, TabE10, TabE11, Shard1, Shard2, Slab5, Slab6, Shard3, Shard4, Shard5, one behind the other. -/
import Derived.Test.YteonjgnnpgpnnaaGreatPart8
import Derived.RegionTactic
import Derived.ChangeAlike
import Derived.Test.YteonjgnnpgpnnaaGreatPart3
import Derived.Test.YteonjgnnpgpnnaaGreatPart1
import Derived.Test.YteonjgnnpgpnnaaGreatPart6
import Derived.Test.YteonjgnnpgpnnaaGreatPart4
import Derived.Maps.AppendAt
import Derived.Deep.RegionHeld3
import Derived.Deep.RegionLaw
import Derived.Deep.AppendLies
import Derived.Deep.CutRange
import Derived.StillTailTactics
/- Layer 9: Put. -/
namespace Go.Proofs.YteonjgnnpgpnnaaGreat.TabE
open Go Go.RowKit Go.Proofs.YteonjgnnpgpnnaaGreat.Mem Go.Proofs.YteonjgnnpgpnnaaGreat.Tab

/-- Only one block's cells are new. -/
structure Turned (w w' : World) (b : Nat) (o : Obj) : Prop where
  blk : w'.heap[b]? = some o
  same : ∀ j, j ≠ b → w'.heap[j]? = w.heap[j]?
  only : Only (· = b) w w'
set_option maxRecDepth 100000 in
set_option maxHeartbeats 2000000 in
theorem put_any {w : World} {b : Nat} {F : Nat → Prop} {seed : Int} {s : St V} {n : Nat} (h : At w b F seed s) (hs : Sm n seed s) (hn : n + 1 ≤ 1000000000) (k : ByteArray) (v : V) (hk : k.size ≤ maxLen) :
    Calls Tryz.prog 43 #[.pointer (some ⟨b, 0, none⟩), .string k, (.pointer (some ⟨v, 0, none⟩))] w (TurnPost w b F seed (s.put k v) (.tuple #[])) := by
  obtain ⟨i0, hi, hz0, hz1, hz2⟩ := info_parts infoPair
  obtain ⟨j0, hj, hy0, hy1, hy2⟩ := info_parts infoBk
  obtain ⟨c, ea, eb, nb, gv, hat, ha, hE, hcN, hcl, hks⟩ := h
  have hf := hs.fits ha hE hcN hks
  have hrise := ha.rise
  have hcall := find_any hat hf k hk
  obtain ⟨q1, q2, q3⟩ := step_shape (H := hN seed) c
  have hpos := pos_cases hf.step k
  have hfs := hf.step
  have hcN2 : (c.step (hN seed)).N = s.buckets := q2.trans hcN
  have hE2 : (c.step (hN seed)).E ≤ (c.step (hN seed)).N := by rw [q1, q2]; exact hE
  have hl2 : (c.step (hN seed)).left = s.left - 1 := by rw [q3, hcl]
  obtain ⟨c2, hc2⟩ : ∃ c2, c.step (hN seed) = c2 := ⟨_, rfl⟩
  rw [hc2] at hcall hpos hfs hcN2 hE2 hl2
  have HS := Lib.hid (And.intro hs (And.intro hfs (And.intro hcN2 (And.intro hE2 (And.intro hl2 (And.intro hks hrise))))))
  have HP := Lib.hid hpos
  clear hat ha hE hcN hcl hks hrise hf q1 q2 q3 hpos hfs hcN2 hE2 hl2 hc2 hs
  unfold FindPost at hcall
  obtain ⟨ps, hps⟩ : ∃ ps, pos (c2.bs (c2.idx (hN seed) k)) k = ps := ⟨_, rfl⟩
  rw [hps] at hcall
  go_enter Tryz.func43, Tryz.ntmps43
  go_wp2_with fail
  refine hcall.mono ?_
  rintro e w1 ⟨F1, gv1, rfl, hm⟩
  have hidx := HS.out.2.1.abs.idx_lt k
  obtain ⟨g, i, hadr, _, cg, fg, hgb, hgr⟩ := hm.at_.loc hidx
  rw [hadr]
  have HM := Lib.hid (And.intro hm (And.intro hadr hidx))
  have HPs := Lib.hid hps
  have hbg : ¬ (g = b) := hgb
  clear hm hadr hidx hcall hps hgb
  go_upto_if 15 with (fail)
  go_cut [] from 16 to 39 (fun wx => Hid (Stored w b F seed s k v wx))
  case first =>
    rcases HP.out with ⟨hg, hkn, hp⟩ | ⟨i1, u, hi1, hp, hg, -⟩
    · rw [HPs.out] at hp
      subst hp
      have hrow := HM.out.1.at_.rows _ HM.out.2.2
      have hbl := bs_len HS.out.2.1.abs (c2.idx (hN seed) k)
      have hl1 := HS.out.2.1.len
      have c4 : w1.cell? ⟨b, 4, none⟩ = some (.int .i64 (s.L.length : Nat)) := Mem.row_cell HM.out.1.at_.blk 4
      obtain ⟨ya, yc, hsh⟩ := own_shape hrow
      have hlen : s.L.length ≤ 1000000000 := by omega
      have hbn : (c2.bs (c2.idx (hN seed) k)).length ≤ 1000000000 := by omega
      have hro := (World.ownsRow.alloc (o := .cells #[.string k, (.pointer (some ⟨v, 0, none⟩))] 145) hrow)
      have hbfar : ∀ w6, (w1.alloc (.cells #[.string k, (.pointer (some ⟨v, 0, none⟩))] 145)).grownBy w6 (gv1 (c2.idx (hN seed) k)).ownBlock → w6.heap[g]? = w1.heap[g]? ∧ w6.heap[b]? = w1.heap[b]? := fun w6 hgw => by
        have hFg : F1 g := by
          obtain ⟨g3, i3, e, hF, _⟩ := HM.out.1.at_.loc HM.out.2.2
          rw [HM.out.2.1] at e
          have e9 : g = g3 := congrArg Addr.block e
          rw [e9]; exact hF
        exact ⟨(hgw.block g (Nat.lt_of_lt_of_le (HM.out.1.at_.lt g hFg) (by simp)) (Ne.symm (hgr _ HM.out.2.2))).trans (Below.heap_alloc _ _ _ (HM.out.1.at_.lt g hFg)),
          (hgw.block b (Nat.lt_of_lt_of_le (HM.out.1.at_.lt b HM.out.1.at_.fb) (by simp)) (Ne.symm (HM.out.1.at_.row_b HM.out.2.2))).trans (Below.heap_alloc _ _ _ (HM.out.1.at_.lt b HM.out.1.at_.fb))⟩
      have hfin : ∀ g' cap' w6, w6.ownsRow 0 145 2 (.slice (some ⟨g', 0, none⟩) ((c2.bs (c2.idx (hN seed) k)).length + 1) cap') ((c2.bs (c2.idx (hN seed) k)).length + 1) (cellsP (c2.bs (c2.idx (hN seed) k)) ++ [.string k, (.pointer (some ⟨v, 0, none⟩))]) → (w1.alloc (.cells #[.string k, (.pointer (some ⟨v, 0, none⟩))] 145)).grownBy w6 (gv1 (c2.idx (hN seed) k)).ownBlock → ((gv1 (c2.idx (hN seed) k)).ownBlock = some g' ∨ g' = w1.heap.size + 1) →
          w6.cell? ⟨g, i, none⟩ = some (gv1 (c2.idx (hN seed) k)) ∧ w6.frozen? ⟨g, i, none⟩ = false ∧ w6.cell? ⟨b, 4, none⟩ = some (.int .i64 (s.L.length : Nat)) ∧ w6.frozen? ⟨b, 4, none⟩ = false ∧
          Stored w b F seed s k v ((w6.setCell ⟨g, i, none⟩ (.slice (some ⟨g', 0, none⟩) ((c2.bs (c2.idx (hN seed) k)).length + 1) cap')).setCell ⟨b, 4, none⟩ (.int .i64 ((s.L.length : Int) + 1))) := fun g' cap' w6 hown hgw hat => by
        obtain ⟨e1, e2⟩ := hbfar w6 hgw
        refine ⟨(World.cell?_of_block e1).trans cg, (World.frozen?_of_block e1).trans fg, (World.cell?_of_block e2).trans c4, (World.frozen?_of_block e2).trans (Mem.row_free HM.out.1.at_.blk 4), ?_⟩
        refine stored_new v HM.out.1 HS.out.2.1 HS.out.2.2.2.1 HS.out.2.2.1 HS.out.2.2.2.2.1 hkn HM.out.2.1 ?_ hgw hat
        unfold OwnP
        rw [List.length_append, cellsP_app]; exact hown
      have HFn := Lib.hid hfin
      obtain ⟨L, hL⟩ : ∃ L, (c2.bs (c2.idx (hN seed) k)).length = L := ⟨_, rfl⟩
      obtain ⟨X, hX⟩ : ∃ X, cellsP (c2.bs (c2.idx (hN seed) k)) = X := ⟨_, rfl⟩
      rw [hL, hX, hsh, hL] at HFn
      rw [hsh, hL] at cg
      rw [hL] at hbn
      rw [hL, hX, hsh, hL] at hro
      have HR := Lib.hid hro
      clear hrow hbl hl1 hfin hbfar hL hX hsh hgr hkn hg hro c4
      go_wp2_with (at_builtin; refine wpList_append_lies _ rfl _ _ _ rfl 0 145 i0 _ 2 24 Tryz.underlying147 hi hz0 hz1 hz2 rfl (by omega) _ L X rfl HR.out ⟨w1.heap.size, 0, none⟩ 1 1 [.string k, (.pointer (some ⟨v, 0, none⟩))] rfl rfl (World.news_of_block (Mem.new_block w1 _)) (by simp [Value.oneCell']) (by decide) (by unfold maxLen; omega) (by omega) (Nat.zero_le _) (w1.heap.size + 1) (by simp) ?_; intro gg cap w6 hown hgrow hat hlt; obtain ⟨d1, d2, d3, d4, d5⟩ := HFn.out _ _ _ hown hgrow hat; have H5 := Lib.hid d5; clear d5 hown hgrow hat hlt)
      go_meet
      exact H5
    · rw [HPs.out] at hp
      subst hp
      have hil := (List.getElem?_eq_some_iff.1 hi1).1
      have hbl := bs_len HS.out.2.1.abs (c2.idx (hN seed) k)
      have hl1 := HS.out.2.1.len
      obtain ⟨g2, cap, e2, _, _, _⟩ := own_get (HM.out.1.at_.rows _ HM.out.2.2) hi1
      have hst := stored_old v HM.out.1 HS.out.2.1 HS.out.2.2.2.1 HS.out.2.2.1 HS.out.2.2.2.2.1 hi1 e2
      have hfz : w1.frozen? ⟨g2, i1 * 2 + 1, none⟩ = false := by
        have hrow := HM.out.1.at_.rows _ HM.out.2.2
        rw [e2] at hrow
        rcases hrow.2 with ⟨e, _⟩ | ⟨g3, cap3, cur, e, _, e3, _⟩
        · cases e
        · injection e with e; injection e with e; injection e with e
          subst e
          exact Mem.row_free e3 _
      have H5 := Lib.hid hst
      have hi2 : (i1 : Int) < (c2.bs (c2.idx (hN seed) k)).length := by omega
      rw [e2] at cg
      obtain ⟨L, hL⟩ : ∃ L, (c2.bs (c2.idx (hN seed) k)).length = L := ⟨_, rfl⟩
      rw [hL] at cg hi2
      have hi3 : (i1 : Int) ≤ 1000000000 := by omega
      clear hil hbl hl1 e2 hst hL hgr hg hi1
      go_wp2_with fail
      go_meet
      exact H5
  case rest =>
    have HT := Lib.hid hcut.out
    have HS2 := Lib.hid (And.intro HS.out.1 HS.out.2.2.2.2.2)
    clear hcut HM HPs HP HS cg fg hgr hbg
    obtain ⟨F2, c3, ea2, eb2, nb2, gv2, hm, ha, hE, hN3, hl3⟩ := HT.out
    clear HT
    have hks' : ∀ p ∈ Tab.put s.L k v, p.1.size ≤ maxLen := fun p hp => by
      rcases (mem_put HS2.out.2.2 k v p).1 hp with rfl | ⟨hp, _⟩
      · exact hk
      · exact HS2.out.2.1 p hp
    have hlen := (Tab.put_len (L := s.L) k v).1
    have hsl := HS2.out.1.len
    have hbk := HS2.out.1.bk
    have hlf := ha.le
    have c4 : wc.cell? ⟨b, 4, none⟩ = some (.int .i64 ((Tab.put s.L k v).length : Nat)) := Mem.row_cell hm.at_.blk 4
    have c22 : wc.cell? ⟨b, 2, none⟩ = some (.slice (some ⟨nb2, 0, none⟩) c3.N c3.N) := Mem.row_cell hm.at_.blk 2
    have c33 : wc.cell? ⟨b, 3, none⟩ = some (.int .i64 (c3.left : Nat)) := Mem.row_cell hm.at_.blk 3
    have c11 : wc.cell? ⟨b, 1, none⟩ = some (.slice ea2 c3.E c3.E) := Mem.row_cell hm.at_.blk 1
    have f1 := Mem.row_free hm.at_.blk 1
    have f2 := Mem.row_free hm.at_.blk 2
    have f3 := Mem.row_free hm.at_.blk 3
    have hN1 : c3.N ≤ 1000000100 := by omega
    have hM1 : (Tab.put s.L k v).length ≤ 1000000100 := by omega
    have hl1 : c3.left ≤ 1000000100 := by omega
    have hput : s.put k v = if 2 * c3.N < (Tab.put s.L k v).length ∧ c3.left = 0 then ⟨Tab.put s.L k v, 2 * c3.N, c3.N⟩ else ⟨Tab.put s.L k v, c3.N, c3.left⟩ := by
      unfold St.put St.grown; rw [hN3, hl3]
    have HM := Lib.hid (And.intro hm (And.intro ha (And.intro hE (And.intro hks' hput))))
    obtain ⟨M, hM⟩ : ∃ M, (Tab.put s.L k v).length = M := ⟨_, rfl⟩
    obtain ⟨N, hN⟩ : ∃ N, c3.N = N := ⟨_, rfl⟩
    obtain ⟨lf, hlf2⟩ : ∃ lf, c3.left = lf := ⟨_, rfl⟩
    rw [hM] at c4 hM1
    rw [hN] at c22 hN1
    rw [hlf2] at c33 hl1
    have HE := Lib.hid (And.intro hM (And.intro hN hlf2))
    have hw2 : IntKind.i64.wrap (2 * (N : Int)) = 2 * (N : Int) := by rw [IntKind.wrap_i64]; omega
    clear hm ha hE hks' hlen hsl hbk hlf hput hM hN hlf2 hN3 hl3
    by_cases hg : 2 * N < M ∧ lf = 0
    · obtain ⟨hg1, rfl⟩ := hg
      have hd1 : decide (2 * (N : Int) < (M : Int)) = true := by simp only [decide_eq_true_eq]; omega
      have hd2 : decide (2 * N < M) = true := by simpa using hg1
      have hgi : 2 * (N : Int) < M := by omega
      go_wp2_with fail
      go_quiet (fail)
      go_wp2_with fail
      have htu : ∀ d, Turned wc (((wc.drewN d).setCell ⟨b, 1, none⟩ (.slice (some ⟨nb2, 0, none⟩) N N)).setCell ⟨b, 3, none⟩ (.int .i64 (N : Nat))) b (tabObj seed (.slice (some ⟨nb2, 0, none⟩) N N) (.slice (some ⟨nb2, 0, none⟩) N N) N M) := fun d => by
        have hb := HM.out.1.at_.blk
        rw [HE.out.1, HE.out.2.1, HE.out.2.2] at hb
        exact ⟨Mem.row_set (Mem.row_set (W := wc.drewN d) hb 1 _) 3 _, fun j hj => (Below.heap_setCell _ _ _ _ hj).trans (Below.heap_setCell _ _ _ _ hj), ((Only.drewN (Only.refl (· = b) wc) d).setCell (p := ⟨b, 1, none⟩) (.inl rfl) _).setCell (p := ⟨b, 3, none⟩) (.inl rfl) _⟩
      have htu2 : ∀ d, Turned wc (((wc.drewN d).setCell ⟨b, 3, none⟩ (.int .i64 (N : Nat))).setCell ⟨b, 1, none⟩ (.slice (some ⟨nb2, 0, none⟩) N N)) b (tabObj seed (.slice (some ⟨nb2, 0, none⟩) N N) (.slice (some ⟨nb2, 0, none⟩) N N) N M) := fun d => by
        have hb := HM.out.1.at_.blk
        rw [HE.out.1, HE.out.2.1, HE.out.2.2] at hb
        exact ⟨Mem.row_set (Mem.row_set (W := wc.drewN d) hb 3 _) 1 _, fun j hj => (Below.heap_setCell _ _ _ _ hj).trans (Below.heap_setCell _ _ _ _ hj), ((Only.drewN (Only.refl (· = b) wc) d).setCell (p := ⟨b, 3, none⟩) (.inl rfl) _).setCell (p := ⟨b, 1, none⟩) (.inl rfl) _⟩
      have HU := Lib.hid (And.intro htu htu2)
      clear htu htu2
      go_cut [] from 58 to 72 (fun wy => Hid (Turned wc wy b (tabObj seed (.slice (some ⟨nb2, 0, none⟩) N N) (.slice (some ⟨nb2, 0, none⟩) N N) N M)))
      case first =>
        go_region
        all_goals (go_wp2_with fail; go_meet; first | exact Lib.hid (HU.out.1 _) | exact Lib.hid (HU.out.2 _))
      case rest =>
        have c25 : wc.cell? ⟨b, 2, none⟩ = some (.slice (some ⟨nb2, 0, none⟩) N N) := Mem.row_cell hcut.out.blk 2
        have hblt : b < wc.heap.size := (Array.getElem?_eq_some_iff.1 hcut.out.blk).1
        have hfin : ∀ w5, w5.ownsRow wc.heap.size 147 1 (.slice (some ⟨wc.heap.size, 0, none⟩) (2 * N) (2 * N)) (2 * N) (madeCells (Value.slice none 0 0).cells (2 * N * 1)).toList → wc.grownBy w5 none →
            w5.cell? ⟨b, 2, none⟩ = some (.slice (some ⟨nb2, 0, none⟩) N N) ∧ w5.frozen? ⟨b, 2, none⟩ = false ∧ TurnPost w b F seed (s.put k v) (.tuple #[]) (.returned (.tuple #[])) (w5.setCell ⟨b, 2, none⟩ (.slice (some ⟨wc.heap.size, 0, none⟩) (2 * N) (2 * N))) := fun w5 hown hgw => by
          obtain ⟨hm, ha, hE, hks', hput⟩ := HM.out
          obtain ⟨h1, h2, h3⟩ := HE.out
          have ht := hcut.out
          have hb5 : w5.heap[b]? = wc.heap[b]? := hgw.block b hblt (fun e => by cases e)
          rcases hown.2 with ⟨e, _⟩ | ⟨g5, cap5, cur, e, _, hg5, _, _, hsz, htk⟩
          · cases e
          injection e with e _ e2
          injection e with e
          injection e with e
          subst e; subst e2
          have hz5 := ht.only.size
          have hz6 := hgw.size
          refine ⟨(World.cell?_of_block hb5).trans c25, (World.frozen?_of_block hb5).trans (Mem.row_free ht.blk 2), ?_⟩
          rw [hput, h1, h2, h3, if_pos ⟨hg1, rfl⟩]
          have hne : wc.heap.size ≠ b := by omega
          have hold : ∀ j, F2 j → j ≠ b → (w5.setCell ⟨b, 2, none⟩ (.slice (some ⟨wc.heap.size, 0, none⟩) (2 * N) (2 * N))).heap[j]? = _ := fun j hj hjb => (Below.heap_setCell _ _ _ _ hjb).trans ((hgw.block j (Nat.lt_of_lt_of_le (hm.at_.lt j hj) hz5) (fun e => by cases e)).trans (ht.same j hjb))
          have hgrow := hm.at_.grow (w' := w5.setCell ⟨b, 2, none⟩ (.slice (some ⟨wc.heap.size, 0, none⟩) (2 * N) (2 * N))) (nb' := wc.heap.size) (a := cur) hz5 (by rw [h2, h1]; exact Mem.row_set (hb5.trans ht.blk) 2 _) ((Below.heap_setCell _ _ _ _ hne).trans hg5) (by rw [h2]; omega) (fun j hj => made_nil hsz htk j (by rw [h2] at hj; exact hj)) hold (by simp [World.setCell]; omega)
          have hon : Only F w (w5.setCell ⟨b, 2, none⟩ (.slice (some ⟨wc.heap.size, 0, none⟩) (2 * N) (2 * N))) := by
            have o1 := hm.only.trans (ht.only.mono (F' := F2) (fun j hj => hj ▸ hm.at_.fb)) hm.grows
            exact (o1.grown hgw (fun g e => by cases e)).setCell (p := ⟨b, 2, none⟩) (hm.grows b hm.at_.fb) _
          have hmid : Mid w F (w5.setCell ⟨b, 2, none⟩ (.slice (some ⟨wc.heap.size, 0, none⟩) (2 * N) (2 * N))) b (fun j => F2 j ∨ j = wc.heap.size) seed c3.grow (Tab.put s.L k v).length (some ⟨nb2, 0, none⟩) nb2 wc.heap.size _ :=
            ⟨hgrow, hon, fun j hj => hj.elim (hm.grows j) (fun e => .inr (by have := hm.only.size; omega))⟩
          exact hmid.done (s := ⟨Tab.put s.L k v, 2 * N, N⟩) rfl (ha.grow h3) (by show c3.N ≤ 2 * c3.N; omega) (by show 2 * c3.N = 2 * N; rw [h2]) (by show c3.N = N; exact h2) hks'
        have HFn := Lib.hid hfin
        have hb24 : j0.bytes * (2 * N) ≤ 281474976710656 := by rw [hy2]; omega
        have hml : 2 * N ≤ maxLen := by unfold maxLen; omega
        clear hcut hfin hblt hd1 hd2 hgi hg1 c4 c22 c33 c11 f1 f2 f3
        go_wp2_with (at_make; refine wpList_make_full _ rfl _ _ _ rfl wc.heap.size 147 j0 _ 1 Tryz.underlying101 hj hy0 hy1 .i64 .i64 (2 * (N : Int)) (2 * (N : Int)) (2 * N) rfl rfl (by omega) (by omega) hb24 hml (Nat.le_refl _) ?_; intro w5 hown hgw; obtain ⟨d1, d2, d3⟩ := HFn.out w5 hown hgw; have H5 := Lib.hid d3; clear d3 hown hgw)
        go_end0
        exact H5.out
    · have hd : (2 * N < M ∧ (lf : Int) ≠ 0) ∨ ¬ 2 * N < M := by omega
      have hfin : ∀ d, TurnPost w b F seed (s.put k v) (.tuple #[]) (.returned (.tuple #[])) (wc.drewN d) := fun d => by
        obtain ⟨hm, ha, hE, hks', hput⟩ := HM.out
        obtain ⟨h1, h2, h3⟩ := HE.out
        rw [hput, h1, h2, h3, if_neg hg]
        have hm2 : Mid w F (wc.drewN d) b F2 seed c3 (Tab.put s.L k v).length ea2 eb2 nb2 gv2 := ⟨hm.at_.same (fun _ _ => rfl) (Nat.le_refl _), hm.only.drewN d, hm.grows⟩
        exact hm2.done (s := ⟨Tab.put s.L k v, N, lf⟩) rfl ha hE h2 h3 hks'
      have HFn := Lib.hid hfin
      clear hfin
      rcases hd with ⟨hd, hl0⟩ | hd
      · have hd1 : decide (2 * (N : Int) < (M : Int)) = true := by simp only [decide_eq_true_eq]; omega
        have hd2 : decide (2 * N < M) = true := by simpa using hd
        have hd3 : ((lf : Int) == 0) = false := by simpa using hl0
        clear hg hl0
        go_wp2_with fail
        go_quiet (fail)
        go_wp2_with fail
        go_end0
        exact HFn.out _
      · have hd1 : decide (2 * (N : Int) < (M : Int)) = false := by simp only [decide_eq_false_iff_not]; omega
        have hd2 : decide (2 * N < M) = false := by simpa using hd
        clear hg
        go_wp2_with fail
        go_quiet (fail)
        go_wp2_with fail
        go_end0
        exact HFn.out _
end Go.Proofs.YteonjgnnpgpnnaaGreat.TabE

/- Layer 9: slices.Delete of one pair. -/
namespace Go.Proofs.YteonjgnnpgpnnaaGreat.TabE
open Go Go.RowKit Go.Proofs.YteonjgnnpgpnnaaGreat.Mem Go.Proofs.YteonjgnnpgpnnaaGreat.Tab

abbrev zeros : List Value := [.string ⟨#[]⟩, (.pointer none)]
theorem run_clear_one {w : World} (ty : TypeId) {g o c : Nat} {cs : Array Value} (hb : w.heap[g]? = some (.cells cs 145 (0, 0))) (ho : o + 2 ≤ cs.size) :
    (Builtin.clear_ #[147] ty #[.slice (some ⟨g, o, none⟩) 1 c]).run Tryz.prog w = .ok (.tuple #[]) (w.setCells g o zeros) := by
  have hst := run_storeCells_cells (P := Tryz.prog) g o zeros 0 w (fun j hj => by
    have : j < 2 := hj
    rw [Mem.row_cell hb, Nat.add_zero, Array.getElem?_eq_getElem (by omega)]; rfl) (fun j _ => Mem.row_free hb _) (by intro v hv; simp at hv; rcases hv with rfl | rfl <;> rfl)
  simp only [Nat.add_zero] at hst
  have hz : (Builtin.zeroCells (Value.agg #[.string ⟨#[]⟩, (.pointer none)]).cells 1).toList = zeros := by kernel_rfl
  simp [Builtin.clear_, run_underlying Tryz.underlying147, hz, hst]
theorem cellsP_take (l : Pairs V) (k : Nat) : cellsP (l.take k) = (cellsP l).take (k * 2) := by
  rcases Nat.lt_or_ge k l.length with h | h
  · conv => rhs; rw [← List.take_append_drop k l]
    rw [cellsP_app, List.take_left']
    rw [cellsP_len, List.length_take]; omega
  · rw [List.take_of_length_le h, List.take_of_length_le (by rw [cellsP_len]; omega)]
theorem cellsP_drop (l : Pairs V) (k : Nat) : cellsP (l.drop k) = (cellsP l).drop (k * 2) := by
  rcases Nat.lt_or_ge k l.length with h | h
  · conv => rhs; rw [← List.take_append_drop k l]
    rw [cellsP_app, List.drop_left']
    rw [cellsP_len, List.length_take]; omega
  · rw [List.drop_of_length_le h, List.drop_of_length_le (by rw [cellsP_len]; omega)]; rfl
/-- The row behind the two stores. -/
theorem row_erased {w : World} {g cap i m : Nat} {l : Pairs V} (h : OwnP w (.slice (some ⟨g, 0, none⟩) (i + 1 + m) cap) l) (hl : l.length = i + 1 + m) :
    OwnP ((w.setCells g (i * 2) (cellsP (l.drop (i + 1)))).setCells g ((i + m) * 2) zeros) (.slice (some ⟨g, 0, none⟩) (i + m) cap) (l.eraseIdx i) ∧ ∃ cs, (w.setCells g (i * 2) (cellsP (l.drop (i + 1)))).heap[g]? = some (.cells cs 145 (0, 0)) ∧ (i + m) * 2 + 2 ≤ cs.size := by
  have hel : (l.eraseIdx i).length = i + m := by rw [List.length_eraseIdx, if_pos (by omega)]; omega
  have hdl : (cellsP (l.drop (i + 1))).length = m * 2 := by rw [cellsP_len, List.length_drop]; omega
  rcases h.2 with ⟨e, _⟩ | ⟨g', cap', cur, e, h2, h3, h4, h5, h6, h7⟩
  · cases e
  injection e with e e1 e2
  injection e with e
  injection e with e
  subst e; subst e2
  rw [hl] at h4 h7
  have hb1 := Mem.set_cells (cellsP (l.drop (i + 1))) (i * 2) cur h3
  have hb2 := Mem.set_cells zeros ((i + m) * 2) _ hb1
  refine ⟨⟨by rw [cellsP_len], .inr ⟨g, cap, _, by rw [hel], h2, hb2, by rw [hel]; omega, h5, by rw [lay_size, lay_size]; exact h6, ?_⟩⟩, _, hb1, by rw [lay_size]; omega⟩
  rw [hel]
  refine List.ext_getElem? fun j => ?_
  rw [List.getElem?_take]
  rw [List.eraseIdx_eq_take_drop_succ, cellsP_app, cellsP_take]
  by_cases hj : j < (i + m) * 2
  · rw [if_pos hj, Array.getElem?_toList, lay_out zeros _ _ j (.inl hj)]
    have hl2 : ((cellsP l).take (i * 2)).length = i * 2 := by rw [List.length_take, cellsP_len]; omega
    by_cases hj2 : j < i * 2
    · rw [lay_out _ _ _ j (.inl hj2), List.getElem?_append_left (by omega), List.getElem?_take, if_pos hj2, ← h7, List.getElem?_take, if_pos (by omega), Array.getElem?_toList]
    · rw [lay_in _ _ _ j (by rw [hdl]; omega) (by omega) (by rw [hdl]; omega), List.getElem?_append_right (by omega), hl2]
  · rw [if_neg hj]
    symm
    rw [List.getElem?_eq_none_iff, List.length_append, List.length_take, cellsP_len, hdl]
    omega
theorem Only.two {F : Nat → Prop} {w : World} {g : Nat} (hF : F g) (o1 o2 : Nat) (xs ys : List Value) (d : Nat) : Only F w (((w.drewN d).setCells g o1 xs).setCells g o2 ys) := Only.setCells (.inl hF) ys o2 (Only.setCells (.inl hF) xs o1 (Only.drewN (Only.refl F w) d))
def ErasedPost (w : World) (g cap i m : Nat) (l : Pairs V) (e : Ending) (w' : World) : Prop :=
  e = .returned (.slice (some ⟨g, 0, none⟩) (i + m) cap) ∧ ∃ d, w' = ((w.drewN d).setCells g (i * 2) (cellsP (l.drop (i + 1)))).setCells g ((i + m) * 2) zeros
set_option maxHeartbeats 1000000 in
theorem erase_any {w : World} {g cap i m : Nat} {l : Pairs V} (h : OwnP w (.slice (some ⟨g, 0, none⟩) (i + 1 + m) cap) l) (hl : l.length = i + 1 + m) (hb : i + 1 + m ≤ 1000000000) :
    Calls Tryz.prog 89 #[.slice (some ⟨g, 0, none⟩) (i + 1 + m) cap, .int .i64 i, .int .i64 ((i : Int) + 1)] w (ErasedPost w g cap i m l) := by
  obtain ⟨i0, hi, hz0, hz1, hz2⟩ := info_parts infoPair
  have her := row_erased h hl
  have hdl : (cellsP (l.drop (i + 1))).length = m * 2 := by rw [cellsP_len, List.length_drop]; omega
  rcases h.2 with ⟨e, _⟩ | ⟨g', cap', cur, e, h2, h3, h4, h5, h6, h7⟩
  · cases e
  injection e with e e1 e2
  injection e with e
  injection e with e
  subst e; subst e2
  rw [hl] at h4 h7
  unfold maxLen at h5
  obtain ⟨A, hA, hnews⟩ : ∃ A : Addr, (if cap = i + 1 then some (⟨g, 0, none⟩ : Addr) else some ⟨g, (i + 1) * 2, none⟩) = some A ∧ Hid (∀ j u, (cellsP (l.drop (i + 1)))[j]? = some u → w.drew.cell? (A.add j) = some u) := by
    by_cases hc : cap = i + 1
    · refine ⟨⟨g, 0, none⟩, by simp [hc], fun j u hu => ?_⟩
      have h0 : (cellsP (l.drop (i + 1))).length = 0 := by rw [hdl]; omega
      rw [List.length_eq_zero_iff.1 h0] at hu
      simp at hu
    · refine ⟨⟨g, (i + 1) * 2, none⟩, by simp [hc], fun j u hu => ?_⟩
      rw [Addr.add_lit]
      show w.cell? _ = _
      rw [Mem.row_cell h3]
      have hj : j < m * 2 := by have := (List.getElem?_eq_some_iff.1 hu).1; rwa [hdl] at this
      rw [cellsP_drop, List.getElem?_drop, ← h7, List.getElem?_take, if_pos (by omega), Array.getElem?_toList] at hu
      exact hu
  have s1 : Hid ((cellsP (l.drop (i + 1))).length = m * 2) := hdl
  have s2 : Hid (∀ u ∈ cellsP (l.drop (i + 1)), u.oneCell' = true) := one_cellsP _
  have s3 : Hid (∀ j, j < (cellsP (l.drop (i + 1))).length → (w.drew.cell? ⟨g, 0 + i * 2 + j, none⟩).isSome = true ∧ w.drew.frozen? ⟨g, 0 + i * 2 + j, none⟩ = false) := by
    intro j hj
    rw [hdl] at hj
    refine ⟨?_, Mem.row_free (W := w.drew) h3 _⟩
    show (w.cell? _).isSome = true
    rw [Mem.row_cell h3, Array.getElem?_eq_getElem (by omega)]; rfl
  have s4 : Hid (cap ≠ i + m) := by intro e; omega
  have hcl := fun ty => run_clear_one (w := w.drew.setCells g (i * 2) (cellsP (l.drop (i + 1)))) ty (g := g) (o := (i + m) * 2) (c := cap - (i + m)) (cs := lay cur (i * 2) (cellsP (l.drop (i + 1)))) (Mem.set_cells (W := w.drew) _ _ _ h3) (by rw [lay_size]; omega)
  have hic : i ≤ cap := by omega
  have hi1 : i + 1 ≤ i + 1 + m := by omega
  have hlen2 : i + 1 + m - (i + 1) = m := by omega
  have hlen3 : i + 1 + m - (i + m) = 1 := by omega
  have hwr : IntKind.i64.wrap ((i : Int) + 1) = (i : Int) + 1 := by rw [IntKind.wrap_i64]; omega
  have hne : ((i : Int) == (i : Int) + 1) = false := by simp; omega
  have hp0 : (0 : Int) ≤ (i : Int) + 1 := by omega
  have hp3 : (i : Int) + 1 ≤ (i : Int) + 1 + m := by omega
  have hp4 : (i : Int) + m ≤ (i : Int) + 1 + m := by omega
  have hp5 : (0 : Int) ≤ (i : Int) + m := by omega
  have hp6 : (0 : Int) ≤ (i : Int) + 1 + m := by omega
  have hp7 : ((i : Int) + m).toNat = i + m := by omega
  have hp8 : ((i : Int) + 1 + m).toNat = i + 1 + m := by omega
  have hp9 : (i : Int) + 1 + m ≤ cap := by omega
  have hp2 : ((i : Int) + 1).toNat = i + 1 := by omega
  clear h her hl h3 h7 hdl e1
  go_enter Tryz.func89, Tryz.ntmps89
  go_wp2_with fail
  go_region_law (refine step_append_room rfl (.tmp 22) (.tmp 25) 147 rfl 145 i0 2 Tryz.underlying147 hi hz1 g 0 i cap (by simp [Act.eval, Act.put]) A m (cap - (i + 1)) (cellsP (l.drop (i + 1))) (by simp [Act.eval, Act.put]) s1.out hnews.out s2.out (by omega) s3.out ?_)
  all_goals go_wp2_with fail
  go_ret
  exact ⟨rfl, 1, rfl⟩
end Go.Proofs.YteonjgnnpgpnnaaGreat.TabE

/- Layer 9: Delete. -/
namespace Go.Proofs.YteonjgnnpgpnnaaGreat.TabE
open Go Go.RowKit Go.Proofs.YteonjgnnpgpnnaaGreat.Mem Go.Proofs.YteonjgnnpgpnnaaGreat.Tab

theorem erased_done {w w1 : World} {b : Nat} {F F1 : Nat → Prop} {seed : Int} {s : St V} {c : Con V} {ea : Option Addr} {eb nb n g i g2 i1 m cap : Nat} {gv : Nat → Value} {k : ByteArray} {u : V} (h : Mid w F w1 b F1 seed c s.L.length ea eb nb gv) (hf : Fits n seed c s.L)
    (hE : c.E ≤ c.N) (hNb : c.N = s.buckets) (hl : c.left = s.left - 1) (hadr : adr c eb nb (c.idx (hN seed) k) = ⟨g, i, none⟩) (hi : (c.bs (c.idx (hN seed) k))[i1]? = some (k, u)) (hg : gv (c.idx (hN seed) k) = .slice (some ⟨g2, 0, none⟩) (i1 + 1 + m) cap) (hm : (c.bs (c.idx (hN seed) k)).length = i1 + 1 + m) (d : Nat) :
    TurnPost w b F seed (s.del k) (.bool true) (.returned (.bool true)) (((((w1.drewN d).setCells g2 (i1 * 2) (cellsP ((c.bs (c.idx (hN seed) k)).drop (i1 + 1)))).setCells g2 ((i1 + m) * 2) zeros).setCell ⟨g, i, none⟩ (.slice (some ⟨g2, 0, none⟩) (i1 + m) cap)).setCell ⟨b, 4, none⟩ (.int .i64 ((s.L.length : Int) - 1))) := by
  have hidx := hf.abs.idx_lt k
  have hrow := h.at_.rows _ hidx
  rw [hg] at hrow
  have hkm : k ∈ s.L.map (·.1) := (hf.abs.find k).1 (List.mem_map.2 ⟨_, List.mem_of_getElem? hi, rfl⟩)
  have hdl := del_len hf.abs.rise hkm
  have her := (row_erased (w := w1.drewN d) (i := i1) (m := m) (row_same hrow fun _ _ => rfl) hm).1
  have hFg2 : F1 g2 := h.at_.fr _ hidx g2 (by rw [hg]; rfl)
  have hother : ∀ j, j ≠ g2 → (((w1.drewN d).setCells g2 (i1 * 2) (cellsP ((c.bs (c.idx (hN seed) k)).drop (i1 + 1)))).setCells g2 ((i1 + m) * 2) zeros).heap[j]? = w1.heap[j]? := fun j hj => (Mem.set_cells_far _ _ hj).trans (Mem.set_cells_far _ _ hj)
  have hsz : (((w1.drewN d).setCells g2 (i1 * 2) (cellsP ((c.bs (c.idx (hN seed) k)).drop (i1 + 1)))).setCells g2 ((i1 + m) * 2) zeros).heap.size = w1.heap.size := (Mem.set_cells_size _ _).trans (Mem.set_cells_size _ _)
  have hon := Only.two (F := F1) (w := w1) hFg2 (i1 * 2) ((i1 + m) * 2) (cellsP ((c.bs (c.idx (hN seed) k)).drop (i1 + 1))) zeros d
  generalize ((w1.drewN d).setCells g2 (i1 * 2) (cellsP ((c.bs (c.idx (hN seed) k)).drop (i1 + 1)))).setCells g2 ((i1 + m) * 2) zeros = w5 at *
  have h1 := h.at_.setRow hidx (w' := w5) (v := .slice (some ⟨g2, 0, none⟩) (i1 + m) cap) (x := (c.bs (c.idx (hN seed) k)).eraseIdx i1) (fun j hj hn => hother j (fun e => by rw [hg] at hn; exact hn (by rw [e]; rfl))) (by omega) (by
    unfold OwnP
    rw [show ((c.bs (c.idx (hN seed) k)).eraseIdx i1).length = i1 + m from by rw [List.length_eraseIdx, if_pos (by omega)]; omega]
    have := her
    unfold OwnP at this
    rwa [show ((c.bs (c.idx (hN seed) k)).eraseIdx i1).length = i1 + m from by rw [List.length_eraseIdx, if_pos (by omega)]; omega] at this) (fun g3 e => .inl (by rw [hg]; exact e))
  rw [hadr] at h1
  have hFg : F1 g := by
    obtain ⟨g3, i3, e, hF, _⟩ := h.at_.loc hidx
    rw [hadr] at e; injection e with e; rw [e]; exact hF
  have h2 := h1.setBlk (w' := (w5.setCell ⟨g, i, none⟩ (.slice (some ⟨g2, 0, none⟩) (i1 + m) cap)).setCell ⟨b, 4, none⟩ (.int .i64 ((s.L.length : Int) - 1))) c.left (Tab.del s.L k).length (by
    have := Mem.row_set h1.blk 4 (.int .i64 ((s.L.length : Int) - 1))
    rw [show ((s.L.length : Int) - 1) = (((Tab.del s.L k).length : Nat) : Int) from by omega] at this ⊢
    exact this) (fun j hj => Below.heap_setCell _ _ _ _ hj) (by simp [World.setCell])
  have hmid : Mid w F ((w5.setCell ⟨g, i, none⟩ (.slice (some ⟨g2, 0, none⟩) (i1 + m) cap)).setCell ⟨b, 4, none⟩ (.int .i64 ((s.L.length : Int) - 1))) b _ seed _ (Tab.del s.L k).length ea eb nb _ :=
    ⟨h2, ((h.only.trans hon h.grows).setCell (p := ⟨g, i, none⟩) (h.grows g hFg) _).setCell (p := ⟨b, 4, none⟩) (h.grows b h.at_.fb) _, fun j hj => hj.elim (h.grows j) (fun e => by
      have e2 : g2 = j := by simpa [Value.ownBlock] using e
      subst e2; exact h.grows _ hFg2)⟩
  exact hmid.done (s := s.del k) rfl (hf.abs.erase hi) hE hNb hl (fun p hp => hf.keys p (mem_del.1 hp).1)
set_option maxHeartbeats 1000000 in
theorem delete_any {w : World} {b : Nat} {F : Nat → Prop} {seed : Int} {s : St V} {n : Nat} (h : At w b F seed s) (hs : Sm n seed s) (k : ByteArray) (hk : k.size ≤ maxLen) :
    Calls Tryz.prog 64 #[.pointer (some ⟨b, 0, none⟩), .string k] w (TurnPost w b F seed (s.del k) (.bool (Tab.get s.L k).isSome)) := by
  obtain ⟨c, ea, eb, nb, gv, hat, ha, hE, hcN, hcl, hks⟩ := h
  have hf := hs.fits ha hE hcN hks
  have hcall := find_any hat hf k hk
  obtain ⟨q1, q2, q3⟩ := step_shape (H := hN seed) c
  have hpos := pos_cases hf.step k
  have hfs := hf.step
  have hcN2 : (c.step (hN seed)).N = s.buckets := q2.trans hcN
  have hE2 : (c.step (hN seed)).E ≤ (c.step (hN seed)).N := by rw [q1, q2]; exact hE
  have hl2 : (c.step (hN seed)).left = s.left - 1 := by rw [q3, hcl]
  obtain ⟨c2, hc2⟩ : ∃ c2, c.step (hN seed) = c2 := ⟨_, rfl⟩
  rw [hc2] at hcall hpos hfs hcN2 hE2 hl2
  have hidx := hfs.abs.idx_lt k
  have hsl := hs.len
  have hsn := hs.nle
  have hbl := bs_len hfs.abs (c2.idx (hN seed) k)
  have HS := Lib.hid (And.intro hfs (And.intro hcN2 (And.intro hE2 (And.intro hl2 (And.intro hks hidx)))))
  clear hat ha hE hcN hcl hks hf q1 q2 q3 hfs hcN2 hE2 hl2 hc2 hs hidx
  unfold FindPost at hcall
  rcases hpos with ⟨hg, hkn, hp⟩ | ⟨i1, u, hi1, hp, hg, -⟩
  · rw [hp] at hcall
    rw [show (Tab.get s.L k).isSome = false from by rw [hg]; rfl]
    have hd : s.del k = s.tick := by unfold St.del St.tick; rw [del_none hkn]
    rw [hd]
    obtain ⟨ad, had⟩ : ∃ ad, adr c2 eb nb (c2.idx (hN seed) k) = ad := ⟨_, rfl⟩
    rw [had] at hcall
    clear hp hg hkn hd had hsl hbl
    go_enter Tryz.func64, Tryz.ntmps64
    go_wp2_with fail
    refine hcall.mono ?_
    rintro e w1 ⟨F1, gv1, rfl, hm⟩
    have hfin : ∀ v, TurnPost w b F seed s.tick v (.returned v) w1 := fun v => hm.done (s := s.tick) rfl HS.out.1.abs HS.out.2.2.1 HS.out.2.1 HS.out.2.2.2.1 HS.out.2.2.2.2.1
    have HR := Lib.hid hfin
    clear hm hcall hfin
    go_wp2_with fail
    go_ret
    exact HR.out _
  · rw [hp] at hcall
    rw [show (Tab.get s.L k).isSome = true from by rw [hg]; rfl]
    have hil := (List.getElem?_eq_some_iff.1 hi1).1
    obtain ⟨m, hm⟩ : ∃ m, (c2.bs (c2.idx (hN seed) k)).length = i1 + 1 + m := ⟨(c2.bs (c2.idx (hN seed) k)).length - (i1 + 1), by omega⟩
    have hmb : i1 + 1 + m ≤ 1000000000 := by omega
    have hLb : (s.L.length : Int) ≤ 1000000000 := by omega
    have HI := Lib.hid (And.intro hi1 hm)
    have hw1 : IntKind.i64.wrap ((i1 : Int) + 1) = (i1 : Int) + 1 := by rw [IntKind.wrap_i64]; omega
    clear hp hg hil hsl hbl hi1 hm
    go_enter Tryz.func64, Tryz.ntmps64
    go_wp2_with fail
    refine hcall.mono ?_
    rintro e w1 ⟨F1, gv1, rfl, hm⟩
    obtain ⟨g, i, hadr, hFg, cg, fg, hgb, hgr⟩ := hm.at_.loc HS.out.2.2.2.2.2
    rw [hadr]
    have hrow := hm.at_.rows _ HS.out.2.2.2.2.2
    obtain ⟨g2, cap, e2, _, _, _⟩ := own_get hrow HI.out.1
    rw [HI.out.2] at e2
    rw [e2] at cg hrow
    have hgg : g ≠ g2 := fun e => hgr _ HS.out.2.2.2.2.2 (by rw [e2, e]; rfl)
    have hbg : b ≠ g2 := fun e => hm.at_.row_b HS.out.2.2.2.2.2 (by rw [e2, e]; rfl)
    have c4 : w1.cell? ⟨b, 4, none⟩ = some (.int .i64 (s.L.length : Nat)) := Mem.row_cell hm.at_.blk 4
    have f4 := Mem.row_free hm.at_.blk 4
    have hfin : ∀ d, TurnPost w b F seed (s.del k) (.bool true) (.returned (.bool true)) (((((w1.drewN d).setCells g2 (i1 * 2) (cellsP ((c2.bs (c2.idx (hN seed) k)).drop (i1 + 1)))).setCells g2 ((i1 + m) * 2) zeros).setCell ⟨g, i, none⟩ (.slice (some ⟨g2, 0, none⟩) (i1 + m) cap)).setCell ⟨b, 4, none⟩ (.int .i64 ((s.L.length : Int) - 1))) := fun d =>
      erased_done hm HS.out.1 HS.out.2.2.1 HS.out.2.1 HS.out.2.2.2.1 hadr HI.out.1 e2 HI.out.2 d
    have her := erase_any hrow HI.out.2 hmb
    have hfar : ∀ d j, j ≠ g2 → (((w1.drewN d).setCells g2 (i1 * 2) (cellsP ((c2.bs (c2.idx (hN seed) k)).drop (i1 + 1)))).setCells g2 ((i1 + m) * 2) zeros).heap[j]? = w1.heap[j]? := fun d j hj => (Mem.set_cells_far _ _ hj).trans (Mem.set_cells_far _ _ hj)
    have hfacts : ∀ d, (((w1.drewN d).setCells g2 (i1 * 2) (cellsP ((c2.bs (c2.idx (hN seed) k)).drop (i1 + 1)))).setCells g2 ((i1 + m) * 2) zeros).cell? ⟨g, i, none⟩ = some (.slice (some ⟨g2, 0, none⟩) (i1 + 1 + m) cap) ∧ (((w1.drewN d).setCells g2 (i1 * 2) (cellsP ((c2.bs (c2.idx (hN seed) k)).drop (i1 + 1)))).setCells g2 ((i1 + m) * 2) zeros).frozen? ⟨g, i, none⟩ = false ∧
        (((w1.drewN d).setCells g2 (i1 * 2) (cellsP ((c2.bs (c2.idx (hN seed) k)).drop (i1 + 1)))).setCells g2 ((i1 + m) * 2) zeros).cell? ⟨b, 4, none⟩ = some (.int .i64 (s.L.length : Nat)) ∧ (((w1.drewN d).setCells g2 (i1 * 2) (cellsP ((c2.bs (c2.idx (hN seed) k)).drop (i1 + 1)))).setCells g2 ((i1 + m) * 2) zeros).frozen? ⟨b, 4, none⟩ = false := fun d =>
      ⟨(World.cell?_of_block (hfar d g hgg)).trans cg, (World.frozen?_of_block (hfar d g hgg)).trans fg, (World.cell?_of_block (hfar d b hbg)).trans c4, (World.frozen?_of_block (hfar d b hbg)).trans f4⟩
    have HF := Lib.hid (And.intro hfin hfacts)
    have hgb2 : ¬ (g = b) := hgb
    clear hm hrow e2 hfin hfacts hfar hgr hadr hFg hcall c4 f4 hgb hgg hbg
    unfold ErasedPost at her
    go_wp2_with fail
    refine her.mono ?_
    rintro e w5 ⟨rfl, d, hw5⟩
    have HF1 := Lib.hid (HF.out.1 d)
    obtain ⟨g1, g3, g4, g5⟩ := HF.out.2 d
    rw [← hw5] at HF1 g1 g3 g4 g5
    clear hw5 her HF cg fg
    go_wp2_with fail
    go_ret
    exact HF1.out
end Go.Proofs.YteonjgnnpgpnnaaGreat.TabE

/- Layer 11: a shard's state, and where its parts lie: each block has a colour. -/
namespace Go.Proofs.YteonjgnnpgpnnaaGreat.Shard
open Go Go.RowKit Go.Proofs.YteonjgnnpgpnnaaGreat.Mem Go.Proofs.YteonjgnnpgpnnaaGreat.App

structure Addrs where
  sb : Nat
  tb : Nat
  mb : Nat
  ob : Nat
  jb : Nat
  fb : Nat
  cb : Nat
def shardObj (ad : Addrs) (vd : Value) : Obj := .cells #[.pointer (some ⟨ad.tb, 0, none⟩), .pointer (some ⟨ad.mb, 0, none⟩), .pointer (some ⟨ad.ob, 0, none⟩), .pointer (some ⟨ad.jb, 0, none⟩), vd] 66 (0, 0)
structure Parts (W w : World) (n : Nat) (hl : Nat → Prop) (col : Col) (ad : Addrs) (seed : Int) (s : St) (vd : Value) (vv : Nat → Value) : Prop where
  self : w.heap[ad.sb]? = some (shardObj ad vd)
  csb : col ad.sb = some .self
  tab : ∃ F, TabE.At w ad.tb F seed s.tab ∧ ∀ k, F k → col k = some .table
  sm : TabE.Sm n seed s.tab
  slab : ∃ F, Slab.At w ad.mb F s.slab ∧ ∀ k, F k → col k = some .slab
  order : ∃ F, Slru.At w ad.ob F s.order ∧ ∀ k, F k → col k = some .order
  judge : Tiny.Run W w ad.jb ad.fb ad.cb s.judge
  cj : col ad.jb = some .judge ∧ col ad.fb = some .judge ∧ col ad.cb = some .judge
  drops : w.ownsRow 0 9 1 vd s.drops.length (cellsS s.drops)
  cd : ∀ g, vd.ownBlock = some g → col g = some .drops
  ents : ∀ p ∈ s.tab.L, ¬ hl p.2 → w.heap[p.2]? = some (.cells ((s.ent p.2).arr (vv p.2)) 95 (0, 0)) ∧ OwnB w 0 (vv p.2) (s.ent p.2).it.val ∧ (s.ent p.2).it.key = p.1 ∧ col p.2 = some (.ent p.2) ∧ ∀ g, (vv p.2).ownBlock = some g → col g = some (.ent p.2) ∧ g ≠ p.2
  lt : ∀ k p, col k = some p → W.heap.size ≤ k ∧ k < w.heap.size
  below : Below W.heap.size W w
section
variable {W w w' : World} {n m : Nat} {hl hl' : Nat → Prop} {col : Col} {ad : Addrs} {seed : Int} {s : St} {vd : Value} {vv : Nat → Value} {p : Part}
/-- A part of another colour is as it was. -/
theorem Parts.far (h : Parts W w n hl col ad seed s vd vv) (ho : Only (Of col p) w w') {k : Nat} {q : Part} (hk : col k = some q) (hq : q ≠ p) : w'.heap[k]? = w.heap[k]? :=
  ho.same k (h.lt k q hk).2 (fun e => hq (by unfold Of at e; rw [hk] at e; injection e))
theorem Parts.recol_of (h : Parts W w n hl col ad seed s vd vv) {k : Nat} {q : Part} (hk : col k = some q) : recol col w w' p k = some q := by rw [recol_old (h.lt k q hk).2]; exact hk
theorem Parts.recol_lt (h : Parts W w n hl col ad seed s vd vv) (hz : w.heap.size ≤ w'.heap.size) : ∀ k q, recol col w w' p k = some q → W.heap.size ≤ k ∧ k < w'.heap.size := fun k q hk => by
  unfold recol at hk
  have hW := h.below.size
  by_cases h1 : k < w.heap.size
  · rw [if_pos h1] at hk
    have := h.lt k q hk; omega
  · rw [if_neg h1] at hk
    by_cases h2 : k < w'.heap.size
    · omega
    · rw [if_neg h2] at hk; cases hk
theorem Parts.onlyBelow (h : Parts W w n hl col ad seed s vd vv) (ho : Only (Of col p) w w') : Below W.heap.size W w' :=
  Below.trans h.below (ho.below h.below.size (fun k hk => (h.lt k p hk).1))
theorem Parts.judgeFar (h : Parts W w n hl col ad seed s vd vv) (ho : Only (Of col p) w w') (hp : Part.judge ≠ p) : Tiny.Run W w' ad.jb ad.fb ad.cb s.judge :=
  h.judge.other ho (fun k hk => by
    have h0 : ∀ j, col j = some Part.judge → j ≠ k := fun j hj e => hp (by unfold Of at hk; rw [← e, hj] at hk; injection hk)
    exact ⟨⟨h0 _ h.cj.1, h0 _ h.cj.2.1, h0 _ h.cj.2.2⟩, (h.lt k p hk).1⟩)
theorem Parts.entsFar (h : Parts W w n hl col ad seed s vd vv) (ho : Only (Of col p) w w') (hp : ∀ m, Part.ent m ≠ p) : ∀ q ∈ s.tab.L, ¬ hl q.2 → w'.heap[q.2]? = some (.cells ((s.ent q.2).arr (vv q.2)) 95 (0, 0)) ∧ OwnB w' 0 (vv q.2) (s.ent q.2).it.val ∧ (s.ent q.2).it.key = q.1 ∧ recol col w w' p q.2 = some (.ent q.2) ∧ ∀ g, (vv q.2).ownBlock = some g → recol col w w' p g = some (.ent q.2) ∧ g ≠ q.2 := fun q hq hn => by
  obtain ⟨h1, h2, h3, h4, h5⟩ := h.ents q hq hn
  exact ⟨(h.far ho h4 (hp _)).trans h1, row_keep h2 fun g e => h.far ho (h5 g e).1 (hp _), h3, h.recol_of h4, fun g e => ⟨h.recol_of (h5 g e).1, (h5 g e).2⟩⟩
theorem Parts.onlyOf {F : Nat → Prop} (hF : ∀ k, F k → col k = some p) (ho : Only F w w') : Only (Of col p) w w' := ho.mono hF
/-- The table's turn. -/
theorem Parts.turnTab (h : Parts W w n hl col ad seed s vd vv) {F F' : Nat → Prop} {t : Tab.St Nat} (hF : ∀ k, F k → col k = some .table) (ha : TabE.At w' ad.tb F' seed t) (ho : Only F w w') (hg : Grows w F F') (hs : TabE.Sm m seed t)
    (hL : ∀ q ∈ t.L, ¬ hl' q.2 → q ∈ s.tab.L ∧ ¬ hl q.2) : Parts W w' m hl' (recol col w w' .table) ad seed { s with tab := t } vd vv := by
  have hoc := Parts.onlyOf hF ho
  obtain ⟨Fs, hs1, hs2⟩ := h.slab
  obtain ⟨Fo, ho1, ho2⟩ := h.order
  exact ⟨(h.far hoc h.csb (by decide)).trans h.self, h.recol_of h.csb, ⟨F', ha, recol_grow hF hg ha.lt⟩, hs,
    ⟨Fs, hs1.same (fun k hk => h.far hoc (hs2 k hk) (by decide)) hoc.size, fun k hk => h.recol_of (hs2 k hk)⟩,
    ⟨Fo, ho1.same (fun k hk => h.far hoc (ho2 k hk) (by decide)) hoc.size, fun k hk => h.recol_of (ho2 k hk)⟩,
    h.judgeFar hoc (by decide), ⟨h.recol_of h.cj.1, h.recol_of h.cj.2.1, h.recol_of h.cj.2.2⟩,
    row_keep h.drops fun g e => h.far hoc (h.cd g e) (by decide), fun g e => h.recol_of (h.cd g e),
    fun q hq hn => h.entsFar hoc (fun _ e => by cases e) q (hL q hq hn).1 (hL q hq hn).2, h.recol_lt hoc.size, h.onlyBelow hoc⟩
/-- The slab's turn. -/
theorem Parts.turnSlab (h : Parts W w n hl col ad seed s vd vv) {F F' : Nat → Prop} {t : Slab.St} (hF : ∀ k, F k → col k = some .slab) (ha : Slab.At w' ad.mb F' t) (hlt : ∀ k, F' k → k < w'.heap.size) (ho : Only F w w') (hg : Grows w F F') :
    Parts W w' n hl (recol col w w' .slab) ad seed { s with slab := t } vd vv := by
  have hoc := Parts.onlyOf hF ho
  obtain ⟨Ft, ht1, ht2⟩ := h.tab
  obtain ⟨Fo, ho1, ho2⟩ := h.order
  exact ⟨(h.far hoc h.csb (by decide)).trans h.self, h.recol_of h.csb, ⟨Ft, ht1.same (fun k hk => h.far hoc (ht2 k hk) (by decide)) hoc.size, fun k hk => h.recol_of (ht2 k hk)⟩, h.sm,
    ⟨F', ha, recol_grow hF hg hlt⟩,
    ⟨Fo, ho1.same (fun k hk => h.far hoc (ho2 k hk) (by decide)) hoc.size, fun k hk => h.recol_of (ho2 k hk)⟩,
    h.judgeFar hoc (by decide), ⟨h.recol_of h.cj.1, h.recol_of h.cj.2.1, h.recol_of h.cj.2.2⟩,
    row_keep h.drops fun g e => h.far hoc (h.cd g e) (by decide), fun g e => h.recol_of (h.cd g e),
    h.entsFar hoc (fun _ e => by cases e), h.recol_lt hoc.size, h.onlyBelow hoc⟩
/-- The list's turn. -/
theorem Parts.turnOrder (h : Parts W w n hl col ad seed s vd vv) {F F' : Nat → Prop} {t : Slru.St} (hF : ∀ k, F k → col k = some .order) (ha : Slru.At w' ad.ob F' t) (hlt : ∀ k, F' k → k < w'.heap.size) (ho : Only F w w') (hg : Grows w F F') :
    Parts W w' n hl (recol col w w' .order) ad seed { s with order := t } vd vv := by
  have hoc := Parts.onlyOf hF ho
  obtain ⟨Ft, ht1, ht2⟩ := h.tab
  obtain ⟨Fs, hs1, hs2⟩ := h.slab
  exact ⟨(h.far hoc h.csb (by decide)).trans h.self, h.recol_of h.csb, ⟨Ft, ht1.same (fun k hk => h.far hoc (ht2 k hk) (by decide)) hoc.size, fun k hk => h.recol_of (ht2 k hk)⟩, h.sm,
    ⟨Fs, hs1.same (fun k hk => h.far hoc (hs2 k hk) (by decide)) hoc.size, fun k hk => h.recol_of (hs2 k hk)⟩,
    ⟨F', ha, recol_grow hF hg hlt⟩,
    h.judgeFar hoc (by decide), ⟨h.recol_of h.cj.1, h.recol_of h.cj.2.1, h.recol_of h.cj.2.2⟩,
    row_keep h.drops fun g e => h.far hoc (h.cd g e) (by decide), fun g e => h.recol_of (h.cd g e),
    h.entsFar hoc (fun _ e => by cases e), h.recol_lt hoc.size, h.onlyBelow hoc⟩
/-- Something fresh came. -/
theorem Parts.step (h : Parts W w n hl col ad seed s vd vv) (hb : Below w.heap.size w w') : Parts W w' n hl col ad seed s vd vv := by
  obtain ⟨Ft, ht1, ht2⟩ := h.tab
  obtain ⟨Fs, hs1, hs2⟩ := h.slab
  obtain ⟨Fo, ho1, ho2⟩ := h.order
  have hk : ∀ k q, col k = some q → w'.heap[k]? = w.heap[k]? := fun k q e => hb.block k (h.lt k q e).2
  exact ⟨(hk _ _ h.csb).trans h.self, h.csb, ⟨Ft, ht1.same (fun k e => hk k _ (ht2 k e)) hb.size, ht2⟩, h.sm, ⟨Fs, hs1.same (fun k e => hk k _ (hs2 k e)) hb.size, hs2⟩, ⟨Fo, ho1.same (fun k e => hk k _ (ho2 k e)) hb.size, ho2⟩,
    h.judge.step hb, h.cj, row_keep h.drops fun g e => hk g _ (h.cd g e), h.cd,
    fun q hq hn => by
      obtain ⟨h1, h2, h3, h4, h5⟩ := h.ents q hq hn
      exact ⟨(hk _ _ h4).trans h1, row_keep h2 fun g e => hk g _ (h5 g e).1, h3, h4, h5⟩,
    fun k q e => ⟨(h.lt k q e).1, Nat.lt_of_lt_of_le (h.lt k q e).2 hb.size⟩, Mem.tr h.below hb⟩
/-- The judge's turn. -/
theorem Parts.turnJudge (h : Parts W w n hl col ad seed s vd vv) {j : Tiny.St} (hj : Tiny.Run W w' ad.jb ad.fb ad.cb j) (ho : Only (fun k => k = ad.fb ∨ k = ad.cb) w w') : Parts W w' n hl (recol col w w' .judge) ad seed { s with judge := j } vd vv := by
  have hoc : Only (Of col .judge) w w' := ho.mono fun k hk => hk.elim (fun e => e ▸ h.cj.2.1) (fun e => e ▸ h.cj.2.2)
  obtain ⟨Ft, ht1, ht2⟩ := h.tab
  obtain ⟨Fs, hs1, hs2⟩ := h.slab
  obtain ⟨Fo, ho1, ho2⟩ := h.order
  exact ⟨(h.far hoc h.csb (by decide)).trans h.self, h.recol_of h.csb, ⟨Ft, ht1.same (fun k hk => h.far hoc (ht2 k hk) (by decide)) hoc.size, fun k hk => h.recol_of (ht2 k hk)⟩, h.sm,
    ⟨Fs, hs1.same (fun k hk => h.far hoc (hs2 k hk) (by decide)) hoc.size, fun k hk => h.recol_of (hs2 k hk)⟩,
    ⟨Fo, ho1.same (fun k hk => h.far hoc (ho2 k hk) (by decide)) hoc.size, fun k hk => h.recol_of (ho2 k hk)⟩,
    hj, ⟨h.recol_of h.cj.1, h.recol_of h.cj.2.1, h.recol_of h.cj.2.2⟩,
    row_keep h.drops fun g e => h.far hoc (h.cd g e) (by decide), fun g e => h.recol_of (h.cd g e),
    h.entsFar hoc (fun _ e => by cases e), h.recol_lt hoc.size, h.onlyBelow hoc⟩
/-- The drops' turn: a row, stored into the shard's own block. -/
theorem Parts.turnDrops (h : Parts W w n hl col ad seed s vd vv) {l : List ByteArray} {vd' : Value} (ho : Only (Of col .drops) w w') (hown : w'.ownsRow 0 9 1 vd' l.length (cellsS l)) (hg : ∀ g, vd'.ownBlock = some g → vd.ownBlock = some g ∨ w.heap.size ≤ g) :
    Parts W (w'.setCell ⟨ad.sb, 4, none⟩ vd') n hl (recol col w w' .drops) ad seed { s with drops := l } vd' vv := by
  obtain ⟨Ft, ht1, ht2⟩ := h.tab
  obtain ⟨Fs, hs1, hs2⟩ := h.slab
  obtain ⟨Fo, ho1, ho2⟩ := h.order
  have hsb := (h.far ho h.csb (by decide)).trans h.self
  have hz2 : (w'.setCell ⟨ad.sb, 4, none⟩ vd').heap.size = w'.heap.size := by simp [World.setCell]
  have hsl := (h.lt _ _ h.csb)
  have hset : ∀ k, k ≠ ad.sb → (w'.setCell ⟨ad.sb, 4, none⟩ vd').heap[k]? = w'.heap[k]? := fun k hk => Below.heap_setCell _ _ _ _ hk
  have hne : ∀ k q, col k = some q → q ≠ .self → k ≠ ad.sb := fun k q e hq e1 => hq (by rw [e1, h.csb] at e; injection e with e; exact e.symm)
  have hk : ∀ k q, col k = some q → q ≠ .self → q ≠ .drops → (w'.setCell ⟨ad.sb, 4, none⟩ vd').heap[k]? = w.heap[k]? := fun k q e h1 h2 => (hset k (hne k q e h1)).trans (h.far ho e h2)
  have hvb : ∀ g, vd'.ownBlock = some g → g ≠ ad.sb := fun g e => (hg g e).elim (fun e1 => hne g _ (h.cd g e1) (by decide)) (fun e1 => by omega)
  have hol : ∀ g, vd'.ownBlock = some g → g < w'.heap.size := fun g e => (own_block_lt hown g e).2
  have hoj : Only (fun k => Of col .drops k ∨ k = ad.sb) w (w'.setCell ⟨ad.sb, 4, none⟩ vd') := (ho.mono (fun k hk => .inl hk)).setCell (p := ⟨ad.sb, 4, none⟩) (.inl (.inr rfl)) vd'
  refine ⟨Mem.row_set hsb 4 vd', h.recol_of h.csb, ⟨Ft, ht1.same (fun k e => hk k _ (ht2 k e) (by decide) (by decide)) (by rw [hz2]; exact ho.size), fun k e => h.recol_of (ht2 k e)⟩, h.sm,
    ⟨Fs, hs1.same (fun k e => hk k _ (hs2 k e) (by decide) (by decide)) (by rw [hz2]; exact ho.size), fun k e => h.recol_of (hs2 k e)⟩,
    ⟨Fo, ho1.same (fun k e => hk k _ (ho2 k e) (by decide) (by decide)) (by rw [hz2]; exact ho.size), fun k e => h.recol_of (ho2 k e)⟩,
    h.judge.other hoj (fun k hk => ?_), ⟨h.recol_of h.cj.1, h.recol_of h.cj.2.1, h.recol_of h.cj.2.2⟩,
    row_keep hown fun g e => hset g (hvb g e), fun g e => ?_, fun q hq hn => ?_, fun k q hk => by rw [hz2]; exact h.recol_lt ho.size k q hk, (h.onlyBelow ho).setCell (p := ⟨ad.sb, 4, none⟩) hsl.1 vd'⟩
  · have h0 : ∀ j, col j = some Part.judge → j ≠ k := fun j hj e => by
      rcases hk with hk | hk
      · unfold Of at hk; rw [← e, hj] at hk; cases hk
      · rw [e, hk, h.csb] at hj; cases hj
    exact ⟨⟨h0 _ h.cj.1, h0 _ h.cj.2.1, h0 _ h.cj.2.2⟩, hk.elim (fun e => (h.lt k _ e).1) (fun e => e ▸ hsl.1)⟩
  · unfold recol
    by_cases h1 : g < w.heap.size
    · rw [if_pos h1]; exact (hg g e).elim (h.cd g) (fun e1 => by omega)
    · rw [if_neg h1, if_pos (hol g e)]
  · obtain ⟨h1, h2, h3, h4, h5⟩ := h.ents q hq hn
    exact ⟨(hk _ _ h4 (by simp) (by simp)).trans h1, row_keep h2 fun g e => hk g _ (h5 g e).1 (by simp) (by simp), h3, h.recol_of h4, fun g e => ⟨h.recol_of (h5 g e).1, (h5 g e).2⟩⟩
/-- An entry's turn: its block b and its value's row are new. -/
theorem Parts.turnEnt (h : Parts W w n hl col ad seed s vd vv) {b : Nat} {x : Ent} {v : Value} (hb : w'.heap[b]? = some (.cells (x.arr v) 95 (0, 0))) (ho : Only (Of col (.ent b)) w w') (hcb : col b = some (.ent b))
    (hown : OwnB w' 0 v x.it.val) (hg : ∀ g, v.ownBlock = some g → (col g = some (.ent b) ∨ w.heap.size ≤ g) ∧ g ≠ b) (hkey : ∀ q ∈ s.tab.L, q.2 = b → x.it.key = q.1) (hh : ∀ q ∈ s.tab.L, q.2 ≠ b → ¬ hl' q.2 → ¬ hl q.2) :
    Parts W w' n hl' (recol col w w' (.ent b)) ad seed { s with ent := upd s.ent b x } vd (upd vv b v) := by
  obtain ⟨Ft, ht1, ht2⟩ := h.tab
  obtain ⟨Fs, hs1, hs2⟩ := h.slab
  obtain ⟨Fo, ho1, ho2⟩ := h.order
  refine ⟨(h.far ho h.csb (by simp)).trans h.self, h.recol_of h.csb, ⟨Ft, ht1.same (fun k hk => h.far ho (ht2 k hk) (by simp)) ho.size, fun k hk => h.recol_of (ht2 k hk)⟩, h.sm,
    ⟨Fs, hs1.same (fun k hk => h.far ho (hs2 k hk) (by simp)) ho.size, fun k hk => h.recol_of (hs2 k hk)⟩,
    ⟨Fo, ho1.same (fun k hk => h.far ho (ho2 k hk) (by simp)) ho.size, fun k hk => h.recol_of (ho2 k hk)⟩,
    h.judgeFar ho (by simp), ⟨h.recol_of h.cj.1, h.recol_of h.cj.2.1, h.recol_of h.cj.2.2⟩,
    row_keep h.drops fun g e => h.far ho (h.cd g e) (by simp), fun g e => h.recol_of (h.cd g e), fun q hq hn => ?_, h.recol_lt ho.size, h.onlyBelow ho⟩
  by_cases e : q.2 = b
  · show w'.heap[q.2]? = some (.cells ((upd s.ent b x q.2).arr (upd vv b v q.2)) 95 (0, 0)) ∧ OwnB w' 0 (upd vv b v q.2) (upd s.ent b x q.2).it.val ∧ (upd s.ent b x q.2).it.key = q.1 ∧ _ ∧ ∀ g, (upd vv b v q.2).ownBlock = some g → _
    rw [e, upd_same, upd_same]
    refine ⟨hb, hown, hkey q hq e, h.recol_of hcb, fun g eg => ⟨?_, (hg g eg).2⟩⟩
    unfold recol
    by_cases h1 : g < w.heap.size
    · rw [if_pos h1]; exact (hg g eg).1.elim id (fun e1 => by omega)
    · rw [if_neg h1, if_pos (own_block_lt hown g eg).2]
  · obtain ⟨h1, h2, h3, h4, h5⟩ := h.ents q hq (hh q hq e hn)
    show w'.heap[q.2]? = some (.cells ((upd s.ent b x q.2).arr (upd vv b v q.2)) 95 (0, 0)) ∧ OwnB w' 0 (upd vv b v q.2) (upd s.ent b x q.2).it.val ∧ (upd s.ent b x q.2).it.key = q.1 ∧ _ ∧ ∀ g, (upd vv b v q.2).ownBlock = some g → _
    rw [upd_other _ _ e, upd_other _ _ e]
    have hne : Part.ent q.2 ≠ Part.ent b := fun e1 => e (by injection e1)
    exact ⟨(h.far ho h4 hne).trans h1, row_keep h2 fun g eg => h.far ho (h5 g eg).1 hne, h3, h.recol_of h4, fun g eg => ⟨h.recol_of (h5 g eg).1, (h5 g eg).2⟩⟩
end
/-- A shard that a run holds. -/
def At (W w : World) (n : Nat) (b : Nat) (col : Col) (seed : Int) (s : St) : Prop := ∃ ad vd vv, ad.sb = b ∧ Parts W w n (fun _ => False) col ad seed s vd vv
def Turn (W w : World) (n b : Nat) (col : Col) (seed : Int) (s : St) (w' : World) : Prop := ∃ col', At W w' n b col' seed s ∧ Fr col col' w w'
theorem At.step {W w w' : World} {n b : Nat} {col : Col} {seed : Int} {s : St} (h : At W w n b col seed s) (hb : Below w.heap.size w w') : At W w' n b col seed s := by
  obtain ⟨ad, vd, vv, e, h⟩ := h
  exact ⟨ad, vd, vv, e, h.step hb⟩
theorem At.lt {W w : World} {n b : Nat} {col : Col} {seed : Int} {s : St} (h : At W w n b col seed s) : ∀ k, col k ≠ none → k < w.heap.size := by
  obtain ⟨ad, vd, vv, e, h⟩ := h
  intro k hk
  rcases hc : col k with _ | p
  · exact absurd hc hk
  · exact (h.lt k p hc).2
end Go.Proofs.YteonjgnnpgpnnaaGreat.Shard

/- Layer 11: Used, Len, Drops, Use. -/
namespace Go.Proofs.YteonjgnnpgpnnaaGreat.Shard
open Go Go.RowKit Go.Proofs.YteonjgnnpgpnnaaGreat.Mem Go.Proofs.YteonjgnnpgpnnaaGreat.App

section
variable {W w : World} {n b : Nat} {col : Col} {seed : Int} {s : St}
theorem used_any (h : At W w n b col seed s) : Calls Tryz.prog 11 #[.pointer (some ⟨b, 0, none⟩)] w fun e w' => e = .returned (.int .i64 s.slab.used) ∧ w = w' := by
  obtain ⟨ad, vd, vv, rfl, h⟩ := h
  have c1 : w.cell? ⟨ad.sb, 1, none⟩ = some (.pointer (some ⟨ad.mb, 0, none⟩)) := Mem.row_cell h.self 1
  obtain ⟨F, hs, -⟩ := h.slab
  have hu := Slab.used_any hs
  clear h hs
  go_enter Tryz.func11, Tryz.ntmps11
  go_wp2_with (go_at_call 35; refine hu.mono ?_; rintro e w' ⟨rfl, rfl⟩)
  go_ret
  exact ⟨rfl, rfl⟩
theorem len_any (h : At W w n b col seed s) : Calls Tryz.prog 13 #[.pointer (some ⟨b, 0, none⟩)] w fun e w' => e = .returned (.int .i64 s.tab.L.length) ∧ w = w' := by
  obtain ⟨ad, vd, vv, rfl, h⟩ := h
  have c0 : w.cell? ⟨ad.sb, 0, none⟩ = some (.pointer (some ⟨ad.tb, 0, none⟩)) := Mem.row_cell h.self 0
  obtain ⟨F, hs, -⟩ := h.tab
  have hu := TabE.len_any hs
  clear h hs
  go_enter Tryz.func13, Tryz.ntmps13
  go_wp2_with (go_at_call 37; refine hu.mono ?_; rintro e w' ⟨rfl, rfl⟩)
  go_ret
  exact ⟨rfl, rfl⟩
/-- Drops: the row is handed over. -/
theorem drops_any (h : At W w n b col seed s) : Calls Tryz.prog 15 #[.pointer (some ⟨b, 0, none⟩)] w fun e w' => ∃ v, e = .returned v ∧ Turn W w n b col seed { s with drops := [] } w' ∧ w'.ownsRow W.heap.size 9 1 v s.drops.length (cellsS s.drops) := by
  obtain ⟨ad, vd, vv, rfl, h⟩ := h
  have c4 : w.cell? ⟨ad.sb, 4, none⟩ = some vd := Mem.row_cell h.self 4
  have f4 := Mem.row_free h.self 4
  obtain ⟨a, c, hv⟩ := Src.shape (Src.of_row h.drops)
  subst hv
  have HH := Lib.hid h
  clear h
  go_enter Tryz.func15, Tryz.ntmps15
  go_wp2_with fail
  go_ret
  have h := HH.out
  refine ⟨_, rfl, ⟨_, ⟨ad, _, vv, rfl, h.turnDrops (Only.refl _ _) (l := []) (vd' := .slice none 0 0) (World.ownsRow_nil _ _ _ _) (fun g e => by cases e)⟩, (Only.refl _ _).setCell (p := ⟨ad.sb, 4, none⟩) (.inl (by rw [h.csb]; simp)) _, fun k hk => ?_⟩, ?_⟩
  · replace hk : recol col w w .drops k ≠ none := hk
    unfold recol at hk
    by_cases h1 : k < w.heap.size
    · rw [if_pos h1] at hk; exact .inl hk
    · exact .inr (by omega)
  refine row_keep ⟨h.drops.1, ?_⟩ fun g e => Below.heap_setCell _ _ _ _ (fun e1 => ?_)
  · rcases h.drops.2 with h1 | ⟨g, cap, cur, h1, h2, h3⟩
    · exact .inl h1
    · exact .inr ⟨g, cap, cur, h1, (h.lt _ _ (h.cd g (by rw [h1]; rfl))).1, h3⟩
  · have h1 := h.cd g e
    rw [show g = ad.sb from e1, h.csb] at h1
    cases h1
theorem use_any (h : At W w n b col seed s) (k : ByteArray) (hk : k.size ≤ maxLen) (hl : s.order.all.length ≤ 1000000000) : Calls Tryz.prog 18 #[.pointer (some ⟨b, 0, none⟩), .string k] w fun e w' => e = .returned (.tuple #[]) ∧ Turn W w n b col seed { s with judge := s.judge.touch k.data.toList, order := (s.order.hit k).2 } w' := by
  obtain ⟨ad, vd, vv, rfl, h⟩ := h
  have c3 : w.cell? ⟨ad.sb, 3, none⟩ = some (.pointer (some ⟨ad.jb, 0, none⟩)) := Mem.row_cell h.self 3
  have ht := Tiny.touch_run h.judge k hk
  have HH := Lib.hid h
  clear h
  go_enter Tryz.func18, Tryz.ntmps18
  go_wp2_with fail
  refine ht.mono ?_
  rintro e w1 ⟨rfl, hj, ho⟩
  have h1 := HH.out.turnJudge hj ho
  have f1 : Fr col (recol col w w1 .judge) w w1 := Fr.of (p := .judge) (fun k hk => hk.elim (fun e => e ▸ HH.out.cj.2.1) (fun e => e ▸ HH.out.cj.2.2)) ho
  have d2 : w1.cell? ⟨ad.sb, 2, none⟩ = some (.pointer (some ⟨ad.ob, 0, none⟩)) := Mem.row_cell h1.self 2
  obtain ⟨F, hs, hF⟩ := h1.order
  have hh := Slru.hit_any hs k (by show s.order.all.length ≤ _; omega)
  have H1 := Lib.hid (And.intro h1 hF)
  clear ht hj ho h1 hs hF c3
  unfold Slru.TurnPost at hh
  go_wp2_with fail
  refine hh.mono ?_
  rintro e w2 ⟨F', rfl, ha, ho, hg⟩
  have h2 := H1.out.1.turnOrder H1.out.2 ha ha.lt ho hg
  have H2 := Lib.hid (And.intro h2 (f1.trans (Fr.of H1.out.2 ho)))
  clear hh ha ho hg h2
  go_wp2_with fail
  go_end0
  exact ⟨rfl, _, ⟨ad, vd, vv, rfl, H2.out.1⟩, H2.out.2⟩
end
end Go.Proofs.YteonjgnnpgpnnaaGreat.Shard

/- The walks of the slab's Take and Free. -/
namespace Go.Proofs.YteonjgnnpgpnnaaGreat.Slab
open Go Go.RowKit Go.Proofs.YteonjgnnpgpnnaaGreat.Mem

/-- What Take, Free come to. -/
def TakePost (w : World) (b : Nat) (F : Nat → Prop) (s : St) (size : Int) (e : Ending) (w' : World) : Prop :=
  ∃ F', e = .returned (.tuple #[.agg #[.int .i64 (s.take size).1.1.1, .int .i64 (s.take size).1.1.2], .int .i64 (s.take size).1.2]) ∧ At w' b F' (s.take size).2 ∧ Only F w w' ∧ Grows w F F'

set_option maxRecDepth 100000 in
set_option maxHeartbeats 1000000 in
theorem take_long {w : World} {b : Nat} {F : Nat → Prop} {s : St} (h : At w b F s) (size : Int) (h6 : classN size = 6) :
    Calls Tryz.prog 46 #[.pointer (some ⟨b, 0, none⟩), .int .i64 size] w (TakePost w b F s size) := by
  have hfin : ∀ w', Below w.heap.size w w' → TakePost w b F s size (.returned (.tuple #[.agg #[.int .i64 0, .int .i64 0], .int .i64 4])) w' := fun w' hb => by
    have ht : s.take size = (((0, 0), 4), s) := by unfold St.take; rw [if_pos h6]
    unfold TakePost; rw [ht]
    have hl : ∀ k, F k → k < w.heap.size := by obtain ⟨_, _, h⟩ := h; exact h.lt
    exact ⟨F, rfl, h.below hb, Only.of_below hb (fun k h1 h2 => by omega), Grows.refl _ _⟩
  have e0 : (classE size == 0) = false := by rw [(classE_no h6).1]; rfl
  have e1 := Lib.hid (classE_no h6).1
  clear h h6
  go_enter Tryz.func46, Tryz.ntmps46
  go_wp2_with (go_at_call 38; refine (class_any _ _).mono ?_; rintro e w' ⟨rfl, rfl⟩)
  refine bodyPost_ret (v := .tuple #[.agg #[.int .i64 0, .int .i64 0], .int .i64 (classE size)]) (by simp [results, Tryz.results46, go_sem]) rfl ?_
  rw [e1.out]
  refine hfin _ ?_
  repeat (first | exact Below.refl _ _ | refine Below.drew ?_ | refine Mem.al ?_ _ | refine Below.setCell ?_ (by first | omega | (simp; omega) | simp) _)

set_option maxRecDepth 100000 in
set_option maxHeartbeats 1000000 in
theorem take_full {w : World} {b : Nat} {F : Nat → Prop} {s : St} (h : At w b F s) {N : Nat} (hs : Small N s) (hN : N ≤ 1099511627776) (size : Int) (h6 : classN size < 6) (hx : s.budget < s.used + bytesI (classN size)) :
    Calls Tryz.prog 46 #[.pointer (some ⟨b, 0, none⟩), .int .i64 size] w (TakePost w b F s size) := by
  have hfin : ∀ w', Below w.heap.size w w' → TakePost w b F s size (.returned (.tuple #[.agg #[.int .i64 0, .int .i64 0], .int .i64 5])) w' := fun w' hb => by
    have ht : s.take size = (((0, 0), 5), s) := by unfold St.take; rw [if_neg (by omega), if_pos hx]
    unfold TakePost; rw [ht]
    have hl : ∀ k, F k → k < w.heap.size := by obtain ⟨_, _, h⟩ := h; exact h.lt
    exact ⟨F, rfl, h.below hb, Only.of_below hb (fun k h1 h2 => by omega), Grows.refl _ _⟩
  obtain ⟨mb, gv, h⟩ := h
  have hbl := h.lt _ h.fb
  have c0 : w.cell? ⟨b, 0, none⟩ = some (.int .i64 s.budget) := Mem.row_cell h.blk 0
  have c1 : w.cell? ⟨b, 1, none⟩ = some (.int .i64 s.used) := Mem.row_cell h.blk 1
  have u0 := hs.u0
  have u1 : s.used ≤ 2251799813685248 := by have := hs.u1; omega
  obtain ⟨e1, er⟩ := classE_ok h6
  have e0 : (classE size == 0) = true := by rw [e1]; rfl
  rw [← er] at hx
  have hb := bytes_range (classR size)
  obtain ⟨hb0, hb1⟩ := hb
  have w2 : IntKind.i64.wrap (s.used + bytesI (classR size)) = s.used + bytesI (classR size) := by rw [IntKind.wrap_i64]; omega
  clear h h6 hs er e1
  go_enter Tryz.func46, Tryz.ntmps46
  go_wp2_with (go_at_call 38; refine (class_any _ _).mono ?_; rintro e w' ⟨rfl, rfl⟩)
  go_quiet ((go_at_call 69; exact Calls.quiet_of_same ((bytes_any _ _).mono fun _ _ ⟨h, e⟩ => ⟨h, e.symm⟩)))
  go_wp2
  refine bodyPost_ret (v := .tuple #[.agg #[.int .i64 0, .int .i64 0], .int .i64 5]) (by simp [results, Tryz.results46, go_sem]) rfl ?_
  refine hfin _ ?_
  repeat (first | exact Below.refl _ _ | refine Below.drew ?_ | refine Mem.dn ?_ _ | refine Mem.al ?_ _ | refine Below.setCell ?_ (by first | omega | (simp; omega) | simp) _)

/-- A new pair in the map of chunks. -/
theorem set_pairs (l : List (Int × Int)) (c : Int × Int) : Maps.set (pairs l) c (.bool true) = pairs (addIn l c) := by
  induction l with
  | nil => rfl
  | cons p l ih =>
    simp only [pairs, List.map_cons, Maps.set, addIn, List.mem_cons] at ih ⊢
    by_cases h : c = p
    · subst h; simp
    · rw [if_neg h, ih]
      by_cases hm : c ∈ l <;> simp [h, hm]

theorem AtW.addIn {w : World} {b : Nat} {F : Nat → Prop} {s : St} {mb : Nat} {gv : Nat → Value} (h : AtW w b F s mb gv) {o : Obj} {c : Int × Int} (hm : Maps.Is encC (w.putObj mb o) mb (Maps.set (pairs s.inn) c (.bool true))) :
    AtW (w.putObj mb o) b F { s with inn := Slab.addIn s.inn c } mb gv := by
  have hsame : ∀ j, j ≠ mb → (w.putObj mb o).heap[j]? = w.heap[j]? := fun j hj => World.putObj_heap_other hj
  exact ⟨(hsame _ (Ne.symm h.map_ne)).trans h.blk, by rw [set_pairs] at hm; exact hm, fun k hk => row_same (h.rows k hk) fun g e => hsame g (fun e' => h.row_map hk (e' ▸ e)), h.fb, h.fm, h.fr, h.apart, fun k hk => by rw [World.putObj_size]; exact h.lt k hk⟩

set_option maxRecDepth 100000 in
set_option maxHeartbeats 2000000 in
theorem take_ok {w : World} {b : Nat} {F : Nat → Prop} {s : St} (h : At w b F s) {N : Nat} (hs : Small N s) (hN : N ≤ 1099511627776) (size : Int) (h6 : classN size < 6) (hx : ¬ s.budget < s.used + bytesI (classN size)) :
    Calls Tryz.prog 46 #[.pointer (some ⟨b, 0, none⟩), .int .i64 size] w (TakePost w b F s size) := by
  obtain ⟨k, hk⟩ : ∃ k, classN size = k := ⟨_, rfl⟩
  obtain ⟨e1, er⟩ := classE_ok h6
  rw [hk] at er hx h6
  have hb := bytes_range (k : Nat)
  obtain ⟨hb0, hb1⟩ := hb
  have u0 := hs.u0
  have u1 : s.used ≤ 2251799813685248 := by have := hs.u1; omega
  have hbl : b < w.heap.size := by obtain ⟨_, _, h⟩ := h; exact h.lt _ h.fb
  have c0 : w.cell? ⟨b, 0, none⟩ = some (.int .i64 s.budget) := by obtain ⟨_, _, h⟩ := h; exact Mem.row_cell h.blk 0
  have c1 : w.cell? ⟨b, 1, none⟩ = some (.int .i64 s.used) := by obtain ⟨_, _, h⟩ := h; exact Mem.row_cell h.blk 1
  have w2 : IntKind.i64.wrap (s.used + bytesI k) = s.used + bytesI k := by rw [IntKind.wrap_i64]; omega
  have hx' : decide (s.budget < s.used + bytesI k) = false := by simpa using hx
  have HE := Lib.hid er
  have HE1 := Lib.hid e1
  have HK := Lib.hid hk
  have HX := Lib.hid hx
  clear er e1 hk hx
  go_enter Tryz.func46, Tryz.ntmps46
  go_wp2_with (go_at_call 38; refine (class_any _ _).mono ?_; rw [HE.out, HE1.out]; rintro e w' ⟨rfl, rfl⟩)
  go_quiet ((go_at_call 69; exact Calls.quiet_of_same ((bytes_any _ _).mono fun _ _ ⟨h, e⟩ => ⟨h, e.symm⟩)))
  go_wp2_with fail
  have hat := (h.below (Mem.al (Below.refl _ w) (.cells #[.int .i64 0, .int .i64 0] 77))).same (w' := (w.alloc (.cells #[.int .i64 0, .int .i64 0] 77)).drewN nq) (fun _ _ => rfl) (Nat.le_refl _)
  refine (number_any hat hs hN k h6).mono ?_
  have hn1 : (s.number k).2.used = s.used ∧ (s.number k).2.inn = s.inn ∧ (s.number k).2.budget = s.budget := by
    unfold St.number; split <;> exact ⟨rfl, rfl, rfl⟩
  obtain ⟨n, t, hnt⟩ : ∃ n t, s.number k = (n, t) := ⟨_, _, rfl⟩
  have ht : s.take size = ((((k : Int), n), 0), { t with used := s.used + bytesI k, inn := Slab.addIn s.inn (k, n) }) := by
    unfold St.take; rw [HK.out, if_neg (by omega), if_neg (by have := HX.out; omega), hnt]
  have hFl : ∀ k, F k → k < w.heap.size := by obtain ⟨_, _, h⟩ := h; exact h.lt
  unfold NumberPost
  rw [hnt] at hn1 ⊢
  rintro e w3 ⟨rfl, ⟨mb, gv, h3⟩, ho⟩
  obtain ⟨hn1, hn2, hn3⟩ := hn1
  simp only at hn1 hn2 hn3 h3 ⊢
  have hs3 : w.heap.size < w3.heap.size := by have := ho.size; simp at this; omega
  have hR : w3.heap[w.heap.size]? = some (.cells #[.int .i64 0, .int .i64 0] 77 (0, 0)) := (ho.same _ (by simp) (fun e => by have := hFl _ e; omega)).trans (Mem.new_block w _)
  have hC := Mem.new_block w3 (.cells #[.int .i64 k, .int .i64 n] 77)
  have c1' : w3.cell? ⟨b, 1, none⟩ = some (.int .i64 s.used) := by rw [← hn1]; exact Mem.row_cell h3.blk 1
  have f1' := Mem.row_free h3.blk 1
  have c2' : w3.cell? ⟨b, 2, none⟩ = some (.map (some mb)) := Mem.row_cell h3.blk 2
  have hb3 : b < w3.heap.size := h3.lt _ h3.fb
  have hm3 : mb < w3.heap.size := h3.lt _ h3.fm
  -- the world behind the store of used, then of the chunk
  have h4 : AtW ((w3.alloc (.cells #[.int .i64 k, .int .i64 n] 77)).setCell ⟨b, 1, none⟩ (.int .i64 (s.used + bytesI k))) b F { t with used := s.used + bytesI k } mb gv := by
    refine AtW.setOwn (s := t) ?_ 1 _ (cells_set_used _) rfl rfl
    have hsm : ∀ j, j < w3.heap.size → (w3.alloc (.cells #[.int .i64 k, .int .i64 n] 77)).heap[j]? = w3.heap[j]? := fun j hj => Below.heap_alloc _ _ _ hj
    exact ⟨(hsm _ hb3).trans h3.blk, h3.map.same (hsm _ hm3), fun j hj => row_same (h3.rows j hj) fun g e => hsm g (h3.lt _ (h3.fr j hj g e)), h3.fb, h3.fm, h3.fr, h3.apart, fun j hj => by have := h3.lt j hj; simp; omega⟩
  obtain ⟨o, hmu, hIs⟩ := Maps.run_update (w := ((w3.alloc (.cells #[.int .i64 k, .int .i64 n] 77)).setCell ⟨b, 1, none⟩ (.int .i64 (s.used + bytesI k))).drew.drew) chunkLaw Tryz.underlying104 (h4.map.same rfl) ((k : Int), n) (.bool true)
  have h5 := AtW.addIn (w := ((w3.alloc (.cells #[.int .i64 k, .int .i64 n] 77)).setCell ⟨b, 1, none⟩ (.int .i64 (s.used + bytesI k))).drew.drew) ⟨h4.blk, h4.map, h4.rows, h4.fb, h4.fm, h4.fr, h4.apart, h4.lt⟩ hIs
  have hO : Only F w (((w3.alloc (.cells #[.int .i64 k, .int .i64 n] 77)).setCell ⟨b, 1, none⟩ (.int .i64 (s.used + bytesI k))).drew.drew.putObj mb o) := by
    refine Only.putObj (Only.drew (Only.drew (Only.setCell (Only.alloc ?_ _) (.inl h3.fb) _))) (.inl h3.fm) _
    exact Only.trans (F' := F) (y := (w.alloc (.cells #[.int .i64 0, .int .i64 0] 77)).drewN nq) (Only.drewN (Only.alloc (Only.refl F w) _) nq) ho (Grows.refl _ _)
  have hne1 : w.heap.size ≠ b := by omega
  have hne2 : w.heap.size ≠ mb := by have := hFl _ h3.fm; omega
  have hR9 : (((w3.alloc (.cells #[.int .i64 k, .int .i64 n] 77)).setCell ⟨b, 1, none⟩ (.int .i64 (s.used + bytesI k))).drew.drew.putObj mb o).heap[w.heap.size]? = some (.cells #[.int .i64 0, .int .i64 0] 77 (0, 0)) :=
    (World.putObj_heap_other hne2).trans ((Below.heap_setCell _ _ _ _ hne1).trans ((Below.heap_alloc _ _ _ hs3).trans hR))
  have hC9 : (((w3.alloc (.cells #[.int .i64 k, .int .i64 n] 77)).setCell ⟨b, 1, none⟩ (.int .i64 (s.used + bytesI k))).drew.drew.putObj mb o).heap[w3.heap.size]? = some (.cells #[.int .i64 k, .int .i64 n] 77 (0, 0)) :=
    (World.putObj_heap_other (by omega)).trans ((Below.heap_setCell _ _ _ _ (by simp; omega)).trans hC)
  generalize ((w3.alloc (.cells #[.int .i64 k, .int .i64 n] 77)).setCell ⟨b, 1, none⟩ (.int .i64 (s.used + bytesI k))).drew.drew.putObj mb o = W9 at *
  clear hs hat hnt hIs h4 h h3 ho hC hR
  have hmu' : ∀ _ : True, (Instr.mapUpdate 104 (.map (some mb)) (.agg #[.int .i64 k, .int .i64 n]) (.bool true)).run Tryz.prog
      (((w3.alloc (.cells #[.int .i64 k, .int .i64 n] 77)).setCell ⟨b, 1, none⟩ (.int .i64 (s.used + bytesI k))).drew.drew) = .ok () W9 := fun _ => hmu
  rw [hn2] at h5
  have q0 := Mem.row_cell hR9 0
  have q1 := Mem.row_cell hR9 1
  have q2 := Mem.row_free hR9 0
  have q3 := Mem.row_free hR9 1
  have p0 := Mem.row_cell hC9 0
  have p1 := Mem.row_cell hC9 1
  simp only [List.getElem?_toArray, List.getElem?_cons_zero, List.getElem?_cons_succ] at q0 q1 p0 p1
  have H5 := Lib.hid h5
  have HO := Lib.hid hO
  have HT := Lib.hid ht
  have HR := Lib.hid hR9
  have HS := Lib.hid hs3
  clear hmu h5 hO ht hR9 hC9 hn1 hn2 hn3 HK HX HE HE1 hx'
  go_wp2
  have k1 : (w3.alloc (.cells #[.int .i64 k, .int .i64 n] 77)).cell? ⟨b, 1, none⟩ = some (.int .i64 s.used) := (World.cell?_alloc_lt _ _ _ hb3).trans c1'
  have k2 : (w3.alloc (.cells #[.int .i64 k, .int .i64 n] 77)).frozen? ⟨b, 1, none⟩ = false := (World.frozen?_of_block (Below.heap_alloc _ _ _ hb3)).trans f1'
  have k3 : ((w3.alloc (.cells #[.int .i64 k, .int .i64 n] 77)).setCell ⟨b, 1, none⟩ (.int .i64 (s.used + bytesI k))).cell? ⟨b, 2, none⟩ = some (.map (some mb)) := by
    rw [World.cell?_setCell_other _ _ _ _ (by simp)]; exact (World.cell?_alloc_lt _ _ _ hb3).trans c2'
  have k4 : ((w3.alloc (.cells #[.int .i64 k, .int .i64 n] 77)).setCell ⟨b, 1, none⟩ (.int .i64 (s.used + bytesI k))).heap[w3.heap.size]? = some (.cells #[.int .i64 k, .int .i64 n] 77 (0, 0)) :=
    (Below.heap_setCell _ _ _ _ (by simp; omega)).trans (Mem.new_block w3 _)
  have k5 := Mem.row_cell k4 0
  have k6 := Mem.row_cell k4 1
  simp only [List.getElem?_toArray, List.getElem?_cons_zero, List.getElem?_cons_succ] at k5 k6
  clear k4
  generalize w3.alloc (.cells #[.int .i64 k, .int .i64 n] 77) = Wa at *
  refine wp_region_still_tail 9 (by kernel_rfl) (by kernel_rfl) ?_
  simp only [List.take_succ_cons, List.take_zero, List.drop_succ_cons, List.drop_zero]
  repeat (first | still_step | still_call ((bytes_any _ _).mono fun _ _ ⟨h, e⟩ => ⟨h, e.symm⟩))
  refine wpStill_nil ?_
  change wpList _ _ _ _ _ Wa.drew
  go_wp2
  replace k3 : (Wa.setCell ⟨b, 1, none⟩ (.int .i64 (s.used + bytesI k))).drew.cell? ⟨b, 2, none⟩ = _ := k3
  replace k5 : (Wa.setCell ⟨b, 1, none⟩ (.int .i64 (s.used + bytesI k))).drew.cell? ⟨w3.heap.size, 0, none⟩ = _ := k5
  replace k6 : (Wa.setCell ⟨b, 1, none⟩ (.int .i64 (s.used + bytesI k))).drew.cell? ⟨w3.heap.size, 1, none⟩ = _ := k6
  generalize (Wa.setCell ⟨b, 1, none⟩ (.int .i64 (s.used + bytesI k))).drew = Wb at *
  refine wp_region_still_tail 5 (by kernel_rfl) (by kernel_rfl) ?_
  simp only [List.take_succ_cons, List.take_zero, List.drop_succ_cons, List.drop_zero]
  repeat still_step
  refine wpStill_nil ?_
  change wpList _ _ _ _ _ Wb.drew
  go_wp2
  have r1 : ((W9.setCell ⟨w.heap.size, 0, none⟩ (.int .i64 k)).setCell ⟨w.heap.size, 1, none⟩ (.int .i64 n)).cell? ⟨w.heap.size, 1, none⟩ = some (.int .i64 n) :=
    World.cell?_setCell_same' _ _ _ (by rw [World.cell?_setCell_other _ _ _ _ (by simp), q1]; rfl)
  have r0 : ((W9.setCell ⟨w.heap.size, 0, none⟩ (.int .i64 k)).setCell ⟨w.heap.size, 1, none⟩ (.int .i64 n)).cell? ⟨w.heap.size, 0, none⟩ = some (.int .i64 k) := by
    rw [World.cell?_setCell_other _ _ _ _ (by simp)]; exact World.cell?_setCell_same' _ _ _ (by rw [q0]; rfl)
  refine bodyPost_ret (v := .tuple #[.agg #[.int .i64 k, .int .i64 n], .int .i64 0]) (by simp [results, Tryz.results46, go_sem, r0, r1]) rfl ?_
  unfold TakePost
  rw [HT.out]
  have hsm : ∀ j, F j → ((W9.setCell ⟨w.heap.size, 0, none⟩ (.int .i64 k)).setCell ⟨w.heap.size, 1, none⟩ (.int .i64 n)).heap[j]? = W9.heap[j]? := fun j hj => by
    have := hFl j hj
    rw [Below.heap_setCell _ _ _ _ (by simp; omega), Below.heap_setCell _ _ _ _ (by simp; omega)]
  exact ⟨F, rfl, At.same (w := W9) ⟨mb, gv, H5.out⟩ hsm (by simp [World.setCell]), (HO.out.setCell (.inr (Nat.le_refl _)) _).setCell (.inr (Nat.le_refl _)) _, Grows.refl _ _⟩

theorem take_any {w : World} {b : Nat} {F : Nat → Prop} {s : St} (h : At w b F s) {N : Nat} (hs : Small N s) (hN : N ≤ 1099511627776) (size : Int) :
    Calls Tryz.prog 46 #[.pointer (some ⟨b, 0, none⟩), .int .i64 size] w (TakePost w b F s size) := by
  by_cases h6 : classN size = 6
  · exact take_long h size h6
  have := class_six size
  by_cases hx : s.budget < s.used + bytesI (classN size)
  · exact take_full h hs hN size (by omega) hx
  · exact take_ok h hs hN size (by omega) hx
end Go.Proofs.YteonjgnnpgpnnaaGreat.Slab

/- The walk of the slab's Free. -/
namespace Go.Proofs.YteonjgnnpgpnnaaGreat.Slab
open Go Go.RowKit Go.Proofs.YteonjgnnpgpnnaaGreat.Mem

def FreePost (w : World) (b : Nat) (F : Nat → Prop) (s : St) (c : Int × Int) (e : Ending) (w' : World) : Prop :=
  ∃ F', e = .returned (.int .i64 (s.free c).1) ∧ At w' b F' (s.free c).2 ∧ Only F w w' ∧ Grows w F F'

set_option maxRecDepth 100000 in
set_option maxHeartbeats 1000000 in
theorem free_no {w : World} {b : Nat} {F : Nat → Prop} {s : St} (h : At w b F s) (c n : Int) (hc : (c, n) ∉ s.inn) :
    Calls Tryz.prog 42 #[.pointer (some ⟨b, 0, none⟩), .agg #[.int .i64 c, .int .i64 n]] w (FreePost w b F s (c, n)) := by
  have hfin : ∀ w', Below w.heap.size w w' → FreePost w b F s (c, n) (.returned (.int .i64 1)) w' := fun w' hb => by
    have ht : s.free (c, n) = (1, s) := by unfold St.free; rw [if_neg hc]
    unfold FreePost; rw [ht]
    have hl : ∀ k, F k → k < w.heap.size := by obtain ⟨_, _, h⟩ := h; exact h.lt
    exact ⟨F, rfl, h.below hb, Only.of_below hb (fun k h1 h2 => by omega), Grows.refl _ _⟩
  obtain ⟨mb, gv, h⟩ := h
  have c2 : w.cell? ⟨b, 2, none⟩ = some (.map (some mb)) := Mem.row_cell h.blk 2
  have hb : b < w.heap.size := h.lt _ h.fb
  have hml := h.map.lt
  have hlk : ∀ m, (Instr.lookup 104 (.map (some mb)) (.agg #[.int .i64 c, .int .i64 n]) false).run Tryz.prog ((w.alloc (.cells #[.int .i64 c, .int .i64 n] 77)).drewN m) = .ok (.bool false) ((w.alloc (.cells #[.int .i64 c, .int .i64 n] 77)).drewN m) := fun m => by
    have := lookup_pairs (w := (w.alloc (.cells #[.int .i64 c, .int .i64 n] 77)).drewN m) (h.map.same (by show (w.alloc _).heap[mb]? = _; exact Below.heap_alloc _ _ _ hml)) c n
    simpa [hc] using this
  clear h hc
  go_enter Tryz.func42, Tryz.ntmps42
  go_wp2
  go_quiet (fail)
  go_wp2
  go_ret
  exact hfin _ (Mem.dn (Mem.al (Below.refl _ _) _) _)

theorem del_pairs (l : List (Int × Int)) (c : Int × Int) : Maps.del (pairs l) c = pairs (l.erase c) := by
  induction l with
  | nil => rfl
  | cons p l ih =>
    simp only [pairs, List.map_cons, Maps.del, List.erase_cons] at ih ⊢
    by_cases h : c = p
    · subst h; simp
    · rw [if_neg h, ih]
      have : (p == c) = false := by simpa using Ne.symm h
      simp [this]
theorem AtW.delIn {w : World} {b : Nat} {F : Nat → Prop} {s : St} {mb : Nat} {gv : Nat → Value} (h : AtW w b F s mb gv) {o : Obj} {c : Int × Int} (hm : Maps.Is encC (w.putObj mb o) mb (Maps.del (pairs s.inn) c)) :
    AtW (w.putObj mb o) b F { s with inn := s.inn.erase c } mb gv := by
  have hsame : ∀ j, j ≠ mb → (w.putObj mb o).heap[j]? = w.heap[j]? := fun j hj => World.putObj_heap_other hj
  exact ⟨(hsame _ (Ne.symm h.map_ne)).trans h.blk, by rw [del_pairs] at hm; exact hm, fun k hk => row_same (h.rows k hk) fun g e => hsame g (fun e' => h.row_map hk (e' ▸ e)), h.fb, h.fm, h.fr, h.apart, fun k hk => by rw [World.putObj_size]; exact h.lt k hk⟩

theorem infoInt : (Tryz.prog.info? 3).map (fun i => (i.zero, i.size, i.bytes)) = some (some (.int .i64 0), 1, 8) := by kernel_rfl

/-- A number behind the freed ones of a class. -/
theorem AtW.pushGone {w w1 : World} {b : Nat} {F : Nat → Prop} {s : St} {mb : Nat} {gv : Nat → Value} (h : AtW w b F s mb gv) {k : Nat} (hk : k < 6) {o : Obj} {g cap : Nat} {n : Int}
    (hown : w1.ownsRow 0 3 1 (.slice (some ⟨g, 0, none⟩) ((s.gone k).length + 1) cap) ((s.gone k).length + 1) ((s.gone k).map (Value.int .i64) ++ [.int .i64 n]))
    (hgrow : (w.alloc o).drew.grownBy w1 (gv k).ownBlock) (hat : (gv k).ownBlock = some g ∨ g = w.heap.size + 1) (hlt : g < w1.heap.size) :
    AtW (w1.setCell ⟨b, 3 + k, none⟩ (.slice (some ⟨g, 0, none⟩) ((s.gone k).length + 1) cap)) b (fun j => F j ∨ j = g) { s with gone := put s.gone k (s.gone k ++ [n]) } mb (put gv k (.slice (some ⟨g, 0, none⟩) ((s.gone k).length + 1) cap)) := by
  have hgb : g ≠ b := fun e => hat.elim (fun e1 => h.row_ne hk (e ▸ e1)) (fun e1 => by have := h.lt _ h.fb; omega)
  have hgm : g ≠ mb := fun e => hat.elim (fun e1 => h.row_map hk (e ▸ e1)) (fun e1 => by have := h.lt _ h.fm; omega)
  have hsz : w.heap.size + 1 ≤ w1.heap.size := by have := hgrow.size; simpa using this
  have hsame : ∀ j, F j → (gv k).ownBlock ≠ some j → w1.heap[j]? = w.heap[j]? := fun j hj hne => by
    have hl := h.lt j hj
    exact (hgrow.block j (by simp; omega) (Ne.symm hne)).trans (Below.heap_alloc w o j hl)
  have hset : ∀ j, j ≠ b → ∀ v, (w1.setCell ⟨b, 3 + k, none⟩ v).heap[j]? = w1.heap[j]? := fun j hj v => Below.heap_setCell _ _ _ _ hj
  have hgj : ∀ j, j < 6 → j ≠ k → ∀ g', (gv j).ownBlock = some g' → g' ≠ g := fun j hj hjk g' e e1 => by
    subst e1
    exact hat.elim (fun e2 => h.apart j k hj hk hjk g' e e2) (fun e2 => by have := h.lt _ (h.fr j hj g' e); omega)
  refine ⟨?_, h.map.same ((hset _ h.map_ne _).trans (hsame _ h.fm (h.row_map hk))), fun j hj => ?_, .inl h.fb, .inl h.fm, fun j hj g' e => ?_, fun i j hi hj hij g' e e' => ?_, fun j hj => ?_⟩
  · have := Mem.row_set ((hsame _ h.fb (h.row_ne hk)).trans h.blk) (3 + k) (.slice (some ⟨g, 0, none⟩) ((s.gone k).length + 1) cap)
    rwa [cells_set_gone k hk _ (s.gone k ++ [n])] at this
  · by_cases hjk : j = k
    · subst hjk
      simp only [put_same]
      have : w1.ownsRow 0 3 1 (.slice (some ⟨g, 0, none⟩) ((s.gone j).length + 1) cap) (s.gone j ++ [n]).length ((s.gone j ++ [n]).map (Value.int .i64)) := by simpa using hown
      exact row_same this fun g' e => hset _ (fun e' => hgb (by simp [Value.ownBlock] at e; omega)) _
    · simp only [put_other _ _ hjk]
      exact row_same (h.rows j hj) fun g' e => (hset _ (fun e' => h.row_ne hj (e' ▸ e)) _).trans (hsame _ (h.fr j hj g' e) (fun e2 => h.apart j k hj hk hjk g' e e2))
  · by_cases hjk : j = k
    · subst hjk
      simp only [put_same] at e
      exact .inr (by simp [Value.ownBlock] at e; exact e.symm)
    · simp only [put_other _ _ hjk] at e
      exact .inl (h.fr j hj g' e)
  · by_cases hik : i = k
    · subst hik
      have hji := Ne.symm hij
      simp only [put_same, put_other _ _ hji] at e e'
      exact hgj j hj hji g' e' (by simp [Value.ownBlock] at e; exact e.symm)
    · by_cases hjk : j = k
      · subst hjk
        simp only [put_same, put_other _ _ hij] at e e'
        exact hgj i hi hij g' e (by simp [Value.ownBlock] at e'; exact e'.symm)
      · simp only [put_other _ _ hik, put_other _ _ hjk] at e e'
        exact h.apart i j hi hj hij g' e e'
  · rw [show (w1.setCell ⟨b, 3 + k, none⟩ (.slice (some ⟨g, 0, none⟩) ((s.gone k).length + 1) cap)).heap.size = w1.heap.size from by simp [World.setCell]]
    exact hj.elim (fun e => by have := h.lt j e; omega) (fun e => e ▸ hlt)

set_option maxRecDepth 100000 in
set_option maxHeartbeats 2000000 in
theorem free_yes {w : World} {b : Nat} {F : Nat → Prop} {s : St} (h : At w b F s) {N : Nat} (hs : Small N s) (hN : N ≤ 1099511627776) (k : Nat) (n : Int) (hk : k < 6) (hc : ((k : Int), n) ∈ s.inn) :
    Calls Tryz.prog 42 #[.pointer (some ⟨b, 0, none⟩), .agg #[.int .i64 k, .int .i64 n]] w (FreePost w b F s (k, n)) := by
  obtain ⟨mb, gv, h⟩ := h
  obtain ⟨i0, hi, hz0, hz1, hz2⟩ := info_parts infoInt
  have hb : b < w.heap.size := h.lt _ h.fb
  have hml := h.map.lt
  have hFl : ∀ k, F k → k < w.heap.size := h.lt
  -- behind the box of c
  have h1 : AtW (w.alloc (.cells #[.int .i64 k, .int .i64 n] 77)) b F s mb gv := by
    have hsm : ∀ j, j < w.heap.size → (w.alloc (.cells #[.int .i64 k, .int .i64 n] 77)).heap[j]? = w.heap[j]? := fun j hj => Below.heap_alloc _ _ _ hj
    exact ⟨(hsm _ hb).trans h.blk, h.map.same (hsm _ hml), fun j hj => row_same (h.rows j hj) fun g e => hsm g (h.lt _ (h.fr j hj g e)), h.fb, h.fm, h.fr, h.apart, fun j hj => by have := h.lt j hj; simp; omega⟩
  have c2 : w.cell? ⟨b, 2, none⟩ = some (.map (some mb)) := Mem.row_cell h.blk 2
  have hlk : ∀ m, (Instr.lookup 104 (.map (some mb)) (.agg #[.int .i64 k, .int .i64 n]) false).run Tryz.prog ((w.alloc (.cells #[.int .i64 k, .int .i64 n] 77)).drewN m) = .ok (.bool true) ((w.alloc (.cells #[.int .i64 k, .int .i64 n] 77)).drewN m) := fun m => by
    have := lookup_pairs (w := (w.alloc (.cells #[.int .i64 k, .int .i64 n] 77)).drewN m) (h.map.same (by show (w.alloc _).heap[mb]? = _; exact Below.heap_alloc _ _ _ hml)) k n
    simpa [hc] using this
  have H1 := Lib.hid h1
  have HC := Lib.hid hc
  clear h h1 hc
  go_enter Tryz.func42, Tryz.ntmps42
  go_wp2
  go_quiet (fail)
  go_wp2
  have ha : AtW ((w.alloc (.cells #[.int .i64 k, .int .i64 n] 77)).drewN nq) b F s mb gv := ⟨H1.out.blk, H1.out.map, H1.out.rows, H1.out.fb, H1.out.fm, H1.out.fr, H1.out.apart, H1.out.lt⟩
  have hR : ((w.alloc (.cells #[.int .i64 k, .int .i64 n] 77)).drewN nq).heap[w.heap.size]? = some (.cells #[.int .i64 k, .int .i64 n] 77 (0, 0)) := Mem.new_block w _
  have hO : Only F w ((w.alloc (.cells #[.int .i64 k, .int .i64 n] 77)).drewN nq) := Only.drewN (Only.alloc (Only.refl F w) _) nq
  have hsz : ((w.alloc (.cells #[.int .i64 k, .int .i64 n] 77)).drewN nq).heap.size = w.heap.size + 1 := by show (w.alloc _).heap.size = _; simp
  clear hlk H1
  generalize (w.alloc (.cells #[.int .i64 k, .int .i64 n] 77)).drewN nq = Wa at *
  obtain ⟨o, hdel, hIs⟩ := Maps.run_delete (w := Wa.drew) chunkLaw Tryz.underlying104 (ha.map.same rfl) ((k : Int), n) 0 77
  have hb4 := AtW.delIn (w := Wa.drew) ⟨ha.blk, ha.map, ha.rows, ha.fb, ha.fm, ha.fr, ha.apart, ha.lt⟩ hIs
  have hR4 : (Wa.drew.putObj mb o).heap[w.heap.size]? = some (.cells #[.int .i64 k, .int .i64 n] 77 (0, 0)) := (World.putObj_heap_other (by have := hFl _ ha.fm; omega)).trans hR
  have hO4 : Only F w (Wa.drew.putObj mb o) := hO.drew.putObj (.inl ha.fm) o
  have hsz4 : (Wa.drew.putObj mb o).heap.size = w.heap.size + 1 := by rw [World.putObj_size]; exact hsz
  have d2 : Wa.cell? ⟨b, 2, none⟩ = some (.map (some mb)) := Mem.row_cell ha.blk 2
  have d0 := Mem.row_cell hR 0
  have d1 := Mem.row_cell hR 1
  simp only [List.getElem?_toArray, List.getElem?_cons_zero, List.getElem?_cons_succ] at d0 d1
  generalize Wa.drew.putObj mb o = Wb at *
  have hdel' : ∀ _ : True, (Builtin.delete_ #[104, 77] 0 #[.map (some mb), .agg #[.int .i64 k, .int .i64 n]]).run Tryz.prog Wa.drew = .ok (.tuple #[]) Wb := fun _ => hdel
  have HA := Lib.hid hb4
  have HR := Lib.hid hR4
  have HO := Lib.hid hO4
  have HZ := Lib.hid hsz4
  clear hdel hIs ha hR hO hsz hb4 hR4 hO4 hsz4
  refine wp_region_still_tail 5 (by kernel_rfl) (by kernel_rfl) ?_
  simp only [List.take_succ_cons, List.take_zero, List.drop_succ_cons, List.drop_zero]
  repeat still_step
  refine wpStill_nil ?_
  change wpList _ _ _ _ _ Wa.drew
  go_wp2
  have hb4 := HA.out
  have ck : Wb.cell? ⟨b, 3 + k, none⟩ = some (gv k) := (Mem.row_cell hb4.blk (3 + k)).trans (cells_gone k hk)
  have fk := Mem.row_free hb4.blk (3 + k)
  have d0' := Mem.row_cell HR.out 0
  have d1' := Mem.row_cell HR.out 1
  simp only [List.getElem?_toArray, List.getElem?_cons_zero, List.getElem?_cons_succ] at d0' d1'
  have hrow := hb4.rows k hk
  have hk0 : (0 : Int) ≤ k := by omega
  have hk6 : (k : Int) < 6 := by omega
  clear hb4 d2 d0 d1 hdel'
  have hRn := HR.out
  have hW0 : 0 < Wb.heap.size := by have := HZ.out; omega
  have hne : (gv k).ownBlock ≠ some b := HA.out.row_ne hk
  have hneR : (gv k).ownBlock ≠ some w.heap.size := fun e => by have := hFl _ (HA.out.fr k hk _ e); omega
  have hlb : b < Wb.heap.size := by have := HZ.out; omega
  have hlR : w.heap.size < Wb.heap.size := by have := HZ.out; omega
  have hlen : (s.gone k).length ≤ 1099511627776 := Nat.le_trans (hs.g k) hN
  obtain ⟨v0, hv0⟩ : ∃ v0, gv k = v0 := ⟨_, rfl⟩
  obtain ⟨L, hL⟩ : ∃ L, (s.gone k).length = L := ⟨_, rfl⟩
  obtain ⟨X, hX⟩ : ∃ X, (s.gone k).map (Value.int .i64) = X := ⟨_, rfl⟩
  simp only [hv0, hL, hX] at ck hrow hne hneR hlen
  have HV := Lib.hid hv0
  have HL := Lib.hid hL
  have HX := Lib.hid hX
  clear hv0 hL hX
  have hmx : L + 1 ≤ maxLen := by unfold maxLen; omega
  have hby : (L + 1) * 8 ≤ 140737488355328 := by omega
  have hstep : ∀ {ops : Array Oper} {o : Oper} {a : Act} {K : Act → World → Prop} {Q : Exit → Act → World → Prop} {E : Prop}, o.guard = none → o.op = .call { callee := .builtin .append, args := #[.tmp 26, .tmp 29], argTypes := #[84, 84] } → a.eval (.tmp 26) = v0 → a.eval (.tmp 29) = .slice (some ⟨Wb.heap.size, 0, none⟩) 1 1 → (∀ g cap w', w'.ownsRow 0 3 1 (.slice (some ⟨g, 0, none⟩) (L + 1) cap) (L + 1) (X ++ [.int .i64 n]) → (Wb.alloc (.cells #[.int .i64 n] 3)).drew.grownBy w' v0.ownBlock → (v0.ownBlock = some g ∨ g = Wb.heap.size + 1) → g < w'.heap.size → K (a.put o.dst (.slice (some ⟨g, 0, none⟩) (L + 1) cap)) w') → if Region.wanted o (yielded ops a.tmps) = true then Oper.wp Tryz.prog o a (Wb.alloc (.cells #[.int .i64 n] 3)).drew K Q else E := fun hg ho he hx hK => step_append_lies _ hg _ _ _ ho 0 3 i0 _ 1 8 Tryz.underlying84 hi hz0 hz1 hz2 rfl (by omega) v0 L X he ((hrow.alloc _).drew) ⟨Wb.heap.size, 0, none⟩ 1 1 [.int .i64 n] hx rfl (World.news_of_block (cs := #[.int .i64 n]) (t := 3) (fr := (0, 0)) (heap_alloc_new Wb _)) (by simp [Value.oneCell']) (by decide) hmx hby (Nat.zero_le _) (Wb.heap.size + 1) (by simp) hK
  have hsl : b < (Wb.alloc (.cells #[.int .i64 n] 3)).drew.heap.size := by simp; omega
  have hsR : w.heap.size < (Wb.alloc (.cells #[.int .i64 n] 3)).drew.heap.size := by simp; omega
  have hblk : ∀ w1 : World, (Wb.alloc (.cells #[.int .i64 n] 3)).drew.grownBy w1 v0.ownBlock → w1.heap[b]? = Wb.heap[b]? ∧ w1.heap[w.heap.size]? = Wb.heap[w.heap.size]? := fun w1 hg => by
    constructor
    · exact (hg.block b hsl (Ne.symm hne)).trans (Below.heap_alloc Wb _ _ hlb)
    · exact (hg.block _ hsR (Ne.symm hneR)).trans (Below.heap_alloc Wb _ _ hlR)
  have hfarb : ∀ w1 : World, (Wb.alloc (.cells #[.int .i64 n] 3)).drew.grownBy w1 v0.ownBlock → w1.cell? ⟨b, 3 + k, none⟩ = some v0 ∧ w1.frozen? ⟨b, 3 + k, none⟩ = false ∧ w1.cell? ⟨w.heap.size, 0, none⟩ = some (.int .i64 k) ∧ w1.cell? ⟨w.heap.size, 1, none⟩ = some (.int .i64 n) := fun w1 hg => by
    obtain ⟨e1, e2⟩ := hblk w1 hg
    exact ⟨(World.cell?_of_block e1).trans ck, (World.frozen?_of_block e1).trans fk, (World.cell?_of_block e2).trans d0', (World.cell?_of_block e2).trans d1'⟩
  go_cut [] from 17 to 33 (fun wx => ∃ g cap w1, w1.ownsRow 0 3 1 (.slice (some ⟨g, 0, none⟩) (L + 1) cap) (L + 1) (X ++ [.int .i64 n]) ∧ (Wb.alloc (.cells #[.int .i64 n] 3)).drew.grownBy w1 v0.ownBlock ∧ (v0.ownBlock = some g ∨ g = Wb.heap.size + 1) ∧ g < w1.heap.size ∧ wx = w1.setCell ⟨b, 3 + k, none⟩ (.slice (some ⟨g, 0, none⟩) (L + 1) cap))
  case first =>
    go_region_law (refine hstep (by rfl) (by rfl) (by rfl) (by rfl) ?_; intro gg cap w1 hown1 hgrow hat hlt; have cw1 := (hfarb w1 hgrow).1; have fw1 := (hfarb w1 hgrow).2.1; have ew1 := (hfarb w1 hgrow).2.2.1; have gw1 := (hfarb w1 hgrow).2.2.2)
    all_goals (go_wp2_with fail; go_meet; exact ⟨_, _, _, hown1, hgrow, hat, hlt, rfl⟩)
  case rest =>
    obtain ⟨g, cap, w1, hown1, hgrow, hat, hlt, rfl⟩ := hcut
    have hv0 := HV.out
    have hL := HL.out
    have hX := HX.out
    subst hL hX hv0
    have h5 := HA.out.pushGone hk hown1 hgrow hat hlt
    have hO5 : Only F w (w1.setCell ⟨b, 3 + k, none⟩ (.slice (some ⟨g, 0, none⟩) ((s.gone k).length + 1) cap)) :=
      ((((HO.out.alloc _).drew.grown hgrow fun g' e => .inl (HA.out.fr k hk g' e)).setCell (.inl HA.out.fb) _))
    have hFg : F g ∨ w.heap.size ≤ g := hat.elim (fun e => .inl (HA.out.fr k hk g e)) (fun e => .inr (by have := HZ.out; omega))
    have hR5 : (w1.setCell ⟨b, 3 + k, none⟩ (.slice (some ⟨g, 0, none⟩) ((s.gone k).length + 1) cap)).heap[w.heap.size]? = some (.cells #[.int .i64 k, .int .i64 n] 77 (0, 0)) :=
      (Below.heap_setCell _ _ _ _ (by simp; omega)).trans ((hblk w1 hgrow).2.trans HR.out)
    have hu0 := hs.u0
    have hu1 : s.used ≤ 2251799813685248 := by have := hs.u1; omega
    clear hown1 hgrow hat hlt hstep hfarb hblk hrow ck fk d0' d1' hRn hne hneR
    generalize w1.setCell ⟨b, 3 + k, none⟩ (.slice (some ⟨g, 0, none⟩) ((s.gone k).length + 1) cap) = Wc at *
    have e1 := Mem.row_cell h5.blk 1
    have e2 := Mem.row_free h5.blk 1
    have e3 := Mem.row_cell hR5 0
    simp only [List.getElem?_toArray, List.getElem?_cons_zero] at e3
    replace e1 : Wc.cell? ⟨b, 1, none⟩ = some (.int .i64 s.used) := e1
    obtain ⟨hb0, hb1⟩ := bytes_range (k : Int)
    have hw2 : IntKind.i64.wrap (s.used - bytesI k) = s.used - bytesI k := by rw [IntKind.wrap_i64]; omega
    have H5 := Lib.hid h5
    have HO5 := Lib.hid hO5
    have HF := Lib.hid hFg
    clear h5 hO5 hFg hs hR5
    go_wp2
    refine wp_region_still_tail 10 (by kernel_rfl) (by kernel_rfl) ?_
    simp only [List.take_succ_cons, List.take_zero, List.drop_succ_cons, List.drop_zero]
    repeat (first | still_step | still_call ((bytes_any _ _).mono fun _ _ ⟨h, e⟩ => ⟨h, e.symm⟩))
    refine wpStill_nil ?_
    change wpList _ _ _ _ _ Wc.drew
    go_wp2
    go_ret
    have ht : s.free ((k : Int), n) = (0, { s with inn := s.inn.erase ((k : Int), n), gone := put s.gone k (s.gone k ++ [n]), used := s.used - bytesI k }) := by
      unfold St.free; rw [if_pos HC.out]; rfl
    unfold FreePost
    rw [ht]
    have h6 := AtW.setOwn H5.out 1 _ (cells_set_used (s.used - bytesI k)) rfl rfl
    refine ⟨fun j => F j ∨ j = g, rfl, At.same (w := Wc.setCell ⟨b, 1, none⟩ (.int .i64 (s.used - bytesI k))) ⟨mb, _, h6⟩ (fun _ _ => rfl) (Nat.le_refl _), (HO5.out.setCell (.inl HA.out.fb) _).drew, fun j hj => hj.elim .inl (fun e => ?_)⟩
    subst e
    exact HF.out

theorem free_any {w : World} {b : Nat} {F : Nat → Prop} {s : St} (h : At w b F s) {N : Nat} (hs : Small N s) (hN : N ≤ 1099511627776) (c n : Int) :
    Calls Tryz.prog 42 #[.pointer (some ⟨b, 0, none⟩), .agg #[.int .i64 c, .int .i64 n]] w (FreePost w b F s (c, n)) := by
  by_cases hc : (c, n) ∈ s.inn
  · have h6 := hs.cls _ hc
    simp only at h6
    obtain ⟨k, rfl⟩ : ∃ k : Nat, c = k := ⟨c.toNat, by omega⟩
    exact free_yes h hs hN k n (by omega) hc
  · exact free_no h c n hc
end Go.Proofs.YteonjgnnpgpnnaaGreat.Slab

/- Layer 11: Remove. -/
namespace Go.Proofs.YteonjgnnpgpnnaaGreat.Shard
open Go Go.RowKit Go.Proofs.YteonjgnnpgpnnaaGreat.Mem Go.Proofs.YteonjgnnpgpnnaaGreat.App

theorem slab_lt {w : World} {b : Nat} {F : Nat → Prop} {s : Slab.St} (h : Slab.At w b F s) : ∀ k, F k → k < w.heap.size := by obtain ⟨_, _, h⟩ := h; exact h.lt
section
variable {W w : World} {n N b : Nat} {col : Col} {seed : Int} {s : St}
set_option maxRecDepth 100000 in
set_option maxHeartbeats 2000000 in
theorem remove_any (h : At W w n b col seed s) (k : ByteArray) (hk : k.size ≤ maxLen) (hl : s.order.all.length ≤ 1000000000) (hsm : Slab.Small N s.slab) (hN : N ≤ 1099511627776) :
    Calls Tryz.prog 32 #[.pointer (some ⟨b, 0, none⟩), .string k] w fun e w' => e = .returned (.bool (s.remove k).1) ∧ Turn W w n b col seed (s.remove k).2 w' := by
  obtain ⟨ad, vd, vv, rfl, h⟩ := h
  have c0 : w.cell? ⟨ad.sb, 0, none⟩ = some (.pointer (some ⟨ad.tb, 0, none⟩)) := Mem.row_cell h.self 0
  obtain ⟨F, hs, hF⟩ := h.tab
  have hget := TabE.get_any hs h.sm k hk
  have HH := Lib.hid (And.intro h hF)
  have HS := Lib.hid hsm
  clear h hs hF hsm
  unfold TabE.TurnPost at hget
  unfold St.remove
  rcases hg : Tab.get s.tab.L k with _ | x
  · have hv : TabE.getV s.tab.L k = .tuple #[.pointer none, .bool false] := by unfold TabE.getV; rw [hg]
    rw [hv] at hget
    clear hv hg
    go_enter Tryz.func32, Tryz.ntmps32
    go_wp2_with fail
    refine hget.mono ?_
    rintro e w1 ⟨F1, rfl, ha, ho, hgr⟩
    have h1 := HH.out.1.turnTab (hl' := fun _ => False) HH.out.2 ha ho hgr HH.out.1.sm.tick (fun q hq _ => ⟨hq, fun e => e⟩)
    have H1 := Lib.hid (And.intro h1 (Fr.of HH.out.2 ho))
    clear hget ha ho hgr h1
    go_wp2_with fail
    go_ret
    exact ⟨rfl, _, ⟨ad, vd, vv, rfl, H1.out.1⟩, H1.out.2⟩
  · have hv : TabE.getV s.tab.L k = .tuple #[.pointer (some ⟨x, 0, none⟩), .bool true] := by unfold TabE.getV; rw [hg]
    rw [hv] at hget
    clear hv
    have HG := Lib.hid hg
    have HS2 : Hid (Tab.Rising s.tab.tick.L) := Lib.hid (by obtain ⟨F, hs, -⟩ := HH.out.1.tab; exact hs.rise)
    clear hg
    go_enter Tryz.func32, Tryz.ntmps32
    go_wp2_with fail
    refine hget.mono ?_
    rintro e w1 ⟨F1, rfl, ha, ho, hgr⟩
    have h1 := HH.out.1.turnTab (hl' := fun _ => False) HH.out.2 ha ho hgr HH.out.1.sm.tick (fun q hq _ => ⟨hq, fun e => e⟩)
    have d0 : w1.cell? ⟨ad.sb, 0, none⟩ = some (.pointer (some ⟨ad.tb, 0, none⟩)) := Mem.row_cell h1.self 0
    obtain ⟨F2, hs2, hF2⟩ := h1.tab
    have hdel := TabE.delete_any hs2 h1.sm k hk
    have FR1 := Lib.hid (Fr.of HH.out.2 ho)
    have H1 := Lib.hid (And.intro h1 hF2)
    clear hget ha ho hgr h1 hs2 hF2 c0
    unfold TabE.TurnPost at hdel
    go_wp2_with fail
    refine hdel.mono ?_
    rintro e w2 ⟨F3, rfl, ha, ho, hgr⟩
    obtain ⟨bb, hbb⟩ : ∃ q, (Tab.get s.tab.tick.L k).isSome = q := ⟨_, rfl⟩
    rw [hbb]
    have hmem : (k, x) ∈ s.tab.tick.L := (Tab.get_mem HS2.out.nodup).1 HG.out
    obtain ⟨e1, -, -, e4, -⟩ := H1.out.1.ents (k, x) hmem (fun e => e)
    have e1' := (H1.out.1.far (Parts.onlyOf H1.out.2 ho) e4 (by simp)).trans e1
    have h2 := H1.out.1.turnTab (hl' := fun _ => False) H1.out.2 ha ho hgr (H1.out.1.sm.del k) (fun q hq _ => ⟨(Tab.mem_del.1 hq).1, fun e => e⟩)
    have d1 : w2.cell? ⟨ad.sb, 1, none⟩ = some (.pointer (some ⟨ad.mb, 0, none⟩)) := Mem.row_cell h2.self 1
    have d10 : w2.cell? ⟨x, 10, none⟩ = some (.int .i64 (s.ent x).chunk.1) := Mem.row_cell e1' 10
    have d11 : w2.cell? ⟨x, 11, none⟩ = some (.int .i64 (s.ent x).chunk.2) := Mem.row_cell e1' 11
    have h2d := h2.step (Below.drew (Below.refl _ w2))
    obtain ⟨F4, hs4, hF4⟩ := h2d.slab
    have hfree := Slab.free_any hs4 HS.out hN (s.ent x).chunk.1 (s.ent x).chunk.2
    have FR2 := Lib.hid ((FR1.out.trans (Fr.of H1.out.2 ho)).trans (Fr.below (Below.drew (Below.refl _ w2))))
    have H2 := Lib.hid (And.intro h2d hF4)
    clear hdel ha ho hgr h2 h2d hs4 hF4 e1 e1' e4 hmem hbb d0
    unfold Slab.FreePost at hfree
    go_wp2_with fail
    refine wp_region_still_tail 8 (by kernel_rfl) (by kernel_rfl) ?_
    simp only [List.take_succ_cons, List.take_zero, List.drop_succ_cons, List.drop_zero]
    repeat still_step
    refine wpStill_nil ?_
    change wpList _ _ _ _ _ w2.drew
    go_wp2_with fail
    refine hfree.mono ?_
    rintro e w3 ⟨F5, rfl, ha, ho, hgr⟩
    have h3 := H2.out.1.turnSlab H2.out.2 ha (slab_lt ha) ho hgr
    have g2 : w3.cell? ⟨ad.sb, 2, none⟩ = some (.pointer (some ⟨ad.ob, 0, none⟩)) := Mem.row_cell h3.self 2
    obtain ⟨F6, hs6, hF6⟩ := h3.order
    have hrem := Slru.remove_any hs6 k (by show s.order.all.length ≤ _; omega)
    have FR3 := Lib.hid (FR2.out.trans (Fr.of H2.out.2 ho))
    have H3 := Lib.hid (And.intro h3 hF6)
    clear hfree ha ho hgr h3 hs6 hF6 d1 d10 d11
    unfold Slru.TurnPost at hrem
    go_wp2_with fail
    refine hrem.mono ?_
    rintro e w4 ⟨F7, rfl, ha, ho, hgr⟩
    have h4 := H3.out.1.turnOrder H3.out.2 ha ha.lt ho hgr
    have H4 := Lib.hid (And.intro h4 (FR3.out.trans (Fr.of H3.out.2 ho)))
    clear hrem ha ho hgr h4
    go_wp2_with fail
    go_ret
    exact ⟨rfl, _, ⟨ad, vd, vv, rfl, H4.out.1⟩, H4.out.2⟩
end
end Go.Proofs.YteonjgnnpgpnnaaGreat.Shard

/- Layer 11: drop. -/
namespace Go.Proofs.YteonjgnnpgpnnaaGreat.Shard
open Go Go.RowKit Go.Proofs.YteonjgnnpgpnnaaGreat.Mem Go.Proofs.YteonjgnnpgpnnaaGreat.App

theorem infoS : (Tryz.prog.info? 9).map (fun i => (i.zero, i.size, i.bytes)) = some (some (.string ⟨#[]⟩), 1, 16) := by kernel_rfl
theorem src_str (w : World) (k : ByteArray) : Src (w.alloc (.cells #[.string k] 9)) 1 (.slice (some ⟨w.heap.size, 0, none⟩) 1 1) 1 [.string k] := by
  have hn := Mem.new_block w (.cells #[.string k] 9)
  refine .inr ⟨w.heap.size, 0, 1, rfl, rfl, by simp, fun j u hu => ?_⟩
  have := Mem.row_cell hn j
  rw [Nat.zero_add, this]
  simpa using hu
theorem fr_set {col col' : Col} {w w' : World} (h : Fr col col' w w') {b : Nat} (hb : col b ≠ none) (i : Nat) (v : Value) : Fr col col' w (w'.setCell ⟨b, i, none⟩ v) := ⟨h.1.setCell (p := ⟨b, i, none⟩) (.inl hb) v, h.2⟩
section
variable {W w : World} {n N b : Nat} {col : Col} {seed : Int} {s : St}
set_option maxRecDepth 100000 in
set_option maxHeartbeats 2000000 in
theorem drop_any (h : At W w n b col seed s) (k : ByteArray) (hk : k.size ≤ maxLen) (hl : s.order.all.length ≤ 1000000000) (hsm : Slab.Small N s.slab) (hN : N ≤ 1099511627776) (hd : (s.remove k).2.drops.length ≤ 1000000000) :
    Calls Tryz.prog 71 #[.pointer (some ⟨b, 0, none⟩), .string k] w fun e w' => e = .returned (.tuple #[]) ∧ Turn W w n b col seed (s.drop k) w' := by
  obtain ⟨i0, hi, hz0, hz1, hz2⟩ := info_parts infoS
  have hr := remove_any h k hk hl hsm hN
  unfold St.drop
  generalize s.remove k = y at *
  obtain ⟨q, t⟩ := y
  replace hd : t.drops.length ≤ 1000000000 := hd
  clear h hsm
  go_enter Tryz.func71, Tryz.ntmps71
  go_wp2_with fail
  refine hr.mono ?_
  rintro e w1 ⟨rfl, col1, ⟨ad, vd, vv, rfl, h1⟩, fr1⟩
  replace h1 : Parts W w1 n (fun _ => False) col1 ad seed t vd vv := h1
  have c4 : w1.cell? ⟨ad.sb, 4, none⟩ = some vd := Mem.row_cell h1.self 4
  have H1 := Lib.hid h1
  have hfin : ∀ v' w', w'.ownsRow 0 9 1 v' (t.drops.length + 1) (cellsS t.drops ++ [.string k]) → (w1.alloc (.cells #[.string k] 9)).grownBy w' vd.ownBlock → (v'.ownBlock = vd.ownBlock ∨ v'.ownBlock = some (w1.heap.size + 1)) →
      Hid (Turn W w n ad.sb col seed { t with drops := t.drops ++ [k] } (w'.setCell ⟨ad.sb, 4, none⟩ v')) ∧ w'.cell? ⟨ad.sb, 4, none⟩ = some vd ∧ w'.frozen? ⟨ad.sb, 4, none⟩ = false := fun v' w' hown hg hat => by
    have hoa : Only (Of col1 .drops) w1 (w1.alloc (.cells #[.string k] 9)) := (Only.refl _ _).alloc _
    have ho : Only (Of col1 .drops) w1 w' := hoa.grown hg (fun g e => .inl (H1.out.cd g e))
    have hsb : w'.heap[ad.sb]? = w1.heap[ad.sb]? := H1.out.far ho H1.out.csb (by decide)
    refine ⟨Lib.hid ⟨_, ⟨ad, v', vv, rfl, H1.out.turnDrops ho (by rw [List.length_append, cellsS, List.map_append]; exact hown) (fun g e => ?_)⟩, fr1.trans (fr_set (Fr.of (p := .drops) (fun k hk => hk) ho) (by rw [H1.out.csb]; simp) 4 v')⟩, (World.cell?_of_block hsb).trans c4, (World.frozen?_of_block hsb).trans (Mem.row_free H1.out.self 4)⟩
    rcases hat with h | h
    · exact .inl (h ▸ e)
    · rw [h] at e; injection e with e; exact .inr (by omega)
  have HF := Lib.hid hfin
  clear hr h1 hfin
  go_wp2_with (first
    | (at_builtin; refine wpList_append_src (.tmp 11) (.tmp 13) _ _ _ _ i0 _ 1 16 0 vd _ t.drops.length 1 (cellsS t.drops) [.string k] rfl rfl Tryz.underlying46 Tryz.underlying46 hi hz0 hz1 hz2 rfl (by decide) rfl rfl (H1.out.drops.alloc _) (src_str w1 k) (by simp [Value.oneCell']) (by unfold maxLen; omega) (by omega) (Nat.zero_le _) ?_; intro v3 w3 hown3 hgr3 hat3; obtain ⟨y3, z3, hv3⟩ := Src.shape (Src.of_row hown3); obtain ⟨HA, c5, f5⟩ := HF.out v3 w3 hown3 hgr3 (by simpa using hat3); rw [hv3] at HA ⊢; clear hown3 hgr3 hat3 hv3 c4)
    | fail)
  go_end0
  exact ⟨rfl, HA.out⟩
end
end Go.Proofs.YteonjgnnpgpnnaaGreat.Shard

/- Layer 11: find. -/
namespace Go.Proofs.YteonjgnnpgpnnaaGreat.Shard
open Go Go.RowKit Go.Proofs.YteonjgnnpgpnnaaGreat.Mem Go.Proofs.YteonjgnnpgpnnaaGreat.App

def ptrE : Option Nat → Value
  | some x => .pointer (some ⟨x, 0, none⟩)
  | none => .pointer none
section
variable {W w : World} {n N b : Nat} {col : Col} {seed : Int} {s : St}
set_option maxRecDepth 100000 in
set_option maxHeartbeats 2000000 in
theorem find_any (h : At W w n b col seed s) (k : ByteArray) (env : Env) (hk : k.size ≤ maxLen) (hl : s.order.all.length ≤ 1000000000) (hsm : Slab.Small N s.slab) (hN : N ≤ 1099511627776) (hd : (s.tick.remove k).2.drops.length ≤ 1000000000) :
    Calls Tryz.prog 40 #[.pointer (some ⟨b, 0, none⟩), .string k, .agg env.arr] w fun e w' => e = .returned (ptrE (s.find k env).1) ∧ Turn W w n b col seed (s.find k env).2 w' := by
  obtain ⟨ad, vd, vv, rfl, h⟩ := h
  have hwz : ∀ k q, col k = some q → k ≠ w.heap.size := fun k q e e1 => by have := (h.lt k q e).2; omega
  have nb : (w.alloc (.cells env.arr 36)).heap[w.heap.size]? = some (.cells env.arr 36 (0, 0)) := Mem.new_block w _
  replace h := h.step (Mem.al (Below.refl w.heap.size w) (.cells env.arr 36))
  have hlt0 : w.heap.size < (w.alloc (.cells env.arr 36)).heap.size := by simp
  have HB := Lib.hid (And.intro nb (And.intro hwz hlt0))
  clear nb hwz hlt0
  have FR0 : Hid (Fr col col w (w.alloc (.cells env.arr 36))) := Lib.hid (Fr.below (Mem.al (Below.refl w.heap.size w) _))
  have c0 : (w.alloc (.cells env.arr 36)).cell? ⟨ad.sb, 0, none⟩ = some (.pointer (some ⟨ad.tb, 0, none⟩)) := Mem.row_cell h.self 0
  obtain ⟨F, hs, hF⟩ := h.tab
  have hget := TabE.get_any hs h.sm k hk
  have hrise : Tab.Rising s.tab.L := hs.rise
  have HH := Lib.hid (And.intro h (And.intro hF (And.intro hsm hrise)))
  have HD := Lib.hid hd
  clear h hs hF hsm hrise hd
  unfold TabE.TurnPost at hget
  have hfind : s.find k env = match Tab.get s.tab.L k with | some x => if (s.ent x).it.live env then (some x, s.tick) else (none, s.tick.drop k) | none => (none, s.tick) := rfl
  obtain ⟨y, hy⟩ : ∃ y, s.find k env = y := ⟨_, rfl⟩
  rw [hy] at hfind ⊢
  have HY := Lib.hid hfind
  clear hfind hy
  rcases hg : Tab.get s.tab.L k with _ | x
  · have hv : TabE.getV s.tab.L k = .tuple #[.pointer none, .bool false] := by unfold TabE.getV; rw [hg]
    rw [hv] at hget
    have HY2 : Hid (y = (none, s.tick)) := Lib.hid (by have := HY.out; rw [hg] at this; exact this)
    clear hv hg
    go_enter Tryz.func40, Tryz.ntmps40
    go_wp2_with fail
    refine hget.mono ?_
    rintro e w1 ⟨F1, rfl, ha, ho, hgr⟩
    have h1 := HH.out.1.turnTab (hl' := fun _ => False) HH.out.2.1 ha ho hgr HH.out.1.sm.tick (fun q hq _ => ⟨hq, fun e => e⟩)
    have H1 := Lib.hid (And.intro h1 (FR0.out.trans (Fr.of HH.out.2.1 ho)))
    clear hget ha ho hgr h1
    go_wp2_with fail
    go_ret
    rw [HY2.out]
    exact ⟨rfl, _, ⟨ad, vd, vv, rfl, H1.out.1⟩, H1.out.2⟩
  · have hv : TabE.getV s.tab.L k = .tuple #[.pointer (some ⟨x, 0, none⟩), .bool true] := by unfold TabE.getV; rw [hg]
    rw [hv] at hget
    have hmem : (k, x) ∈ s.tab.tick.L := (Tab.get_mem HH.out.2.2.2.nodup).1 hg
    have HY2 : Hid (y = if (s.ent x).it.live env then (some x, s.tick) else (none, s.tick.drop k)) := Lib.hid (by have := HY.out; rw [hg] at this; exact this)
    clear hv hg
    have HM := Lib.hid hmem
    clear hmem
    go_enter Tryz.func40, Tryz.ntmps40
    go_wp2_with fail
    refine hget.mono ?_
    rintro e w1 ⟨F1, rfl, ha, ho, hgr⟩
    have h1 := HH.out.1.turnTab (hl' := fun _ => False) HH.out.2.1 ha ho hgr HH.out.1.sm.tick (fun q hq _ => ⟨hq, fun e => e⟩)
    obtain ⟨e1, -⟩ := h1.ents (k, x) HM.out (fun e => e)
    have cell := fun j => Mem.row_cell e1 j
    have d0 := cell 0
    have d1 := cell 1
    have d2 := cell 2
    have d3 := cell 3
    have d4 := cell 4
    have d5 := cell 5
    have d6 := cell 6
    have d7 := cell 7
    have d8 := cell 8
    have d9 := cell 9
    simp only [Ent.arr, List.getElem?_toArray, List.getElem?_cons_zero, List.getElem?_cons_succ] at d0 d1 d2 d3 d4 d5 d6 d7 d8 d9
    have hlive := live_any (s.ent x).it (vv x) env w1.drew
    unfold Item.arr Env.arr at hlive
    have hbox := (ho.same _ HB.out.2.2 (fun hk => HB.out.2.1 _ _ (HH.out.2.1 _ hk) rfl)).trans HB.out.1
    have q0 := Mem.row_cell hbox 0
    have q1 := Mem.row_cell hbox 1
    have q2 := Mem.row_cell hbox 2
    have q3 := Mem.row_cell hbox 3
    simp only [Env.arr, List.getElem?_toArray, List.getElem?_cons_zero, List.getElem?_cons_succ] at q0 q1 q2 q3
    have hdrop := fun w' (hb : Below w1.heap.size w1 w') => drop_any (s := s.tick) ⟨ad, vd, vv, rfl, (h1.step hb)⟩ k hk hl HH.out.2.2.1 hN HD.out
    have HDr := Lib.hid hdrop
    clear hdrop hbox
    have H1 := Lib.hid (And.intro h1 (FR0.out.trans (Fr.of HH.out.2.1 ho)))
    clear hget ha ho hgr h1 e1 cell c0
    go_wp2_with fail
    refine wp_region_still_tail 5 (by kernel_rfl) (by kernel_rfl) ?_
    simp only [List.take_succ_cons, List.take_zero, List.drop_succ_cons, List.drop_zero]
    repeat still_step
    refine wpStill_nil ?_
    change wpList _ _ _ _ _ w1.drew
    obtain ⟨lv, hlv⟩ : ∃ q, (s.ent x).it.live env = q := ⟨_, rfl⟩
    rw [hlv] at hlive
    have HLV := Lib.hid hlv
    clear hlv d0 d1 d2 d3 d4 d5 d6 d7 d8 d9 q0 q1 q2 q3
    go_wp2_with fail
    refine hlive.mono ?_
    rintro e w2 ⟨rfl, hb2⟩
    clear hlive
    have hb : Below w1.heap.size w1 w2 := Mem.tr (Below.drew (Below.refl _ w1)) hb2
    have hdr := HDr.out w2 hb
    have HB2 := Lib.hid hb
    clear hb hb2
    cases lv with
    | true =>
      go_wp2_with fail
      go_ret
      rw [HY2.out, if_pos HLV.out]
      exact ⟨rfl, _, ⟨ad, vd, vv, rfl, H1.out.1.step HB2.out⟩, H1.out.2.trans (Fr.below HB2.out)⟩
    | false =>
      go_wp2_with fail
      refine hdr.mono ?_
      rintro e w3 ⟨rfl, ha⟩
      have HA := Lib.hid ha
      clear hdr ha
      go_wp2_with fail
      go_ret
      rw [HY2.out, if_neg (by rw [HLV.out]; decide)]
      obtain ⟨c9, a9, f9⟩ := HA.out
      exact ⟨rfl, c9, a9, (H1.out.2.trans (Fr.below HB2.out)).trans f9⟩
end
end Go.Proofs.YteonjgnnpgpnnaaGreat.Shard

