/- Layer 9: sorted, All. -/
import Derived.Test.YtekcogoijlbmnaaTabI13
namespace Go.Proofs.Ytekcogoijlbmnaa.TabI
open Go Go.RowKit Go.Proofs.Ytekcogoijlbmnaa.Mem Go.Proofs.Ytekcogoijlbmnaa.Tab Go.Proofs.Ytekcogoijlbmnaa.App Go.Shelf

def SortPost (w : World) (base : Nat) (v : Value) (l : Pairs V) (e : Ending) (w' : World) : Prop :=
  e = .returned (.tuple #[]) ∧ ∃ l', Rising l' ∧ l'.Perm l ∧ w'.ownsRow base 57 2 v l'.length (cellsP l') ∧ Below base w w'
theorem sort_any {w : World} {base : Nat} {v : Value} {l : Pairs V} (h : w.ownsRow base 57 2 v l.length (cellsP l)) (hb : base ≤ w.heap.size) (hn : (l.map (·.1)).Nodup) (hl : l.length ≤ 1000000000) :
    Calls Try.prog 38 #[v, .func (.func 39) #[] #[]] w (SortPost w base v l) := by
  have eg : ∀ args w, (callFunc 39 args).run Try.prog w = .ok (.enter 39 args) w := enters_of Try.func39 (by kernel_rfl) rfl
  have hr := h
  rcases h.2 with ⟨rfl, e2⟩ | ⟨g, cap, cur, rfl, h2, h3, h4, h5, h6, h7⟩
  · have hl0 : l = [] := List.eq_nil_of_length_eq_zero e2
    subst hl0
    have hcon := Go.Proofs.AnyF.slices_SortFunc_none Lay.sortF none 0 (.func (.func 39) #[] #[]) w
    refine Calls.mono hcon ?_
    rintro e w' ⟨rfl, rfl⟩
    exact ⟨rfl, [], List.Pairwise.nil, List.Perm.refl _, hr, Below.refl _ _⟩
  · have hcon := Go.Proofs.AnyQ.slices_SortFunc Lay.sortF 2 Try.isAgg57 Try.sizeOf57 pairCells (fun _ => rfl) (fun x v hv => by simp [pairCells] at hv; rcases hv with rfl | rfl <;> rfl) cmpP swo_cmp 39 #[] g 0 cap l.toArray w eg (cmpLays g 0 _ w) (holds_row h rfl) (Array.getElem?_eq_some_iff.1 h3).1 (by simp; omega)
    refine Calls.mono hcon ?_
    rintro e w' ⟨rfl, d', m, os, hp, hs, rfl⟩
    obtain ⟨r1, r2⟩ := sorted_rising hp hs (by simpa using hn)
    obtain ⟨cs', q1, q2⟩ := sortWorld_blk (m := m) (dk := d') (os := os) h3
    have hsz : d'.size = l.length := by rw [hp.1]; simp
    refine ⟨rfl, d'.toList, r1, by simpa using r2, ?_, sortWorld_below h2 hb⟩
    have hh := holdsK_sortWorldK_c pairCells 2 w g 0 l.toArray d' m os (holds_row h rfl) (Array.getElem?_eq_some_iff.1 h3).1 (by rw [hsz]; simp)
    have := row_holds hh q1 h2 rfl (by omega) h5 (by omega)
    rw [hsz] at this
    rw [show d'.toList.length = l.length from by simp [hsz]]
    exact this
def SortedPost (w : World) (L : Pairs V) (e : Ending) (w' : World) : Prop := ∃ v, e = .returned v ∧ w'.ownsRow w.heap.size 57 2 v L.length (cellsP L) ∧ Below w.heap.size w w'
def flatN (c : Con V) (k : Nat) : Pairs V := (List.range k).flatMap c.bs
theorem flatN_succ (c : Con V) (k : Nat) : flatN c (k + 1) = flatN c k ++ c.bs k := by unfold flatN; rw [List.range_succ, List.flatMap_append]; simp
theorem flatN_len {n : Nat} {seed : Int} {c : Con V} {L : Pairs V} (h : Fits n seed c L) (k : Nat) : (flatN c k).length ≤ L.length := by
  refine (nodup_of_keys (flat_keys k h.abs)).length_le_of_subset fun p hp => ?_
  obtain ⟨j, _, hp⟩ := List.mem_flatMap.1 hp
  exact (h.abs.mem p).2 (by rw [← h.abs.home j p hp]; exact hp)
structure SoFar (w : World) (c : Con V) (gv' : Nat → Value) (vc vl : Value) (k n : Nat) (w' : World) : Prop where
  own : w'.ownsRow w.heap.size 57 2 vl (flatN c k).length (cellsP (flatN c k))
  all : w'.ownsRow w.heap.size 59 1 vc n (bkCells gv' 0 n)
  below : Below w.heap.size w w'
set_option maxRecDepth 100000 in
set_option maxHeartbeats 2000000 in
theorem sorted_any {w : World} {b : Nat} {F : Nat → Prop} {seed : Int} {s : St V} {n : Nat} (h : At w b F seed s) (hs : Sm n seed s) :
    Calls Try.prog 34 #[.pointer (some ⟨b, 0, none⟩)] w (SortedPost w s.L) := by
  obtain ⟨i0, hi, hz0, hz1, hz2⟩ := info_parts infoPair
  obtain ⟨c, ea, eb, nb, gv, hat, ha, hE, hcN, hcl, hks⟩ := h
  have hf := hs.fits ha hE hcN hks
  have hgs : ∀ k, k < c.E + c.N → ∃ x y z, gv k = .slice x y z := fun k hk => by
    obtain ⟨x, y, e⟩ := own_shape (hat.rows k hk)
    exact ⟨_, _, _, e⟩
  obtain ⟨gv', hgv⟩ : ∃ gv' : Nat → Value, gv' = fun k => if k < c.E + c.N then gv k else .slice none 0 0 := ⟨_, rfl⟩
  have hgv1 : ∀ k, k < c.E + c.N → gv' k = gv k := fun k hk => by rw [hgv]; simp [hk]
  have hgs' : ∀ k, ∃ x y z, gv' k = .slice x y z := fun k => by
    by_cases hk : k < c.E + c.N
    · rw [hgv1 k hk]; exact hgs k hk
    · rw [hgv]; simp [hk]
  have hbk := hs.bk
  have hnl := hs.nle
  have hcon : ∀ (W : World) (pb : Nat), Below w.heap.size w W → W.heap[pb]? = some (.cells #[.slice ea c.E c.E, .slice (some ⟨nb, 0, none⟩) c.N c.N] 50 (0, 0)) →
      Calls Try.prog 37 #[.slice (some ⟨pb, 0, none⟩) 2 2] W fun e w' => ∃ v, e = .returned v ∧ w'.ownsRow W.heap.size 59 1 v (c.E + c.N) (bkCells gv' 0 (c.E + c.N)) ∧ Below W.heap.size W w' := fun W pb hb hp => by
    have hat2 := hat.below hb
    refine concat_any (eb := eb) ?_ ?_ hgs' hf.abs.pos (by omega) (by omega) hp
    · rcases hat2.eo with h0 | ⟨h1, h2, h3, a, h4, h5, h6⟩
      · exact .inl h0
      · exact .inr ⟨h1, a, h4, fun k hk => by rw [hgv1 k (by omega)]; exact h6 k hk⟩
    · obtain ⟨a, h1, h2, h3⟩ := hat2.no
      exact ⟨a, h1, fun k hk => by rw [hgv1 _ (by omega)]; exact h3 k hk⟩
  have c1 : w.cell? ⟨b, 1, none⟩ = some (.slice ea c.E c.E) := Mem.row_cell hat.blk 1
  have c2 : w.cell? ⟨b, 2, none⟩ = some (.slice (some ⟨nb, 0, none⟩) c.N c.N) := Mem.row_cell hat.blk 2
  have HA := Lib.hid (And.intro hat (And.intro hf (And.intro hgv1 hgs')))
  have HC := Lib.hid hcon
  obtain ⟨E, hEe⟩ : ∃ E, c.E = E := ⟨_, rfl⟩
  obtain ⟨N, hNe⟩ : ∃ N, c.N = N := ⟨_, rfl⟩
  have HE := Lib.hid (And.intro hEe hNe)
  rw [hEe] at c1 HC
  rw [hNe] at c2 HC
  have hEN : E + N ≤ 3000000000 := by omega
  clear hat ha hE hcN hcl hks hf hgs hgs' hgv hgv1 hbk hnl hcon hEe hNe
  go_enter Try.func34, Try.ntmps34
  go_wp2_with fail
  have hbl : b < w.heap.size := HA.out.1.lt b HA.out.1.fb
  have hb1 : Below w.heap.size w (w.alloc (.cells #[.slice ea E E, .slice (some ⟨nb, 0, none⟩) N N] 50)).drew := Below.drew (Mem.al (Below.refl _ _) _)
  have hcon1 := HC.out _ w.heap.size hb1 (Mem.new_block w _)
  have hcl : ∀ W : World, Below w.heap.size w W → W.cell? ⟨b, 1, none⟩ = some (.slice ea E E) ∧ W.cell? ⟨b, 2, none⟩ = some (.slice (some ⟨nb, 0, none⟩) N N) := fun W hb => ⟨(hb.cell (p := ⟨b, 1, none⟩) hbl).trans c1, (hb.cell (p := ⟨b, 2, none⟩) hbl).trans c2⟩
  have hENi : ((E + N : Nat) : Int) ≤ 3000000000 := by omega
  go_region_held3 (fun W' : World => W'.cell? ⟨b, 1, none⟩ = some (.slice ea E E) ∧ W'.cell? ⟨b, 2, none⟩ = some (.slice (some ⟨nb, 0, none⟩) N N)) (first | exact ⟨c1, c2⟩ | exact hcl _ hb1 | exact hcl _ (Mem.tr hb1 hb2))
    ((go_at_call 37; refine hcon1.mono ?_; rintro e w2 ⟨v2, rfl, hown2, hb2⟩; obtain ⟨ya, yc, rfl⟩ := Src.shape (Src.of_row hown2)))
  have hb12 := Mem.tr hb1 hb2
  have hsz1 : w.heap.size ≤ (w.alloc (.cells #[.slice ea E E, .slice (some ⟨nb, 0, none⟩) N N] 50)).drew.heap.size := hb1.size
  have H0 : SoFar w c gv' (.slice ya (E + N) yc) (.slice none 0 0) 0 (E + N) w2 := ⟨World.ownsRow_nil _ _ _ _, Mem.row_less hown2 hsz1, hb12⟩
  have HH0 := Lib.hid H0
  clear hown2 hb2 hb1 hcon1 hcl hbl c1 c2 hb12 hsz1 H0 HC
  obtain ⟨T, hT⟩ : ∃ T, E + N = T := ⟨_, rfl⟩
  rw [hT] at HH0 hEN hENi
  have hTi : (E : Int) + (N : Int) = (T : Int) := by omega
  simp only [hT, hTi]
  have HT := Lib.hid hT
  clear hTi
  clear hT
  go_wp2_with fail
  go_loopg [3, 17] T (fun g vl i wr => ∃ k : Nat, i = .int .i64 k ∧ g + k = T ∧ Hid (SoFar w c gv' (.slice ya T yc) vl k T wr))
  case atStart => exact ⟨0, rfl, by omega, HH0⟩
  case round =>
    obtain ⟨k, rfl, hg, HS⟩ := hrel
    have HG := Lib.hid hg
    clear hg HH0
    obtain ⟨xa, xc, hxl⟩ := Src.shape (Src.of_row HS.out.own)
    subst hxl
    by_cases hk : k < T
    · have hki : (k : Int) < T := by omega
      have hk2 : k < c.E + c.N := by rw [HE.out.1, HE.out.2, HT.out]; exact hk
      have hrow := (HA.out.1.below HS.out.below).rows k hk2
      rw [← HA.out.2.2.1 k hk2] at hrow
      obtain ⟨ba, bc, hbv⟩ := own_shape hrow
      obtain ⟨gc, rfl, cgc⟩ : ∃ gc, ya = some ⟨gc, 0, none⟩ ∧ wr.cell? ⟨gc, k, none⟩ = some (gv' k) := by
        rcases HS.out.all.2 with ⟨e, _⟩ | ⟨g, cap, cur, e, _, e2, e3, _, e4, e5⟩
        · injection e with _ e; omega
        · injection e with e
          refine ⟨g, e, ?_⟩
          have h1 := bkCells_get gv' 0 T k hk
          rw [Nat.zero_add, ← e5, List.getElem?_take, if_pos (by omega), Array.getElem?_toList] at h1
          exact (Mem.row_cell e2 k).trans h1
      rw [hbv] at cgc hrow
      have hl1 := flatN_len HA.out.2.1 (k + 1)
      have hl2 := HA.out.2.1.len
      have hl3 := HA.out.2.1.n
      rw [flatN_succ, List.length_append] at hl1
      have hsz := HS.out.below.size
      have hone := one_cellsP (c.bs k)
      have hfin : ∀ v' w5, w5.ownsRow w.heap.size 57 2 v' ((flatN c k).length + (c.bs k).length) (cellsP (flatN c k) ++ cellsP (c.bs k)) → wr.grownBy w5 (Value.slice xa (flatN c k).length xc).ownBlock → SoFar w c gv' (.slice (some ⟨gc, 0, none⟩) T yc) v' (k + 1) T w5 := fun v' w5 hown hgw => by
        refine ⟨by rw [flatN_succ, List.length_append, cellsP_app]; exact hown, ?_, HS.out.below.grown hgw hsz (fun g e => (own_block_lt HS.out.own g e).1)⟩
        refine row_same HS.out.all fun g e => hgw.block g (own_block_lt HS.out.all g e).2 (fun e2 => ?_)
        rcases HS.out.all.2 with ⟨q, _⟩ | ⟨g3, cap, cur, q, _, q2, _⟩
        · rw [q] at e; cases e
        · rw [q] at e
          have : g3 = g := by simpa [Value.ownBlock] using e
          subst this
          exact row_not HS.out.own q2 (by decide) e2.symm
      have HF := Lib.hid hfin
      have HO := Lib.hid (And.intro HS.out.own (Src.of_row hrow))
      clear hrow hbv hfin hk2
      go_wp2_with (at_builtin; refine wpList_append_src _ _ 58 59 57 57 i0 _ 2 24 w.heap.size _ _ (flatN c k).length (c.bs k).length (cellsP (flatN c k)) (cellsP (c.bs k)) rfl rfl Try.underlying58 Try.underlying59 hi hz0 hz1 hz2 rfl (by omega) rfl rfl HO.out.1 HO.out.2 hone (by unfold maxLen; omega) (by omega) hsz ?_; intro v' w5 hown5 hg5 hat5; have H5 := Lib.hid (HF.out _ _ hown5 hg5); clear hown5 hg5 hat5)
      go_roundg (T - (k + 1))
      case measure => have := HG.out; omega
      case rel => exact ⟨k + 1, by go_num, by have := HG.out; omega, H5⟩
    · have hTk : (T : Int) ≤ k := by omega
      have hkT : k = T := by have := HG.out; omega
      have hflat : flatN c k = c.flat := by unfold flatN Con.flat; rw [hkT, HE.out.1, HE.out.2, HT.out]
      have hl1 := flatN_len HA.out.2.1 k
      have hl2 := HA.out.2.1.len
      have hl3 := HA.out.2.1.n
      have hsort := sort_any HS.out.own HS.out.below.size (flat_keys k HA.out.2.1.abs) (by omega)
      have HK := Lib.hid (And.intro hkT hflat)
      clear hkT hflat hl1 hl2 hl3
      unfold SortPost at hsort
      go_wp2_with fail
      refine hsort.mono ?_
      rintro e w6 ⟨rfl, l', hr, hp, hown, hb⟩
      have hL := HA.out.2.1.abs.sorted hr (by rw [← HK.out.2]; exact hp)
      subst hL
      have hlen := hp.length_eq
      have HR := Lib.hid (And.intro hown (HS.out.below.trans hb))
      clear hown hb hsort hr hp
      have HLn := Lib.hid hlen
      clear hlen
      go_wp2_with fail
      go_ret
      exact ⟨_, rfl, HR.out.1, HR.out.2⟩
end Go.Proofs.Ytekcogoijlbmnaa.TabI
