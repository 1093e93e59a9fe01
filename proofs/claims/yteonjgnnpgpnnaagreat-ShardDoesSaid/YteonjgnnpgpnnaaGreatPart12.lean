/- Part12: TabE14, RangeS, TabE15, RangeR, Shard11, TabE16, Shard12, RangeA, AppendIn, ShardL1, ShardR, one behind the other. -/
import Derived.Test.YteonjgnnpgpnnaaGreatPart11
import Derived.Test.YteonjgnnpgpnnaaGreatPart2
import Derived.Shelf.Abstract
import Derived.Shelf.RegionOpen
import Derived.OwnWalkIn
import Derived.TacticsInMore
import Derived.Sort.LoopGhostIn
import Derived.Sort.QuietIn
import Derived.Test.YteonjgnnpgpnnaaGreatPart3
/- Layer 9: sorted, All. -/
namespace Go.Proofs.YteonjgnnpgpnnaaGreat.TabE
set_option maxRecDepth 100000
open Go Go.RowKit Go.Proofs.YteonjgnnpgpnnaaGreat.Mem Go.Proofs.YteonjgnnpgpnnaaGreat.Tab Go.Proofs.YteonjgnnpgpnnaaGreat.App Go.Shelf

def SortPost (w : World) (base : Nat) (v : Value) (l : Pairs V) (e : Ending) (w' : World) : Prop :=
  e = .returned (.tuple #[]) ∧ ∃ l', Rising l' ∧ l'.Perm l ∧ w'.ownsRow base 145 2 v l'.length (cellsP l') ∧ Below base w w'
theorem sort_any {w : World} {base : Nat} {v : Value} {l : Pairs V} (h : w.ownsRow base 145 2 v l.length (cellsP l)) (hb : base ≤ w.heap.size) (hn : (l.map (·.1)).Nodup) (hl : l.length ≤ 1000000000) :
    Calls Tryz.prog 112 #[v, .func (.func 113) #[] #[]] w (SortPost w base v l) := by
  have eg : ∀ args w, (callFunc 113 args).run Tryz.prog w = .ok (.enter 113 args) w := enters_of Tryz.func113 (by kernel_rfl) rfl
  have hr := h
  rcases h.2 with ⟨rfl, e2⟩ | ⟨g, cap, cur, rfl, h2, h3, h4, h5, h6, h7⟩
  · have hl0 : l = [] := List.eq_nil_of_length_eq_zero e2
    subst hl0
    have hcon := Go.Proofs.AnyF.slices_SortFunc_none Lay.sortF none 0 (.func (.func 113) #[] #[]) w
    refine Calls.mono hcon ?_
    rintro e w' ⟨rfl, rfl⟩
    exact ⟨rfl, [], List.Pairwise.nil, List.Perm.refl _, hr, Below.refl _ _⟩
  · have hcon := Go.Proofs.AnyQ.slices_SortFunc Lay.sortF 2 Tryz.isAgg145 Tryz.sizeOf145 pairCells (fun _ => rfl) (fun x v hv => by simp [pairCells] at hv; rcases hv with rfl | rfl <;> rfl) cmpP swo_cmp 113 #[] g 0 cap l.toArray w eg (cmpLays g 0 _ w) (holds_row h rfl) (Array.getElem?_eq_some_iff.1 h3).1 (by simp; omega)
    refine Calls.mono hcon ?_
    rintro e w' ⟨rfl, d', m, os, hp, hs, rfl⟩
    obtain ⟨r1, r2⟩ := sorted_rising hp hs (by simpa using hn)
    obtain ⟨cs', q1, q2⟩ := sortWorld_blk (m := m) (dk := d') (os := os) h3
    have hsz : d'.size = l.length := by rw [hp.1]; simp
    refine ⟨rfl, d'.toList, r1, by simpa using r2, ?_, sortWorld_below h2 hb⟩
    have hh := holdsK_sortWorldK_c pairCells 2 w g 0 l.toArray d' m os (holds_row h rfl) (Array.getElem?_eq_some_iff.1 h3).1 (by rw [hsz]; simp)
    have := row_holds hh q1 h2 rfl (by omega) h5 (by omega)
    rw [hsz] at this
    rw [show d'.toList.length = l.length from by simp [hsz]]
    exact this
def SortedPost (w : World) (L : Pairs V) (e : Ending) (w' : World) : Prop := ∃ v, e = .returned v ∧ w'.ownsRow w.heap.size 145 2 v L.length (cellsP L) ∧ Below w.heap.size w w'
def flatN (c : Con V) (k : Nat) : Pairs V := (List.range k).flatMap c.bs
theorem flatN_succ (c : Con V) (k : Nat) : flatN c (k + 1) = flatN c k ++ c.bs k := by unfold flatN; rw [List.range_succ, List.flatMap_append]; simp
theorem flatN_len {n : Nat} {seed : Int} {c : Con V} {L : Pairs V} (h : Fits n seed c L) (k : Nat) : (flatN c k).length ≤ L.length := by
  refine (nodup_of_keys (flat_keys k h.abs)).length_le_of_subset fun p hp => ?_
  obtain ⟨j, _, hp⟩ := List.mem_flatMap.1 hp
  exact (h.abs.mem p).2 (by rw [← h.abs.home j p hp]; exact hp)
structure SoFar (w : World) (c : Con V) (gv' : Nat → Value) (vc vl : Value) (k n : Nat) (w' : World) : Prop where
  own : w'.ownsRow w.heap.size 145 2 vl (flatN c k).length (cellsP (flatN c k))
  all : w'.ownsRow w.heap.size 147 1 vc n (bkCells gv' 0 n)
  below : Below w.heap.size w w'
set_option maxRecDepth 100000 in
set_option maxHeartbeats 2000000 in
theorem sorted_any {w : World} {b : Nat} {F : Nat → Prop} {seed : Int} {s : St V} {n : Nat} (h : At w b F seed s) (hs : Sm n seed s) :
    Calls Tryz.prog 92 #[.pointer (some ⟨b, 0, none⟩)] w (SortedPost w s.L) := by
  obtain ⟨i0, hi, hz0, hz1, hz2⟩ := info_parts infoPair
  obtain ⟨c, ea, eb, nb, gv, hat, ha, hE, hcN, hcl, hks⟩ := h
  have hf := hs.fits ha hE hcN hks
  have hgs : ∀ k, k < c.E + c.N → ∃ x y z, gv k = .slice x y z := fun k hk => by
    obtain ⟨x, y, e⟩ := own_shape (hat.rows k hk)
    exact ⟨_, _, _, e⟩
  obtain ⟨gv', hgv⟩ : ∃ gv' : Nat → Value, gv' = fun k => if k < c.E + c.N then gv k else .slice none 0 0 := ⟨_, rfl⟩
  have hgv1 : ∀ k, k < c.E + c.N → gv' k = gv k := fun k hk => by rw [hgv]; simp [hk]
  have hgs' : ∀ k, ∃ x y z, gv' k = .slice x y z := fun k => by
    by_cases hk : k < c.E + c.N
    · rw [hgv1 k hk]; exact hgs k hk
    · rw [hgv]; simp [hk]
  have hbk := hs.bk
  have hnl := hs.nle
  have hcon : ∀ (W : World) (pb : Nat), Below w.heap.size w W → W.heap[pb]? = some (.cells #[.slice ea c.E c.E, .slice (some ⟨nb, 0, none⟩) c.N c.N] 101 (0, 0)) →
      Calls Tryz.prog 111 #[.slice (some ⟨pb, 0, none⟩) 2 2] W fun e w' => ∃ v, e = .returned v ∧ w'.ownsRow W.heap.size 147 1 v (c.E + c.N) (bkCells gv' 0 (c.E + c.N)) ∧ Below W.heap.size W w' := fun W pb hb hp => by
    have hat2 := hat.below hb
    refine concat_any (eb := eb) ?_ ?_ hgs' hf.abs.pos (by omega) (by omega) hp
    · rcases hat2.eo with h0 | ⟨h1, h2, h3, a, h4, h5, h6⟩
      · exact .inl h0
      · exact .inr ⟨h1, a, h4, fun k hk => by rw [hgv1 k (by omega)]; exact h6 k hk⟩
    · obtain ⟨a, h1, h2, h3⟩ := hat2.no
      exact ⟨a, h1, fun k hk => by rw [hgv1 _ (by omega)]; exact h3 k hk⟩
  have c1 : w.cell? ⟨b, 1, none⟩ = some (.slice ea c.E c.E) := Mem.row_cell hat.blk 1
  have c2 : w.cell? ⟨b, 2, none⟩ = some (.slice (some ⟨nb, 0, none⟩) c.N c.N) := Mem.row_cell hat.blk 2
  have HA := Lib.hid (And.intro hat (And.intro hf (And.intro hgv1 hgs')))
  have HC := Lib.hid hcon
  obtain ⟨E, hEe⟩ : ∃ E, c.E = E := ⟨_, rfl⟩
  obtain ⟨N, hNe⟩ : ∃ N, c.N = N := ⟨_, rfl⟩
  have HE := Lib.hid (And.intro hEe hNe)
  rw [hEe] at c1 HC
  rw [hNe] at c2 HC
  have hEN : E + N ≤ 3000000000 := by omega
  clear hat ha hE hcN hcl hks hf hgs hgs' hgv hgv1 hbk hnl hcon hEe hNe
  go_enter Tryz.func92, Tryz.ntmps92
  go_wp2_with fail
  have hbl : b < w.heap.size := HA.out.1.lt b HA.out.1.fb
  have hb1 : Below w.heap.size w (w.alloc (.cells #[.slice ea E E, .slice (some ⟨nb, 0, none⟩) N N] 101)).drew := Below.drew (Mem.al (Below.refl _ _) _)
  have hcon1 := HC.out _ w.heap.size hb1 (Mem.new_block w _)
  have hcl : ∀ W : World, Below w.heap.size w W → W.cell? ⟨b, 1, none⟩ = some (.slice ea E E) ∧ W.cell? ⟨b, 2, none⟩ = some (.slice (some ⟨nb, 0, none⟩) N N) := fun W hb => ⟨(hb.cell (p := ⟨b, 1, none⟩) hbl).trans c1, (hb.cell (p := ⟨b, 2, none⟩) hbl).trans c2⟩
  have hENi : ((E + N : Nat) : Int) ≤ 3000000000 := by omega
  go_region_held3 (fun W' : World => W'.cell? ⟨b, 1, none⟩ = some (.slice ea E E) ∧ W'.cell? ⟨b, 2, none⟩ = some (.slice (some ⟨nb, 0, none⟩) N N)) (first | exact ⟨c1, c2⟩ | exact hcl _ hb1 | exact hcl _ (Mem.tr hb1 hb2))
    ((go_at_call 111; refine hcon1.mono ?_; rintro e w2 ⟨v2, rfl, hown2, hb2⟩; obtain ⟨ya, yc, rfl⟩ := Src.shape (Src.of_row hown2)))
  have hb12 := Mem.tr hb1 hb2
  have hsz1 : w.heap.size ≤ (w.alloc (.cells #[.slice ea E E, .slice (some ⟨nb, 0, none⟩) N N] 101)).drew.heap.size := hb1.size
  have H0 : SoFar w c gv' (.slice ya (E + N) yc) (.slice none 0 0) 0 (E + N) w2 := ⟨World.ownsRow_nil _ _ _ _, Mem.row_less hown2 hsz1, hb12⟩
  have HH0 := Lib.hid H0
  clear hown2 hb2 hb1 hcon1 hcl hbl c1 c2 hb12 hsz1 H0 HC
  obtain ⟨T, hT⟩ : ∃ T, E + N = T := ⟨_, rfl⟩
  rw [hT] at HH0 hEN hENi
  have hTi : (E : Int) + (N : Int) = (T : Int) := by omega
  simp only [hT, hTi]
  have HT := Lib.hid hT
  clear hTi
  clear hT
  go_wp2_with fail
  go_loopg [3, 17] T (fun g vl i wr => ∃ k : Nat, i = .int .i64 k ∧ g + k = T ∧ Hid (SoFar w c gv' (.slice ya T yc) vl k T wr))
  case atStart => exact ⟨0, rfl, by omega, HH0⟩
  case round =>
    obtain ⟨k, rfl, hg, HS⟩ := hrel
    have HG := Lib.hid hg
    clear hg HH0
    obtain ⟨xa, xc, hxl⟩ := Src.shape (Src.of_row HS.out.own)
    subst hxl
    by_cases hk : k < T
    · have hki : (k : Int) < T := by omega
      have hk2 : k < c.E + c.N := by rw [HE.out.1, HE.out.2, HT.out]; exact hk
      have hrow := (HA.out.1.below HS.out.below).rows k hk2
      rw [← HA.out.2.2.1 k hk2] at hrow
      obtain ⟨ba, bc, hbv⟩ := own_shape hrow
      obtain ⟨gc, rfl, cgc⟩ : ∃ gc, ya = some ⟨gc, 0, none⟩ ∧ wr.cell? ⟨gc, k, none⟩ = some (gv' k) := by
        rcases HS.out.all.2 with ⟨e, _⟩ | ⟨g, cap, cur, e, _, e2, e3, _, e4, e5⟩
        · injection e with _ e; omega
        · injection e with e
          refine ⟨g, e, ?_⟩
          have h1 := bkCells_get gv' 0 T k hk
          rw [Nat.zero_add, ← e5, List.getElem?_take, if_pos (by omega), Array.getElem?_toList] at h1
          exact (Mem.row_cell e2 k).trans h1
      rw [hbv] at cgc hrow
      have hl1 := flatN_len HA.out.2.1 (k + 1)
      have hl2 := HA.out.2.1.len
      have hl3 := HA.out.2.1.n
      rw [flatN_succ, List.length_append] at hl1
      have hsz := HS.out.below.size
      have hone := one_cellsP (c.bs k)
      have hfin : ∀ v' w5, w5.ownsRow w.heap.size 145 2 v' ((flatN c k).length + (c.bs k).length) (cellsP (flatN c k) ++ cellsP (c.bs k)) → wr.grownBy w5 (Value.slice xa (flatN c k).length xc).ownBlock → SoFar w c gv' (.slice (some ⟨gc, 0, none⟩) T yc) v' (k + 1) T w5 := fun v' w5 hown hgw => by
        refine ⟨by rw [flatN_succ, List.length_append, cellsP_app]; exact hown, ?_, HS.out.below.grown hgw hsz (fun g e => (own_block_lt HS.out.own g e).1)⟩
        refine row_same HS.out.all fun g e => hgw.block g (own_block_lt HS.out.all g e).2 (fun e2 => ?_)
        rcases HS.out.all.2 with ⟨q, _⟩ | ⟨g3, cap, cur, q, _, q2, _⟩
        · rw [q] at e; cases e
        · rw [q] at e
          have : g3 = g := by simpa [Value.ownBlock] using e
          subst this
          exact row_not HS.out.own q2 (by decide) e2.symm
      have HF := Lib.hid hfin
      have HO := Lib.hid (And.intro HS.out.own (Src.of_row hrow))
      clear hrow hbv hfin hk2
      go_wp2_with (at_builtin; refine wpList_append_src _ _ 146 147 145 145 i0 _ 2 24 w.heap.size _ _ (flatN c k).length (c.bs k).length (cellsP (flatN c k)) (cellsP (c.bs k)) rfl rfl Tryz.underlying146 Tryz.underlying147 hi hz0 hz1 hz2 rfl (by omega) rfl rfl HO.out.1 HO.out.2 hone (by unfold maxLen; omega) (by omega) hsz ?_; intro v' w5 hown5 hg5 hat5; have H5 := Lib.hid (HF.out _ _ hown5 hg5); clear hown5 hg5 hat5)
      go_roundg (T - (k + 1))
      case measure => have := HG.out; omega
      case rel => exact ⟨k + 1, by go_num, by have := HG.out; omega, H5⟩
    · have hTk : (T : Int) ≤ k := by omega
      have hkT : k = T := by have := HG.out; omega
      have hflat : flatN c k = c.flat := by unfold flatN Con.flat; rw [hkT, HE.out.1, HE.out.2, HT.out]
      have hl1 := flatN_len HA.out.2.1 k
      have hl2 := HA.out.2.1.len
      have hl3 := HA.out.2.1.n
      have hsort := sort_any HS.out.own HS.out.below.size (flat_keys k HA.out.2.1.abs) (by omega)
      have HK := Lib.hid (And.intro hkT hflat)
      clear hkT hflat hl1 hl2 hl3
      unfold SortPost at hsort
      go_wp2_with fail
      refine hsort.mono ?_
      rintro e w6 ⟨rfl, l', hr, hp, hown, hb⟩
      have hL := HA.out.2.1.abs.sorted hr (by rw [← HK.out.2]; exact hp)
      subst hL
      have hlen := hp.length_eq
      have HR := Lib.hid (And.intro hown (HS.out.below.trans hb))
      clear hown hb hsort hr hp
      have HLn := Lib.hid hlen
      clear hlen
      go_wp2_with fail
      go_ret
      exact ⟨_, rfl, HR.out.1, HR.out.2⟩
end Go.Proofs.YteonjgnnpgpnnaaGreat.TabE

/- 'for .. := range f' over an iterator that lays memory of its own ahead of the first round: the blocks S; the rounds leave them alone. -/
namespace Go.Proofs.YteonjgnnpgpnnaaGreat.Rng
open Go Go.RowKit
variable {P : Program}

/-- The iterator's contract: as SeqI, but that it may lay blocks of its own first, which no round turns. -/
def SeqS {α : Type} (P : Program) (gf : Nat) (lb : Array Value) (encs : α → Array Value) (K : Nat → Prop) (full : List α) (w : World) : Prop :=
  ∀ (l : Nat) (J Jx : (Nat → Prop) → Nat → World → Prop) (W : World), Below w.heap.size w W → (∀ S, OwnFrom W.heap.size (J S)) → (∀ S, OwnFrom W.heap.size (Jx S)) →
    (∀ S k x W1, J S k W1 → full[k]? = some x → YieldAt Fence.wide 9 P l (encs x) W1 fun e W' =>
      (e = .returned (.bool true) ∧ J S (k + 1) W' ∧ Keep (fun j => K j ∨ S j) W1 W') ∨ (e = .returned (.bool false) ∧ Jx S (k + 1) W')) →
    (∀ S W2, Below W.heap.size W W2 → (∀ j, S j → W.heap.size ≤ j ∧ j < W2.heap.size) → J S 0 W2) →
    CallsIn Fence.wide 9 P gf (#[.func (.yield l) #[] #[]] ++ lb) W fun e W' => (∃ v, e = .returned v) ∧ ∃ S, (J S full.length W' ∨ ∃ k, k ≤ full.length ∧ Jx S k W')

section
variable {α : Type} {g : Operand} {ps : Array Tmp} {assign body : Code} {Q : Exit → Act → World → Prop} {a : Act} {w w0 : World} {n gf : Nat} {lb : Array Value}
  {encs : α → Array Value} {K : Nat → Prop} {full : List α}

/-- **THE LAW, of a loop that stands in no other such loop.** -/
theorem outerS (hg : a.eval g = .func (.func gf) #[] lb) (eg : ∀ args w, (callFunc gf args).run P w = .ok (.enter gf args) w)
    (hseq : SeqS P gf lb encs K full w0) (hb0 : Below w0.heap.size w0 w) (hK : ∀ k, K k → k < w.heap.size) (hps : ∀ x, (encs x).size = ps.size)
    (I : (Nat → Prop) → Nat → World → Prop) (Ix : (Nat → Prop) → Code → World → Prop) (hI : ∀ S, OwnFrom w.heap.size (I S)) (hIx : ∀ S, OwnFrom w.heap.size (Ix S)) (h0 : ∀ S W, Below w.heap.size w W → (∀ j, S j → w.heap.size ≤ j ∧ j < W.heap.size) → I S 0 W) (a₁ : α → Act)
    (hassign : ∀ (l : Nat) (x : α) (W : World) (Kc : Act → World → Prop), Kc (a₁ x) W →
      assign.wpIn (Fence.wide.inRound l) 9 P (Exit.then Kc (fun _ _ _ => False)) { tmps := (ps.zip (encs x)).foldl (fun t (p, v) => t.setIfInBounds p v) a.tmps, defers := [] } W)
    (hbody : ∀ (S : Nat → Prop) (l k : Nat) (x : α) (W : World), w.heap.size ≤ l → (∃ r, W.heap[l]? = some (.loop r)) → I S k W → full[k]? = some x → body.wpIn (Fence.wide.inRound l) 9 P (rpost w.heap.size (fun j => K j ∨ S j) (I S (k + 1)) (Ix S) W) (a₁ x) W)
    (hdone : ∀ (S : Nat → Prop) (D : Nat) (W : World), w.heap.size ≤ D → I S full.length W → W.heap[D]? = some (.deferred (some [])) → Q .normal { a with defers := { target := .collected D, args := #[] } :: a.defers } W)
    (hstop : ∀ (S : Nat → Prop) (D : Nat) (c : Code) (W : World), w.heap.size ≤ D → Ix S c W → W.heap[D]? = some (.deferred (some [])) → c.wpIn Fence.wide n P Q { a with defers := { target := .collected D, args := #[] } :: a.defers } W) :
    (Code.rangeFunc g ps assign body).wpIn Fence.wide n P Q a w := by
  refine wpIn_rangeFunc ?_
  intro fn hfn
  obtain ⟨rec, hrec⟩ : ∃ rec : LoopState → Option Code → Loop, ∀ st pe, rec st pe = { state := st, pending := pe, fn, tmps := a.tmps, params := ps, assign, body, defers := w.heap.size } := ⟨_, fun _ _ => rfl⟩
  obtain ⟨W1, hW1⟩ : ∃ W1, (w.alloc (.deferred (some []))).alloc (.loop (rec .ready none)) = W1 := ⟨_, rfl⟩
  have hL1 : W1.heap[w.heap.size + 1]? = some (.loop (rec .ready none)) := by
    rw [← hW1]; have := World.alloc_heap_new (w.alloc (.deferred (some []))) (.loop (rec .ready none)); rwa [World.size_alloc] at this
  have hK1 : W1.heap[w.heap.size]? = some (.deferred (some [])) := by
    rw [← hW1]; exact (Below.heap_alloc _ _ _ (by simp)).trans (World.alloc_heap_new w _)
  have hs1 : W1.heap.size = w.heap.size + 2 := by rw [← hW1]; simp
  have hbw1 : Below w.heap.size w W1 := by rw [← hW1]; exact ((Below.refl _ w).alloc (Nat.le_refl _) _).alloc (by simp) _
  have hb1 : Below w0.heap.size w0 W1 := by
    rw [← hW1]; exact hb0.trans ((((Below.refl _ w).alloc (Nat.le_refl _) _).alloc (by simp) _).mono hb0.size)
  refine ⟨w.heap.size + 1, [{ target := .collected w.heap.size, args := #[] }], W1, { target := .fn (.func gf) lb, args := #[.func (.yield (w.heap.size + 1)) #[] #[]] }, W1, gf,
    #[.func (.yield (w.heap.size + 1)) #[] #[]] ++ lb, W1, ?_, ?_, ?_, ?_, ?_, ?_⟩
  · rw [← hW1, hrec]; exact run_enterLoop_outer _ _ _ _ _
  · simp only [resolve, hg]
    simp [go_sem]
  · intro _ _; trivial
  · simp [invoke, go_sem, eg]
  · intro h; simp [Fence.wide] at h
  · have hnw : ∀ {A : World} {row : Option Nat}, (∀ r, row = some r → W1.heap.size ≤ r ∧ ∃ o : Obj, A.heap[r]? = some o ∧ o.isCells = false) → (∀ r, row = some r → w.heap.size ≤ r ∧ ∃ o : Obj, A.heap[r]? = some o ∧ o.isCells = false) :=
      fun hr r e => ⟨by have := (hr r e).1; omega, (hr r e).2⟩
    refine callsIn_wide.2 (callsIn_wide.1 ((hseq (w.heap.size + 1)
      (fun S k W => I S k W ∧ W.heap[w.heap.size + 1]? = some (.loop (rec .ready none)) ∧ W.heap[w.heap.size]? = some (.deferred (some [])) ∧ ∀ j, S j → w.heap.size + 2 ≤ j)
      (fun S _ W => ∃ c, Ix S c W ∧ W.heap[w.heap.size + 1]? = some (.loop (rec .done (some c))) ∧ W.heap[w.heap.size]? = some (.deferred (some [])))
      W1 hb1
      (fun S s A B row hs hg' hr => ⟨hI S s A B row hs.1 hg' (hnw hr), kept_obj hg' hr (by omega) hs.2.1, kept_obj hg' hr (by omega) hs.2.2.1, hs.2.2.2⟩)
      (fun S s A B row hs hg' hr => by
        obtain ⟨c, hc, hl, hk⟩ := hs
        exact ⟨c, hIx S c A B row hc hg' (hnw hr), kept_obj hg' hr (by omega) hl, kept_obj hg' hr (by omega) hk⟩)
      ?_ ?_).mono ?_))
    · rintro S k x W ⟨hi, hl, hk, hSl⟩ hx
      have hkB : ∀ (W' : World), (∃ Wb Wc, KeepsFrom w.heap.size Wb Wc ∧ (∀ j, j ≠ w.heap.size + 1 → Wb.heap[j]? = W.heap[j]?) ∧ (∀ j, j ≠ w.heap.size + 1 → W'.heap[j]? = Wc.heap[j]?)) → W'.heap[w.heap.size]? = some (.deferred (some [])) := by
        rintro W' ⟨Wb, Wc, h1, h2, h3⟩
        exact (h3 _ (by omega)).trans (h1.same _ _ (Nat.le_refl _) ((h2 _ (by omega)).trans hk) rfl)
      refine (round_of (B := w.heap.size) hrec (hI S) (hIx S) (by omega) (fun h => h.elim (fun h => by have := hK _ h; omega) (fun h => by have := hSl _ h; omega)) (hps x) (a₁ x) hi hl (hassign _ x) (fun W2 hr2 hi2 => hbody S _ k x W2 (by omega) hr2 hi2 hx)).mono ?_
      rintro e W' (⟨rfl, ⟨h1, h2, h3⟩, h4⟩ | ⟨rfl, c, h1, h2, h3⟩)
      · exact .inl ⟨rfl, ⟨h1, h2, hkB _ h3, hSl⟩, h4⟩
      · exact .inr ⟨rfl, c, h1, h2, hkB _ h3⟩
    · intro S W2 hb2 hS2
      exact ⟨h0 S W2 (hbw1.trans (hb2.mono (by omega))) (fun j hj => ⟨by have := (hS2 j hj).1; omega, (hS2 j hj).2⟩), (hb2.block _ (by omega)).trans hL1, (hb2.block _ (by omega)).trans hK1, fun j hj => by have := (hS2 j hj).1; omega⟩
    · rintro e W2 ⟨⟨v, rfl⟩, S, (⟨hi, hl, hk, hSl⟩ | ⟨k, hkl, c, hi, hl, hk⟩)⟩
      · exact ⟨none, _, by have := run_endLoop (P := P) hl (by rw [hrec]; simp); rw [hrec] at this; exact this, hdone S _ _ (Nat.le_refl _) ((hI S).putObj _ hi (by omega) hl rfl) ((World.putObj_heap_other (by omega)).trans hk)⟩
      · exact ⟨some c, _, by have := run_endLoop (P := P) hl (by rw [hrec]; simp); rw [hrec] at this; exact this, hstop S _ c _ (Nat.le_refl _) ((hIx S).putObj _ hi (by omega) hl rfl) ((World.putObj_heap_other (by omega)).trans hk)⟩

/-- **THE LAW, of a loop that stands in the body of another such loop.** -/
theorem innerS {l₀ : Nat} {r₀ : Loop} (hl₀ : w.heap[l₀]? = some (.loop r₀)) (hg : a.eval g = .func (.func gf) #[] lb) (eg : ∀ args w, (callFunc gf args).run P w = .ok (.enter gf args) w)
    (hseq : SeqS P gf lb encs K full w0) (hb0 : Below w0.heap.size w0 w) (hK : ∀ k, K k → k < w.heap.size) (hps : ∀ x, (encs x).size = ps.size)
    (I : (Nat → Prop) → Nat → World → Prop) (Ix : (Nat → Prop) → Code → World → Prop) (hI : ∀ S, OwnFrom w.heap.size (I S)) (hIx : ∀ S, OwnFrom w.heap.size (Ix S)) (h0 : ∀ S W, Below w.heap.size w W → (∀ j, S j → w.heap.size ≤ j ∧ j < W.heap.size) → I S 0 W) (a₁ : α → Act)
    (hassign : ∀ (l : Nat) (x : α) (W : World) (Kc : Act → World → Prop), Kc (a₁ x) W →
      assign.wpIn (Fence.wide.inRound l) 9 P (Exit.then Kc (fun _ _ _ => False)) { tmps := (ps.zip (encs x)).foldl (fun t (p, v) => t.setIfInBounds p v) a.tmps, defers := [] } W)
    (hbody : ∀ (S : Nat → Prop) (l k : Nat) (x : α) (W : World), w.heap.size ≤ l → (∃ r, W.heap[l]? = some (.loop r)) → I S k W → full[k]? = some x → body.wpIn (Fence.wide.inRound l) 9 P (rpost w.heap.size (fun j => K j ∨ S j) (I S (k + 1)) (Ix S) W) (a₁ x) W)
    (hdone : ∀ (S : Nat → Prop) (W : World), I S full.length W → Q .normal a W)
    (hstop : ∀ (S : Nat → Prop) (c : Code) (W : World), Ix S c W → c.wpIn (Fence.wide.inRound l₀) n P Q a W) :
    (Code.rangeFunc g ps assign body).wpIn (Fence.wide.inRound l₀) n P Q a w := by
  refine wpIn_rangeFunc ?_
  intro fn hfn
  obtain ⟨rec, hrec⟩ : ∃ rec : LoopState → Option Code → Loop, ∀ st pe, rec st pe = { state := st, pending := pe, fn, tmps := a.tmps, params := ps, assign, body, defers := r₀.defers } := ⟨_, fun _ _ => rfl⟩
  obtain ⟨W1, hW1⟩ : ∃ W1, w.alloc (.loop (rec .ready none)) = W1 := ⟨_, rfl⟩
  have hL1 : W1.heap[w.heap.size]? = some (.loop (rec .ready none)) := by rw [← hW1]; exact World.alloc_heap_new w _
  have hs1 : W1.heap.size = w.heap.size + 1 := by rw [← hW1]; simp
  have hbw1 : Below w.heap.size w W1 := by rw [← hW1]; exact (Below.refl _ w).alloc (Nat.le_refl _) _
  have hb1 : Below w0.heap.size w0 W1 := by
    rw [← hW1]; exact hb0.trans (((Below.refl _ w).alloc (Nat.le_refl _) _).mono hb0.size)
  refine ⟨w.heap.size, [], W1, { target := .fn (.func gf) lb, args := #[.func (.yield w.heap.size) #[] #[]] }, W1, gf,
    #[.func (.yield w.heap.size) #[] #[]] ++ lb, W1, ?_, ?_, ?_, ?_, ?_, ?_⟩
  · rw [← hW1, hrec]; exact run_enterLoop_inner hl₀ _ _ _ _ _
  · simp only [resolve, hg]
    simp [go_sem]
  · intro _ _; trivial
  · simp [invoke, go_sem, eg]
  · intro h; simp [Fence.wide] at h
  · have hnw : ∀ {A : World} {row : Option Nat}, (∀ r, row = some r → W1.heap.size ≤ r ∧ ∃ o : Obj, A.heap[r]? = some o ∧ o.isCells = false) → (∀ r, row = some r → w.heap.size ≤ r ∧ ∃ o : Obj, A.heap[r]? = some o ∧ o.isCells = false) :=
      fun hr r e => ⟨by have := (hr r e).1; omega, (hr r e).2⟩
    have main : Calls P gf (#[.func (.yield w.heap.size) #[] #[]] ++ lb) W1 (rangePost (Fence.wide.inRound l₀) n P w.heap.size Q { a with defers := [] ++ a.defers }) := by
      refine callsIn_wide.1 ((hseq w.heap.size
        (fun S k W => I S k W ∧ W.heap[w.heap.size]? = some (.loop (rec .ready none)) ∧ ∀ j, S j → w.heap.size + 1 ≤ j)
        (fun S _ W => ∃ c, Ix S c W ∧ W.heap[w.heap.size]? = some (.loop (rec .done (some c))))
        W1 hb1
        (fun S s A B row hs hg' hr => ⟨hI S s A B row hs.1 hg' (hnw hr), kept_obj hg' hr (by omega) hs.2.1, hs.2.2⟩)
        (fun S s A B row hs hg' hr => by
          obtain ⟨c, hc, hl⟩ := hs
          exact ⟨c, hIx S c A B row hc hg' (hnw hr), kept_obj hg' hr (by omega) hl⟩)
        ?_ ?_).mono ?_)
      · rintro S k x W ⟨hi, hl, hSl⟩ hx
        refine (round_of (B := w.heap.size) hrec (hI S) (hIx S) (Nat.le_refl _) (fun h => h.elim (fun h => by have := hK _ h; omega) (fun h => by have := hSl _ h; omega)) (hps x) (a₁ x) hi hl (hassign _ x) (fun W2 hr2 hi2 => hbody S _ k x W2 (Nat.le_refl _) hr2 hi2 hx)).mono ?_
        rintro e W' (⟨rfl, ⟨h1, h2, h3⟩, h4⟩ | ⟨rfl, c, h1, h2, h3⟩)
        · exact .inl ⟨rfl, ⟨h1, h2, hSl⟩, h4⟩
        · exact .inr ⟨rfl, c, h1, h2⟩
      · intro S W2 hb2 hS2
        exact ⟨h0 S W2 (hbw1.trans (hb2.mono (by omega))) (fun j hj => ⟨by have := (hS2 j hj).1; omega, (hS2 j hj).2⟩), (hb2.block _ (by omega)).trans hL1, fun j hj => by have := (hS2 j hj).1; omega⟩
      · rintro e W2 ⟨⟨v, rfl⟩, S, (⟨hi, hl, hSl⟩ | ⟨k, hkl, c, hi, hl⟩)⟩
        · exact ⟨none, _, by have := run_endLoop (P := P) hl (by rw [hrec]; simp); rw [hrec] at this; exact this, hdone S _ ((hI S).putObj _ hi (Nat.le_refl _) hl rfl)⟩
        · exact ⟨some c, _, by have := run_endLoop (P := P) hl (by rw [hrec]; simp); rw [hrec] at this; exact this, hstop S c _ ((hIx S).putObj _ hi (Nat.le_refl _) hl rfl)⟩
    exact CallsIn.inRound (F := Fence.wide) l₀ (callsIn_wide.2 main)
end
end Go.Proofs.YteonjgnnpgpnnaaGreat.Rng

/- Layer 9: All, an iterator. -/
namespace Go.Proofs.YteonjgnnpgpnnaaGreat.TabE
set_option maxRecDepth 100000
open Go Go.RowKit Go.Shelf Go.Proofs.YteonjgnnpgpnnaaGreat.Mem Go.Proofs.YteonjgnnpgpnnaaGreat.Tab Go.Proofs.YteonjgnnpgpnnaaGreat.App Go.Proofs.YteonjgnnpgpnnaaGreat.Rng
attribute [local go_sem] Oper.semAt_some

def encIt (x : ByteArray × V) : Array Value := #[.string x.1, (.pointer (some ⟨x.2, 0, none⟩))]
set_option maxHeartbeats 2000000 in
theorem all_seq {w : World} {b Bx : Nat} {F : Nat → Prop} {seed : Int} {s : St V} {n : Nat} (h : At w b F seed s) (hs : Sm n seed s) (hbx : w.heap[Bx]? = some (.cells #[.pointer (some ⟨b, 0, none⟩)] 56 (0, 0))) :
    SeqS Tryz.prog 91 #[.pointer (some ⟨Bx, 0, none⟩)] encIt (fun k => k = Bx ∨ F k) s.L w := by
  intro l J Jx W hW hJ hJx hY h0
  have hat : At W b F seed s := h.same (fun k hk => hW.block k (h.lt k hk)) hW.size
  have hx : W.heap[Bx]? = some (.cells #[.pointer (some ⟨b, 0, none⟩)] 56 (0, 0)) := (hW.block Bx (Array.getElem?_eq_some_iff.1 hbx).1).trans hbx
  have e0 := Mem.box_cell hx
  have hsort := sorted_any hat hs
  have hFl : ∀ k, k = Bx ∨ F k → k < W.heap.size := fun k hk => hk.elim (fun e => by rw [e]; exact (Array.getElem?_eq_some_iff.1 hx).1) (fun e => hat.lt k e)
  have hll := hs.len
  have hln := hs.nle
  have HJ := Lib.hid (And.intro hJ h0)
  have hY := Lib.hid @hY
  clear hW hJ hJx hx hbx hat h h0 hs
  unfold SortedPost at hsort
  refine callsIn_of_wp Tryz.func91 rfl trivial ?_ rfl
  simp only [Tryz.ntmps91, List.size_toArray, List.length_cons, List.length_nil, Nat.reduceAdd, Nat.reduceSub, Array.replicate_succ, Array.replicate_zero, List.push_toArray, List.append_toArray, List.nil_append, List.cons_append]
  gi_wp2_with (refine ⟨trivial, ?_⟩; gi_at_call 92; refine (callsIn_wide.2 hsort).mono ?_; rintro e w2 ⟨v, rfl, hown, hb2⟩; obtain ⟨ya, yc, rfl⟩ := Src.shape (Src.of_row hown))
  have hlen2 : ∀ g, (Value.slice ya s.L.length yc).ownBlock = some g → W.heap.size ≤ g ∧ g < w2.heap.size := fun g e => own_block_lt hown g e
  have hj2 := HJ.out.2 (fun j => (Value.slice ya s.L.length yc).ownBlock = some j) w2 hb2 hlen2
  have hJS := HJ.out.1 (fun j => (Value.slice ya s.L.length yc).ownBlock = some j)
  have hYS := Lib.hid (hY.out (fun j => (Value.slice ya s.L.length yc).ownBlock = some j))
  have HO := Lib.hid (And.intro hown hJS)
  have hKl : ∀ k, ((k = Bx ∨ F k) ∨ (Value.slice ya s.L.length yc).ownBlock = some k) → k < w2.heap.size := fun k hk => hk.elim (fun hk => Nat.lt_of_lt_of_le (hFl k hk) hb2.size) (fun hk => (hlen2 k hk).2)
  have HKl := Lib.hid hKl
  clear hKl hFl hown hJS hb2 hlen2 e0 hsort hY HJ
  have hk2 : Keep (fun k => (k = Bx ∨ F k) ∨ (Value.slice ya s.L.length yc).ownBlock = some k) w2 w2 := Keep.refl _ _
  gi_loopg [8] s.L.length (fun g i wr => ∃ q : Nat, i = .int .i64 q ∧ g + q = s.L.length ∧ Hid (J (fun j => (Value.slice ya s.L.length yc).ownBlock = some j) q wr ∧ Keep (fun k => (k = Bx ∨ F k) ∨ (Value.slice ya s.L.length yc).ownBlock = some k) w2 wr))
  case atStart => exact ⟨0, rfl, by omega, Lib.hid ⟨hj2, hk2⟩⟩
  case round =>
    obtain ⟨q, rfl, hg, HQ⟩ := hrel
    have HG := Lib.hid hg
    clear hg hj2 hk2
    by_cases hq : q < s.L.length
    · obtain ⟨⟨pk, pv⟩, hp⟩ : ∃ p, s.L[q]? = some p := ⟨_, List.getElem?_eq_getElem hq⟩
      obtain ⟨g, cap, eg, hgl, c0, c1⟩ := own_get (Mem.row_less HO.out.1 (Nat.zero_le _)) hp
      have heg : ya = some ⟨g, 0, none⟩ := by injection eg
      have hsame := HQ.out.2 g (.inr (by rw [heg]; rfl))
      replace c0 := (World.cell?_of_block (a := ⟨g, q * 2, none⟩) hsame).trans c0
      replace c1 := (World.cell?_of_block (a := ⟨g, q * 2 + 1, none⟩) hsame).trans c1
      clear eg hgl hsame
      have hqi : (q : Int) < s.L.length := by omega
      have hjb := (HO.out.2).alloc (.cells #[.string pk, (.pointer (some ⟨pv, 0, none⟩))] 145) HQ.out.1
      obtain ⟨fn, tmps, assign, body, hy, hR⟩ := hYS.out q _ _ hjb hp
      simp only [encIt] at hy
      have hkb : Keep (fun k => (k = Bx ∨ F k) ∨ (Value.slice ya s.L.length yc).ownBlock = some k) w2 (wr.alloc (.cells #[.string pk, (.pointer (some ⟨pv, 0, none⟩))] 145)) := HQ.out.2.trans fun k hk => Below.heap_alloc _ _ _ (by
        have h1 := HQ.out.2 k hk
        rcases Nat.lt_or_ge k wr.heap.size with h2 | h2
        · exact h2
        · exfalso
          rw [Array.getElem?_eq_none h2] at h1
          have h3 : k < w2.heap.size := HKl.out k hk
          rw [Array.getElem?_eq_getElem h3] at h1; cases h1)
      have HK := Lib.hid hkb
      subst heg
      clear hjb hp hkb HQ
      gi_wp2
      refine (any_depth hR).mono ?_
      rintro e W' (⟨rfl, hJ', hk'⟩ | ⟨rfl, hJx'⟩)
      · have HR := Lib.hid (And.intro hJ' (HK.out.trans hk'))
        clear hJ' hk' hR hy c0 c1
        gi_wp2
        gi_roundg (s.L.length - (q + 1))
        case measure => have := HG.out; omega
        case rel => exact ⟨q + 1, by go_num, by have := HG.out; omega, HR⟩
      · gi_wp2
        refine bodyPost_ret (results_none rfl _ _ _) rfl ?_
        exact ⟨⟨_, rfl⟩, _, .inr ⟨q + 1, by omega, hJx'⟩⟩
    · have hlq : (s.L.length : Int) ≤ q := by omega
      have hqe : q = s.L.length := by have := HG.out; omega
      subst hqe
      have HR := Lib.hid HQ.out.1
      clear HQ
      gi_wp2
      go_end0
      exact ⟨⟨_, rfl⟩, _, .inl HR.out⟩
theorem all_any (b : Nat) (w : World) : Calls Tryz.prog 68 #[.pointer (some ⟨b, 0, none⟩)] w fun e w' =>
    e = .returned (.func (.func 91) #[] #[.pointer (some ⟨w.heap.size, 0, none⟩)]) ∧ w' = w.alloc (.cells #[.pointer (some ⟨b, 0, none⟩)] 56) := by
  go_enter Tryz.func68, Tryz.ntmps68
  go_wp2
  go_ret
  exact ⟨rfl, rfl⟩
/-- All: an iterator over the pairs, in a world that has grown alone. -/
theorem all_gives {w : World} {b : Nat} {F : Nat → Prop} {seed : Int} {s : St V} {n : Nat} (h : At w b F seed s) (hs : Sm n seed s) : Calls Tryz.prog 68 #[.pointer (some ⟨b, 0, none⟩)] w fun e w' =>
    ∃ (lb : Array Value) (K : Nat → Prop), e = .returned (.func (.func 91) #[] lb) ∧ SeqS Tryz.prog 91 lb encIt K s.L w' ∧ Below w.heap.size w w' ∧ (∀ k, K k → (F k ∨ w.heap.size ≤ k) ∧ k < w'.heap.size) :=
  (all_any b w).mono fun e w' ⟨he, hw⟩ => by
    subst hw
    refine ⟨_, fun k => k = w.heap.size ∨ F k, he, all_seq (h.below (Mem.al (Below.refl _ _) _)) hs (Mem.new_block w _), Mem.al (Below.refl _ _) _, fun k hk => ⟨?_, ?_⟩⟩
    · exact hk.elim (fun e => .inr (by omega)) .inl
    · rw [World.size_alloc]; exact hk.elim (fun e => by omega) (fun e => Nat.lt_succ_of_lt (h.lt k e))
theorem enters (args : Array Value) (w : World) : (callFunc 91 args).run Tryz.prog w = .ok (.enter 91 args) w := enters_of Tryz.func91 (by kernel_rfl) rfl args w
end Go.Proofs.YteonjgnnpgpnnaaGreat.TabE

/- 'for .. := range f' over an iterator that hands on values that are made anew each round: the list is known, and so is how a value stands for its element. -/
namespace Go.Proofs.YteonjgnnpgpnnaaGreat.Rng
open Go Go.RowKit
variable {P : Program}

/-- The iterator's contract: as SeqS, but that an element x is handed on as some y, that stands for it. -/
def SeqR {α β : Type} (P : Program) (gf : Nat) (lb : Array Value) (encs : α → β → Array Value) (Rel : α → β → World → Prop) (K : Nat → Prop) (full : List α) (w : World) : Prop :=
  ∀ (l : Nat) (J Jx : (Nat → Prop) → Nat → World → Prop) (W : World), Below w.heap.size w W → (∀ S, OwnFrom W.heap.size (J S)) → (∀ S, OwnFrom W.heap.size (Jx S)) →
    (∀ S k x y W1, J S k W1 → full[k]? = some x → Rel x y W1 → YieldAt Fence.wide 9 P l (encs x y) W1 fun e W' =>
      (e = .returned (.bool true) ∧ J S (k + 1) W' ∧ Keep (fun j => K j ∨ S j) W1 W' ∧ KeepsFrom W.heap.size W1 W') ∨ (e = .returned (.bool false) ∧ Jx S (k + 1) W' ∧ KeepsFrom W.heap.size W1 W')) →
    (∀ S W2, Below W.heap.size W W2 → (∀ j, S j → W.heap.size ≤ j ∧ j < W2.heap.size) → J S 0 W2) →
    CallsIn Fence.wide 9 P gf (#[.func (.yield l) #[] #[]] ++ lb) W fun e W' => (∃ v, e = .returned v) ∧ ∃ S, (J S full.length W' ∨ ∃ k, k ≤ full.length ∧ Jx S k W')

/-- What a round leaves, but for its own record. -/
theorem keeps_far {B B' l : Nat} {W W' : World} {o o' : Obj} (h : ∃ Wb Wc, KeepsFrom B Wb Wc ∧ (∀ j, j ≠ l → Wb.heap[j]? = W.heap[j]?) ∧ (∀ j, j ≠ l → W'.heap[j]? = Wc.heap[j]?)) (hB : B ≤ B') (hl : l < B') (h1 : W.heap[l]? = some o) (h2 : W'.heap[l]? = some o') : KeepsFrom B' W W' := by
  obtain ⟨Wb, Wc, hk, hb, hc⟩ := h
  have hl1 := (Array.getElem?_eq_some_iff.1 h1).1
  have hl2 := (Array.getElem?_eq_some_iff.1 h2).1
  refine ⟨Classical.byContradiction fun e => ?_, fun k o hk1 ho hc1 => (hc k (by omega)).trans (hk.same k o (by omega) ((hb k (by omega)).trans ho) hc1)⟩
  have hne : W'.heap.size ≠ l := by omega
  have e1 := hb W'.heap.size hne
  have e2 := hc W'.heap.size hne
  have hs := hk.size
  rw [Array.getElem?_eq_none (Nat.le_refl _)] at e2
  have e3 : Wc.heap.size ≤ W'.heap.size := Array.getElem?_eq_none_iff.1 e2.symm
  rw [Array.getElem?_eq_none (by omega), Array.getElem?_eq_getElem (by omega)] at e1
  cases e1
section
variable {α β : Type} {g : Operand} {ps : Array Tmp} {assign body : Code} {Q : Exit → Act → World → Prop} {a : Act} {w w0 : World} {n gf : Nat} {lb : Array Value}
  {encs : α → β → Array Value} {Rel : α → β → World → Prop} {K : Nat → Prop} {full : List α}

/-- **THE LAW, of a loop that stands in no other such loop.** -/
theorem outerR (hg : a.eval g = .func (.func gf) #[] lb) (eg : ∀ args w, (callFunc gf args).run P w = .ok (.enter gf args) w)
    (hseq : SeqR P gf lb encs Rel K full w0) (hb0 : Below w0.heap.size w0 w) (hK : ∀ k, K k → k < w.heap.size) (hps : ∀ x y, (encs x y).size = ps.size) (hE : ∀ x y, OwnFrom w.heap.size (fun (_ : Unit) W => Rel x y W))
    (I : (Nat → Prop) → Nat → World → Prop) (Ix : (Nat → Prop) → Code → World → Prop) (hI : ∀ S, OwnFrom w.heap.size (I S)) (hIx : ∀ S, OwnFrom w.heap.size (Ix S)) (h0 : ∀ S W, Below w.heap.size w W → (∀ j, S j → w.heap.size ≤ j ∧ j < W.heap.size) → I S 0 W) (a₁ : α → β → Act)
    (hassign : ∀ (l : Nat) (x : α) (y : β) (W : World) (Kc : Act → World → Prop), Kc (a₁ x y) W →
      assign.wpIn (Fence.wide.inRound l) 9 P (Exit.then Kc (fun _ _ _ => False)) { tmps := (ps.zip (encs x y)).foldl (fun t (p, v) => t.setIfInBounds p v) a.tmps, defers := [] } W)
    (hbody : ∀ (S : Nat → Prop) (l k : Nat) (x : α) (y : β) (W : World), w.heap.size ≤ l → (∃ r, W.heap[l]? = some (.loop r)) → I S k W → full[k]? = some x → Rel x y W → body.wpIn (Fence.wide.inRound l) 9 P (rpost w.heap.size (fun j => K j ∨ S j) (I S (k + 1)) (Ix S) W) (a₁ x y) W)
    (hdone : ∀ (S : Nat → Prop) (D : Nat) (W : World), w.heap.size ≤ D → I S full.length W → W.heap[D]? = some (.deferred (some [])) → Q .normal { a with defers := { target := .collected D, args := #[] } :: a.defers } W)
    (hstop : ∀ (S : Nat → Prop) (D : Nat) (c : Code) (W : World), w.heap.size ≤ D → Ix S c W → W.heap[D]? = some (.deferred (some [])) → c.wpIn Fence.wide n P Q { a with defers := { target := .collected D, args := #[] } :: a.defers } W) :
    (Code.rangeFunc g ps assign body).wpIn Fence.wide n P Q a w := by
  refine wpIn_rangeFunc ?_
  intro fn hfn
  obtain ⟨rec, hrec⟩ : ∃ rec : LoopState → Option Code → Loop, ∀ st pe, rec st pe = { state := st, pending := pe, fn, tmps := a.tmps, params := ps, assign, body, defers := w.heap.size } := ⟨_, fun _ _ => rfl⟩
  obtain ⟨W1, hW1⟩ : ∃ W1, (w.alloc (.deferred (some []))).alloc (.loop (rec .ready none)) = W1 := ⟨_, rfl⟩
  have hL1 : W1.heap[w.heap.size + 1]? = some (.loop (rec .ready none)) := by
    rw [← hW1]; have := World.alloc_heap_new (w.alloc (.deferred (some []))) (.loop (rec .ready none)); rwa [World.size_alloc] at this
  have hK1 : W1.heap[w.heap.size]? = some (.deferred (some [])) := by
    rw [← hW1]; exact (Below.heap_alloc _ _ _ (by simp)).trans (World.alloc_heap_new w _)
  have hs1 : W1.heap.size = w.heap.size + 2 := by rw [← hW1]; simp
  have hbw1 : Below w.heap.size w W1 := by rw [← hW1]; exact ((Below.refl _ w).alloc (Nat.le_refl _) _).alloc (by simp) _
  have hb1 : Below w0.heap.size w0 W1 := by
    rw [← hW1]; exact hb0.trans ((((Below.refl _ w).alloc (Nat.le_refl _) _).alloc (by simp) _).mono hb0.size)
  refine ⟨w.heap.size + 1, [{ target := .collected w.heap.size, args := #[] }], W1, { target := .fn (.func gf) lb, args := #[.func (.yield (w.heap.size + 1)) #[] #[]] }, W1, gf,
    #[.func (.yield (w.heap.size + 1)) #[] #[]] ++ lb, W1, ?_, ?_, ?_, ?_, ?_, ?_⟩
  · rw [← hW1, hrec]; exact run_enterLoop_outer _ _ _ _ _
  · simp only [resolve, hg]
    simp [go_sem]
  · intro _ _; trivial
  · simp [invoke, go_sem, eg]
  · intro h; simp [Fence.wide] at h
  · have hnw : ∀ {A : World} {row : Option Nat}, (∀ r, row = some r → W1.heap.size ≤ r ∧ ∃ o : Obj, A.heap[r]? = some o ∧ o.isCells = false) → (∀ r, row = some r → w.heap.size ≤ r ∧ ∃ o : Obj, A.heap[r]? = some o ∧ o.isCells = false) :=
      fun hr r e => ⟨by have := (hr r e).1; omega, (hr r e).2⟩
    refine callsIn_wide.2 (callsIn_wide.1 ((hseq (w.heap.size + 1)
      (fun S k W => I S k W ∧ W.heap[w.heap.size + 1]? = some (.loop (rec .ready none)) ∧ W.heap[w.heap.size]? = some (.deferred (some [])) ∧ ∀ j, S j → w.heap.size + 2 ≤ j)
      (fun S _ W => ∃ c, Ix S c W ∧ W.heap[w.heap.size + 1]? = some (.loop (rec .done (some c))) ∧ W.heap[w.heap.size]? = some (.deferred (some [])))
      W1 hb1
      (fun S s A B row hs hg' hr => ⟨hI S s A B row hs.1 hg' (hnw hr), kept_obj hg' hr (by omega) hs.2.1, kept_obj hg' hr (by omega) hs.2.2.1, hs.2.2.2⟩)
      (fun S s A B row hs hg' hr => by
        obtain ⟨c, hc, hl, hk⟩ := hs
        exact ⟨c, hIx S c A B row hc hg' (hnw hr), kept_obj hg' hr (by omega) hl, kept_obj hg' hr (by omega) hk⟩)
      ?_ ?_).mono ?_))
    · rintro S k x y W ⟨hi, hl, hk, hSl⟩ hx hxy
      have hkB : ∀ (W' : World), (∃ Wb Wc, KeepsFrom w.heap.size Wb Wc ∧ (∀ j, j ≠ w.heap.size + 1 → Wb.heap[j]? = W.heap[j]?) ∧ (∀ j, j ≠ w.heap.size + 1 → W'.heap[j]? = Wc.heap[j]?)) → W'.heap[w.heap.size]? = some (.deferred (some [])) := by
        rintro W' ⟨Wb, Wc, h1, h2, h3⟩
        exact (h3 _ (by omega)).trans (h1.same _ _ (Nat.le_refl _) ((h2 _ (by omega)).trans hk) rfl)
      refine (round_of (B := w.heap.size) (I := fun j W => I S j W ∧ (j = k → Rel x y W)) (encs := encs x) (x := y) hrec (fun s A B row hs hg' hr => ⟨hI S s A B row hs.1 hg' hr, fun e => hE x y () A B row (hs.2 e) hg' hr⟩) (hIx S) (by omega) (fun (h : K (w.heap.size + 1) ∨ S (w.heap.size + 1)) => h.elim (fun h => by have := hK _ h; omega) (fun h => by have := hSl _ h; omega)) (hps x y) (a₁ x y) ⟨hi, fun _ => hxy⟩ hl (hassign _ x y) (fun W2 hr2 hi2 => wpIn_mono (hbody S _ k x y W2 (by omega) hr2 hi2.1 hx (hi2.2 rfl)) (fun e a3 W3 hp => by
        cases e with
        | normal => exact ⟨hp.1, hp.2.1, hp.2.2, fun e => by omega⟩
        | _ => exact hp))).mono ?_
      rintro e W' (⟨rfl, ⟨⟨h1, -⟩, h2, h3⟩, h4⟩ | ⟨rfl, c, h1, h2, h3⟩)
      · exact .inl ⟨rfl, ⟨h1, h2, hkB _ h3, hSl⟩, h4, keeps_far h3 (by omega) (by omega) hl h2⟩
      · exact .inr ⟨rfl, ⟨c, h1, h2, hkB _ h3⟩, keeps_far h3 (by omega) (by omega) hl h2⟩
    · intro S W2 hb2 hS2
      exact ⟨h0 S W2 (hbw1.trans (hb2.mono (by omega))) (fun j hj => ⟨by have := (hS2 j hj).1; omega, (hS2 j hj).2⟩), (hb2.block _ (by omega)).trans hL1, (hb2.block _ (by omega)).trans hK1, fun j hj => by have := (hS2 j hj).1; omega⟩
    · rintro e W2 ⟨⟨v, rfl⟩, S, (⟨hi, hl, hk, hSl⟩ | ⟨k, hkl, c, hi, hl, hk⟩)⟩
      · exact ⟨none, _, by have := run_endLoop (P := P) hl (by rw [hrec]; simp); rw [hrec] at this; exact this, hdone S _ _ (Nat.le_refl _) ((hI S).putObj _ hi (by omega) hl rfl) ((World.putObj_heap_other (by omega)).trans hk)⟩
      · exact ⟨some c, _, by have := run_endLoop (P := P) hl (by rw [hrec]; simp); rw [hrec] at this; exact this, hstop S _ c _ (Nat.le_refl _) ((hIx S).putObj _ hi (by omega) hl rfl) ((World.putObj_heap_other (by omega)).trans hk)⟩

end
end Go.Proofs.YteonjgnnpgpnnaaGreat.Rng

/- Layer 11: All, an iterator over items with values of their own. -/
namespace Go.Proofs.YteonjgnnpgpnnaaGreat.Shard
set_option maxRecDepth 100000
open Go Go.RowKit Go.Shelf Go.Proofs.YteonjgnnpgpnnaaGreat.Mem Go.Proofs.YteonjgnnpgpnnaaGreat.App Go.Proofs.YteonjgnnpgpnnaaGreat.Rng Go.Proofs.YteonjgnnpgpnnaaGreat.StillIn
attribute [local go_sem] Oper.semAt_some

def encI (it : Item) (v : Value) : Array Value := #[.agg (it.arr v)]
/-- An item's value lies in a row of its own. -/
def RelI (base : Nat) (it : Item) (v : Value) (W : World) : Prop := OwnB W base v it.val
theorem OwnFrom.below {β : Type} {B : Nat} {I : β → World → Prop} (h : OwnFrom B I) {s : β} {w w' : World} (hs : I s w) (hb : Below w.heap.size w w') : I s w' :=
  h s w w' none hs ⟨hb.os, hb.tape, hb.output, hb.size, fun k hk _ => hb.block k hk⟩ (fun r e => by cases e)
theorem At.entryM {W w : World} {n b : Nat} {col : Col} {seed : Int} {s : St} (h : At W w n b col seed s) {p : ByteArray × Nat} (hm : p ∈ s.tab.L) : ∃ v, w.heap[p.2]? = some (.cells ((s.ent p.2).arr v) 95 (0, 0)) ∧ OwnB w 0 v (s.ent p.2).it.val ∧ col p.2 = some (.ent p.2) ∧ ∀ g, v.ownBlock = some g → col g = some (.ent p.2) := by
  obtain ⟨ad, vd, vv, e, h⟩ := h
  obtain ⟨h1, h2, h3, h4, h5⟩ := h.ents p hm (fun e => e)
  exact ⟨_, h1, h2, h4, fun g e => (h5 g e).1⟩
set_option maxHeartbeats 4000000 in
theorem all_seq {W w : World} {n b Bx base : Nat} {col : Col} {seed : Int} {s : St} (h : At W w n b col seed s) (hbx : w.heap[Bx]? = some (.cells #[.pointer (some ⟨b, 0, none⟩)] 26 (0, 0))) (hbase : base ≤ w.heap.size) (hvs : ∀ p ∈ s.tab.L, (s.ent p.2).it.val.length ≤ 1000000) :
    SeqR Tryz.prog 67 #[.pointer (some ⟨Bx, 0, none⟩)] encI (RelI base) (fun k => k = Bx ∨ col k ≠ none) s.items w := by
  intro l J Jx W1 hW hJ hJx hY h0
  have hat := h.step hW
  have hx : W1.heap[Bx]? = some (.cells #[.pointer (some ⟨b, 0, none⟩)] 26 (0, 0)) := (hW.block Bx (Array.getElem?_eq_some_iff.1 hbx).1).trans hbx
  have hcl : ∀ k, (k = Bx ∨ col k ≠ none) → k < W1.heap.size := fun k hk => hk.elim (fun e => by rw [e]; exact (Array.getElem?_eq_some_iff.1 hx).1) (fun e => hat.lt k e)
  have hbw : base ≤ W1.heap.size := Nat.le_trans hbase hW.size
  have hb0 : Below W1.heap.size W1 (W1.alloc (.cells #[.func (.yield l) #[] #[]] 133)) := Mem.al (Below.refl _ _) _
  have ny := Mem.new_block W1 (.cells #[.func (.yield l) #[] #[]] 133)
  have hszB : (W1.alloc (.cells #[.func (.yield l) #[] #[]] 133)).heap.size = W1.heap.size + 1 := by simp
  have hx0 : (W1.alloc (.cells #[.func (.yield l) #[] #[]] 133)).cell? ⟨Bx, 0, none⟩ = some (.pointer (some ⟨b, 0, none⟩)) := Mem.row_cell ((hb0.block Bx (hcl Bx (.inl rfl))).trans hx) 0
  obtain ⟨ad, vd, vv, hadb, hp⟩ := hat.step hb0
  obtain ⟨F, hs, hF⟩ := hp.tab
  have c0 : (W1.alloc (.cells #[.func (.yield l) #[] #[]] 133)).cell? ⟨b, 0, none⟩ = some (.pointer (some ⟨ad.tb, 0, none⟩)) := by rw [← hadb]; exact Mem.row_cell hp.self 0
  have hall := TabE.all_gives hs hp.sm
  have HA := Lib.hid (And.intro (hat.step hb0) (And.intro hF (And.intro hcl (And.intro hbw (And.intro ny (And.intro hb0 hszB))))))
  have HJ := Lib.hid (And.intro hJ (And.intro hJx h0))
  have HY := Lib.hid @hY
  have HV := Lib.hid hvs
  clear h hbx hbase hat hx hcl hbw hb0 ny hszB hadb hp hs hF hW hJ hJx h0 hY hvs
  obtain ⟨wB, hwB⟩ : ∃ wB, W1.alloc (.cells #[.func (.yield l) #[] #[]] 133) = wB := ⟨_, rfl⟩
  rw [hwB] at HA hx0 c0 hall
  refine callsIn_of_wp_marks Tryz.func67 rfl trivial ?_ rfl
  simp only [Tryz.ntmps67, List.size_toArray, List.length_cons, List.length_nil, Nat.reduceAdd, Nat.reduceSub, Array.replicate_succ, Array.replicate_zero, List.push_toArray, List.append_toArray, List.nil_append, List.cons_append]
  gi_wp2_with fail
  refine ⟨trivial, ?_⟩
  refine (callsIn_wide.2 hall).mono ?_
  rintro e w2 ⟨lb, K, rfl, hseq, hb2, hK⟩
  obtain ⟨hAt, hF, hcl, hbw, ny, hb0, hszB⟩ := HA.out
  have hat2 := hAt.step hb2
  have hKp : ∀ k, K k → (k = Bx ∨ col k ≠ none ∨ (W1.heap.size ≤ k ∧ k < w2.heap.size)) := fun k hk => by
    obtain ⟨h1, h2⟩ := hK k hk
    rcases h1 with h1 | h1
    · exact .inr (.inl (by rw [hF k h1]; simp))
    · exact .inr (.inr ⟨by omega, h2⟩)
  have hKl : ∀ k, (k = Bx ∨ col k ≠ none ∨ (W1.heap.size ≤ k ∧ k < w2.heap.size)) → k < w2.heap.size := fun k hk => by
    have hz := hb2.size
    rcases hk with h1 | h1 | h1
    · have := hcl k (.inl h1); omega
    · have := hcl k (.inr h1); omega
    · exact h1.2
  have hyb : w2.heap[W1.heap.size]? = some (.cells #[.func (.yield l) #[] #[]] 133 (0, 0)) := (hb2.block _ (by omega)).trans ny
  have hz2 : W1.heap.size ≤ w2.heap.size := by have := hb2.size; omega
  have hbw2 : Below W1.heap.size W1 w2 := hb0.trans (hb2.mono (by omega))
  have HK := Lib.hid (And.intro hat2 (And.intro hKp (And.intro hKl (And.intro hyb (And.intro hz2 hbw2)))))
  clear hAt hF hcl ny hb0 hszB hat2 hKp hKl hyb hz2 hbw2 c0 hx0 hwB hall HA
  gi_wp2_with fail
  refine outerS rfl TabE.enters hseq (Below.refl _ _) (fun k hk => (hK k hk).2) (fun _ => rfl)
    (fun S k W => J (fun j => S j ∨ (W1.heap.size ≤ j ∧ j < w2.heap.size)) k W ∧ (w2.heap.size ≤ W.heap.size ∧ ∀ j, S j → j < W.heap.size) ∧ Keep (fun k => k = Bx ∨ col k ≠ none ∨ (W1.heap.size ≤ k ∧ k < w2.heap.size)) w2 W)
    (fun S c W => c = .ret ∧ ∃ k, k ≤ s.tab.L.length ∧ Jx (fun j => S j ∨ (W1.heap.size ≤ j ∧ j < w2.heap.size)) k W)
    ?hI ?hIx ?h0 ?a1 ?assign ?body ?done ?stop
  case assign =>
    intro l x W Kc hKc
    simp only [TabE.encIt]
    gi_wp2
    exact hKc
  case hI =>
    rintro S k W W' row ⟨h1, ⟨h2, h4⟩, h3⟩ hg hr
    refine ⟨HJ.out.1 _ k W W' row h1 hg (fun r e => ⟨by have := (hr r e).1; have := HK.out.2.2.2.2.1; omega, (hr r e).2⟩), ⟨Nat.le_trans h2 hg.size, fun j hj => Nat.lt_of_lt_of_le (h4 j hj) hg.size⟩, fun j hj => (hg.block j (by have := HK.out.2.2.1 j hj; omega) (fun e => ?_)).trans (h3 j hj)⟩
    have := (hr j e.symm).1
    have := HK.out.2.2.1 j hj
    omega
  case hIx =>
    rintro S c W W' row ⟨h1, k, h2, h3⟩ hg hr
    exact ⟨h1, k, h2, HJ.out.2.1 _ k W W' row h3 hg (fun r e => ⟨by have := (hr r e).1; have := HK.out.2.2.2.2.1; omega, (hr r e).2⟩)⟩
  case h0 =>
    intro S W hb hS
    refine ⟨HJ.out.2.2 _ W (HK.out.2.2.2.2.2.trans (hb.mono HK.out.2.2.2.2.1)) (fun j hj => ?_), ⟨hb.size, fun j hj => (hS j hj).2⟩, fun j hj => hb.block j (HK.out.2.2.1 j hj)⟩
    have h1 := HK.out.2.2.2.2.1
    have h2 := hb.size
    rcases hj with hj | hj
    · have := hS j hj; omega
    · omega
  case stop =>
    rintro S D c W hD ⟨rfl, k, hk, hj⟩ hKD
    clear hseq hK
    have HX := Lib.hid (And.intro hk (And.intro hj hKD))
    clear hk hj hKD
    gi_wp2
    obtain ⟨hk, hj, hKD⟩ := HX.out
    refine ret1 rfl (v := .tuple #[]) hKD (by simp [results, Tryz.results67, go_sem]) ?_
    exact ⟨⟨_, rfl⟩, _, .inr ⟨k, by rw [items_len]; exact hk, (HJ.out.2.1 _).putObj _ hj (by have := HK.out.2.2.2.2.1; omega) hKD rfl⟩⟩
  case done =>
    rintro S D W hD ⟨hj, -, -⟩ hKD
    clear hseq hK
    have HX := Lib.hid (And.intro hj hKD)
    clear hj hKD
    gi_wp2
    obtain ⟨hj, hKD⟩ := HX.out
    refine ret1 rfl (v := .tuple #[]) hKD (by simp [results, Tryz.results67, go_sem]) ?_
    exact ⟨⟨_, rfl⟩, _, .inl (by rw [items_len]; exact (HJ.out.1 _).putObj _ hj (by have := HK.out.2.2.2.2.1; omega) hKD rfl)⟩
  case body =>
    rintro S l' k ⟨pk, pv⟩ W hl' - ⟨hj, ⟨hz, hSl⟩, hkp⟩ hxk
    obtain ⟨hat2, -, hKl, hyb, hz2, -⟩ := HK.out
    obtain ⟨v, e1, o1, cx, hgx⟩ := hat2.entryM (List.mem_of_getElem? hxk)
    simp only at e1 o1 cx hgx
    have e1W := (hkp pv (.inr (.inl (by rw [cx]; simp)))).trans e1
    have o1W : OwnB W 0 v (s.ent pv).it.val := row_keep o1 fun g e => hkp g (.inr (.inl (by rw [hgx g e]; simp)))
    have cy : W.cell? ⟨W1.heap.size, 0, none⟩ = some (.func (.yield l) #[] #[]) := Mem.box_cell ((hkp W1.heap.size (.inr (.inr ⟨Nat.le_refl _, hKl _ (.inr (.inr ⟨Nat.le_refl _, (Array.getElem?_eq_some_iff.1 hyb).1⟩))⟩))).trans hyb)
    have hown := owned_any (s.ent pv).it ((SrcB.of_row o1W).below (Below.drew (Below.refl _ W))) (HV.out _ (List.mem_of_getElem? hxk))
    have hit : s.items[k]? = some (s.ent pv).it := by rw [items_at, hxk]; rfl
    have cel := fun j => Mem.row_cell e1W j
    have i0 := cel 0
    have i1 := cel 1
    have i2 := cel 2
    have i3 := cel 3
    have i4 := cel 4
    have i5 := cel 5
    have i6 := cel 6
    have i7 := cel 7
    have i8 := cel 8
    have i9 := cel 9
    simp only [Ent.arr, List.getElem?_toArray, List.getElem?_cons_zero, List.getElem?_cons_succ] at i0 i1 i2 i3 i4 i5 i6 i7 i8 i9
    have hya : ∀ v3 w3, OwnB w3 W.drew.heap.size v3 (s.ent pv).it.val → Below W.drew.heap.size W.drew w3 → YieldAt (Fence.wide.inRound l') 8 Tryz.prog l (encI (s.ent pv).it v3) w3 (fun e W' => ∃ q, e = .returned (.bool q) ∧
        Hid (KeepsFrom W1.heap.size W W' ∧ (q = true → J (fun j => S j ∨ (W1.heap.size ≤ j ∧ j < w2.heap.size)) (k + 1) W' ∧ Keep (fun j => (j = Bx ∨ col j ≠ none) ∨ (S j ∨ (W1.heap.size ≤ j ∧ j < w2.heap.size))) W W') ∧ (q = false → Jx (fun j => S j ∨ (W1.heap.size ≤ j ∧ j < w2.heap.size)) (k + 1) W'))) := fun v3 w3 ho3 hb3 => by
      have hbW3 : Below W.heap.size W w3 := Mem.tr (Below.drew (Below.refl _ W)) hb3
      have hj3 := OwnFrom.below (HJ.out.1 _) hj hbW3
      obtain ⟨fn, tmps, assign, body, hy, hR⟩ := HY.out _ k _ v3 w3 hj3 hit (Mem.row_less ho3 (by show base ≤ W.heap.size; omega))
      refine ⟨fn, tmps, assign, body, hy, RoundIn.mono (F := Fence.wide.inRound l') (any_depth hR) ?_⟩
      have hkf : ∀ W', KeepsFrom W1.heap.size w3 W' → KeepsFrom W1.heap.size W W' := fun W' h => ⟨Nat.le_trans hbW3.size h.size, fun j o hj ho hc => h.same j o hj ((hbW3.block j (Array.getElem?_eq_some_iff.1 ho).1).trans ho) hc⟩
      rintro e W' (⟨rfl, h1, h2, h3⟩ | ⟨rfl, h1, h3⟩)
      · refine ⟨true, rfl, Lib.hid ⟨hkf _ h3, fun _ => ⟨h1, fun j hj => (h2 j hj).trans (hbW3.block j ?_)⟩, fun e => by cases e⟩⟩
        rcases hj with (hj | hj) | hj | hj
        · exact Nat.lt_of_lt_of_le (hKl _ (.inl hj)) hz
        · exact Nat.lt_of_lt_of_le (hKl _ (.inr (.inl hj))) hz
        · exact hSl j hj
        · omega
      · exact ⟨false, rfl, Lib.hid ⟨hkf _ h3, fun e => (by cases e), fun _ => h1⟩⟩
    have HYA := Lib.hid hya
    have HL : Hid (k + 1 ≤ s.tab.L.length) := Lib.hid (List.getElem?_eq_some_iff.1 hxk).1
    have HW := Lib.hid (And.intro hj (And.intro (And.intro hz hSl) (And.intro hkp hit)))
    have hbl : W1.heap.size < W.heap.size := block_lt_of_cell cy
    clear hya cel hj hz hSl hkp hit e1 o1 cx hgx e1W o1W hat2 hKl hyb hz2 hseq hK hl'
    unfold Item.arr at hown
    have hmix : Tryz.prog.follows .mixedOrders = true := by kernel_rfl
    gi_wp2_with fail
    gi_region_with_o (first
      | (refine ⟨trivial, ?_⟩; gi_at_call 45; refine (CallsIn.inRound l' (callsIn_wide.2 hown)).mono ?_; rintro e w3 ⟨v3, rfl, hown3, hb3⟩; obtain ⟨fn, tmps, assign, body, hy, hR⟩ := HYA.out v3 w3 hown3 hb3; simp only [encI, Item.arr] at hy; have cy3 := (World.cell?_of_block (a := ⟨W1.heap.size, 0, none⟩) (hb3.block _ hbl)).trans cy)
      | (refine hR.mono ?_; rintro e W' ⟨q, rfl, HQ⟩))
    all_goals (
      have HQ2 := Lib.hid HQ
      clear HQ hy hR hown3 hb3 cy3 cy hown i0 i1 i2 i3 i4 i5 i6 i7 i8 i9
      obtain ⟨-, ⟨hz, hSl⟩, hkp, -⟩ := HW.out
      have hz2 := HK.out.2.2.2.2.1
      have HZ := Lib.hid (And.intro hz (And.intro hSl (And.intro hkp hz2)))
      clear hz hSl hkp hz2
      cases q with
      | true =>
        gi_wp2
        obtain ⟨h1, h2, -⟩ := HQ2.out.out
        obtain ⟨hj', hk'⟩ := h2 trivial
        obtain ⟨hz, hSl, hkp, hz2⟩ := HZ.out
        refine ⟨⟨h1.size, fun j o hj ho hc => h1.same j o (Nat.le_trans hz2 hj) ho hc⟩, fun j hj => ?_, hj', ⟨Nat.le_trans hz h1.size, fun j hj => Nat.lt_of_lt_of_le (hSl j hj) h1.size⟩, fun j hj => (hk' j ?_).trans (hkp j hj)⟩
        · refine hk' j ?_
          rcases hj with hj | hj
          · rcases HK.out.2.1 j hj with h | h | h
            · exact .inl (.inl h)
            · exact .inl (.inr h)
            · exact .inr (.inr h)
          · exact .inr (.inl hj)
        · rcases hj with h | h | h
          · exact .inl (.inl h)
          · exact .inl (.inr h)
          · exact .inr (.inr h)
      | false =>
        gi_wp2
        obtain ⟨h1, -, h2⟩ := HQ2.out.out
        obtain ⟨hz, hSl, hkp, hz2⟩ := HZ.out
        exact ⟨⟨h1.size, fun j o hj ho hc => h1.same j o (Nat.le_trans hz2 hj) ho hc⟩, rfl, k + 1, HL.out, h2 trivial⟩)
theorem all_any (b : Nat) (w : World) : Calls Tryz.prog 34 #[.pointer (some ⟨b, 0, none⟩)] w fun e w' =>
    e = .returned (.func (.func 67) #[] #[.pointer (some ⟨w.heap.size, 0, none⟩)]) ∧ w' = w.alloc (.cells #[.pointer (some ⟨b, 0, none⟩)] 26) := by
  go_enter Tryz.func34, Tryz.ntmps34
  go_wp2
  go_ret
  exact ⟨rfl, rfl⟩
/-- All: an iterator over the items, in a world that has grown alone. -/
theorem all_gives {W w : World} {n b base : Nat} {col : Col} {seed : Int} {s : St} (h : At W w n b col seed s) (hbase : base ≤ w.heap.size) (hvs : ∀ p ∈ s.tab.L, (s.ent p.2).it.val.length ≤ 1000000) : Calls Tryz.prog 34 #[.pointer (some ⟨b, 0, none⟩)] w fun e w' =>
    ∃ (lb : Array Value) (K : Nat → Prop), e = .returned (.func (.func 67) #[] lb) ∧ SeqR Tryz.prog 67 lb encI (RelI base) K s.items w' ∧ Below w.heap.size w w' ∧ (∀ k, K k → (col k ≠ none ∨ w.heap.size ≤ k) ∧ k < w'.heap.size) ∧ (∀ k, col k ≠ none → K k) :=
  (all_any b w).mono fun e w' ⟨he, hw⟩ => by
    subst hw
    refine ⟨_, fun k => k = w.heap.size ∨ col k ≠ none, he, all_seq (h.step (Mem.al (Below.refl _ _) _)) (Mem.new_block w _) (Nat.le_trans hbase (Mem.al (Below.refl w.heap.size w) (.cells #[.pointer (some ⟨b, 0, none⟩)] 26)).size) hvs, Mem.al (Below.refl _ _) _, fun k hk => ⟨?_, ?_⟩, fun k hk => .inr hk⟩
    · exact hk.elim (fun e => .inr (by omega)) .inl
    · rw [World.size_alloc]; exact hk.elim (fun e => by omega) (fun e => Nat.lt_succ_of_lt (h.lt k e))
theorem enters (args : Array Value) (w : World) : (callFunc 67 args).run Tryz.prog w = .ok (.enter 67 args) w := enters_of Tryz.func67 (by kernel_rfl) rfl args w
end Go.Proofs.YteonjgnnpgpnnaaGreat.Shard

/- Layer 9: a table in a run. -/
namespace Go.Proofs.YteonjgnnpgpnnaaGreat.TabE
set_option maxRecDepth 100000
open Go Go.RowKit Go.Proofs.YteonjgnnpgpnnaaGreat.Mem Go.Proofs.YteonjgnnpgpnnaaGreat.Tab

structure Run (W w : World) (n b : Nat) (F : Nat → Prop) (seed : Int) (s : St V) : Prop where
  at_ : At w b F seed s
  low : ∀ k, F k → W.heap.size ≤ k
  below : Below W.heap.size W w
  sm : Sm n seed s
section
variable {W w w' : World} {n m b : Nat} {F F' : Nat → Prop} {seed : Int} {s t : St V}
theorem Run.step (h : Run W w n b F seed s) (hb : Below w.heap.size w w') : Run W w' n b F seed s := ⟨h.at_.below hb, h.low, Mem.tr h.below hb, h.sm⟩
theorem Run.post (h : Run W w n b F seed s) (ha : At w' b F' seed t) (ho : Only F w w') (hg : Grows w F F') (hs : Sm m seed t) : Run W w' m b F' seed t :=
  ⟨ha, fun k hk => (hg k hk).elim (h.low k) (fun e => Nat.le_trans h.below.size e), Below.trans h.below (ho.below h.below.size h.low), hs⟩
theorem Run.mono (h : Run W w n b F seed s) (hm : n ≤ m) (hm2 : m ≤ 1000000000) : Run W w m b F seed s := ⟨h.at_, h.low, h.below, h.sm.mono hm hm2⟩
theorem Run.only {G : Nat → Prop} (h : Run W w n b F seed s) (ho : Only G w w') (hd : ∀ k, F k → ¬ G k) (hG : ∀ k, G k → W.heap.size ≤ k) : Run W w' n b F seed s :=
  ⟨h.at_.only ho hd, h.low, Below.trans h.below (ho.below h.below.size hG), h.sm⟩
theorem Run.lt (h : Run W w n b F seed s) : ∀ k, F k → k < w.heap.size := h.at_.lt
end
def RunPost (W w : World) (n b : Nat) (F : Nat → Prop) (seed : Int) (s : St V) (v : Value) (e : Ending) (w' : World) : Prop := ∃ F', e = .returned v ∧ Run W w' n b F' seed s ∧ Only F w w' ∧ Grows w F F'
theorem new_run {W w : World} (hb : Below W.heap.size W w) (seed : Int) (h0 : 0 ≤ seed) (h1 : seed < 18446744073709551616) : Calls Tryz.prog 19 #[.int .u64 seed] w fun e w' => ∃ b F, e = .returned (.pointer (some ⟨b, 0, none⟩)) ∧ Run W w' 0 b F seed new ∧ (∀ k, F k → w.heap.size ≤ k) ∧ Below w.heap.size w w' :=
  (new_any seed w).mono fun e w' ⟨b, F, he, ha, hl, hb2⟩ => ⟨b, F, he, ⟨ha, fun k hk => Nat.le_trans hb.size (hl k hk), Mem.tr hb hb2, ⟨h0, h1, Nat.le_refl _, by omega, by show 8 ≤ 8 + 0; omega⟩⟩, hl, hb2⟩
section
variable {W w : World} {n b : Nat} {F : Nat → Prop} {seed : Int} {s : St V}
theorem get_run (h : Run W w n b F seed s) (k : ByteArray) (hk : k.size ≤ maxLen) : Calls Tryz.prog 63 #[.pointer (some ⟨b, 0, none⟩), .string k] w (RunPost W w n b F seed s.tick (getV s.L k)) :=
  (get_any h.at_ h.sm k hk).mono fun _ _ ⟨F', he, ha, ho, hg⟩ => ⟨F', he, h.post ha ho hg h.sm.tick, ho, hg⟩
theorem put_run (h : Run W w n b F seed s) (hn : n + 1 ≤ 1000000000) (k : ByteArray) (v : V) (hk : k.size ≤ maxLen) : Calls Tryz.prog 43 #[.pointer (some ⟨b, 0, none⟩), .string k, (.pointer (some ⟨v, 0, none⟩))] w (RunPost W w (n + 1) b F seed (s.put k v) (.tuple #[])) :=
  (put_any h.at_ h.sm hn k v hk).mono fun _ _ ⟨F', he, ha, ho, hg⟩ => ⟨F', he, h.post ha ho hg (h.sm.put hn k v), ho, hg⟩
theorem delete_run (h : Run W w n b F seed s) (k : ByteArray) (hk : k.size ≤ maxLen) : Calls Tryz.prog 64 #[.pointer (some ⟨b, 0, none⟩), .string k] w (RunPost W w n b F seed (s.del k) (.bool (Tab.get s.L k).isSome)) :=
  (delete_any h.at_ h.sm k hk).mono fun _ _ ⟨F', he, ha, ho, hg⟩ => ⟨F', he, h.post ha ho hg (h.sm.del k), ho, hg⟩
end
end Go.Proofs.YteonjgnnpgpnnaaGreat.TabE

/- Layer 11: New. -/
namespace Go.Proofs.YteonjgnnpgpnnaaGreat.Shard
open Go Go.RowKit Go.Proofs.YteonjgnnpgpnnaaGreat.Mem Go.Proofs.YteonjgnnpgpnnaaGreat.App

/-- The colours of a new shard. -/
def col0 (a0 a1 a2 a3 a4 : Nat) : Col := fun k => if k < a0 then none else if k < a1 then some .table else if k < a2 then some .slab else if k < a3 then some .order else if k < a4 then some .judge else if k = a4 then some .self else none
section
variable {a0 a1 a2 a3 a4 k : Nat}
theorem col0_tab (h1 : a0 ≤ k) (h2 : k < a1) : col0 a0 a1 a2 a3 a4 k = some .table := by unfold col0; rw [if_neg (by omega), if_pos h2]
theorem col0_slab (h0 : a0 ≤ a1) (h1 : a1 ≤ k) (h2 : k < a2) : col0 a0 a1 a2 a3 a4 k = some .slab := by unfold col0; rw [if_neg (by omega), if_neg (by omega), if_pos h2]
theorem col0_order (h0 : a0 ≤ a1) (h1 : a1 ≤ a2) (h2 : a2 ≤ k) (h3 : k < a3) : col0 a0 a1 a2 a3 a4 k = some .order := by unfold col0; rw [if_neg (by omega), if_neg (by omega), if_neg (by omega), if_pos h3]
theorem col0_judge (h0 : a0 ≤ a1) (h1 : a1 ≤ a2) (h2 : a2 ≤ a3) (h3 : a3 ≤ k) (h4 : k < a4) : col0 a0 a1 a2 a3 a4 k = some .judge := by unfold col0; rw [if_neg (by omega), if_neg (by omega), if_neg (by omega), if_neg (by omega), if_pos h4]
theorem col0_self (h0 : a0 ≤ a1) (h1 : a1 ≤ a2) (h2 : a2 ≤ a3) (h3 : a3 ≤ a4) : col0 a0 a1 a2 a3 a4 a4 = some .self := by unfold col0; rw [if_neg (by omega), if_neg (by omega), if_neg (by omega), if_neg (by omega), if_neg (by omega), if_pos rfl]
theorem col0_lt {p : Part} (h : col0 a0 a1 a2 a3 a4 k = some p) (_ : a0 ≤ a1) (h1 : a1 ≤ a2) (h2 : a2 ≤ a3) (h3 : a3 ≤ a4) : a0 ≤ k ∧ k ≤ a4 := by
  unfold col0 at h
  repeat' split at h
  all_goals first | (cases h; done) | omega
end
set_option maxRecDepth 100000 in
set_option maxHeartbeats 2000000 in
theorem new_any {W w : World} (hb : Below W.heap.size W w) (seed budget protect : Int) (h0 : 0 ≤ seed) (h1 : seed < 18446744073709551616) :
    Calls Tryz.prog 6 #[.int .u64 seed, .int .i64 budget, .int .i64 protect] w fun e w' => ∃ b col, e = .returned (.pointer (some ⟨b, 0, none⟩)) ∧ At W w' 0 b col seed (St.new seed budget protect) ∧ (∀ k, col k ≠ none → w.heap.size ≤ k) ∧ Below w.heap.size w w' := by
  have ht := TabE.new_run (W := W) hb seed h0 h1
  have hm := fun w' => Slab.new_gives budget w'
  have ho := fun w' => Slru.new_gives protect w'
  have hj := fun w' (hb : Below W.heap.size W w') => Tiny.new_run (W := W) (w := w') (seed := seed) ⟨h0, by omega⟩ hb
  go_enter Tryz.func6, Tryz.ntmps6
  go_wp2_with fail
  refine ht.mono ?_
  rintro e w1 ⟨tb, F1, rfl, r1, l1, b1⟩
  have R1 := Lib.hid (And.intro r1 (And.intro l1 b1))
  clear ht r1 l1 b1
  go_wp2_with fail
  refine (hm w1).mono ?_
  rintro e w2 ⟨mb, F2, rfl, r2, l2, b2⟩
  have R2 := Lib.hid (And.intro r2 (And.intro l2 b2))
  clear hm r2 l2 b2
  go_wp2_with fail
  refine (ho w2).mono ?_
  rintro e w3 ⟨ob, F3, rfl, r3, l3, b3⟩
  have R3 := Lib.hid (And.intro r3 (And.intro l3 b3))
  clear ho r3 l3 b3
  have hj2 := hj w3 (Mem.tr (Mem.tr (Mem.tr hb R1.out.2.2) R2.out.2.2) R3.out.2.2)
  clear hj
  go_wp2_with fail
  refine hj2.mono ?_
  rintro e w4 ⟨jb, fb, cb, rfl, r4, b4, l4⟩
  have R4 := Lib.hid (And.intro r4 (And.intro l4 b4))
  clear hj2 r4 l4 b4
  go_wp2_with fail
  go_ret
  obtain ⟨r1, l1, b1⟩ := R1.out
  obtain ⟨r2, l2, b2⟩ := R2.out
  obtain ⟨r3, l3, b3⟩ := R3.out
  obtain ⟨r4, l4, b4⟩ := R4.out
  have z1 := b1.size
  have z2 := b2.size
  have z3 := b3.size
  have z4 := b4.size
  have b5 : Below w4.heap.size w4 (w4.alloc (shardObj ⟨w4.heap.size, tb, mb, ob, jb, fb, cb⟩ (.slice none 0 0))) := Mem.al (Below.refl _ _) _
  have b45 := Mem.tr b4 b5
  have b345 := Mem.tr b3 b45
  have b2345 := Mem.tr b2 b345
  have hall := Mem.tr b1 b2345
  have hlt4 := r4.lt
  refine ⟨w4.heap.size, col0 w.heap.size w1.heap.size w2.heap.size w3.heap.size w4.heap.size, rfl, ⟨⟨w4.heap.size, tb, mb, ob, jb, fb, cb⟩, .slice none 0 0, fun _ => .slice none 0 0, rfl, ?_⟩, fun k hk => ?_, hall⟩
  · refine ⟨Mem.new_block w4 _, col0_self z1 z2 z3 z4, ⟨F1, r1.at_.below b2345, fun k hk => col0_tab (l1 k hk) (r1.at_.lt k hk)⟩, r1.sm, ⟨F2, Slab.At.same r2 (fun k hk => b345.block k (slab_lt r2 k hk)) b345.size, fun k hk => col0_slab z1 (l2 k hk) (slab_lt r2 k hk)⟩,
      ⟨F3, Slru.At.same r3 (fun k hk => b45.block k (r3.lt k hk)) b45.size, fun k hk => col0_order z1 z2 (l3 k hk) (r3.lt k hk)⟩, r4.step b5, ⟨col0_judge z1 z2 z3 l4.1 hlt4.1, col0_judge z1 z2 z3 l4.2.1 hlt4.2.1, col0_judge z1 z2 z3 l4.2.2 hlt4.2.2⟩, World.ownsRow_nil _ _ _ _, fun g e => (by cases e), fun q hq => (by cases hq), fun k p e => ?_, Mem.tr hb hall⟩
    have := col0_lt e z1 z2 z3 z4
    have hs := hb.size
    refine ⟨by omega, ?_⟩
    rw [World.size_alloc]; omega
  · rcases hq : col0 w.heap.size w1.heap.size w2.heap.size w3.heap.size w4.heap.size k with _ | p
    · exact absurd hq hk
    · exact (col0_lt hq z1 z2 z3 z4).1
end Go.Proofs.YteonjgnnpgpnnaaGreat.Shard

/- 'for .. := range f' over an iterator of values made anew, the loop's variable laid in memory at each round. -/
namespace Go.Proofs.YteonjgnnpgpnnaaGreat.Rng
open Go Go.RowKit
variable {P : Program}

/-- ONE ROUND, whose variable is laid first: l is the loop's record. -/
theorem round_ofA {α : Type} {ps : Array Tmp} {assign body : Code} {a : Act} {encs : α → Array Value} {K : Nat → Prop} {l : Nat} {fn : FuncId} {rec : LoopState → Option Code → Loop} {I : Nat → World → Prop} {Ix : Code → World → Prop} {B k : Nat} {x : α} {W : World} {d : Nat}
    (hrec : ∀ st pe, rec st pe = { state := st, pending := pe, fn, tmps := a.tmps, params := ps, assign, body, defers := d })
    (hI : OwnFrom B I) (hIx : OwnFrom B Ix) (hBl : B ≤ l) (hKl : ¬ K l) (hps : (encs x).size = ps.size)
    (a₁ : Act) (W₁ : World) (hW₁ : Below W.heap.size W W₁) (hKlt : ∀ j, K j → j < W.heap.size) (hi : I k W) (hl : W.heap[l]? = some (.loop (rec .ready none)))
    (hassign : ∀ (Kc : Act → World → Prop), Kc a₁ W₁ →
      assign.wpIn (Fence.wide.inRound l) 9 P (Exit.then Kc (fun _ _ _ => False)) { tmps := (ps.zip (encs x)).foldl (fun t (p, v) => t.setIfInBounds p v) a.tmps, defers := [] } W)
    (hbody : ∀ (W2 : World), (∃ r, W2.heap[l]? = some (.loop r)) → W2.heap.size = W₁.heap.size → (∀ j, j ≠ l → W2.heap[j]? = W₁.heap[j]?) → I k W2 → body.wpIn (Fence.wide.inRound l) 9 P (rpost B K (I (k + 1)) Ix W2) a₁ W2) :
    YieldAt Fence.wide 9 P l (encs x) W fun e W' =>
      (e = .returned (.bool true) ∧ (I (k + 1) W' ∧ W'.heap[l]? = some (.loop (rec .ready none)) ∧ ∃ Wb Wc, KeepsFrom B Wb Wc ∧ (∀ j, j ≠ l → Wb.heap[j]? = W.heap[j]?) ∧ (∀ j, j ≠ l → W'.heap[j]? = Wc.heap[j]?)) ∧ Keep K W W') ∨
      (e = .returned (.bool false) ∧ ∃ c, Ix c W' ∧ W'.heap[l]? = some (.loop (rec .done (some c))) ∧ ∃ Wb Wc, KeepsFrom B Wb Wc ∧ (∀ j, j ≠ l → Wb.heap[j]? = W.heap[j]?) ∧ (∀ j, j ≠ l → W'.heap[j]? = Wc.heap[j]?)) := by
  have hlt0 : l < W.heap.size := (Array.getElem?_eq_some_iff.1 hl).1
  have hy := run_yield (P := P) (args := encs x) hl (by rw [hrec]; exact hps)
  rw [hrec] at hy
  have hi1 : I k W₁ := hI k W W₁ none hi ⟨hW₁.os, hW₁.tape, hW₁.output, hW₁.size, fun j hj _ => hW₁.block j hj⟩ (fun r e => by cases e)
  have hl1 : W₁.heap[l]? = some (.loop (rec .ready none)) := (hW₁.block l hlt0).trans hl
  have hlt : l < W₁.heap.size := (Array.getElem?_eq_some_iff.1 hl1).1
  refine ⟨fn, _, assign, body, hy, roundIn_of_wpIn trivial (hassign _ ?_)⟩
  refine ⟨_, run_beginRound hl1 (by rw [hrec]), ?_⟩
  have hl2 : (W₁.putObj l (.loop { rec .ready none with state := .busy })).heap[l]? = some (.loop { rec .ready none with state := .busy }) := World.putObj_heap_same hlt
  refine wpIn_mono (hbody _ ⟨_, hl2⟩ (by simp) (fun j hj => World.putObj_heap_other hj) (hI.putObj _ hi1 hBl hl1 rfl)) ?_
  have fin : ∀ (jump : Option Code) (W3 : World), KeepsFrom B (W₁.putObj l (.loop { rec .ready none with state := .busy })) W3 →
      (Instr.endRound l jump).run P W3 = .ok (.bool jump.isNone) (W3.putObj l (.loop (rec (if jump.isNone then .ready else .done) jump))) ∧
      W3.heap[l]? = some (.loop { rec .ready none with state := .busy }) ∧
      (W3.putObj l (.loop (rec (if jump.isNone then .ready else .done) jump))).heap[l]? = some (.loop (rec (if jump.isNone then .ready else .done) jump)) := fun jump W3 hk3 => by
    have hl3 := hk3.same _ _ hBl hl2 rfl
    have := run_endRound (P := P) jump hl3
    refine ⟨?_, hl3, World.putObj_heap_same (Array.getElem?_eq_some_iff.1 hl3).1⟩
    rw [hrec] at this ⊢
    exact this
  have far : ∀ (W3 : World) (o : Obj), KeepsFrom B (W₁.putObj l (.loop { rec .ready none with state := .busy })) W3 →
      ∃ Wb Wc, KeepsFrom B Wb Wc ∧ (∀ j, j ≠ l → Wb.heap[j]? = W.heap[j]?) ∧ (∀ j, j ≠ l → (W3.putObj l o).heap[j]? = Wc.heap[j]?) := fun W3 o hk3 =>
    ⟨W.putObj l (.loop { rec .ready none with state := .busy }), W3, ⟨by have h1 := hk3.size; have h2 := hW₁.size; simp at h1 ⊢; omega, fun j oj hj ho hc => hk3.same j oj hj (by
      by_cases e : j = l
      · subst e
        rw [World.putObj_heap_same hlt0] at ho
        rw [World.putObj_heap_same hlt]; exact ho
      · rw [World.putObj_heap_other e] at ho ⊢
        exact (hW₁.block j (Array.getElem?_eq_some_iff.1 ho).1).trans ho) hc⟩, fun j hj => World.putObj_heap_other hj, fun j hj => World.putObj_heap_other hj⟩
  rintro e a3 W3 hp
  cases e with
  | normal =>
    obtain ⟨hk3, hkp3, hi3⟩ := hp
    obtain ⟨hr, hl3, hl4⟩ := fin none W3 hk3
    exact ⟨_, _, hr, .inl ⟨rfl, ⟨hI.putObj _ hi3 hBl hl3 rfl, hl4, far _ _ hk3⟩, (Keep.of_below hW₁ hKlt).trans (((Keep.putObj _ hKl).trans hkp3).trans (Keep.putObj _ hKl))⟩⟩
  | ret =>
    obtain ⟨hk3, hi3⟩ := hp
    obtain ⟨hr, hl3, hl4⟩ := fin (some .ret) W3 hk3
    exact ⟨_, _, hr, .inr ⟨rfl, .ret, hIx.putObj _ hi3 hBl hl3 rfl, hl4, far _ _ hk3⟩⟩
  | exit id =>
    obtain ⟨hk3, hi3⟩ := hp
    obtain ⟨hr, hl3, hl4⟩ := fin (some (.exit id)) W3 hk3
    exact ⟨_, _, hr, .inr ⟨rfl, .exit id, hIx.putObj _ hi3 hBl hl3 rfl, hl4, far _ _ hk3⟩⟩
  | goto t =>
    obtain ⟨hk3, hi3⟩ := hp
    obtain ⟨hr, hl3, hl4⟩ := fin (some (.goto t)) W3 hk3
    exact ⟨_, _, hr, .inr ⟨rfl, .goto t, hIx.putObj _ hi3 hBl hl3 rfl, hl4, far _ _ hk3⟩⟩
  | panic ch => exact hp.elim
  | outgrown => exact hp.elim

section
variable {α β : Type} {g : Operand} {ps : Array Tmp} {assign body : Code} {Q : Exit → Act → World → Prop} {a : Act} {w w0 : World} {n gf : Nat} {lb : Array Value}
  {encs : α → β → Array Value} {Rel : α → β → World → Prop} {K : Nat → Prop} {full : List α}

/-- **THE LAW, of a loop that stands in no other such loop.** -/
theorem outerA (hg : a.eval g = .func (.func gf) #[] lb) (eg : ∀ args w, (callFunc gf args).run P w = .ok (.enter gf args) w)
    (hseq : SeqR P gf lb encs Rel K full w0) (hb0 : Below w0.heap.size w0 w) (hK : ∀ k, K k → k < w.heap.size) (hps : ∀ x y, (encs x y).size = ps.size) (hE : ∀ x y, OwnFrom w.heap.size (fun (_ : Unit) W => Rel x y W))
    (I : (Nat → Prop) → Nat → World → Prop) (Ix : (Nat → Prop) → Code → World → Prop) (hI : ∀ S, OwnFrom w.heap.size (I S)) (hIx : ∀ S, OwnFrom w.heap.size (Ix S)) (h0 : ∀ S W, Below w.heap.size w W → (∀ j, S j → w.heap.size ≤ j ∧ j < W.heap.size) → I S 0 W) (a₁ : α → β → World → Act) (g₁ : α → β → World → World) (hg₁ : ∀ x y W, Below W.heap.size W (g₁ x y W))
    (hassign : ∀ (l : Nat) (x : α) (y : β) (W : World) (Kc : Act → World → Prop), Rel x y W → Kc (a₁ x y W) (g₁ x y W) →
      assign.wpIn (Fence.wide.inRound l) 9 P (Exit.then Kc (fun _ _ _ => False)) { tmps := (ps.zip (encs x y)).foldl (fun t (p, v) => t.setIfInBounds p v) a.tmps, defers := [] } W)
    (hbody : ∀ (S : Nat → Prop) (l k : Nat) (x : α) (y : β) (W0 W : World), w.heap.size ≤ l → l < W0.heap.size → (∃ r, W.heap[l]? = some (.loop r)) → W.heap.size = (g₁ x y W0).heap.size → (∀ j, j ≠ l → W.heap[j]? = (g₁ x y W0).heap[j]?) → I S k W → full[k]? = some x → Rel x y W → body.wpIn (Fence.wide.inRound l) 9 P (rpost w.heap.size (fun j => K j ∨ S j) (I S (k + 1)) (Ix S) W) (a₁ x y W0) W)
    (hdone : ∀ (S : Nat → Prop) (D : Nat) (W : World), w.heap.size ≤ D → I S full.length W → W.heap[D]? = some (.deferred (some [])) → Q .normal { a with defers := { target := .collected D, args := #[] } :: a.defers } W)
    (hstop : ∀ (S : Nat → Prop) (D : Nat) (c : Code) (W : World), w.heap.size ≤ D → Ix S c W → W.heap[D]? = some (.deferred (some [])) → c.wpIn Fence.wide n P Q { a with defers := { target := .collected D, args := #[] } :: a.defers } W) :
    (Code.rangeFunc g ps assign body).wpIn Fence.wide n P Q a w := by
  refine wpIn_rangeFunc ?_
  intro fn hfn
  obtain ⟨rec, hrec⟩ : ∃ rec : LoopState → Option Code → Loop, ∀ st pe, rec st pe = { state := st, pending := pe, fn, tmps := a.tmps, params := ps, assign, body, defers := w.heap.size } := ⟨_, fun _ _ => rfl⟩
  obtain ⟨W1, hW1⟩ : ∃ W1, (w.alloc (.deferred (some []))).alloc (.loop (rec .ready none)) = W1 := ⟨_, rfl⟩
  have hL1 : W1.heap[w.heap.size + 1]? = some (.loop (rec .ready none)) := by
    rw [← hW1]; have := World.alloc_heap_new (w.alloc (.deferred (some []))) (.loop (rec .ready none)); rwa [World.size_alloc] at this
  have hK1 : W1.heap[w.heap.size]? = some (.deferred (some [])) := by
    rw [← hW1]; exact (Below.heap_alloc _ _ _ (by simp)).trans (World.alloc_heap_new w _)
  have hs1 : W1.heap.size = w.heap.size + 2 := by rw [← hW1]; simp
  have hbw1 : Below w.heap.size w W1 := by rw [← hW1]; exact ((Below.refl _ w).alloc (Nat.le_refl _) _).alloc (by simp) _
  have hb1 : Below w0.heap.size w0 W1 := by
    rw [← hW1]; exact hb0.trans ((((Below.refl _ w).alloc (Nat.le_refl _) _).alloc (by simp) _).mono hb0.size)
  refine ⟨w.heap.size + 1, [{ target := .collected w.heap.size, args := #[] }], W1, { target := .fn (.func gf) lb, args := #[.func (.yield (w.heap.size + 1)) #[] #[]] }, W1, gf,
    #[.func (.yield (w.heap.size + 1)) #[] #[]] ++ lb, W1, ?_, ?_, ?_, ?_, ?_, ?_⟩
  · rw [← hW1, hrec]; exact run_enterLoop_outer _ _ _ _ _
  · simp only [resolve, hg]
    simp [go_sem]
  · intro _ _; trivial
  · simp [invoke, go_sem, eg]
  · intro h; simp [Fence.wide] at h
  · have hnw : ∀ {A : World} {row : Option Nat}, (∀ r, row = some r → W1.heap.size ≤ r ∧ ∃ o : Obj, A.heap[r]? = some o ∧ o.isCells = false) → (∀ r, row = some r → w.heap.size ≤ r ∧ ∃ o : Obj, A.heap[r]? = some o ∧ o.isCells = false) :=
      fun hr r e => ⟨by have := (hr r e).1; omega, (hr r e).2⟩
    refine callsIn_wide.2 (callsIn_wide.1 ((hseq (w.heap.size + 1)
      (fun S k W => I S k W ∧ W.heap[w.heap.size + 1]? = some (.loop (rec .ready none)) ∧ W.heap[w.heap.size]? = some (.deferred (some [])) ∧ ∀ j, S j → w.heap.size + 2 ≤ j ∧ j < W.heap.size)
      (fun S _ W => ∃ c, Ix S c W ∧ W.heap[w.heap.size + 1]? = some (.loop (rec .done (some c))) ∧ W.heap[w.heap.size]? = some (.deferred (some [])))
      W1 hb1
      (fun S s A B row hs hg' hr => ⟨hI S s A B row hs.1 hg' (hnw hr), kept_obj hg' hr (by omega) hs.2.1, kept_obj hg' hr (by omega) hs.2.2.1, fun j hj => ⟨(hs.2.2.2 j hj).1, Nat.lt_of_lt_of_le (hs.2.2.2 j hj).2 hg'.size⟩⟩)
      (fun S s A B row hs hg' hr => by
        obtain ⟨c, hc, hl, hk⟩ := hs
        exact ⟨c, hIx S c A B row hc hg' (hnw hr), kept_obj hg' hr (by omega) hl, kept_obj hg' hr (by omega) hk⟩)
      ?_ ?_).mono ?_))
    · rintro S k x y W ⟨hi, hl, hk, hSl⟩ hx hxy
      have hkB : ∀ (W' : World), (∃ Wb Wc, KeepsFrom w.heap.size Wb Wc ∧ (∀ j, j ≠ w.heap.size + 1 → Wb.heap[j]? = W.heap[j]?) ∧ (∀ j, j ≠ w.heap.size + 1 → W'.heap[j]? = Wc.heap[j]?)) → W'.heap[w.heap.size]? = some (.deferred (some [])) := by
        rintro W' ⟨Wb, Wc, h1, h2, h3⟩
        exact (h3 _ (by omega)).trans (h1.same _ _ (Nat.le_refl _) ((h2 _ (by omega)).trans hk) rfl)
      have hlW : w.heap.size + 1 < W.heap.size := (Array.getElem?_eq_some_iff.1 hl).1
      refine (round_ofA (B := w.heap.size) (K := fun j => K j ∨ S j) (I := fun j W => I S j W ∧ (j = k → Rel x y W)) (encs := encs x) (x := y) hrec (fun s A B row hs hg' hr => ⟨hI S s A B row hs.1 hg' hr, fun e => hE x y () A B row (hs.2 e) hg' hr⟩) (hIx S) (by omega) (fun (h : K (w.heap.size + 1) ∨ S (w.heap.size + 1)) => h.elim (fun h => by have := hK _ h; omega) (fun h => by have := (hSl _ h).1; omega)) (hps x y) (a₁ x y W) (g₁ x y W) (hg₁ x y W) (fun j hj => hj.elim (fun h => by have := hK _ h; omega) (fun h => (hSl _ h).2)) ⟨hi, fun _ => hxy⟩ hl (fun Kc => hassign _ x y W Kc hxy) (fun W2 hr2 hz2 hs2 hi2 => wpIn_mono (hbody S _ k x y W W2 (by omega) hlW hr2 hz2 hs2 hi2.1 hx (hi2.2 rfl)) (fun e a3 W3 hp => by
        cases e with
        | normal => exact ⟨hp.1, hp.2.1, hp.2.2, fun e => by omega⟩
        | _ => exact hp))).mono ?_
      rintro e W' (⟨rfl, ⟨⟨h1, -⟩, h2, h3⟩, h4⟩ | ⟨rfl, c, h1, h2, h3⟩)
      · exact .inl ⟨rfl, ⟨h1, h2, hkB _ h3, fun j hj => ⟨(hSl j hj).1, Nat.lt_of_lt_of_le (hSl j hj).2 (keeps_far (B' := w.heap.size + 2) h3 (by omega) (by omega) hl h2).size⟩⟩, h4, keeps_far h3 (by omega) (by omega) hl h2⟩
      · exact .inr ⟨rfl, ⟨c, h1, h2, hkB _ h3⟩, keeps_far h3 (by omega) (by omega) hl h2⟩
    · intro S W2 hb2 hS2
      exact ⟨h0 S W2 (hbw1.trans (hb2.mono (by omega))) (fun j hj => ⟨by have := (hS2 j hj).1; omega, (hS2 j hj).2⟩), (hb2.block _ (by omega)).trans hL1, (hb2.block _ (by omega)).trans hK1, fun j hj => ⟨by have := (hS2 j hj).1; omega, (hS2 j hj).2⟩⟩
    · rintro e W2 ⟨⟨v, rfl⟩, S, (⟨hi, hl, hk, hSl⟩ | ⟨k, hkl, c, hi, hl, hk⟩)⟩
      · exact ⟨none, _, by have := run_endLoop (P := P) hl (by rw [hrec]; simp); rw [hrec] at this; exact this, hdone S _ _ (Nat.le_refl _) ((hI S).putObj _ hi (by omega) hl rfl) ((World.putObj_heap_other (by omega)).trans hk)⟩
      · exact ⟨some c, _, by have := run_endLoop (P := P) hl (by rw [hrec]; simp); rw [hrec] at this; exact this, hstop S _ c _ (Nat.le_refl _) ((hIx S).putObj _ hi (by omega) hl rfl) ((World.putObj_heap_other (by omega)).trans hk)⟩

end
end Go.Proofs.YteonjgnnpgpnnaaGreat.Rng

/- append onto a row of the call's own, inside a range body; where the new row lies. -/
namespace Go.Proofs.YteonjgnnpgpnnaaGreat.App
open Go Go.RowKit
theorem wpListIn_append_src {F : Fence} {d : Nat} {P : Program} {w : World} {ops : Array Oper} {rest : List Oper} {o : Oper} {a : Act} {Q : Exit → Act → World → Prop} (s x : Operand) (t t' e e' : TypeId) (i : TypeInfo) (z : Value) (size bytes base : Nat) (v y : Value) (n m : Nat) (xs ys : List Value) (hgd : o.guard = none)
    (ho : o.op = .call { callee := .builtin .append, args := #[s, x], argTypes := #[t, t'] }) (ht : P.underlying t = some (.slice e)) (ht' : P.underlying t' = some (.slice e')) (hi : P.info? e = some i) (hz : i.zero = some z) (hsize : i.size = size) (hby : i.bytes = bytes) (hzs : z.cells.size = size) (hsz : 0 < size)
    (hs : a.eval s = v) (hx : a.eval x = y) (hown : w.ownsRow base e size v n xs) (hr : Src w size y m ys) (h1 : ∀ u ∈ ys, u.oneCell' = true) (h63 : n + m ≤ maxLen) (hbytes : (n + m) * bytes ≤ 140737488355328) (hbase : base ≤ w.heap.size)
    (hK : ∀ v' w', w'.ownsRow base e size v' (n + m) (xs ++ ys) → w.grownBy w' v.ownBlock → (v'.ownBlock = v.ownBlock ∨ v'.ownBlock = some w.heap.size) → wpListIn F d P ops Q rest (a.put o.dst v') w') :
    wpListIn F d P ops Q (o :: rest) a w := by
  have hrun0 := append_types (P := P) (ty := o.type) (v := v) (y := y) (w := w) ht ht'
  refine wpListIn_plain hgd fun K hKK => ?_
  obtain ⟨v', w', hrun, h5, h6, h7⟩ : ∃ v' w', (Builtin.append_ #[t, t'] o.type #[v, y]).run P w = .ok v' w' ∧ w'.ownsRow base e size v' (n + m) (xs ++ ys) ∧ w.grownBy w' v.ownBlock ∧ (v'.ownBlock = v.ownBlock ∨ v'.ownBlock = some w.heap.size) := by
    rw [hrun0]
    rcases hr with ⟨e1, rfl, rfl⟩ | ⟨g, off, c, e1, h2, h3, h4⟩
    · rw [e1]
      exact ⟨v, w, run_append_owned_none (P := P) (w := w) base t o.type e i size ht hi v n xs hown, by rw [List.append_nil]; exact hown, grown_refl _ _, .inl rfl⟩
    · obtain ⟨v', w', hrun, h5, h6, _, h7⟩ := run_append_own_at (P := P) w base t o.type e i z size bytes ht hi hz hsize hby hzs hsz v n xs hown ⟨g, off, none⟩ m c ys h2
        (fun j u hu => by rw [addr_add]; exact h4 j u hu) h1 h63 hbytes hbase
      rw [e1]
      exact ⟨v', w', hrun, h5, h6, h7⟩
  unfold Oper.wpIn
  refine ⟨?_, ?_⟩
  · simp [Oper.about, ho, resolve, Target.leads, Sem.run_pure]
  · rw [Oper.semAt_plain F _ _ (by rw [ho]; intro c hc'; cases hc')]
    simp [execOp, ho, resolve, invoke, builtin, hs, hx, hrun, Result.andThen]
    exact hKK _ _ (hK v' w' h5 h6 h7)
end Go.Proofs.YteonjgnnpgpnnaaGreat.App

/- Layer 11, the law's own functions: all (the items as a slice). -/
namespace Go.Proofs.YteonjgnnpgpnnaaGreat.Shard
set_option maxRecDepth 100000
open Go Go.RowKit Go.Shelf Go.Proofs.YteonjgnnpgpnnaaGreat.Mem Go.Proofs.YteonjgnnpgpnnaaGreat.App Go.Proofs.YteonjgnnpgpnnaaGreat.Rng
attribute [local go_sem] Oper.semAt_some

theorem set_far {w : World} {p : Addr} {v : Value} {j : Nat} (h : j ≠ p.block) : (w.setCell p v).heap[j]? = w.heap[j]? := Below.heap_setCell _ _ _ _ h
theorem set_size (w : World) (p : Addr) (v : Value) : (w.setCell p v).heap.size = w.heap.size := by simp [World.setCell]
def cellsI (l : List (Item × Value)) : List Value := l.flatMap fun p => (p.1.arr p.2).toList
theorem cellsI_len : ∀ l : List (Item × Value), (cellsI l).length = l.length * 10
  | [] => rfl
  | p :: l => by
    have h := cellsI_len l
    simp only [cellsI] at h
    simp only [cellsI, List.flatMap_cons, List.length_append, h, List.length_cons]
    have : (p.1.arr p.2).toList.length = 10 := rfl
    omega
theorem cellsI_app (l : List (Item × Value)) (p : Item × Value) : cellsI (l ++ [p]) = cellsI l ++ (p.1.arr p.2).toList := by simp [cellsI]
/-- Between two rounds: what came lies in a row of the loop's own, which is none of S. -/
def OutI (B : Nat) (w2 : World) (most : Int) (base : Nat) (S : Nat → Prop) (xs : List Item) (W : World) : Prop :=
  Only (fun j => B ≤ j) w2 W ∧ W.heap[B]? = some (.cells #[.int .i64 most] 3 (0, 0)) ∧ (∀ j, S j → B + 2 ≤ j ∧ j < W.heap.size) ∧ ∃ v, ∃ l : List (Item × Value), W.heap[B + 1]? = some (.cells #[v] 40 (0, 0)) ∧ l.map (·.1) = xs ∧ W.ownsRow w2.heap.size 34 10 v l.length (cellsI l) ∧ (∀ g, v.ownBlock = some g → ¬ S g) ∧ ∀ p ∈ l, OwnB W base p.2 p.1.val
theorem row_kept {W W' : World} {row : Option Nat} {base : Nat} {e : TypeId} {size n : Nat} {v : Value} {xs : List Value} (h : W.ownsRow base e size v n xs) (hg : W.grownBy W' row) (hr : ∀ r, row = some r → ∃ o : Obj, W.heap[r]? = some o ∧ o.isCells = false) : W'.ownsRow base e size v n xs := by
  refine h.kept hg ?_
  rcases h.2 with ⟨rfl, _⟩ | ⟨g, cap, cur, rfl, _, hgb, _⟩
  · exact .inl rfl
  · refine .inr fun e' => ?_
    obtain ⟨o, ho, hw⟩ := hr g (by simpa [Value.ownBlock] using e'.symm)
    rw [hgb] at ho; cases ho; cases hw
theorem own_out (B : Nat) (w2 : World) (most : Int) (base : Nat) (S : Nat → Prop) (f : Nat → List Item) : OwnFrom w2.heap.size (fun i W => OutI B w2 most base S (f i) W) := fun s W W' row h hg hr => by
  obtain ⟨h1, h2, hS, v, l, h3, h4, h5, h6, h7⟩ := h
  have hf := own_fix (β := Unit) w2.heap.size (fun _ => [(B, .cells #[.int .i64 most] 3 (0, 0)), (B + 1, .cells #[v] 40 (0, 0))]) (fun _ p hp => by
    simp only [List.mem_cons, List.not_mem_nil, or_false] at hp
    rcases hp with rfl | rfl <;> rfl) () W W' row (Fix.cons (p := (B, .cells #[.int .i64 most] 3 (0, 0))) h2 (Fix.cons (p := (B + 1, .cells #[v] 40 (0, 0))) h3 (Fix.nil _))) hg hr
  exact ⟨own_only (β := Unit) (Nat.le_refl _) () W W' row h1 hg hr, hf.head, fun j hj => ⟨(hS j hj).1, Nat.lt_of_lt_of_le (hS j hj).2 hg.size⟩, v, l, hf.tail.head, h4, row_kept h5 hg fun r e => (hr r e).2, h6, fun p hp => row_kept (h7 p hp) hg fun r e => (hr r e).2⟩
theorem infoI : (Tryz.prog.info? 34).map (fun i => (i.zero, i.size, i.bytes)) = some (some (.agg zeroI), 10, 88) := by kernel_rfl
theorem notNil (lb : Array Value) (w : World) : (binOp BinOp.eql 81 (.func (.func 67) #[] lb) .nilFunc).run Tryz.prog w = .ok (.bool false) w := by kernel_rfl
/-- Items handed back in a row of the call's own, each with a value of its own. -/
def ItemsAt (base : Nat) (xs : List Item) (v : Value) (w : World) : Prop := ∃ l : List (Item × Value), l.map (·.1) = xs ∧ w.ownsRow base 34 10 v l.length (cellsI l) ∧ ∀ p ∈ l, OwnB w base p.2 p.1.val
def AllPost (w : World) (xs : List Item) (e : Ending) (w' : World) : Prop := ∃ v, e = .returned v ∧ ItemsAt w.heap.size xs v w' ∧ Below w.heap.size w w'
theorem zeroItem (w : World) : (zeroValue 34).run Tryz.prog w = .ok (.agg zeroI) w := by kernel_rfl
set_option maxHeartbeats 4000000 in
theorem all_law {W0 w : World} {n b : Nat} {col : Col} {seed : Int} {s : St} (h : At W0 w n b col seed s) (hvs : ∀ p ∈ s.tab.L, (s.ent p.2).it.val.length ≤ 1000000) (hL : s.items.length ≤ 1000) (most : Int) :
    Calls Tryz.prog 10 #[.pointer (some ⟨b, 0, none⟩), .int .i64 most] w (AllPost w (s.items.take most.toNat)) := by
  have hFl := h.lt
  obtain ⟨i0, hi, hz0, hz1, hz2⟩ := info_parts infoI
  obtain ⟨w1, hw1⟩ : ∃ w1, (w.alloc (.cells #[.int .i64 most] 3)).alloc (.cells #[.slice none 0 0] 40) = w1 := ⟨_, rfl⟩
  have hb1 : Below w.heap.size w w1 := by rw [← hw1]; exact Mem.al (Mem.al (Below.refl _ _) _) _
  have hf1 : Fix w1 [(w.heap.size, .cells #[.int .i64 most] 3 (0, 0)), (w.heap.size + 1, .cells #[.slice none 0 0] 40 (0, 0))] := by
    rw [← hw1]
    exact Fix.cons (p := (w.heap.size, .cells #[.int .i64 most] 3 (0, 0))) (Mem.new_later (Mem.new_block w _) _) (Fix.cons (p := (w.heap.size + 1, .cells #[.slice none 0 0] 40 (0, 0))) (Mem.new_block2 w _ _) (Fix.nil _))
  have hz1' : w1.heap.size = w.heap.size + 2 := by rw [← hw1]; simp
  have hall := all_gives (base := w.heap.size) (h.step hb1) hb1.size hvs
  refine (callsIn_wide (n := 9)).1 (callsIn_of_wp_marks Tryz.func10 rfl trivial ?_ rfl)
  simp only [Tryz.ntmps10, List.size_toArray, List.length_cons, List.length_nil, Nat.reduceAdd, Nat.reduceSub, Array.replicate_succ, Array.replicate_zero, List.push_toArray, List.append_toArray, List.nil_append, List.cons_append]
  clear h
  gi_wp2_with fail
  refine ⟨trivial, ?_⟩
  refine (callsIn_wide.2 hall).mono ?_
  rintro e w2 ⟨lb, K, rfl, hseq, hbel, hK, -⟩
  have hb2 : Below w.heap.size w w2 := hb1.trans (hbel.mono hb1.size)
  have hf2 := hf1.below hbel (Nat.le_refl _)
  have hKw : ∀ j, K j → ¬ (w.heap.size ≤ j ∧ j < w.heap.size + 2) := fun j hj e => by
    have := hK j hj
    exact this.1.elim (fun e2 => by have := hFl j e2; omega) (fun e2 => by omega)
  have hz2' : w.heap.size + 2 ≤ w2.heap.size := by have := hbel.size; omega
  have cm := Mem.box_cell hf2.head
  clear hbel hb1 hf1 hall hw1 hvs
  have hnf := notNil lb w2
  by_cases hmo : most < 1
  · have hn : s.items.take most.toNat = [] := by rw [show most.toNat = 0 from by omega]; rfl
    clear hseq hK hKw hf2
    gi_wp2_with fail
    refine ret0 rfl (v := .slice none 0 0) (by simp [results, Tryz.results10, go_sem]) ?_
    rw [hn]
    exact ⟨_, rfl, ⟨[], rfl, World.ownsRow_nil _ _ _ _, fun p hp => (by cases hp)⟩, hb2⟩
  gi_wp2_with fail
  refine outerA rfl Shard.enters hseq (Below.refl _ _) (fun k hk => (hK k hk).2) (fun _ _ => rfl)
    (fun x y _ W W' row h hg hr => row_kept h hg fun r e => (hr r e).2)
    (fun S i W => OutI w.heap.size w2 most w.heap.size S (s.items.take i) W ∧ (i : Int) < most) (fun S c W => c = .exit 0 ∧ OutI w.heap.size w2 most w.heap.size S (s.items.take most.toNat) W)
    (fun S => (own_out _ _ _ _ S (fun i => s.items.take i)).and (fun _ _ _ _ h _ _ => h))
    (fun S c W W' row h hg hr => ⟨h.1, own_out _ _ _ _ S (fun _ => s.items.take most.toNat) 0 W W' row h.2 hg hr⟩)
    (fun S W hb hS => ⟨⟨Only.of_below hb (fun k h1 h2 => by omega), (hb.block _ (by omega)).trans hf2.head, fun j hj => ⟨by have := (hS j hj).1; omega, (hS j hj).2⟩, _, [], (hb.block _ (by omega)).trans hf2.tail.head, rfl, World.ownsRow_nil _ _ _ _, fun g e => (by cases e), fun p hp => (by cases hp)⟩, by omega⟩) ?a1 (fun x y W => W.alloc (.cells (x.arr y) 34)) (fun x y W => Mem.al (Below.refl _ _) _) ?assign ?body ?done ?stop
  case assign =>
    intro l x y W Kc hR hKc
    have hy1 : y.oneCell' = true := by
      rcases hR.2 with ⟨e, _⟩ | ⟨g, cap, cur, e, _⟩ <;> rw [e] <;> rfl
    have hsy := fun w a m => run_store Tryz.prog w a y m hy1
    clear hR
    simp only [encI]
    unfold Item.arr at *
    gi_wp2
    exact hKc
  case stop =>
    rintro S D c W hD ⟨rfl, hO⟩ hKD
    clear hseq hK hKw cm hf2
    obtain ⟨hO, hm, -, v, lv, hv, hmap, hrow, -, hvals⟩ := hO
    have cv := Mem.box_cell hv
    have HX := Lib.hid (And.intro hO (And.intro hmap (And.intro hrow (And.intro hKD hvals))))
    clear hO hm hv hmap hrow hKD hvals
    gi_wp2
    obtain ⟨hO, hmap, hrow, hKD, hvals⟩ := HX.out
    refine ret1 rfl (v := v) hKD (by simp [results, Tryz.results10, go_sem]) ?_
    have hgr : W.grownBy (W.putObj D (.deferred none)) (some D) := ⟨rfl, rfl, rfl, by simp, fun k _ hk => World.putObj_heap_other (fun e => hk (by rw [e]))⟩
    have hnc : ∀ r, some D = some r → ∃ o : Obj, W.heap[r]? = some o ∧ o.isCells = false := fun r e => by cases e; exact ⟨_, hKD, rfl⟩
    exact ⟨v, rfl, ⟨lv, hmap, Mem.row_less (row_kept hrow hgr hnc) hb2.size, fun p hp => row_kept (hvals p hp) hgr hnc⟩, putObj_below (hb2.trans (hO.below hb2.size (fun _ e => e))) _ (by omega)⟩
  case done =>
    rintro S D W hD ⟨hO, hlt⟩ hKD
    clear hseq hK hKw cm hf2
    have hn : s.items.take most.toNat = s.items.take s.items.length := by rw [List.take_of_length_le (Nat.le_refl s.items.length), List.take_of_length_le (by omega)]
    obtain ⟨hO, hm, -, v, lv, hv, hmap, hrow, -, hvals⟩ := hO
    have cv := Mem.box_cell hv
    rw [← hn] at hmap
    have HX := Lib.hid (And.intro hO (And.intro hmap (And.intro hrow (And.intro hKD hvals))))
    clear hO hm hv hmap hrow hKD hvals hn
    gi_wp2
    obtain ⟨hO, hmap, hrow, hKD, hvals⟩ := HX.out
    refine ret1 rfl (v := v) hKD (by simp [results, Tryz.results10, go_sem]) ?_
    have hgr : W.grownBy (W.putObj D (.deferred none)) (some D) := ⟨rfl, rfl, rfl, by simp, fun k _ hk => World.putObj_heap_other (fun e => hk (by rw [e]))⟩
    have hnc : ∀ r, some D = some r → ∃ o : Obj, W.heap[r]? = some o ∧ o.isCells = false := fun r e => by cases e; exact ⟨_, hKD, rfl⟩
    exact ⟨v, rfl, ⟨lv, hmap, Mem.row_less (row_kept hrow hgr hnc) hb2.size, fun p hp => row_kept (hvals p hp) hgr hnc⟩, putObj_below (hb2.trans (hO.below hb2.size (fun _ e => e))) _ (by omega)⟩
  case body =>
    rintro S l i x y W0 W hl hlW0 - hzW hsW ⟨⟨hO, hm, hSS, v, lv, hv, hmap, hrow, hvS, hvals⟩, hlt⟩ hx hR
    have hil : i < s.items.length := (List.getElem?_eq_some_iff.1 hx).1
    have hti : s.items.take (i + 1) = s.items.take i ++ [x] := by rw [List.take_add_one, hx]; rfl
    have hlen : lv.length = i := by have := congrArg List.length hmap; rw [List.length_map, List.length_take] at this; omega
    rw [hlen] at hrow
    have hy1 : y.oneCell' = true := by
      rcases hR.2 with ⟨e, _⟩ | ⟨g, cap, cur, e, _⟩ <;> rw [e] <;> rfl
    have hbx : W.heap[W0.heap.size]? = some (.cells (x.arr y) 34 (0, 0)) := (hsW _ (by omega)).trans (Mem.new_block W0 _)
    have hc0 := Mem.box_cell hm
    have hc1 := Mem.box_cell hv
    have hlB : w.heap.size + 1 < W.heap.size := (Array.getElem?_eq_some_iff.1 hv).1
    have hWz := hO.size
    have hne : ∀ {j : Nat} {o : Obj}, W.heap[j]? = some o → (∀ cur, o ≠ .cells cur 34 (0, 0)) → some j ≠ v.ownBlock := fun {j o} hj ho e => by
      rcases hrow.2 with ⟨rfl, _⟩ | ⟨g, cap, cur, rfl, _, hgb, _⟩
      · cases e
      · have : j = g := by simpa [Value.ownBlock] using e
        subst this
        rw [hgb] at hj
        injection hj with hj
        exact ho cur hj.symm
    have hbase : ∀ g, v.ownBlock = some g → w2.heap.size ≤ g := fun g e => (own_block_lt hrow g e).1
    have hafter : ∀ v' (w3 : World), w3.ownsRow w2.heap.size 34 10 v' (i + 1) (cellsI lv ++ (x.arr y).toList) → (W.alloc (.cells (x.arr y) 34)).grownBy w3 v.ownBlock →
        (∃ g cap, v' = .slice (some ⟨g, 0, none⟩) (i + 1) cap) ∧ w3.heap[w.heap.size + 1]? = some (.cells #[v] 40 (0, 0)) ∧ w3.heap[w.heap.size]? = some (.cells #[.int .i64 most] 3 (0, 0)) := fun v' w3 hown hg => by
      refine ⟨?_, (hg.block _ (by simp; omega) (hne hv (fun cur e => by cases e))).trans ((Below.heap_alloc _ _ _ hlB).trans hv), (hg.block _ (by simp; omega) (hne hm (fun cur e => by cases e))).trans ((Below.heap_alloc _ _ _ (by omega)).trans hm)⟩
      rcases hown.2 with ⟨_, h0⟩ | ⟨g', cap', cur', e, _⟩
      · exact absurd h0 (by omega)
      · exact ⟨g', cap', e⟩
    have hdone : ∀ v' (w3 : World), w3.ownsRow w2.heap.size 34 10 v' (i + 1) (cellsI lv ++ (x.arr y).toList) → (W.alloc (.cells (x.arr y) 34)).grownBy w3 v.ownBlock → (v'.ownBlock = v.ownBlock ∨ v'.ownBlock = some (W.heap.size + 1)) →
        KeepsFrom w2.heap.size W (w3.setCell ⟨w.heap.size + 1, 0, none⟩ v') ∧ Keep (fun j => K j ∨ S j) W (w3.setCell ⟨w.heap.size + 1, 0, none⟩ v') ∧ OutI w.heap.size w2 most w.heap.size S (s.items.take (i + 1)) (w3.setCell ⟨w.heap.size + 1, 0, none⟩ v') := fun v' w3 hown hg hat => by
      have hs3 : W.heap.size + 1 ≤ w3.heap.size := by have := hg.size; simp at this; omega
      have hsm : ∀ j, j < W.heap.size → some j ≠ v.ownBlock → w3.heap[j]? = W.heap[j]? := fun j hj hn => (hg.block j (by simp; omega) hn).trans (Below.heap_alloc _ _ _ hj)
      have hv3 := (hafter v' w3 hown hg).2.1
      have hm3 := (hafter v' w3 hown hg).2.2
      have hvk : ∀ (q : Value) (xs : List UInt8), OwnB W w.heap.size q xs → OwnB (w3.setCell ⟨w.heap.size + 1, 0, none⟩ v') w.heap.size q xs := fun q xs hq => row_keep hq fun g e => by
        have h1 := own_block_lt hq g e
        rcases hq.2 with ⟨e1, _⟩ | ⟨g', cap, cur, e1, _, hgb, _⟩
        · rw [e1] at e; cases e
        · have hgg : g' = g := by rw [e1] at e; simpa [Value.ownBlock] using e
          subst hgg
          refine (set_far (fun e2 => ?_)).trans (hsm g' h1.2 (hne hgb (fun cur' e2 => by cases e2)))
          replace e2 : g' = w.heap.size + 1 := e2
          rw [e2, hv] at hgb
          cases hgb
      refine ⟨⟨by rw [set_size]; omega, fun k o hk ho hc => ?_⟩, fun k hk => ?_, ?_, (set_far (by simp)).trans hm3, fun j hj => ⟨(hSS j hj).1, by rw [set_size]; have := (hSS j hj).2; omega⟩, v', lv ++ [(x, y)], Mem.box_set hv3 v', by rw [List.map_append, hmap, hti]; rfl, ?_, fun g e hgS => ?_, fun p hp => ?_⟩
      · have hkl := (Array.getElem?_eq_some_iff.1 ho).1
        refine (set_far (by simp; omega)).trans ((hsm k hkl (hne ho (fun cur e => ?_))).trans ho)
        subst e; cases hc
      · rcases hk with hk | hk
        · have h1 := hK k hk
          have h2 := hKw k hk
          refine (set_far (by simp; omega)).trans (hsm k (by omega) (fun e => by have := hbase k e.symm; omega))
        · have h1 := hSS k hk
          exact (set_far (by simp; omega)).trans (hsm k h1.2 (fun e => hvS k e.symm hk))
      · refine Only.setCell ?_ (.inl (by simp)) _
        exact (hO.alloc _).grown hg fun g e => .inl (by have := hbase g e; omega)
      · rw [List.length_append, hlen, cellsI_app]
        refine hown.kept (row := some (w.heap.size + 1)) ⟨rfl, rfl, rfl, by rw [set_size]; exact Nat.le_refl _, fun k _ hk => set_far (fun e => hk (by rw [e]))⟩ ?_
        rcases hown.2 with ⟨rfl, _⟩ | ⟨g, cap, cur, rfl, _, hgb, _⟩
        · exact .inl rfl
        · refine .inr fun e' => ?_
          have : g = w.heap.size + 1 := by simpa [Value.ownBlock] using e'
          subst this
          rw [hv3] at hgb
          cases hgb
      · rcases hat with e1 | e1
        · rw [e] at e1; exact hvS g e1.symm hgS
        · rw [e] at e1; injection e1 with e1
          have := (hSS g hgS).2
          omega
      · rcases List.mem_append.1 hp with hp | hp
        · exact hvk _ _ (hvals p hp)
        · have : p = (x, y) := by simpa using hp
          subst this
          exact hvk _ _ hR
    have hafter := Lib.hid hafter
    have hdone := Lib.hid hdone
    have hrowA := Lib.hid (And.intro (hrow.alloc (.cells (x.arr y) 34)) (And.intro (show Src (W.alloc (.cells (x.arr y) 34)) 10 (.slice (some ⟨W.heap.size, 0, none⟩) 1 1) 1 (x.arr y).toList from .inr ⟨W.heap.size, 0, 1, rfl, rfl, by simp, fun j u hu => by rw [Nat.zero_add, Mem.row_cell (Mem.new_block W _)]; simpa using hu⟩) (show ∀ u ∈ (x.arr y).toList, u.oneCell' = true from fun u hu => by
      have h1 := item_one x hR
      exact (Array.all_eq_true_iff_forall_mem.1 h1) u (by simpa using hu))))
    have cel := fun j => Mem.row_cell hbx j
    have i0' := cel 0
    have i1 := cel 1
    have i2 := cel 2
    have i3 := cel 3
    have i4 := cel 4
    have i5 := cel 5
    have i6 := cel 6
    have i7 := cel 7
    have i8 := cel 8
    have i9 := cel 9
    simp only [Item.arr, List.getElem?_toArray, List.getElem?_cons_zero, List.getElem?_cons_succ] at i0' i1 i2 i3 i4 i5 i6 i7 i8 i9
    have hi1 : (i : Int) + 1 ≤ most := by omega
    clear cel hO hm hv hrow hti hlen hne hbase hx hseq hK hKw hf2 cm hvS hSS hvals hmap hR hzW hsW hbx hlW0
    unfold Item.arr at hafter hdone hrowA
    by_cases hmi : (i : Int) + 1 = most
    · have hmb : (((i + 1 : Nat) : Int) == most) = true := by simp; omega
      gi_wp2_with (gi_at_builtin; refine wpListIn_append_src _ _ 40 40 34 34 i0 _ 10 88 w2.heap.size v _ i 1 _ _ rfl rfl Tryz.underlying40 Tryz.underlying40 hi hz0 hz1 hz2 rfl (by decide) rfl rfl hrowA.out.1 hrowA.out.2.1 hrowA.out.2.2 (by unfold maxLen; omega) (by omega) (by simp; omega) ?_; intro v' w3 hown' hg3 hat3; obtain ⟨⟨g', cap', rfl⟩, hv3, hm3⟩ := hafter.out v' w3 hown' hg3; have c3 := Mem.box_cell hv3; have f3 := Mem.box_free hv3; have c4 := Mem.box_cell hm3)
      obtain ⟨h1, h2, h3⟩ := hdone.out _ w3 hown' hg3 (by simpa using hat3)
      exact ⟨h1, rfl, by rw [show most.toNat = i + 1 from by omega]; exact h3⟩
    · have hmb : (((i + 1 : Nat) : Int) == most) = false := by simp; omega
      gi_wp2_with (gi_at_builtin; refine wpListIn_append_src _ _ 40 40 34 34 i0 _ 10 88 w2.heap.size v _ i 1 _ _ rfl rfl Tryz.underlying40 Tryz.underlying40 hi hz0 hz1 hz2 rfl (by decide) rfl rfl hrowA.out.1 hrowA.out.2.1 hrowA.out.2.2 (by unfold maxLen; omega) (by omega) (by simp; omega) ?_; intro v' w3 hown' hg3 hat3; obtain ⟨⟨g', cap', rfl⟩, hv3, hm3⟩ := hafter.out v' w3 hown' hg3; have c3 := Mem.box_cell hv3; have f3 := Mem.box_free hv3; have c4 := Mem.box_cell hm3)
      obtain ⟨h1, h2, h3⟩ := hdone.out _ w3 hown' hg3 (by simpa using hat3)
      exact ⟨h1, h2, h3, by omega⟩
end Go.Proofs.YteonjgnnpgpnnaaGreat.Shard

/- Layer 11: a shard in a law's run: M calls at most were made of it. -/
namespace Go.Proofs.YteonjgnnpgpnnaaGreat.Shard
open Go Go.RowKit Go.Proofs.YteonjgnnpgpnnaaGreat.Mem Go.Proofs.YteonjgnnpgpnnaaGreat.App

def nn (M : Nat) : Nat := M * M + 4 * M
theorem nn_succ (M : Nat) : nn M + M + 4 ≤ nn (M + 1) := by
  have h : (M + 1) * (M + 1) = M * M + M + M + 1 := by rw [Nat.add_mul, Nat.mul_add]; omega
  unfold nn; omega
theorem nn_le {M m : Nat} (h : M ≤ m) : nn M ≤ nn m := by
  have := Nat.mul_le_mul h h
  unfold nn; omega
theorem nn_max {M : Nat} (h : M ≤ 400) : nn M ≤ 162000 := by have := nn_le h; have : nn 400 = 161600 := rfl; omega
structure Run (W w : World) (M b : Nat) (col : Col) (seed : Int) (s : St) : Prop where
  at_ : At W w M b col seed s
  inv : Inv M (nn M) s
/-- It was turned. -/
def RunTurn (W w : World) (M b : Nat) (col : Col) (seed : Int) (s : St) (w' : World) : Prop := ∃ col', Run W w' M b col' seed s ∧ Fr col col' w w'
section
variable {W w w' : World} {M b : Nat} {col : Col} {seed : Int} {s : St}
theorem Run.step (h : Run W w M b col seed s) (hb : Below w.heap.size w w') : Run W w' M b col seed s := ⟨h.at_.step hb, h.inv⟩
theorem Run.below (h : Run W w M b col seed s) : Below W.heap.size W w := by
  obtain ⟨ad, vd, vv, e, h⟩ := h.at_
  exact h.below
theorem Run.low (h : Run W w M b col seed s) : ∀ k, col k ≠ none → W.heap.size ≤ k ∧ k < w.heap.size := by
  obtain ⟨ad, vd, vv, e, h⟩ := h.at_
  intro k hk
  rcases hc : col k with _ | p
  · exact absurd hc hk
  · exact h.lt k p hc
theorem RunTurn.of {M' : Nat} {t : St} (h : Turn W w M' b col seed t w') (hm : M' ≤ M) (hM : M ≤ 400) (hi : Inv M (nn M) t) : RunTurn W w M b col seed t w' := by
  obtain ⟨c, a, f⟩ := h
  exact ⟨c, ⟨a.more hm (by omega), hi⟩, f⟩
theorem RunTurn.step {w2 : World} (h : RunTurn W w M b col seed s w') (hb : Below w'.heap.size w' w2) : RunTurn W w M b col seed s w2 := by
  obtain ⟨c, a, f⟩ := h
  exact ⟨c, a.step hb, f.trans (Fr.below hb)⟩
theorem Run.vals (h : Run W w M b col seed s) : ∀ p ∈ s.tab.L, (s.ent p.2).it.val.length ≤ 1000000 := fun p hp => by
  have h1 := (h.inv.ents p hp).2.2.1
  unfold Item.size at h1
  omega
theorem Run.olen (h : Run W w M b col seed s) : s.order.all.length ≤ M := by have := h.inv.olen; have := h.inv.len; omega
theorem Run.ilen (h : Run W w M b col seed s) : s.items.length ≤ M := by rw [items_len]; exact h.inv.len
/-- A value that no turn of the shard touches. -/
def Apart (col : Col) (v : Value) (xs : List UInt8) : Prop := xs ≠ [] → ∀ g, v.ownBlock = some g → col g = none
theorem Apart.low {v : Value} {xs : List UInt8} {B : Nat} (hc : ∀ k, col k ≠ none → B ≤ k) (hv : xs ≠ [] → ∀ g, v.ownBlock = some g → g < B) : Apart col v xs := fun hx g e =>
  Classical.byContradiction fun h => by have := hc g h; have := hv hx g e; omega
theorem store_run (h : Run W w M b col seed s) (hM : M + 1 ≤ 400) (it : Item) (a : Option Addr) (c : Nat) (env : Env) (hks : it.key.size ≤ 300) (hvs : it.val.length ≤ 3000) (hsrc : SrcB w (.slice a it.val.length c) it.val) (hsc : Apart col (.slice a it.val.length c) it.val) :
    Calls Tryz.prog 17 #[.pointer (some ⟨b, 0, none⟩), .agg (it.arr (.slice a it.val.length c)), .agg env.arr] w fun e w' => ∃ fresh, (∀ p ∈ s.tab.L, p.2 ≠ fresh) ∧ e = .returned (.int .i64 (s.store fresh it env).1) ∧ RunTurn W w (M + 1) b col seed (s.store fresh it env).2 w' := by
  have hn := nn_max (M := M) (by omega)
  refine (store_any h.at_ (by omega) h.inv it a c env hks hvs hsrc hsc (by omega) (by omega)).mono ?_
  rintro e w' ⟨fresh, h1, h2, h3⟩
  exact ⟨fresh, h1, h2, RunTurn.of h3 (Nat.le_refl _) hM ((h.inv.store hks h1).mono (Nat.le_refl _) (nn_succ M))⟩
theorem look_run (h : Run W w M b col seed s) (hM : M + 1 ≤ 400) (k : ByteArray) (env : Env) (hk : k.size ≤ maxLen) :
    Calls Tryz.prog 26 #[.pointer (some ⟨b, 0, none⟩), .string k, .agg env.arr] w fun e w' => RunTurn W w (M + 1) b col seed (s.find k env).2 w' ∧ (match (s.find k env).1 with
      | some x => ∃ v, e = .returned (.tuple #[.agg ((s.ent x).it.arr v), .bool true]) ∧ OwnB w' w.heap.size v (s.ent x).it.val
      | none => e = .returned (.tuple #[.agg zeroI, .bool false])) := by
  have hn := nn_max (M := M) (by omega)
  have hol := h.olen
  have hns := nn_succ M
  refine (look_any h.at_ k env hk (by omega) h.inv.smallN (by omega) (by rw [remove_drops]; have := h.inv.dl; show s.drops.length ≤ _; omega) (fun x hx => h.vals _ ((Tab.get_mem h.inv.rise.nodup).1 hx))).mono ?_
  rintro e w' ⟨h1, h2⟩
  exact ⟨RunTurn.of h1 (by omega) hM ((h.inv.find k env).mono (by omega) (by omega)), h2⟩
theorem use_run (h : Run W w M b col seed s) (hM : M ≤ 400) (k : ByteArray) (hk : k.size ≤ maxLen) :
    Calls Tryz.prog 18 #[.pointer (some ⟨b, 0, none⟩), .string k] w fun e w' => e = .returned (.tuple #[]) ∧ RunTurn W w M b col seed { s with judge := s.judge.touch k.data.toList, order := (s.order.hit k).2 } w' := by
  have hol := h.olen
  refine (use_any h.at_ k hk (by omega)).mono ?_
  rintro e w' ⟨h1, h2⟩
  refine ⟨h1, RunTurn.of h2 (Nat.le_refl _) hM ?_⟩
  have hall : (s.order.hit k).2.all.Perm s.order.all := by
    unfold Slru.St.hit
    by_cases hm : k ∈ s.order.all
    · rw [if_pos hm]
      have hp : (Slru.without s.order.trial k ++ (Slru.without s.order.safe k ++ [k])).Perm s.order.all := by
        rw [← List.append_assoc, ← without_app]
        refine (List.perm_append_singleton k _).trans ?_
        refine (List.perm_ext_iff_of_nodup (List.nodup_cons.2 ⟨fun e => (mem_without.1 e).2 rfl, h.inv.ond.sublist List.filter_sublist⟩) h.inv.ond).2 fun x => ?_
        rw [List.mem_cons, mem_without]
        constructor
        · rintro (rfl | hx)
          · exact hm
          · exact hx.1
        · intro hx
          by_cases e : x = k
          · exact .inl e
          · exact .inr ⟨hx, e⟩
      unfold Slru.St.moved
      split
      · refine List.Perm.trans ?_ hp
        show ((Slru.without s.order.trial k ++ (Slru.without s.order.safe k ++ [k]).take 1) ++ (Slru.without s.order.safe k ++ [k]).drop 1).Perm _
        rw [List.append_assoc, List.take_append_drop]
      · exact hp
    · rw [if_neg hm]
  exact ⟨h.inv.slab, h.inv.rise, fun j => by show j ∈ (s.order.hit k).2.all ↔ _; rw [hall.mem_iff]; exact h.inv.keys j, hall.nodup_iff.2 h.inv.ond, h.inv.ents, h.inv.mem, h.inv.len, h.inv.dl⟩
theorem update_run (h : Run W w M b col seed s) (hM : M ≤ 400) (it : Item) (a : Option Addr) (c : Nat) (hks : it.key.size ≤ 300) (hvs : it.val.length ≤ 3000) (hsrc : SrcB w (.slice a it.val.length c) it.val) (hsc : Apart col (.slice a it.val.length c) it.val) :
    Calls Tryz.prog 30 #[.pointer (some ⟨b, 0, none⟩), .agg (it.arr (.slice a it.val.length c))] w fun e w' => e = .returned (.int .i64 (s.update it).1) ∧ RunTurn W w M b col seed (s.update it).2 w' := by
  refine (update_any h.at_ (by omega) h.inv it a c hks hvs hsrc hsc).mono ?_
  rintro e w' ⟨h1, h2⟩
  exact ⟨h1, RunTurn.of h2 (Nat.le_refl _) hM (h.inv.update it)⟩
theorem remove_run (h : Run W w M b col seed s) (hM : M + 1 ≤ 400) (k : ByteArray) (hk : k.size ≤ maxLen) :
    Calls Tryz.prog 32 #[.pointer (some ⟨b, 0, none⟩), .string k] w fun e w' => e = .returned (.bool (s.remove k).1) ∧ RunTurn W w (M + 1) b col seed (s.remove k).2 w' := by
  have hn := nn_max (M := M) (by omega)
  have hol := h.olen
  have hns := nn_succ M
  refine (remove_any h.at_ k hk (by omega) h.inv.smallN (by omega)).mono ?_
  rintro e w' ⟨h1, h2⟩
  exact ⟨h1, RunTurn.of h2 (by omega) hM ((h.inv.remove k).mono (by omega) (by omega))⟩
theorem drops_run (h : Run W w M b col seed s) (hM : M ≤ 400) :
    Calls Tryz.prog 15 #[.pointer (some ⟨b, 0, none⟩)] w fun e w' => ∃ v, e = .returned v ∧ RunTurn W w M b col seed { s with drops := [] } w' ∧ w'.ownsRow W.heap.size 9 1 v s.drops.length (cellsS s.drops) := by
  refine (drops_any h.at_).mono ?_
  rintro e w' ⟨v, h1, h2, h3⟩
  exact ⟨v, h1, RunTurn.of h2 (Nat.le_refl _) hM h.inv.emptied, h3⟩
theorem Run.more {m : Nat} (h : Run W w M b col seed s) (hm : M ≤ m) (hM : m ≤ 400) : Run W w m b col seed s := ⟨h.at_.more hm (by omega), h.inv.mono hm (nn_le hm)⟩
theorem new_run (hb : Below W.heap.size W w) (seed budget protect : Int) (h0 : 0 ≤ seed) (h1 : seed < 18446744073709551616) (hbud : -9223372036854775808 ≤ budget ∧ budget ≤ 9223372036854775807) :
    Calls Tryz.prog 6 #[.int .u64 seed, .int .i64 budget, .int .i64 protect] w fun e w' => ∃ b col, e = .returned (.pointer (some ⟨b, 0, none⟩)) ∧ Run W w' 0 b col seed (St.new seed budget protect) ∧ (∀ k, col k ≠ none → w.heap.size ≤ k) ∧ Below w.heap.size w w' :=
  (new_any hb seed budget protect h0 h1).mono fun _ _ ⟨b, col, he, ha, hl, hw⟩ => ⟨b, col, he, ⟨ha, Inv.new seed budget protect hbud⟩, hl, hw⟩
theorem all_run (h : Run W w M b col seed s) (hM : M ≤ 400) (most : Int) :
    Calls Tryz.prog 10 #[.pointer (some ⟨b, 0, none⟩), .int .i64 most] w (AllPost w (s.items.take most.toNat)) :=
  all_law h.at_ h.vals (by have := h.ilen; omega) most
end
end Go.Proofs.YteonjgnnpgpnnaaGreat.Shard

