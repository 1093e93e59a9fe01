/- Part10: Shard6, Shard7, RefSh6, RefSh7, one behind the other. -/
import Derived.Test.YteonjgnnpgpnnaaGreatPart9
import Derived.Test.YteonjgnnpgpnnaaGreatPart3
import Derived.Laws.Rows
import Derived.Laws.ResultCell
import Derived.Test.YteonjgnnpgpnnaaGreatPart6
import Derived.Deep.RegionHeld3
import Derived.Deep.CutBlock
import Derived.WalkMore
import Derived.Test.YteonjgnnpgpnnaaGreatPart8
import Derived.Deep.MidRow
/- Layer 11: Look. -/
namespace Go.Proofs.YteonjgnnpgpnnaaGreat.Shard
open Go Go.RowKit Go.Proofs.YteonjgnnpgpnnaaGreat.Mem Go.Proofs.YteonjgnnpgpnnaaGreat.App

theorem zero_size : (Tryz.prog.info? 34).map (·.size) = some zeroI.size := by kernel_rfl
theorem results_two {P : Program} {fn : Func} {p u : Tmp} {ty : TypeId} (h : fn.results = #[.cell p ty, .tmp u]) (tmps : Array Value) (w : World) (g : Nat) (t : TypeId) (cs : Array Value) (fr : Nat × Nat) (d : TypeDesc) {x : Value}
    (hp : tmps.getD p undef = .pointer (some ⟨g, 0, none⟩)) (hx : tmps.getD u undef = x) (hg : w.heap[g]? = some (.cells cs t fr))
    (hu : P.underlying ty = some d) (hd : (match d with | .struct _ | .array _ _ => true | _ => false) = true) (hi : (P.info? ty).map (·.size) = some cs.size) :
    (results fn tmps).run P w = .ok (.tuple #[.agg cs, x]) w := by
  rw [results_cell_tmp h, hp, hx]
  simp [asAddr, run_loadVar_row w g t ty cs fr d hg hu hd hi, Result.andThen]
/-- Something of the caller's own was turned. -/
theorem Parts.aside {W w w' : World} {n : Nat} {hl : Nat → Prop} {col : Col} {ad : Addrs} {seed : Int} {s : St} {vd : Value} {vv : Nat → Value} {F : Nat → Prop} (h : Parts W w n hl col ad seed s vd vv) (ho : Only F w w') (hF : ∀ k, F k → col k = none ∧ W.heap.size ≤ k) : Parts W w' n hl col ad seed s vd vv := by
  obtain ⟨Ft, ht1, ht2⟩ := h.tab
  obtain ⟨Fs, hs1, hs2⟩ := h.slab
  obtain ⟨Fo, ho1, ho2⟩ := h.order
  have hk : ∀ k q, col k = some q → w'.heap[k]? = w.heap[k]? := fun k q e => ho.same k (h.lt k q e).2 (fun e1 => by rw [(hF k e1).1] at e; cases e)
  have hj : ∀ j k, col j = some Part.judge → F k → j ≠ k := fun j k e e1 e2 => by rw [e2, (hF k e1).1] at e; cases e
  exact ⟨(hk _ _ h.csb).trans h.self, h.csb, ⟨Ft, ht1.same (fun k e => hk k _ (ht2 k e)) ho.size, ht2⟩, h.sm, ⟨Fs, hs1.same (fun k e => hk k _ (hs2 k e)) ho.size, hs2⟩, ⟨Fo, ho1.same (fun k e => hk k _ (ho2 k e)) ho.size, ho2⟩,
    h.judge.other ho (fun k e => ⟨⟨hj _ k h.cj.1 e, hj _ k h.cj.2.1 e, hj _ k h.cj.2.2 e⟩, (hF k e).2⟩), h.cj, row_keep h.drops fun g e => hk g _ (h.cd g e), h.cd,
    fun q hq hn => by
      obtain ⟨h1, h2, h3, h4, h5⟩ := h.ents q hq hn
      exact ⟨(hk _ _ h4).trans h1, row_keep h2 fun g e => hk g _ (h5 g e).1, h3, h4, h5⟩,
    fun k q e => ⟨(h.lt k q e).1, Nat.lt_of_lt_of_le (h.lt k q e).2 ho.size⟩, Below.trans h.below (ho.below h.below.size (fun k e => (hF k e).2))⟩
theorem At.aside {W w w' : World} {n b : Nat} {col : Col} {seed : Int} {s : St} {F : Nat → Prop} (h : At W w n b col seed s) (ho : Only F w w') (hF : ∀ k, F k → col k = none ∧ W.heap.size ≤ k) : At W w' n b col seed s := by
  obtain ⟨ad, vd, vv, e, h⟩ := h
  exact ⟨ad, vd, vv, e, h.aside ho hF⟩
theorem At.size {W w : World} {n b : Nat} {col : Col} {seed : Int} {s : St} (h : At W w n b col seed s) : W.heap.size ≤ w.heap.size := by
  obtain ⟨ad, vd, vv, e, h⟩ := h
  exact h.below.size
theorem Only.setRow {F : Nat → Prop} {w w' : World} {g : Nat} {cs : Array Value} (hg : F g ∨ w.heap.size ≤ g) (h : Only F w w') : Only F w (w'.setRow g cs) :=
  ⟨h.os, h.tape, h.output, by simpa [World.setRow] using h.size, fun k hk hn => (setRow_other w' g k cs (fun e => hg.elim (fun e1 => hn (e ▸ e1)) (fun e1 => by omega))).trans (h.same k hk hn)⟩
theorem Fr.setRow {col col' : Col} {w w' : World} (h : Fr col col' w w') {g : Nat} {cs : Array Value} (hg : col g ≠ none ∨ w.heap.size ≤ g) : Fr col col' w (w'.setRow g cs) := ⟨Only.setRow hg h.1, h.2⟩
/-- An entry that a key has. -/
theorem At.entry {W w : World} {n b : Nat} {col : Col} {seed : Int} {s : St} (h : At W w n b col seed s) {k : ByteArray} {x : Nat} (hg : Tab.get s.tab.L k = some x) : ∃ v, w.heap[x]? = some (.cells ((s.ent x).arr v) 95 (0, 0)) ∧ OwnB w 0 v (s.ent x).it.val ∧ (s.ent x).it.key = k ∧ col x = some (.ent x) ∧ ∀ g, v.ownBlock = some g → col g = some (.ent x) ∧ g ≠ x := by
  obtain ⟨ad, vd, vv, e, h⟩ := h
  obtain ⟨F, hs, hF⟩ := h.tab
  have hr : Tab.Rising s.tab.L := hs.rise
  exact ⟨_, h.ents (k, x) ((Tab.get_mem hr.nodup).1 hg) (fun e => e)⟩
theorem zero_one : zeroI.all (·.oneCell') = true := by kernel_rfl
/-- What a look answers. -/
def LookPost (W w : World) (n b : Nat) (col : Col) (seed : Int) (s : St) (y : Option Nat × St) (e : Ending) (w' : World) : Prop :=
  Turn W w n b col seed y.2 w' ∧ (match y.1 with
    | some x => ∃ v, e = .returned (.tuple #[.agg ((s.ent x).it.arr v), .bool true]) ∧ OwnB w' w.heap.size v (s.ent x).it.val
    | none => e = .returned (.tuple #[.agg zeroI, .bool false]))
section
variable {W w : World} {n N b : Nat} {col : Col} {seed : Int} {s : St}
set_option maxRecDepth 100000 in
set_option maxHeartbeats 2000000 in
theorem look_any (h : At W w n b col seed s) (k : ByteArray) (env : Env) (hk : k.size ≤ maxLen) (hl : s.order.all.length ≤ 1000000000) (hsm : Slab.Small N s.slab) (hN : N ≤ 1099511627776) (hd : (s.tick.remove k).2.drops.length ≤ 1000000000) (hv : ∀ x, Tab.get s.tab.L k = some x → (s.ent x).it.val.length ≤ 1000000) :
    Calls Tryz.prog 26 #[.pointer (some ⟨b, 0, none⟩), .string k, .agg env.arr] w (LookPost W w n b col seed s (s.find k env)) := by
  have hb2 : Below w.heap.size w ((w.alloc (.cells env.arr 36)).alloc (.cells zeroI 34)) := Mem.al (Mem.al (Below.refl _ _) _) _
  have n1 : ((w.alloc (.cells env.arr 36)).alloc (.cells zeroI 34)).heap[w.heap.size]? = some (.cells env.arr 36 (0, 0)) := Mem.new_later (Mem.new_block w _) _
  have n2 : ((w.alloc (.cells env.arr 36)).alloc (.cells zeroI 34)).heap[w.heap.size + 1]? = some (.cells zeroI 34 (0, 0)) := Mem.new_block2 w _ _
  have hsz : ((w.alloc (.cells env.arr 36)).alloc (.cells zeroI 34)).heap.size = w.heap.size + 2 := by simp
  have hcn : ∀ j, w.heap.size ≤ j → col j = none := fun j hj => Classical.byContradiction fun e => by have := h.lt j e; omega
  have h2 := h.step hb2
  have hfind := find_any h2 k env hk hl hsm hN hd
  obtain ⟨w0, hw0⟩ : ∃ w0, (w.alloc (.cells env.arr 36)).alloc (.cells zeroI 34) = w0 := ⟨_, rfl⟩
  rw [hw0] at hfind n1 n2 hsz hb2
  have q0 := Mem.row_cell n1 0
  have q1 := Mem.row_cell n1 1
  have q2 := Mem.row_cell n1 2
  have q3 := Mem.row_cell n1 3
  simp only [Env.arr, List.getElem?_toArray, List.getElem?_cons_zero, List.getElem?_cons_succ] at q0 q1 q2 q3
  have HL : Hid (W.heap.size ≤ w.heap.size) := Lib.hid h.size
  have HN := Lib.hid (And.intro n2 (And.intro hsz (And.intro hcn hb2)))
  have HW := Lib.hid hw0
  clear n1 n2 hsz hcn hb2 h2 h
  unfold Env.arr zeroI at hw0
  unfold Env.arr at hfind ⊢
  go_enter Tryz.func26, Tryz.ntmps26
  go_wp2_with fail
  refine hfind.mono ?_
  rintro e w1 ⟨rfl, col1, a1, f1⟩
  have m2 : w1.heap[w.heap.size + 1]? = some (.cells zeroI 34 (0, 0)) := (f1.keep (by rw [HN.out.2.1]; omega) (HN.out.2.2.1 _ (by omega))).trans HN.out.1
  have HF0 := Lib.hid f1
  have f1 := (Fr.below HN.out.2.2.2).trans f1
  have H1 := Lib.hid (And.intro a1 (And.intro f1 m2))
  clear hfind a1 f1 m2
  rcases hy : (s.find k env).1 with _ | x
  · have HY := Lib.hid hy
    clear hy
    unfold ptrE
    go_wp2_with (first | (refine wpList_store_row rfl 34 _ _ rfl (w.heap.size + 1) zeroI rfl rfl 34 zeroI H1.out.2.2 zero_size rfl zero_one ?_) | fail)
    have hrow : (w1.setRow (w.heap.size + 1) zeroI).heap[w.heap.size + 1]? = some (.cells zeroI 34 (0, 0)) := setRow_heap _ _ _ _ _ _ H1.out.2.2
    refine bodyPost_ret (results_two Tryz.results26 _ _ (w.heap.size + 1) _ _ _ _ rfl rfl hrow Tryz.underlying34 rfl zero_size) rfl ?_
    obtain ⟨a1, f1, m2⟩ := H1.out
    have hcc : col1 (w.heap.size + 1) = none := Classical.byContradiction fun e => (HF0.out.2 _ e).elim (fun e1 => e1 (HN.out.2.2.1 _ (by omega))) (fun e1 => by have := HN.out.2.1; omega)
    refine ⟨⟨col1, a1.aside (F := fun k => k = w.heap.size + 1) (Only.setRow (.inl rfl) (Only.refl _ _)) (fun k e => by subst e; exact ⟨hcc, by have := HL.out; omega⟩), f1.setRow (.inr (by omega))⟩, ?_⟩
    rw [HY.out]
    rfl
  · obtain ⟨g1, g2, g3⟩ := find_some hy
    have a1 := H1.out.1
    rw [g3] at a1
    obtain ⟨v, e1, hown, -, hcx, -⟩ := a1.entry (k := k) (x := x) g1
    have hvx := hv x g1
    have cell := fun j => Mem.row_cell e1 j
    have d0 := cell 0
    have d1 := cell 1
    have d2 := cell 2
    have d3 := cell 3
    have d4 := cell 4
    have d5 := cell 5
    have d6 := cell 6
    have d7 := cell 7
    have d8 := cell 8
    have d9 := cell 9
    simp only [St.tick, Ent.arr, List.getElem?_toArray, List.getElem?_cons_zero, List.getElem?_cons_succ] at d0 d1 d2 d3 d4 d5 d6 d7 d8 d9
    have hcl := owned_any (s.ent x).it (SrcB.of_row hown) hvx
    have HY := Lib.hid (And.intro hy g3)
    clear hy g1 g2 g3 a1 e1 hown hcx cell hvx
    unfold Item.arr at hcl
    unfold ptrE
    go_wp2_with fail
    refine hcl.mono ?_
    rintro e w2 ⟨v2, rfl, hown2, hb2⟩
    obtain ⟨ya, yc, hv'⟩ := Src.shape (Src.of_row hown2)
    subst hv'
    have k2 : w2.heap[w.heap.size + 1]? = some (.cells zeroI 34 (0, 0)) := (hb2.block _ (Array.getElem?_eq_some_iff.1 H1.out.2.2).1).trans H1.out.2.2
    have H2 := Lib.hid (And.intro hown2 (And.intro hb2 k2))
    clear hcl hown2 hb2 k2 d0 d1 d2 d3 d4 d5 d6 d7 d8 d9
    go_wp2_with (first | (refine wpList_store_row rfl 34 _ _ rfl (w.heap.size + 1) ((s.ent x).it.arr (.slice ya (s.ent x).it.val.length yc)) rfl rfl 34 zeroI H2.out.2.2 (item_size (s.ent x).it _) rfl (item_one (s.ent x).it H2.out.1) ?_) | fail)
    have hrow := setRow_heap _ _ _ ((s.ent x).it.arr (.slice ya (s.ent x).it.val.length yc)) _ _ H2.out.2.2
    refine bodyPost_ret (results_two Tryz.results26 _ _ (w.heap.size + 1) _ _ _ _ rfl rfl hrow Tryz.underlying34 rfl (item_size (s.ent x).it _)) rfl ?_
    obtain ⟨a1, f1, m2⟩ := H1.out
    have hcc : col1 (w.heap.size + 1) = none := Classical.byContradiction fun e => (HF0.out.2 _ e).elim (fun e1 => e1 (HN.out.2.2.1 _ (by omega))) (fun e1 => by have := HN.out.2.1; omega)
    obtain ⟨hown2, hb2, k2⟩ := H2.out
    have hzz := (Array.getElem?_eq_some_iff.1 m2).1
    refine ⟨⟨col1, (a1.step hb2).aside (F := fun k => k = w.heap.size + 1) (Only.setRow (.inl rfl) (Only.refl _ _)) (fun k e => by subst e; exact ⟨hcc, by have := HL.out; omega⟩), (f1.trans (Fr.below hb2)).setRow (.inr (by omega))⟩, ?_⟩
    rw [HY.out.1]
    refine ⟨_, rfl, row_keep (Mem.row_less hown2 (by omega)) fun g e => setRow_other _ _ _ _ (fun e1 => ?_)⟩
    have := (own_block_lt hown2 g e).1
    omega
end
end Go.Proofs.YteonjgnnpgpnnaaGreat.Shard

/- Layer 11: room. -/
namespace Go.Proofs.YteonjgnnpgpnnaaGreat.Shard
open Go Go.RowKit Go.Proofs.YteonjgnnpgpnnaaGreat.Mem Go.Proofs.YteonjgnnpgpnnaaGreat.App

/-- A shard in a loop, beside two boxes of the caller's own. -/
structure Beside (W w0 : World) (n b B B' : Nat) (col : Col) (seed : Int) (o1 o2 : Obj) (s : St) (w : World) : Prop where
  run : ∃ col', At W w n b col' seed s ∧ Fr col col' w0 w
  b1 : w.heap[B]? = some o1
  b2 : w.heap[B']? = some o2
theorem Beside.below {W w0 w w' : World} {n b B B' : Nat} {col : Col} {seed : Int} {o1 o2 : Obj} {s : St} (h : Beside W w0 n b B B' col seed o1 o2 s w) (hb : Below w.heap.size w w') : Beside W w0 n b B B' col seed o1 o2 s w' := by
  obtain ⟨col1, a1, f1⟩ := h.run
  exact ⟨⟨col1, a1.step hb, f1.trans (Fr.below hb)⟩, (hb.block _ (Array.getElem?_eq_some_iff.1 h.b1).1).trans h.b1, (hb.block _ (Array.getElem?_eq_some_iff.1 h.b2).1).trans h.b2⟩
/-- What a walk reads of a shard. -/
theorem Beside.reads {W w0 w : World} {n b B B' : Nat} {col : Col} {seed : Int} {o1 o2 : Obj} {s : St} (h : Beside W w0 n b B B' col seed o1 o2 s w) : ∃ (ad : Addrs) (F G : Nat → Prop),
    w.cell? ⟨b, 0, none⟩ = some (.pointer (some ⟨ad.tb, 0, none⟩)) ∧ w.cell? ⟨b, 1, none⟩ = some (.pointer (some ⟨ad.mb, 0, none⟩)) ∧ w.cell? ⟨b, 2, none⟩ = some (.pointer (some ⟨ad.ob, 0, none⟩)) ∧ w.cell? ⟨b, 3, none⟩ = some (.pointer (some ⟨ad.jb, 0, none⟩)) ∧
    Slab.At w ad.mb F s.slab ∧ Slru.At w ad.ob G s.order ∧ Tiny.Run W w ad.jb ad.fb ad.cb s.judge := by
  obtain ⟨col1, ⟨ad, vd, vv, rfl, h1⟩, f1⟩ := h.run
  obtain ⟨F, hs, -⟩ := h1.slab
  obtain ⟨G, ho, -⟩ := h1.order
  exact ⟨ad, F, G, Mem.row_cell h1.self 0, Mem.row_cell h1.self 1, Mem.row_cell h1.self 2, Mem.row_cell h1.self 3, hs, ho, h1.judge⟩
/-- A look at the table, in a turn. -/
theorem Beside.get {W w0 w : World} {n b B B' : Nat} {col : Col} {seed : Int} {o1 o2 : Obj} {s : St} (h : Beside W w0 n b B B' col seed o1 o2 s w) (hB : B ≤ B' ∧ B' < w0.heap.size) (hc : ∀ j, B ≤ j → col j = none) (k : ByteArray) (hk : k.size ≤ maxLen) : ∃ ad : Addrs,
    w.cell? ⟨b, 0, none⟩ = some (.pointer (some ⟨ad.tb, 0, none⟩)) ∧
    Calls Tryz.prog 63 #[.pointer (some ⟨ad.tb, 0, none⟩), .string k] w fun e w' => e = .returned (TabE.getV s.tab.L k) ∧ Beside W w0 n b B B' col seed o1 o2 s.tick w' ∧ w'.cell? ⟨b, 0, none⟩ = some (.pointer (some ⟨ad.tb, 0, none⟩)) := by
  obtain ⟨col1, ⟨ad, vd, vv, rfl, h1⟩, f1⟩ := h.run
  obtain ⟨F, hs, hF⟩ := h1.tab
  refine ⟨ad, Mem.row_cell h1.self 0, (TabE.get_any hs h1.sm k hk).mono ?_⟩
  rintro e w1 ⟨F1, rfl, ha, ho, hgr⟩
  refine ⟨rfl, ?_⟩
  have h2 := h1.turnTab (hl' := fun _ => False) hF ha ho hgr h1.sm.tick (fun q hq _ => ⟨hq, fun e => e⟩)
  have hn : ∀ j, B ≤ j → j < w0.heap.size → col1 j = none := fun j h1 h2 => Classical.byContradiction fun e => (f1.2 j e).elim (fun e1 => e1 (hc j h1)) (fun e1 => by omega)
  have hz := f1.1.size
  have f2 := Fr.of hF ho
  exact ⟨⟨⟨_, ⟨ad, vd, vv, rfl, h2⟩, f1.trans f2⟩, (f2.keep (by omega) (hn _ (Nat.le_refl _) (by omega))).trans h.b1, (f2.keep (by omega) (hn _ (by omega) (by omega))).trans h.b2⟩, Mem.row_cell h2.self 0⟩
/-- An entry's cells. -/
theorem Beside.entry {W w0 w : World} {n b B B' : Nat} {col : Col} {seed : Int} {o1 o2 : Obj} {s : St} (h : Beside W w0 n b B B' col seed o1 o2 s w) {k : ByteArray} {x : Nat} (hm : (k, x) ∈ s.tab.L) : ∃ v, w.heap[x]? = some (.cells ((s.ent x).arr v) 95 (0, 0)) ∧ OwnB w 0 v (s.ent x).it.val := by
  obtain ⟨col1, ⟨ad, vd, vv, rfl, h1⟩, f1⟩ := h.run
  obtain ⟨e1, e2, -⟩ := h1.ents (k, x) hm (fun e => e)
  exact ⟨_, e1, e2⟩
section
variable {W w : World} {n N b : Nat} {col : Col} {seed : Int} {s : St}
theorem Inv.smallN {n N : Nat} {s : St} (h : Inv n N s) : Slab.Small N s.slab := h.slab.small
/-- A drop, in a loop. -/
theorem Beside.drop {W w0 w : World} {n n0 N b B B' : Nat} {col : Col} {seed : Int} {o1 o2 : Obj} {s : St} (h : Beside W w0 n b B B' col seed o1 o2 s w) (hB : B ≤ B' ∧ B' < w0.heap.size) (hc : ∀ j, B ≤ j → col j = none) (hi : Inv n0 N s) (hn : n0 ≤ 1000000) (hN : N ≤ 1000000) (k : ByteArray) (hk : k.size ≤ maxLen) :
    Calls Tryz.prog 71 #[.pointer (some ⟨b, 0, none⟩), .string k] w fun e w' => e = .returned (.tuple #[]) ∧ Beside W w0 n b B B' col seed o1 o2 (s.drop k) w' := by
  obtain ⟨col1, a1, f1⟩ := h.run
  refine (drop_any a1 k hk (by have := hi.olen; have := hi.len; omega) hi.smallN (by omega) (by rw [remove_drops]; have := hi.dl; omega)).mono ?_
  rintro e w1 ⟨rfl, col2, a2, f2⟩
  have hn : ∀ j, B ≤ j → j < w0.heap.size → col1 j = none := fun j h1 h2 => Classical.byContradiction fun e => (f1.2 j e).elim (fun e1 => e1 (hc j h1)) (fun e1 => by omega)
  have hz := f1.1.size
  exact ⟨rfl, ⟨col2, a2, f1.trans f2⟩, (f2.keep (by omega) (hn _ (Nat.le_refl _) (by omega))).trans h.b1, (f2.keep (by omega) (hn _ (by omega) (by omega))).trans h.b2⟩
theorem Inv.drop_len {n N : Nat} {t : St} (h : Inv n N t) {k : ByteArray} (hk : k ∈ t.order.all) : (t.tick.drop k).order.all.length + 1 = t.order.all.length := by
  have h1 := (h.tick.drop k).olen
  have h2 := h.olen
  rw [drop_L t.tick k h.rise] at h1
  have := Tab.del_len h.rise ((h.keys k).1 hk)
  show (t.tick.drop k).order.all.length + 1 = _
  rw [h1, h2]; exact this
theorem less_range (s : St) (o : Option Nat) : 0 ≤ s.less o ∧ s.less o ≤ 2048 := by
  unfold St.less
  split
  · exact Slab.bytes_range _
  · omega
set_option maxRecDepth 100000 in
theorem eql_old (old : Option Nat) (w : World) : (binOp .neq 58 (ptrE old) (.pointer none)).run Tryz.prog w = .ok (.bool old.isSome) w := by cases old <;> rfl
set_option maxRecDepth 100000 in
theorem eqg_old (old : Option Nat) (o1 o2 : Operand) (w : World) : (eqGuard .neq 58 o1 o2 (ptrE old) (.pointer none)).run Tryz.prog w = .ok () w := by cases old <;> rfl
def RoomPost (W w : World) (n b : Nat) (col : Col) (seed : Int) (y : Int × St) (e : Ending) (w' : World) : Prop := e = .returned (.int .i64 y.1) ∧ Turn W w n b col seed y.2 w'
set_option maxRecDepth 100000 in
set_option maxHeartbeats 4000000 in
theorem room_any (h : At W w n b col seed s) {n0 : Nat} (hi : Inv n0 N s) (it : Item) (a : Option Addr) (c : Nat) (old : Option Nat) (env : Env) (hks : it.key.size ≤ 300) (hvs : it.val.length ≤ 3000) (hold : ∀ x, old = some x → ∃ k, (k, x) ∈ s.tab.L) (hn0 : n0 ≤ 1000) (hN : N ≤ 500000) :
    Calls Tryz.prog 41 #[.pointer (some ⟨b, 0, none⟩), .agg (it.arr (.slice a it.val.length c)), ptrE old, .agg env.arr] w (RoomPost W w n b col seed (St.room it old.isSome (s.less old) env (s.order.all.length + 1) s)) := by
  obtain ⟨L, hL⟩ : ∃ L, s.order.all.length = L := ⟨_, rfl⟩
  have hLn : L ≤ 1000 := by have := hi.olen; have := hi.len; omega
  obtain ⟨y, hy⟩ : ∃ y, St.room it old.isSome (s.less old) env (L + 1) s = y := ⟨_, rfl⟩
  rw [hL, hy]
  have hcn : ∀ j, w.heap.size ≤ j → col j = none := fun j hj => Classical.byContradiction fun e => by have := h.lt j e; omega
  have hb2 : Below w.heap.size w ((w.alloc (.cells (it.arr (.slice a it.val.length c)) 34)).alloc (.cells env.arr 36)) := Mem.al (Mem.al (Below.refl _ _) _) _
  have n1 : ((w.alloc (.cells (it.arr (.slice a it.val.length c)) 34)).alloc (.cells env.arr 36)).heap[w.heap.size]? = some (.cells (it.arr (.slice a it.val.length c)) 34 (0, 0)) := Mem.new_later (Mem.new_block w _) _
  have n2 : ((w.alloc (.cells (it.arr (.slice a it.val.length c)) 34)).alloc (.cells env.arr 36)).heap[w.heap.size + 1]? = some (.cells env.arr 36 (0, 0)) := Mem.new_block2 w _ _
  have hsz : w.heap.size ≤ w.heap.size + 1 ∧ w.heap.size + 1 < ((w.alloc (.cells (it.arr (.slice a it.val.length c)) 34)).alloc (.cells env.arr 36)).heap.size := by simp
  have hbs : Beside W ((w.alloc (.cells (it.arr (.slice a it.val.length c)) 34)).alloc (.cells env.arr 36)) n b w.heap.size (w.heap.size + 1) col seed (.cells (it.arr (.slice a it.val.length c)) 34 (0, 0)) (.cells env.arr 36 (0, 0)) s ((w.alloc (.cells (it.arr (.slice a it.val.length c)) 34)).alloc (.cells env.arr 36)) := ⟨⟨col, h.step hb2, Fr.refl _ _⟩, n1, n2⟩
  obtain ⟨w0, hw0⟩ : ∃ w0, (w.alloc (.cells (it.arr (.slice a it.val.length c)) 34)).alloc (.cells env.arr 36) = w0 := ⟨_, rfl⟩
  rw [hw0] at hbs hb2 hsz
  have HB := Lib.hid (And.intro hcn (And.intro hb2 hsz))
  have HS := Lib.hid hbs
  have HY := Lib.hid hy
  have HI := Lib.hid hi
  have HLn := Lib.hid hL
  have HO := Lib.hid hold
  have heq := eql_old old
  have hqg := eqg_old old
  clear n1 n2 hcn hb2 hsz h hbs hy hi hold hL
  obtain ⟨pv, hpv⟩ : ∃ pv, ptrE old = pv := ⟨_, rfl⟩
  rw [hpv] at heq hqg ⊢
  obtain ⟨q, hq⟩ : ∃ q, old.isSome = q := ⟨_, rfl⟩
  rw [hq] at heq
  have HP := Lib.hid (And.intro hpv hq)
  clear hpv hq
  unfold Item.arr Env.arr at hw0 ⊢
  go_enter Tryz.func41, Tryz.ntmps41
  go_wp2_with fail
  go_step3
  go_upto_if 15 with (fail)
  go_cut [9] from 16 to 21 (fun z wx => z = .int .i64 (s.less old) ∧ w0 = wx)
  case first =>
    obtain ⟨hpv, hq⟩ := HP.out
    cases old with
    | none =>
      subst hpv hq
      go_wp2_with fail
      go_meet
      exact ⟨rfl, rfl⟩
    | some x =>
      obtain ⟨k, hk⟩ := HO.out x rfl
      obtain ⟨v, e1, -⟩ := HS.out.entry hk
      have d10 : w0.cell? ⟨x, 10, none⟩ = some (.int .i64 (s.ent x).chunk.1) := Mem.row_cell e1 10
      have d11 : w0.cell? ⟨x, 11, none⟩ = some (.int .i64 (s.ent x).chunk.2) := Mem.row_cell e1 11
      have hby := Slab.bytes_any (s.ent x).chunk.1 w0
      subst hpv hq
      clear hk e1
      unfold ptrE
      go_wp2_with fail
      refine hby.mono ?_
      rintro e w1 ⟨rfl, rfl⟩
      go_wp2_with fail
      go_meet
      exact ⟨rfl, rfl⟩
  case rest =>
    obtain ⟨rfl, rfl⟩ := hcut
    obtain ⟨hl0, hl1⟩ := less_range s old
    obtain ⟨le, hle⟩ : ∃ le, s.less old = le := ⟨_, rfl⟩
    have HY2 : Hid (St.room it q le env (L + 1) s = y) := Lib.hid (by have := HY.out; rw [HP.out.2, hle] at this; exact this)
    rw [hle] at hl0 hl1 ⊢
    clear hle HY
    go_wp2_with fail
    go_step3
    go_wp2_with fail
    go_loopg [10, 11, 12, 13] L (fun gh _ _ _ _ wr => ∃ (t : St) (g : Nat), g = gh ∧ Hid (Beside W w0 n b w.heap.size (w.heap.size + 1) col seed (.cells (it.arr (.slice a it.val.length c)) 34 (0, 0)) (.cells env.arr 36 (0, 0)) t wr ∧ Inv n0 (N + (L - g)) t ∧ t.order.all.length = g ∧ g ≤ L ∧ St.room it q le env (g + 1) t = y))
    case atStart => exact ⟨s, L, rfl, Lib.hid ⟨HS.out, by rw [Nat.sub_self]; exact HI.out, HLn.out, Nat.le_refl _, HY2.out⟩⟩
    case round =>
      obtain ⟨t, g, rfl, HT⟩ := hrel
      obtain ⟨ad, F, G, d0, d1, d2, d3, hsl, hor, hju⟩ := HT.out.1.reads
      have cel := fun j => Mem.row_cell HT.out.1.b1 j
      have i0 := cel 0
      have i1 := cel 1
      have i2 := cel 2
      have i3 := cel 3
      have i4 := cel 4
      have i5 := cel 5
      have i6 := cel 6
      have i7 := cel 7
      have i8 := cel 8
      have i9 := cel 9
      simp only [Item.arr, List.getElem?_toArray, List.getElem?_cons_zero, List.getElem?_cons_succ] at i0 i1 i2 i3 i4 i5 i6 i7 i8 i9
      have hsz := fun w' => size_any it a c w' (by omega) (by omega)
      unfold Item.arr at hsz
      have hfit := fun w' (hb : Below wr.heap.size wr w') => Slab.fits_any (hsl.below hb) HT.out.2.1.smallN (by omega) it.size le (by omega)
      have hb0 : Below wr.heap.size wr wr := Below.refl _ _
      have hbl : b < wr.heap.size := block_lt_of_cell d1
      have hBl : w.heap.size < wr.heap.size := block_lt_of_cell i0
      have HR := Lib.hid (And.intro d0 (And.intro d2 (And.intro d3 (And.intro hor hju))))
      clear cel d0 d2 d3 hor hju
      go_wp2_with fail
      go_region_held3 (fun W' : World => Below wr.heap.size wr W' ∧ W'.cell? ⟨b, 1, none⟩ = some (.pointer (some ⟨ad.mb, 0, none⟩)) ∧ W'.cell? ⟨w.heap.size, 0, none⟩ = some (.string it.key) ∧ W'.cell? ⟨w.heap.size, 1, none⟩ = some (.slice a it.val.length c) ∧ W'.cell? ⟨w.heap.size, 2, none⟩ = some (.int .u32 it.flags) ∧ W'.cell? ⟨w.heap.size, 3, none⟩ = some (.int .i64 it.exp) ∧ W'.cell? ⟨w.heap.size, 4, none⟩ = some (.int .u64 it.cas) ∧ W'.cell? ⟨w.heap.size, 5, none⟩ = some (.int .i64 it.sec) ∧ W'.cell? ⟨w.heap.size, 6, none⟩ = some (.int .u64 it.seq) ∧ W'.cell? ⟨w.heap.size, 7, none⟩ = some (.bool it.stale) ∧ W'.cell? ⟨w.heap.size, 8, none⟩ = some (.bool it.won) ∧ W'.cell? ⟨w.heap.size, 9, none⟩ = some (.bool it.seen))
        (first
          | exact ⟨hb0.drew, d1, i0, i1, i2, i3, i4, i5, i6, i7, i8, i9⟩
          | (go_split_ands; have hbx : Below wr.heap.size wr _ := (by assumption); have hk9 := fun (B i : Nat) (hB : B < wr.heap.size) => World.cell?_of_block (a := ⟨B, i, none⟩) (hbS.block B (Nat.lt_of_lt_of_le hB hbx.size)); exact ⟨Mem.tr hbx hbS, (hk9 b 1 hbl).trans (by assumption), (hk9 _ 0 hBl).trans (by assumption), (hk9 _ 1 hBl).trans (by assumption), (hk9 _ 2 hBl).trans (by assumption), (hk9 _ 3 hBl).trans (by assumption), (hk9 _ 4 hBl).trans (by assumption), (hk9 _ 5 hBl).trans (by assumption), (hk9 _ 6 hBl).trans (by assumption), (hk9 _ 7 hBl).trans (by assumption), (hk9 _ 8 hBl).trans (by assumption), (hk9 _ 9 hBl).trans (by assumption)⟩)
          | (go_split_ands; exact ⟨Mem.dn (by assumption) _, by assumption, by assumption, by assumption, by assumption, by assumption, by assumption, by assumption, by assumption, by assumption, by assumption, by assumption⟩))
        (first
          | (go_at_call 39; go_split_ands; refine (hsz _).mono ?_; rintro e wS ⟨rfl, hbS⟩)
          | (go_at_call 72; go_split_ands; refine (hfit _ (by assumption)).mono ?_; rintro e wF ⟨rfl, dF, rfl⟩))
      have hbF : Below wr.heap.size wr (wS.drewN dF) := Mem.tr (Below.drew (Below.refl _ wr)) (Mem.dn hbS dF)
      obtain ⟨w1, hw1⟩ : ∃ w1, wS.drewN dF = w1 := ⟨_, rfl⟩
      rw [hw1] at hbF ⊢
      have H1 := Lib.hid (HT.out.1.below hbF)
      clear hbF hbS hw1 hsz hfit hb0 hsl d1 i0 i1 i2 i3 i4 i5 i6 i7 i8 i9 hbl hBl
      have hcase := room_cases (it := it) (old := q) (less := le) (env := env) g t
      obtain ⟨fit, hfitv⟩ : ∃ f, t.slab.fits it.size le = f := ⟨_, rfl⟩
      rw [hfitv] at hcase ⊢
      have HC := Lib.hid hcase
      clear hcase
      cases fit with
      | true =>
        clear hfitv
        go_wp2_with fail
        go_ret
        obtain ⟨-, e2⟩ | ⟨e1, -⟩ | ⟨e1, -⟩ := HC.out
        · have hyt : y = (0, t) := HT.out.2.2.2.2.symm.trans e2
          obtain ⟨col1, a1, f1⟩ := H1.out.run
          rw [hyt]
          exact ⟨rfl, col1, a1, (Fr.below HB.out.2.1).trans f1⟩
        · cases e1
        · cases e1
      | false =>
        clear hfitv
        obtain ⟨ad2, F2, G2, -, -, d2, -, -, hor, -⟩ := H1.out.reads
        have i0 : w1.cell? ⟨w.heap.size, 0, none⟩ = some (.string it.key) := Mem.row_cell H1.out.b1 0
        have hvic := fun w' (hb : Below w1.heap.size w1 w') => Slru.victim_any (hor.below hb) it.key
        have hb0 : Below w1.heap.size w1 w1 := Below.refl _ _
        have hbl : b < w1.heap.size := block_lt_of_cell d2
        have hBl : w.heap.size < w1.heap.size := block_lt_of_cell i0
        clear hor
        have HC2 : Hid ((t.order.victim it.key = none ∧ St.room it q le env (g + 1) t = (5, t)) ∨ (∃ v, t.order.victim it.key = some v ∧ v ≠ it.key ∧ v ∈ t.order.all ∧ ((Tab.get t.tab.L v = none ∧ St.room it q le env (g + 1) t = (5, t)) ∨ ∃ x, Tab.get t.tab.L v = some x ∧
          (((q = true ∨ (t.ent x).it.live env = false ∨ t.judge.admit it.key.data.toList v.data.toList = true) ∧ St.room it q le env (g + 1) t = St.room it q le env g (t.tick.drop v)) ∨
           (q = false ∧ (t.ent x).it.live env = true ∧ t.judge.admit it.key.data.toList v.data.toList = false ∧ St.room it q le env (g + 1) t = (8, t.tick)))))) := Lib.hid (by
          obtain ⟨e1, -⟩ | ⟨-, e2⟩ | ⟨-, e2⟩ := HC.out
          · cases e1
          · exact .inl e2
          · exact .inr e2)
        clear HC
        rcases HC2.out with ⟨e1, e2⟩ | ⟨v, e1, hvk, hvm, e2⟩
        · have hvv : Slru.vic t.order it.key = (ByteArray.empty, false) := by unfold Slru.vic; rw [e1]
          rw [hvv] at hvic
          have HE := Lib.hid e2
          clear e1 e2 hvv HC2
          go_wp2_with fail
          go_region_held3 (fun W' : World => Below w1.heap.size w1 W' ∧ W'.cell? ⟨b, 2, none⟩ = some (.pointer (some ⟨ad2.ob, 0, none⟩)) ∧ W'.cell? ⟨w.heap.size, 0, none⟩ = some (.string it.key))
            (first
              | exact ⟨hb0.drew, d2, i0⟩
              | (go_split_ands; have hbx : Below w1.heap.size w1 _ := (by assumption); have hk9 := fun (B i : Nat) (hB : B < w1.heap.size) => World.cell?_of_block (a := ⟨B, i, none⟩) (hbS.block B (Nat.lt_of_lt_of_le hB hbx.size)); exact ⟨Mem.tr hbx hbS, (hk9 b 2 hbl).trans (by assumption), (hk9 _ 0 hBl).trans (by assumption)⟩))
            (first | (go_at_call 73; go_split_ands; refine (hvic _ (by assumption)).mono ?_; rintro e w2 ⟨rfl, hbS⟩))
          have H2 := Lib.hid (H1.out.below (Mem.tr (Below.drew (Below.refl _ w1)) hbS))
          clear hvic hbS d2 i0 hb0 hbl hBl
          go_wp2_with fail
          go_ret
          have hyt : y = (5, t) := HT.out.2.2.2.2.symm.trans HE.out
          obtain ⟨col1, a1, f1⟩ := H2.out.run
          rw [hyt]
          exact ⟨rfl, col1, a1, (Fr.below HB.out.2.1).trans f1⟩
        · have hvv : Slru.vic t.order it.key = (v, true) := by unfold Slru.vic; rw [e1]
          rw [hvv] at hvic
          have HE := Lib.hid (And.intro e2 (And.intro hvk hvm))
          clear e1 e2 hvv HC2 hvk hvm
          go_wp2_with fail
          go_region_held3 (fun W' : World => Below w1.heap.size w1 W' ∧ W'.cell? ⟨b, 2, none⟩ = some (.pointer (some ⟨ad2.ob, 0, none⟩)) ∧ W'.cell? ⟨w.heap.size, 0, none⟩ = some (.string it.key))
            (first
              | exact ⟨hb0.drew, d2, i0⟩
              | (go_split_ands; have hbx : Below w1.heap.size w1 _ := (by assumption); have hk9 := fun (B i : Nat) (hB : B < w1.heap.size) => World.cell?_of_block (a := ⟨B, i, none⟩) (hbS.block B (Nat.lt_of_lt_of_le hB hbx.size)); exact ⟨Mem.tr hbx hbS, (hk9 b 2 hbl).trans (by assumption), (hk9 _ 0 hBl).trans (by assumption)⟩))
            (first | (go_at_call 73; go_split_ands; refine (hvic _ (by assumption)).mono ?_; rintro e w2 ⟨rfl, hbS⟩))
          have H2 := Lib.hid (H1.out.below (Mem.tr (Below.drew (Below.refl _ w1)) hbS))
          clear hvic hbS d2 i0 hb0 hbl hBl
          have hvsz : v.size ≤ maxLen := by
            obtain ⟨p, hp, e⟩ := List.mem_map.1 ((HT.out.2.1.keys v).1 HE.out.2.2)
            have := (HT.out.2.1.ents p hp).2.1
            rw [← e]; unfold maxLen; omega
          obtain ⟨ad3, c0, hget⟩ := H2.out.get HB.out.2.2 HB.out.1 v hvsz
          obtain ⟨x, hx⟩ : ∃ x, Tab.get t.tab.L v = some x := by
            rcases hg : Tab.get t.tab.L v with _ | x
            · exact absurd ((HT.out.2.1.keys v).1 HE.out.2.2) (get_none HT.out.2.1.rise hg)
            · exact ⟨x, rfl⟩
          have hgv : TabE.getV t.tab.L v = .tuple #[.pointer (some ⟨x, 0, none⟩), .bool true] := by unfold TabE.getV; rw [hx]
          rw [hgv] at hget
          have HX := Lib.hid hx
          clear hgv hx
          go_wp2_with fail
          refine hget.mono ?_
          rintro e w3 ⟨rfl, h3, -⟩
          have H3 := Lib.hid h3
          clear hget h3 c0
          have hm : (v, x) ∈ t.tick.tab.L := (Tab.get_mem HT.out.2.1.rise.nodup).1 HX.out
          have HE2 : Hid (((q = true ∨ (t.ent x).it.live env = false ∨ t.judge.admit it.key.data.toList v.data.toList = true) ∧ St.room it q le env (g + 1) t = St.room it q le env g (t.tick.drop v)) ∨
           (q = false ∧ (t.ent x).it.live env = true ∧ t.judge.admit it.key.data.toList v.data.toList = false ∧ St.room it q le env (g + 1) t = (8, t.tick))) := Lib.hid (by
            rcases HE.out.1 with ⟨e1, -⟩ | ⟨x2, e1, e2⟩
            · rw [HX.out] at e1; cases e1
            · rw [HX.out] at e1
              injection e1 with e1
              subst e1
              exact e2)
          have HV := Lib.hid hvsz
          have hN2 : N + (L - g) ≤ 600000 := by omega
          have hdrop := fun w' (h : Beside W w0 n b w.heap.size (w.heap.size + 1) col seed (.cells (it.arr (.slice a it.val.length c)) 34 (0, 0)) (.cells env.arr 36 (0, 0)) t.tick w') => h.drop HB.out.2.2 HB.out.1 HT.out.2.1.tick (by omega) (by omega) v HV.out
          have HD := Lib.hid hdrop
          have hg1 : 1 ≤ g := by rw [← HT.out.2.2.1]; exact List.length_pos_of_mem HE.out.2.2
          have hnext : ∀ w4, Beside W w0 n b w.heap.size (w.heap.size + 1) col seed (.cells (it.arr (.slice a it.val.length c)) 34 (0, 0)) (.cells env.arr 36 (0, 0)) (t.tick.drop v) w4 → St.room it q le env (g + 1) t = St.room it q le env g (t.tick.drop v) →
              Hid (Beside W w0 n b w.heap.size (w.heap.size + 1) col seed (.cells (it.arr (.slice a it.val.length c)) 34 (0, 0)) (.cells env.arr 36 (0, 0)) (t.tick.drop v) w4 ∧ Inv n0 (N + (L - (g - 1))) (t.tick.drop v) ∧ (t.tick.drop v).order.all.length = g - 1 ∧ g - 1 ≤ L ∧ St.room it q le env (g - 1 + 1) (t.tick.drop v) = y) := fun w4 hb4 he => Lib.hid (by
            have h1 := HT.out.2.1.drop_len HE.out.2.2
            have h2 := HT.out.2.2.1
            have h3 := HT.out.2.2.2.1
            refine ⟨hb4, (HT.out.2.1.tick.drop v).mono (Nat.le_refl _) (by omega), by omega, by omega, ?_⟩
            rw [show g - 1 + 1 = g from by omega, ← he]
            exact HT.out.2.2.2.2)
          have HNx := Lib.hid hnext
          have HG := Lib.hid hg1
          clear hdrop hnext hg1 hN2 hvsz
          cases q with
          | true =>
            have hd3 := HD.out w3 H3.out
            clear hm
            go_wp2_with fail
            refine hd3.mono ?_
            rintro e w4 ⟨rfl, h4⟩
            have H4 := HNx.out w4 h4 (by obtain ⟨-, e⟩ | ⟨e, -⟩ := HE2.out; exact e; cases e)
            clear hd3 h4
            go_wp2_with fail
            go_roundg (g - 1)
            case measure => have := HG.out; omega
            case rel => exact ⟨_, _, rfl, H4⟩
          | false =>
            obtain ⟨vx, ex, -⟩ := H3.out.entry hm
            have cex := fun j => Mem.row_cell ex j
            have x0 := cex 0
            have x1 := cex 1
            have x2 := cex 2
            have x3 := cex 3
            have x4 := cex 4
            have x5 := cex 5
            have x6 := cex 6
            have x7 := cex 7
            have x8 := cex 8
            have x9 := cex 9
            simp only [St.tick, Ent.arr, List.getElem?_toArray, List.getElem?_cons_zero, List.getElem?_cons_succ] at x0 x1 x2 x3 x4 x5 x6 x7 x8 x9
            have cen := fun j => Mem.row_cell H3.out.b2 j
            have e0 := cen 0
            have e1 := cen 1
            have e2 := cen 2
            have e3 := cen 3
            simp only [Env.arr, List.getElem?_toArray, List.getElem?_cons_zero, List.getElem?_cons_succ] at e0 e1 e2 e3
            have hlive := live_any (t.ent x).it vx env w3.drew
            unfold Item.arr Env.arr at hlive
            obtain ⟨lv, hlv⟩ : ∃ lv, (t.ent x).it.live env = lv := ⟨_, rfl⟩
            rw [hlv] at hlive
            have HLV := Lib.hid hlv
            clear hm ex cex cen hlv
            go_wp2_with fail
            refine wp_region_still_tail 5 (by kernel_rfl) (by kernel_rfl) ?_
            simp only [List.take_succ_cons, List.take_zero, List.drop_succ_cons, List.drop_zero]
            repeat still_step
            refine wpStill_nil ?_
            change wpList _ _ _ _ _ w3.drew
            clear x0 x1 x2 x3 x4 x5 x6 x7 x8 x9 e0 e1 e2 e3
            go_wp2_with fail
            refine hlive.mono ?_
            rintro e w4 ⟨rfl, hb4⟩
            have H4 := Lib.hid (H3.out.below (Mem.tr (Below.drew (Below.refl _ w3)) hb4))
            clear hlive hb4
            cases lv with
            | false =>
              have hd4 := HD.out w4 H4.out
              go_wp2_with fail
              refine hd4.mono ?_
              rintro e w5 ⟨rfl, h5⟩
              have H5 := HNx.out w5 h5 (by obtain ⟨-, e⟩ | ⟨-, e, -⟩ := HE2.out; exact e; rw [HLV.out] at e; cases e)
              clear hd4 h5
              go_wp2_with fail
              go_roundg (g - 1)
              case measure => have := HG.out; omega
              case rel => exact ⟨_, _, rfl, H5⟩
            | true =>
              obtain ⟨ad4, -, -, -, -, -, d3, -, -, -⟩ := H4.out.reads
              have i0 : w4.cell? ⟨w.heap.size, 0, none⟩ = some (.string it.key) := Mem.row_cell H4.out.b1 0
              have hadm : Calls Tryz.prog 74 #[.pointer (some ⟨ad4.jb, 0, none⟩), .string it.key, .string v] w4.drew fun e w' => e = .returned (.bool (t.judge.admit it.key.data.toList v.data.toList)) ∧ Below w4.drew.heap.size w4.drew w' := by
                obtain ⟨ad5, F5, G5, -, -, -, c3, -, -, hj⟩ := (H4.out.below (Below.drew (Below.refl _ w4))).reads
                have e3 : ad5.jb = ad4.jb := by
                  have h1 : w4.cell? ⟨b, 3, none⟩ = some (.pointer (some ⟨ad5.jb, 0, none⟩)) := c3
                  rw [d3] at h1
                  injection h1 with h1; injection h1 with h1; injection h1 with h1; injection h1 with h1
                  exact h1.symm
                rw [e3] at hj
                exact (Tiny.admit_run hj it.key v (by unfold maxLen; omega) HV.out).mono fun e w' ⟨h1, _, h3⟩ => ⟨h1, h3⟩
              obtain ⟨am, ham⟩ : ∃ am, t.judge.admit it.key.data.toList v.data.toList = am := ⟨_, rfl⟩
              rw [ham] at hadm
              have HAM := Lib.hid ham
              clear ham
              go_wp2_with fail
              refine wp_region_still_tail 7 (by kernel_rfl) (by kernel_rfl) ?_
              simp only [List.take_succ_cons, List.take_zero, List.drop_succ_cons, List.drop_zero]
              repeat still_step
              refine wpStill_nil ?_
              change wpList _ _ _ _ _ w4.drew
              clear d3 i0
              go_wp2_with fail
              refine hadm.mono ?_
              rintro e w5 ⟨rfl, hb5⟩
              have H5 := Lib.hid (H4.out.below (Mem.tr (Below.drew (Below.refl _ w4)) hb5))
              clear hadm hb5
              cases am with
              | false =>
                go_wp2_with fail
                go_ret
                obtain ⟨e1, -⟩ | ⟨-, -, -, e2⟩ := HE2.out
                · rw [HLV.out, HAM.out] at e1; simp at e1
                · have hyt : y = (8, t.tick) := HT.out.2.2.2.2.symm.trans e2
                  obtain ⟨col1, a1, f1⟩ := H5.out.run
                  rw [hyt]
                  exact ⟨rfl, col1, a1, (Fr.below HB.out.2.1).trans f1⟩
              | true =>
                have hd5 := HD.out w5 H5.out
                go_wp2_with fail
                refine hd5.mono ?_
                rintro e w6 ⟨rfl, h6⟩
                have H6 := HNx.out w6 h6 (by obtain ⟨-, e⟩ | ⟨-, -, e, -⟩ := HE2.out; exact e; rw [HAM.out] at e; cases e)
                clear hd5 h6
                go_wp2_with fail
                go_roundg (g - 1)
                case measure => have := HG.out; omega
                case rel => exact ⟨_, _, rfl, H6⟩
end
end Go.Proofs.YteonjgnnpgpnnaaGreat.Shard

/- Layer 11, the document's own shard: room. -/
namespace Go.Proofs.YteonjgnnpgpnnaaGreat.RefSh
open Go Go.RowKit Go.Proofs.YteonjgnnpgpnnaaGreat.Mem Go.Proofs.YteonjgnnpgpnnaaGreat.App Go.Proofs.YteonjgnnpgpnnaaGreat.Shard

theorem rsize_any (it : Shard.Item) (a : Option Addr) (c : Nat) (w : World) (hk : it.key.size ≤ 1000000) (hv : it.val.length ≤ 1000000) :
    Calls Tryz.prog 52 #[.agg (it.arr (.slice a it.val.length c))] w fun e w' => e = .returned (.int .i64 it.size) ∧ Below w.heap.size w w' := by
  have e1 : it.size = 50 + it.key.size + it.val.length := rfl
  rw [e1]
  unfold Item.arr
  have hk1 : (it.key.size : Int) ≤ 1000000 := by omega
  have hv1 : (it.val.length : Int) ≤ 1000000 := by omega
  clear e1
  go_enter Tryz.func52, Tryz.ntmps52
  go_wp2
  go_ret
  exact ⟨rfl, Mem.al (Below.refl _ _) _⟩
/-- A document's shard in a walk, beside two boxes of the caller's own. -/
structure RBes (W w0 : World) (N b B B' : Nat) (col : Col) (o1 o2 : Obj) (t : St) (w : World) : Prop where
  run : ∃ col', RAt W w N b col' t ∧ Fr col col' w0 w
  b1 : w.heap[B]? = some o1
  b2 : w.heap[B']? = some o2
section
variable {W w0 w w' : World} {N M b B B' : Nat} {col : Col} {o1 o2 : Obj} {t s : St}
theorem RBes.below (h : RBes W w0 N b B B' col o1 o2 t w) (hb : Below w.heap.size w w') : RBes W w0 N b B B' col o1 o2 t w' := by
  obtain ⟨col1, a1, f1⟩ := h.run
  exact ⟨⟨col1, a1.step hb, f1.trans (Fr.below hb)⟩, (hb.block _ (Array.getElem?_eq_some_iff.1 h.b1).1).trans h.b1, (hb.block _ (Array.getElem?_eq_some_iff.1 h.b2).1).trans h.b2⟩
theorem RBes.more (h : RBes W w0 N b B B' col o1 o2 t w) (hm : N ≤ M) : RBes W w0 M b B B' col o1 o2 t w := by
  obtain ⟨col1, a1, f1⟩ := h.run
  exact ⟨⟨col1, a1.more hm, f1⟩, h.b1, h.b2⟩
theorem RBes.congr (h : RBes W w0 N b B B' col o1 o2 s w) (e1 : t.tab.L = s.tab.L) (e2 : t.ent = s.ent) (e3 : t.slab = s.slab) (e4 : t.order = s.order) (e5 : t.judge = s.judge) (e6 : t.drops = s.drops) : RBes W w0 N b B B' col o1 o2 t w := by
  obtain ⟨col1, a1, f1⟩ := h.run
  exact ⟨⟨col1, a1.congr e1 e2 e3 e4 e5 e6, f1⟩, h.b1, h.b2⟩
/-- A turn of it. -/
theorem RBes.turn (h : RBes W w0 N b B B' col o1 o2 s w) (hB : B ≤ B' ∧ B' < w0.heap.size) (hc : ∀ j, B ≤ j → col j = none) {col1 : Col} (f1 : Fr col col1 w0 w) (ht : RTurn W w M b col1 t w') : RBes W w0 M b B B' col o1 o2 t w' := by
  obtain ⟨col2, a2, f2⟩ := ht
  have hn : ∀ j, B ≤ j → j < w0.heap.size → col1 j = none := fun j h1 h2 => Classical.byContradiction fun e => (f1.2 j e).elim (fun e1 => e1 (hc j h1)) (fun e1 => by omega)
  have hz := f1.1.size
  exact ⟨⟨col2, a2, f1.trans f2⟩, (f2.keep (by omega) (hn _ (Nat.le_refl _) (by omega))).trans h.b1, (f2.keep (by omega) (hn _ (by omega) (by omega))).trans h.b2⟩
theorem RBes.drop {n : Nat} (h : RBes W w0 N b B B' col o1 o2 s w) (hB : B ≤ B' ∧ B' < w0.heap.size) (hc : ∀ j, B ≤ j → col j = none) (hi : Inv n N s) (hn : n ≤ 100000) (hN : N ≤ 900000) (k : ByteArray) :
    Calls Tryz.prog 60 #[.pointer (some ⟨b, 0, none⟩), .string k] w fun e w' => e = .returned (.tuple #[]) ∧ RBes W w0 (N + 1) b B B' col o1 o2 (s.drop k) w' := by
  obtain ⟨col1, a1, f1⟩ := h.run
  refine (drop_any a1 hi hn hN k).mono ?_
  rintro e w1 ⟨rfl, ht⟩
  exact ⟨rfl, h.turn hB hc f1 ht⟩
/-- What a walk reads of it. -/
theorem RBes.parts (h : RBes W w0 N b B B' col o1 o2 s w) : ∃ col1 ad vL vd vv, ad.sb = b ∧ RP W w N col1 ad s vL vd vv ∧ Fr col col1 w0 w := by
  obtain ⟨col1, ⟨ad, vL, vd, vv, e, h1⟩, f1⟩ := h.run
  exact ⟨col1, ad, vL, vd, vv, e, h1, f1⟩
/-- at, in a walk. -/
theorem RBes.at {n : Nat} (h : RBes W w0 N b B B' col o1 o2 s w) (hi : Inv n N s) (hn : n ≤ 100000) (k : ByteArray) :
    Calls Tryz.prog 55 #[.pointer (some ⟨b, 0, none⟩), .string k] w fun e w' => e = .returned (.tuple #[.int .i64 (place s.tab.L k : Nat), .bool (Tab.get s.tab.L k).isSome]) ∧ RBes W w0 N b B B' col o1 o2 s w' ∧ Below w.heap.size w w' := by
  obtain ⟨col1, ad, vL, vd, vv, rfl, h1, f1⟩ := h.parts
  have hl := hi.len
  refine (at_any h1 hi.rise (fun p hp => (hi.ents p hp).1) k (by omega)).mono ?_
  rintro e w1 ⟨rfl, d, hw1⟩
  have hb1 : Below w.heap.size w w1 := by rw [hw1]; exact Mem.dn (Below.refl _ _) _
  exact ⟨rfl, h.below hb1, hb1⟩
/-- The cells of the entry that a key has. -/
theorem RBes.cells {n : Nat} (h : RBes W w0 N b B B' col o1 o2 s w) (hi : Inv n N s) {k : ByteArray} {x : Nat} (hx : Tab.get s.tab.L k = some x) : ∃ (g c : Nat) (va : Option Addr) (vc : Nat), s.tab.L[place s.tab.L k]? = some (k, x) ∧ w.cell? ⟨b, 0, none⟩ = some (.slice (some ⟨g, 0, none⟩) s.tab.L.length c) ∧
    (∀ j, j < 12 → w.cell? ⟨g, place s.tab.L k * 12 + j, none⟩ = ((s.ent x).arr (.slice va (s.ent x).it.val.length vc))[j]?) ∧ SrcB w (.slice va (s.ent x).it.val.length vc) (s.ent x).it.val := by
  obtain ⟨col1, ad, vL, vd, vv, rfl, h1, f1⟩ := h.parts
  obtain ⟨a, c, hv, hc, hcell⟩ := h1.shape
  have hpl : s.tab.L[place s.tab.L k]? = some (k, x) := by
    rcases place_get hi.rise k with ⟨y, e1, e2, -⟩ | ⟨-, e2, -⟩
    · rw [hx] at e2; injection e2 with e2; rw [e2]; exact e1
    · rw [hx] at e2; cases e2
  obtain ⟨g, rfl, hcl⟩ := hcell _ _ hpl
  obtain ⟨hs, -⟩ := h1.vals _ (List.mem_of_getElem? hpl)
  obtain ⟨va, vc, hvv⟩ := hs.shape
  simp only at hvv hcl hs
  rw [hvv] at hs hcl
  exact ⟨g, c, va, vc, hpl, by rw [← hv]; exact Mem.row_cell h1.self 0, fun j hj => (hcl j hj).1, hs⟩
end
section
variable {W w : World} {N b : Nat} {col : Col} {s : St}
def RoomPost (W w : World) (N b : Nat) (col : Col) (y : Int × St) (e : Ending) (w' : World) : Prop := e = .returned (.int .i64 y.1) ∧ RTurn W w N b col y.2 w'
theorem drop_get {n N : Nat} {t : St} (h : Inv n N t) {k v : ByteArray} (hne : v ≠ k) : Tab.get (t.tick.drop v).tab.L k = Tab.get t.tab.L k := by
  rw [drop_L t.tick v h.rise]
  show Tab.get (Tab.del t.tab.L v) k = _
  rw [Tab.get_del h.rise, if_neg (fun e => hne e.symm)]
set_option maxRecDepth 100000 in
set_option maxHeartbeats 4000000 in
theorem room_any (h : RAt W w N b col s) {n0 : Nat} (hi : Inv n0 N s) (hn0 : n0 ≤ 1000) (hN : N ≤ 500000) (it : Shard.Item) (a : Option Addr) (c : Nat) (env : Env) (hks : it.key.size ≤ 300) (hvs : it.val.length ≤ 3000) :
    Calls Tryz.prog 54 #[.pointer (some ⟨b, 0, none⟩), .agg (it.arr (.slice a it.val.length c)), .agg env.arr] w (RoomPost W w (N + n0) b col (St.room it (Tab.get s.tab.L it.key).isSome (s.less (Tab.get s.tab.L it.key)) env (s.order.all.length + 1) s)) := by
  obtain ⟨o, ho⟩ : ∃ o, Tab.get s.tab.L it.key = o := ⟨_, rfl⟩
  obtain ⟨le, hle⟩ : ∃ le, s.less o = le := ⟨_, rfl⟩
  obtain ⟨L, hL⟩ : ∃ L, s.order.all.length = L := ⟨_, rfl⟩
  have hLn : L ≤ n0 := by have := hi.olen; have := hi.len; omega
  obtain ⟨y, hy⟩ : ∃ y, St.room it o.isSome le env (L + 1) s = y := ⟨_, rfl⟩
  obtain ⟨hl0, hl1⟩ := less_range s o
  rw [hle] at hl0 hl1
  rw [ho, hle, hL, hy]
  have hcn : ∀ j, w.heap.size ≤ j → col j = none := fun j hj => Classical.byContradiction fun e => by have := (h.lt j e).2; omega
  have hb2 : Below w.heap.size w ((w.alloc (.cells (it.arr (.slice a it.val.length c)) 34)).alloc (.cells env.arr 36)) := Mem.al (Mem.al (Below.refl _ _) _) _
  have n1 : ((w.alloc (.cells (it.arr (.slice a it.val.length c)) 34)).alloc (.cells env.arr 36)).heap[w.heap.size]? = some (.cells (it.arr (.slice a it.val.length c)) 34 (0, 0)) := Mem.new_later (Mem.new_block w _) _
  have n2 : ((w.alloc (.cells (it.arr (.slice a it.val.length c)) 34)).alloc (.cells env.arr 36)).heap[w.heap.size + 1]? = some (.cells env.arr 36 (0, 0)) := Mem.new_block2 w _ _
  have hsz : w.heap.size ≤ w.heap.size + 1 ∧ w.heap.size + 1 < ((w.alloc (.cells (it.arr (.slice a it.val.length c)) 34)).alloc (.cells env.arr 36)).heap.size := by simp
  obtain ⟨w0, hw0⟩ : ∃ w0, (w.alloc (.cells (it.arr (.slice a it.val.length c)) 34)).alloc (.cells env.arr 36) = w0 := ⟨_, rfl⟩
  rw [hw0] at hb2 hsz n1 n2
  have hbs : RBes W w0 N b w.heap.size (w.heap.size + 1) col (.cells (it.arr (.slice a it.val.length c)) 34 (0, 0)) (.cells env.arr 36 (0, 0)) s w0 := ⟨⟨col, h.step hb2, Fr.refl _ _⟩, n1, n2⟩
  have HB := Lib.hid (And.intro hcn (And.intro hb2 hsz))
  have HS := Lib.hid hbs
  have HY := Lib.hid hy
  have HI := Lib.hid hi
  have HLn := Lib.hid hL
  have HO := Lib.hid (And.intro ho hle)
  have hsz0 := rsize_any it a c w0 (by omega) (by omega)
  have cel := fun j => Mem.row_cell n1 j
  have i0 := cel 0
  have i1 := cel 1
  have i2 := cel 2
  have i3 := cel 3
  have i4 := cel 4
  have i5 := cel 5
  have i6 := cel 6
  have i7 := cel 7
  have i8 := cel 8
  have i9 := cel 9
  simp only [Item.arr, List.getElem?_toArray, List.getElem?_cons_zero, List.getElem?_cons_succ] at i0 i1 i2 i3 i4 i5 i6 i7 i8 i9
  clear cel n1 n2 hcn hb2 hsz h hbs hy hi hL ho hle
  unfold Item.arr at hsz0
  unfold Item.arr Env.arr at hw0 ⊢
  go_enter Tryz.func54, Tryz.ntmps54
  go_wp2_with fail
  refine hsz0.mono ?_
  rintro e w1 ⟨rfl, hb1⟩
  have H1 := Lib.hid (HS.out.below hb1)
  have HF1 := Lib.hid hb1
  clear hsz0 hb1 i0 i1 i2 i3 i4 i5 i6 i7 i8 i9
  go_wp2_with fail
  obtain ⟨q, hq⟩ : ∃ q, o.isSome = q := ⟨_, rfl⟩
  have HQ := Lib.hid hq
  have HY2 : Hid (St.room it q le env (L + 1) s = y) := Lib.hid (by rw [← hq]; exact HY.out)
  clear hq
  go_loopg [8, 9, 10, 11, 12, 13, 14, 15, 16, 17, 18] L (fun gh i _ _ _ _ _ _ _ _ _ _ wr => ∃ (t : St) (g j : Nat), g = gh ∧ i = .int .i64 j ∧ g + j = L ∧ Hid (RBes W w0 (N + (L - g)) b w.heap.size (w.heap.size + 1) col (.cells (it.arr (.slice a it.val.length c)) 34 (0, 0)) (.cells env.arr 36 (0, 0)) t wr ∧ Inv n0 (N + (L - g)) t ∧ t.order.all.length = g ∧ g ≤ L ∧ St.room it q le env (g + 1) t = y ∧ Tab.get t.tab.L it.key = o ∧ t.less o = le))
  case atStart => exact ⟨s, L, 0, rfl, rfl, by omega, Lib.hid ⟨by rw [Nat.sub_self]; exact H1.out, by rw [Nat.sub_self]; exact HI.out, HLn.out, Nat.le_refl _, HY2.out, HO.out.1, HO.out.2⟩⟩
  case round =>
    obtain ⟨t, g, j, rfl, rfl, hgj, HT⟩ := hrel
    have HG := Lib.hid hgj
    have hj : (j : Int) < 100000 := by omega
    have hat := HT.out.1.at HT.out.2.1 (by omega) it.key
    rw [HT.out.2.2.2.2.2.1, HQ.out] at hat
    obtain ⟨m, hm⟩ : ∃ m, place t.tab.L it.key = m := ⟨_, rfl⟩
    rw [hm] at hat
    have HM := Lib.hid hm
    have i0 : wr.cell? ⟨w.heap.size, 0, none⟩ = some (.string it.key) := Mem.row_cell HT.out.1.b1 0
    clear hm hgj
    go_wp2_with fail
    refine hat.mono ?_
    rintro e w2 ⟨rfl, h2, hb2⟩
    have H2 := Lib.hid (And.intro h2 hb2)
    clear hat h2 hb2 i0
    go_upto_if 32 with (fail)
    go_cut [11] from 21 to 98 (fun z wx => z = .int .i64 le ∧ w2 = wx)
    case first =>
      rcases o with _ | x
      · have hqf : q = false := HQ.out.symm
        subst hqf
        have hle0 : le = 0 := HO.out.2.symm
        subst hle0
        go_wp2_with fail
        go_meet
        exact ⟨rfl, rfl⟩
      · have hqf : q = true := HQ.out.symm
        subst hqf
        have hby : le = Slab.bytesI (t.ent x).chunk.1 := HT.out.2.2.2.2.2.2.symm
        obtain ⟨g2, c2, va, vc, e1, c0, hcl, -⟩ := H2.out.1.cells HT.out.2.1 HT.out.2.2.2.2.2.1
        rw [HM.out] at e1 hcl
        have hml := (List.getElem?_eq_some_iff.1 e1).1
        have hmi : (m : Int) < t.tab.L.length := by omega
        have d10 : w2.cell? ⟨g2, m * 12 + 10, none⟩ = some (.int .i64 (t.ent x).chunk.1) := hcl 10 (by omega)
        have hbc := Slab.rbytes_any (t.ent x).chunk.1 w2
        rw [← hby] at hbc
        clear hby hcl e1
        go_wp2_with fail
        refine hbc.mono ?_
        rintro e w3 ⟨rfl, rfl⟩
        go_wp2_with fail
        go_meet
        exact ⟨rfl, rfl⟩
    case rest =>
      obtain ⟨rfl, rfl⟩ := hcut
      obtain ⟨col2, ad, vL, vd, vv, hsb, h2, f2⟩ := H2.out.1.parts
      have c1 : w2.cell? ⟨b, 1, none⟩ = some (.pointer (some ⟨ad.mb, 0, none⟩)) := by rw [← hsb]; exact Mem.row_cell h2.self 1
      have hfit := h2.fits HT.out.2.1.slab (by omega) it.size le (by omega)
      have hcase := room_cases (it := it) (old := q) (less := le) (env := env) g t
      obtain ⟨fit, hfitv⟩ : ∃ f, t.slab.fits it.size le = f := ⟨_, rfl⟩
      rw [hfitv] at hcase hfit
      have HC := Lib.hid hcase
      clear h2 f2 hsb hcase hfitv
      go_wp2_with fail
      refine hfit.mono ?_
      rintro e w3 ⟨rfl, d3, hw3⟩
      have hb3 : Below w2.heap.size w2 w3 := by rw [hw3]; exact Mem.dn (Below.refl _ _) _
      have H3 := Lib.hid (H2.out.1.below hb3)
      clear hfit c1 hw3 hb3
      cases fit with
      | true =>
        go_wp2_with fail
        go_ret
        obtain ⟨-, e2⟩ | ⟨e1, -⟩ | ⟨e1, -⟩ := HC.out
        · have hyt : y = (0, t) := HT.out.2.2.2.2.1.symm.trans e2
          obtain ⟨col1, a1, f1⟩ := H3.out.run
          rw [hyt]
          exact ⟨rfl, col1, a1.more (by omega), (Fr.below HB.out.2.1).trans f1⟩
        · cases e1
        · cases e1
      | false =>
        have HC2 : Hid ((t.order.victim it.key = none ∧ St.room it q le env (g + 1) t = (5, t)) ∨ (∃ v, t.order.victim it.key = some v ∧ v ≠ it.key ∧ v ∈ t.order.all ∧ ((Tab.get t.tab.L v = none ∧ St.room it q le env (g + 1) t = (5, t)) ∨ ∃ x, Tab.get t.tab.L v = some x ∧
          (((q = true ∨ (t.ent x).it.live env = false ∨ t.judge.admit it.key.data.toList v.data.toList = true) ∧ St.room it q le env (g + 1) t = St.room it q le env g (t.tick.drop v)) ∨
           (q = false ∧ (t.ent x).it.live env = true ∧ t.judge.admit it.key.data.toList v.data.toList = false ∧ St.room it q le env (g + 1) t = (8, t.tick)))))) := Lib.hid (by
          obtain ⟨e1, -⟩ | ⟨-, e2⟩ | ⟨-, e2⟩ := HC.out
          · cases e1
          · exact .inl e2
          · exact .inr e2)
        clear HC
        obtain ⟨col3, ad, vL, vd, vv, hsb, h3, f3⟩ := H3.out.parts
        have d2 : w3.cell? ⟨b, 2, none⟩ = some (.pointer (some ⟨ad.ob, 0, none⟩)) := by rw [← hsb]; exact Mem.row_cell h3.self 2
        have i0 : w3.cell? ⟨w.heap.size, 0, none⟩ = some (.string it.key) := Mem.row_cell H3.out.b1 0
        have hvic := fun w' (hb : Below w3.heap.size w3 w') => (h3.step hb).victim (by have := HT.out.2.2.1; have := HT.out.2.2.2.1; omega) it.key
        have hb0 : Below w3.heap.size w3 w3 := Below.refl _ _
        have hbl : b < w3.heap.size := block_lt_of_cell d2
        have hBl : w.heap.size < w3.heap.size := block_lt_of_cell i0
        clear h3 f3 hsb
        rcases HC2.out with ⟨e1, e2⟩ | ⟨v, e1, hvk, hvm, e2⟩
        · have hvv : Slru.vic t.order it.key = (ByteArray.empty, false) := by unfold Slru.vic; rw [e1]
          rw [hvv] at hvic
          have HE := Lib.hid e2
          clear e1 e2 hvv HC2
          go_wp2_with fail
          go_region_held3 (fun W' : World => Below w3.heap.size w3 W' ∧ W'.cell? ⟨b, 2, none⟩ = some (.pointer (some ⟨ad.ob, 0, none⟩)) ∧ W'.cell? ⟨w.heap.size, 0, none⟩ = some (.string it.key))
            (first
              | exact ⟨hb0.drew, d2, i0⟩
              | (go_split_ands; have hbx : Below w3.heap.size w3 _ := (by assumption); have hk9 := fun (B i : Nat) (hB : B < w3.heap.size) => World.cell?_of_block (a := ⟨B, i, none⟩) (hbS.block B (Nat.lt_of_lt_of_le hB hbx.size)); exact ⟨Mem.tr hbx hbS, (hk9 b 2 hbl).trans (by assumption), (hk9 _ 0 hBl).trans (by assumption)⟩))
            (first | (go_at_call 84; go_split_ands; refine (hvic _ (by assumption)).mono ?_; rintro e w4 ⟨rfl, hbS⟩))
          have H4 := Lib.hid (H3.out.below (Mem.tr (Below.drew (Below.refl _ w3)) hbS))
          clear hvic hbS d2 i0 hb0 hbl hBl
          go_wp2_with fail
          go_ret
          have hyt : y = (5, t) := HT.out.2.2.2.2.1.symm.trans HE.out
          obtain ⟨col1, a1, f1⟩ := H4.out.run
          rw [hyt]
          exact ⟨rfl, col1, a1.more (by omega), (Fr.below HB.out.2.1).trans f1⟩
        · have hvv : Slru.vic t.order it.key = (v, true) := by unfold Slru.vic; rw [e1]
          rw [hvv] at hvic
          have HE := Lib.hid (And.intro e2 (And.intro hvk hvm))
          clear e1 e2 hvv HC2 hvk hvm
          go_wp2_with fail
          go_region_held3 (fun W' : World => Below w3.heap.size w3 W' ∧ W'.cell? ⟨b, 2, none⟩ = some (.pointer (some ⟨ad.ob, 0, none⟩)) ∧ W'.cell? ⟨w.heap.size, 0, none⟩ = some (.string it.key))
            (first
              | exact ⟨hb0.drew, d2, i0⟩
              | (go_split_ands; have hbx : Below w3.heap.size w3 _ := (by assumption); have hk9 := fun (B i : Nat) (hB : B < w3.heap.size) => World.cell?_of_block (a := ⟨B, i, none⟩) (hbS.block B (Nat.lt_of_lt_of_le hB hbx.size)); exact ⟨Mem.tr hbx hbS, (hk9 b 2 hbl).trans (by assumption), (hk9 _ 0 hBl).trans (by assumption)⟩))
            (first | (go_at_call 84; go_split_ands; refine (hvic _ (by assumption)).mono ?_; rintro e w4 ⟨rfl, hbS⟩))
          have H4 := Lib.hid (H3.out.below (Mem.tr (Below.drew (Below.refl _ w3)) hbS))
          clear hvic hbS d2 i0 hb0 hbl hBl
          have hvsz : v.size ≤ maxLen := by
            obtain ⟨p, hp, e⟩ := List.mem_map.1 ((HT.out.2.1.keys v).1 HE.out.2.2)
            have := (HT.out.2.1.ents p hp).2.1
            rw [← e]; unfold maxLen; omega
          have hksz : it.key.size ≤ maxLen := by unfold maxLen; omega
          obtain ⟨x, hx⟩ : ∃ x, Tab.get t.tab.L v = some x := by
            rcases hg : Tab.get t.tab.L v with _ | x
            · exact absurd ((HT.out.2.1.keys v).1 HE.out.2.2) (get_none HT.out.2.1.rise hg)
            · exact ⟨x, rfl⟩
          have hat2 := H4.out.at HT.out.2.1 (by omega) v
          rw [hx] at hat2
          obtain ⟨m2, hm2⟩ : ∃ m, place t.tab.L v = m := ⟨_, rfl⟩
          rw [hm2] at hat2
          have HX := Lib.hid (And.intro hx hm2)
          clear hx hm2
          go_wp2_with fail
          refine hat2.mono ?_
          rintro e w5 ⟨rfl, h5, -⟩
          have H5 := Lib.hid h5
          clear hat2 h5
          have HE2 : Hid (((q = true ∨ (t.ent x).it.live env = false ∨ t.judge.admit it.key.data.toList v.data.toList = true) ∧ St.room it q le env (g + 1) t = St.room it q le env g (t.tick.drop v)) ∨
           (q = false ∧ (t.ent x).it.live env = true ∧ t.judge.admit it.key.data.toList v.data.toList = false ∧ St.room it q le env (g + 1) t = (8, t.tick))) := Lib.hid (by
            rcases HE.out.1 with ⟨e1, -⟩ | ⟨x2, e1, e2⟩
            · rw [HX.out.1] at e1; cases e1
            · rw [HX.out.1] at e1
              injection e1 with e1
              subst e1
              exact e2)
          obtain ⟨g5, c5, va, vc, e1, c0, hcl, -⟩ := H5.out.cells HT.out.2.1 HX.out.1
          rw [HX.out.2] at e1 hcl
          have hml := (List.getElem?_eq_some_iff.1 e1).1
          have hmi : (m2 : Int) < t.tab.L.length := by omega
          have hm0 : (0 : Int) ≤ m2 := by omega
          have x0 := hcl 0 (by omega)
          have x1 := hcl 1 (by omega)
          have x2 := hcl 2 (by omega)
          have x3 := hcl 3 (by omega)
          have x4 := hcl 4 (by omega)
          have x5 := hcl 5 (by omega)
          have x6 := hcl 6 (by omega)
          have x7 := hcl 7 (by omega)
          have x8 := hcl 8 (by omega)
          have x9 := hcl 9 (by omega)
          simp only [Nat.add_zero, Ent.arr, List.getElem?_toArray, List.getElem?_cons_zero, List.getElem?_cons_succ] at x0 x1 x2 x3 x4 x5 x6 x7 x8 x9
          have cen := fun j => Mem.row_cell H5.out.b2 j
          have q0 := cen 0
          have q1 := cen 1
          have q2 := cen 2
          have q3 := cen 3
          simp only [Env.arr, List.getElem?_toArray, List.getElem?_cons_zero, List.getElem?_cons_succ] at q0 q1 q2 q3
          have hlive := rlive_any (t.ent x).it (.slice va (t.ent x).it.val.length vc) env w5.drew
          unfold Item.arr Env.arr at hlive
          obtain ⟨lv, hlv⟩ : ∃ lv, (t.ent x).it.live env = lv := ⟨_, rfl⟩
          rw [hlv] at hlive
          have HLV := Lib.hid hlv
          clear cen hlv e1 hcl
          go_wp2_with fail
          refine wp_region_still_tail 9 (by kernel_rfl) (by kernel_rfl) ?_
          simp only [List.take_succ_cons, List.take_zero, List.drop_succ_cons, List.drop_zero]
          repeat still_step
          refine wpStill_nil ?_
          change wpList _ _ _ _ _ w5.drew
          go_wp2_with fail
          refine hlive.mono ?_
          rintro e w6 ⟨rfl, hb6⟩
          have H6 := Lib.hid (H5.out.below (Mem.tr (Below.drew (Below.refl _ w5)) hb6))
          clear hlive hb6 x0 x1 x2 x3 x4 x5 x6 x7 x8 x9 q0 q1 q2 q3 c0 hml hmi hm0
          obtain ⟨col6, ad6, vL6, vd6, vv6, hsb6, h6, f6⟩ := H6.out.parts
          have j3 : w6.cell? ⟨b, 3, none⟩ = some (.pointer (some ⟨ad6.jb, 0, none⟩)) := by rw [← hsb6]; exact Mem.row_cell h6.self 3
          have i0 : w6.cell? ⟨w.heap.size, 0, none⟩ = some (.string it.key) := Mem.row_cell H6.out.b1 0
          have hadm := (h6.step (Below.drew (Below.refl _ w6))).admit it.key v hksz hvsz
          obtain ⟨yes, hyes⟩ : ∃ yes, t.judge.admit it.key.data.toList v.data.toList = yes := ⟨_, rfl⟩
          rw [hyes] at hadm
          have HYE := Lib.hid hyes
          clear hyes h6 f6 hsb6
          go_wp2_with fail
          refine wp_region_still_tail 7 (by kernel_rfl) (by kernel_rfl) ?_
          simp only [List.take_succ_cons, List.take_zero, List.drop_succ_cons, List.drop_zero]
          repeat still_step
          refine wpStill_nil ?_
          change wpList _ _ _ _ _ w6.drew
          go_wp2_with fail
          refine hadm.mono ?_
          rintro e w7 ⟨rfl, d7, hw7⟩
          have hb7 : Below w6.heap.size w6 w7 := by rw [hw7]; exact Mem.dn (Below.drew (Below.refl _ _)) _
          have H7 := Lib.hid (H6.out.below hb7)
          clear hadm hw7 hb7 j3 i0 hksz hvsz
          have HE3 : Hid (((q = true ∨ lv = false ∨ yes = true) ∧ St.room it q le env (g + 1) t = St.room it q le env g (t.tick.drop v)) ∨
           (q = false ∧ lv = true ∧ yes = false ∧ St.room it q le env (g + 1) t = (8, t.tick))) := Lib.hid (by have := HE2.out; rw [HLV.out, HYE.out] at this; exact this)
          have hN2 : N + (L - g) ≤ 600000 := by omega
          have hdrop := RBes.drop (H7.out.congr (t := t.tick) rfl rfl rfl rfl rfl rfl) HB.out.2.2 HB.out.1 HT.out.2.1.tick (by omega) (by omega) v
          have hg1 : 1 ≤ g := by rw [← HT.out.2.2.1]; exact List.length_pos_of_mem HE.out.2.2
          have hnext : ∀ w8, RBes W w0 (N + (L - g) + 1) b w.heap.size (w.heap.size + 1) col (.cells (it.arr (.slice a it.val.length c)) 34 (0, 0)) (.cells env.arr 36 (0, 0)) (t.tick.drop v) w8 → St.room it q le env (g + 1) t = St.room it q le env g (t.tick.drop v) →
              Hid (RBes W w0 (N + (L - (g - 1))) b w.heap.size (w.heap.size + 1) col (.cells (it.arr (.slice a it.val.length c)) 34 (0, 0)) (.cells env.arr 36 (0, 0)) (t.tick.drop v) w8 ∧ Inv n0 (N + (L - (g - 1))) (t.tick.drop v) ∧ (t.tick.drop v).order.all.length = g - 1 ∧ g - 1 ≤ L ∧ St.room it q le env (g - 1 + 1) (t.tick.drop v) = y ∧ Tab.get (t.tick.drop v).tab.L it.key = o ∧ (t.tick.drop v).less o = le) := fun w8 hb8 he => Lib.hid (by
            have h1 := HT.out.2.1.drop_len HE.out.2.2
            have h2 := HT.out.2.2.1
            have h3 := HT.out.2.2.2.1
            refine ⟨hb8.more (by omega), (HT.out.2.1.tick.drop v).mono (Nat.le_refl _) (by omega), by omega, by omega, ?_, (drop_get HT.out.2.1 HE.out.2.1).trans HT.out.2.2.2.2.2.1, (less_at t _ (drop_ent t.tick v) o).trans HT.out.2.2.2.2.2.2⟩
            rw [show g - 1 + 1 = g from by omega, ← he]
            exact HT.out.2.2.2.2.1)
          have HNx := Lib.hid hnext
          have HG1 := Lib.hid hg1
          have HD := Lib.hid hdrop
          clear hdrop hnext hg1 hN2
          have hlost : q = false → lv = true → yes = false → ∃ x, x = RoomPost W w (N + n0) b col y (.returned (.int .i64 8)) w7 ∧ x := fun e1 e2 e3 => ⟨_, rfl, by
            obtain ⟨h, -⟩ | ⟨-, -, -, h⟩ := HE3.out
            · rcases h with h | h | h
              · rw [e1] at h; cases h
              · rw [e2] at h; cases h
              · rw [e3] at h; cases h
            have hyt : y = (8, t.tick) := HT.out.2.2.2.2.1.symm.trans h
            obtain ⟨col1, a1, f1⟩ := H7.out.run
            rw [hyt]
            exact ⟨rfl, col1, (a1.congr (t := t.tick) rfl rfl rfl rfl rfl rfl).more (by omega), (Fr.below HB.out.2.1).trans f1⟩⟩
          have HLO := Lib.hid hlost
          have hgo : (q = true ∨ lv = false ∨ yes = true) → St.room it q le env (g + 1) t = St.room it q le env g (t.tick.drop v) := fun h => by
            obtain ⟨-, e⟩ | ⟨e1, e2, e3, -⟩ := HE3.out
            · exact e
            · rcases h with h | h | h
              · rw [e1] at h; cases h
              · rw [e2] at h; cases h
              · rw [e3] at h; cases h
          have HGO := Lib.hid hgo
          clear hlost hgo
          cases q <;> cases lv <;> cases yes
          case false.true.false =>
            go_wp2_with fail
            go_ret
            obtain ⟨x, rfl, hx⟩ := HLO.out (by trivial) (by trivial) (by trivial)
            exact hx
          all_goals
            have hd8 := HD.out
            go_wp2_with fail
            refine hd8.mono ?_
            rintro e w8 ⟨rfl, h8⟩
            have H8 := HNx.out w8 h8 (HGO.out (by simp))
            clear hd8 h8
            go_wp2_with fail
            go_roundg (g - 1)
            case measure => have := HG1.out; omega
            case rel => exact ⟨_, _, j + 1, rfl, by go_num, by have := HG1.out; have := HG.out; omega, H8⟩
end
end Go.Proofs.YteonjgnnpgpnnaaGreat.RefSh

/- Layer 11, the document's own shard: Update. -/
namespace Go.Proofs.YteonjgnnpgpnnaaGreat.RefSh
open Go Go.RowKit Go.Proofs.YteonjgnnpgpnnaaGreat.Mem Go.Proofs.YteonjgnnpgpnnaaGreat.App Go.Proofs.YteonjgnnpgpnnaaGreat.Shard

set_option maxRecDepth 100000 in
/-- append of bytes onto nil. -/
theorem wpList_append_B {w : World} {ops : Array Oper} {rest : List Oper} {o : Oper} {a : Act} {Q : Exit → Act → World → Prop} (s x : Operand) (y : Value) (xs : List UInt8) (hgd : o.guard = none)
    (ho : o.op = .call { callee := .builtin .append, args := #[s, x], argTypes := #[31, 31] }) (hs : a.eval s = .slice none 0 0) (hx : a.eval x = y) (hr : SrcB w y xs) (hl : xs.length ≤ 1000000)
    (hK : ∀ v' w', OwnB w' w.heap.size v' xs → Below w.heap.size w w' → wpList Tryz.prog ops Q rest (a.put o.dst v') w') :
    wpList Tryz.prog ops Q (o :: rest) a w := by
  obtain ⟨i0, hi, hz0, hz1, hz2⟩ := info_parts infoByte
  have hn : ∀ g, (Value.slice none 0 0).ownBlock = some g → w.heap.size ≤ g := fun g e => by cases e
  rcases hr with ⟨rfl, ⟨g, off, sp⟩, c, rfl⟩ | h
  · refine wpList_append_none _ _ _ _ _ _ i0 _ 1 1 w.heap.size _ ⟨g, off, sp⟩ c 0 [] hgd ho Tryz.underlying31 Tryz.underlying31 hi hz0 hz1 hz2 rfl (by decide) hs hx (World.ownsRow_nil _ _ _ _) (by unfold maxLen; omega) (by omega) (Nat.le_refl _) ?_
    intro v3 w3 hown3 hgr3 hat3
    exact hK v3 w3 hown3 ((Below.refl w.heap.size w).grown hgr3 (Nat.le_refl _) hn)
  · refine wpList_append_src _ _ _ _ _ _ i0 _ 1 1 w.heap.size _ _ 0 xs.length [] (cellsB xs) hgd ho Tryz.underlying31 Tryz.underlying31 hi hz0 hz1 hz2 rfl (by decide) hs hx (World.ownsRow_nil _ _ _ _) h (one_cellsB _) (by unfold maxLen; omega) (by omega) (Nat.le_refl _) ?_
    intro v3 w3 hown3 hgr3 hat3
    rw [Nat.zero_add, List.nil_append] at hown3
    exact hK v3 w3 hown3 ((Below.refl w.heap.size w).grown hgr3 (Nat.le_refl _) hn)
theorem Inv.only_at {n N : Nat} {s : St} (h : Inv n N s) {i : Nat} {p : ByteArray × Nat} (hi : s.tab.L[i]? = some p) : ∀ (k : Nat) (q : ByteArray × Nat), s.tab.L[k]? = some q → q.2 = p.2 → k = i := fun k q hk e => by
  have h1 := (h.ents q (List.mem_of_getElem? hk)).1
  have h2 := (h.ents p (List.mem_of_getElem? hi)).1
  rw [e, h2] at h1
  have hq : q = p := by cases q; cases p; simp at e h1; simp [e, h1]
  subst hq
  have hd := Rising.nd h.rise
  exact (List.getElem?_inj (List.getElem?_eq_some_iff.1 hk).1 hd).1 (hk.trans hi.symm)
section
variable {W w : World} {N b : Nat} {col : Col} {s : St}
/-- A value of its own comes. -/
theorem RP.value {w' : World} {ad : RAd} {vL vd : Value} {vv : Nat → Value} {v : Value} {xs : List UInt8} (h : RP W w N col ad s vL vd vv) (hb : Below w.heap.size w w') (hown : OwnB w' w.heap.size v xs) :
    RP W w' N (recol col w w' (.ent 0)) ad s vL vd vv ∧ Fr col (recol col w w' (.ent 0)) w w' ∧ ∀ g, v.ownBlock = some g → recol col w w' (.ent 0) g = some (.ent 0) :=
  ⟨h.fresh hb _, Fr.of (F := fun k => col k = some (.ent 0)) (p := .ent 0) (fun _ e => e) (Only.of_below hb fun k h1 h2 => by omega), fun g e => by
    have h1 := own_block_lt hown g e
    unfold recol
    rw [if_neg (by omega), if_pos h1.2]⟩
/-- An item is stored into its entry. -/
theorem RP.storeItem {ad : RAd} {vL vd : Value} {vv : Nat → Value} {v : Value} (h : RP W w N col ad s vL vd vv) {g n' c i : Nat} {k : ByteArray} {x : Nat} (hv : vL = .slice (some ⟨g, 0, none⟩) n' c) (hx : s.tab.L[i]? = some (k, x)) (hap : ∀ (k' : Nat) (q : ByteArray × Nat), s.tab.L[k']? = some q → q.2 = x → k' = i) (it : Shard.Item) (hs : SrcB w v it.val) (hc : ∀ g, v.ownBlock = some g → col g = some (.ent 0)) :
    RP W (w.setCells g (i * 12) (it.arr v).toList) N col ad { s with ent := upd s.ent x ⟨it, (s.ent x).chunk⟩ } vL vd (upd vv x v) ∧ Fr col col w (w.setCells g (i * 12) (it.arr v).toList) := by
  have h1 := h.turnMid (p := (k, x)) (off := 0) hv hx hap ⟨it, (s.ent x).chunk⟩ v (it.arr v).toList (by show 0 + 10 ≤ 12; omega) (fun j hj => ?_) hs hc
  · refine ⟨h1, Mem.Only.setCells (.inl ?_) _ _ (Only.refl _ _), Grows.refl _ _⟩
    show col g ≠ none
    rw [h.crow g (by rw [hv]; rfl)]
    simp
  · have e10 : (it.arr v).toList.length = 10 := rfl
    rw [e10]
    match j, hj with
    | 0, _ => rfl
    | 1, _ => rfl
    | 2, _ => rfl
    | 3, _ => rfl
    | 4, _ => rfl
    | 5, _ => rfl
    | 6, _ => rfl
    | 7, _ => rfl
    | 8, _ => rfl
    | 9, _ => rfl
    | 10, _ => rfl
    | 11, _ => rfl
    | j + 12, hj => omega
/-- A chunk is stored into its entry. -/
theorem RP.storeChunk {ad : RAd} {vL vd : Value} {vv : Nat → Value} (h : RP W w N col ad s vL vd vv) {g n' c i : Nat} {k : ByteArray} {x : Nat} (hv : vL = .slice (some ⟨g, 0, none⟩) n' c) (hx : s.tab.L[i]? = some (k, x)) (hap : ∀ (k' : Nat) (q : ByteArray × Nat), s.tab.L[k']? = some q → q.2 = x → k' = i) (ck : Int × Int) :
    RP W (w.setCells g (i * 12 + 10) [.int .i64 ck.1, .int .i64 ck.2]) N col ad { s with ent := upd s.ent x ⟨(s.ent x).it, ck⟩ } vL vd (upd vv x (vv x)) ∧ Fr col col w (w.setCells g (i * 12 + 10) [.int .i64 ck.1, .int .i64 ck.2]) := by
  have hm := h.vals _ (List.mem_of_getElem? hx)
  have h1 := h.turnMid (p := (k, x)) (off := 10) hv hx hap ⟨(s.ent x).it, ck⟩ (vv x) [.int .i64 ck.1, .int .i64 ck.2] (by show 10 + 2 ≤ 12; omega) (fun j hj => ?_) hm.1 hm.2
  · refine ⟨h1, Mem.Only.setCells (.inl ?_) _ _ (Only.refl _ _), Grows.refl _ _⟩
    show col g ≠ none
    rw [h.crow g (by rw [hv]; rfl)]
    simp
  · match j, hj with
    | 0, _ => rfl
    | 1, _ => rfl
    | 2, _ => rfl
    | 3, _ => rfl
    | 4, _ => rfl
    | 5, _ => rfl
    | 6, _ => rfl
    | 7, _ => rfl
    | 8, _ => rfl
    | 9, _ => rfl
    | 10, _ => rfl
    | 11, _ => rfl
    | j + 12, hj => omega
/-- Where an entry lies there are cells. -/
theorem RP.there {ad : RAd} {vL vd : Value} {vv : Nat → Value} (h : RP W w N col ad s vL vd vv) {g n' c i : Nat} {p : ByteArray × Nat} (hv : vL = .slice (some ⟨g, 0, none⟩) n' c) (hx : s.tab.L[i]? = some p) {off len : Nat} (hl : off + len ≤ 12) : w.there g (i * 12 + off) len := fun j hj => by
  obtain ⟨a, c', e, -, hcell⟩ := h.shape
  obtain ⟨g', e1, hc⟩ := hcell i p hx
  rw [hv, e1] at e
  injection e with e
  injection e with e
  injection e with e
  subst e
  obtain ⟨h1, h2⟩ := hc (off + j) (by omega)
  rw [show i * 12 + off + j = i * 12 + (off + j) from by omega, h1]
  refine ⟨?_, h2⟩
  have : off + j < ((s.ent p.2).arr (vv p.2)).size := by show off + j < 12; omega
  rw [Array.getElem?_eq_getElem this]
  rfl
/-- An item of the call's own, with a value of its own: in a box B3 of no colour. -/
structure ROwn (W w0 : World) (N b B B' B3 : Nat) (col : Col) (o1 o2 o3 : Obj) (t : St) (v : Value) (xs : List UInt8) (w : World) : Prop where
  run : ∃ col', RAt W w N b col' t ∧ Fr col col' w0 w ∧ (∀ g, v.ownBlock = some g → col' g = some (.ent 0)) ∧ ∀ k, B ≤ k → k < w0.heap.size ∨ k = B3 → col' k = none
  own : SrcB w v xs
  b1 : w.heap[B]? = some o1
  b2 : w.heap[B']? = some o2
  b3 : w.heap[B3]? = some o3
theorem RBes.owned {W w0 w2 w4 : World} {N b B B' : Nat} {col : Col} {o1 o2 : Obj} {t : St} (h : RBes W w0 N b B B' col o1 o2 t w2) (hc : ∀ j, B ≤ j → col j = none) {arr : Array Value} {ty : TypeId} {v : Value} {xs : List UInt8} (hb4 : Below (w2.alloc (.cells arr ty)).heap.size (w2.alloc (.cells arr ty)) w4) (hown : OwnB w4 (w2.alloc (.cells arr ty)).heap.size v xs) (i : Nat) (u : Value) :
    ROwn W w0 N b B B' w2.heap.size col o1 o2 (.cells (arr.setIfInBounds i u) ty (0, 0)) t v xs (w4.setCell ⟨w2.heap.size, i, none⟩ u) := by
  obtain ⟨col2, ad, vL, vd, vv, hsb, h2, f2⟩ := h.parts
  have hba := Mem.al (Below.refl w2.heap.size w2) (.cells arr ty)
  have hz : (w2.alloc (.cells arr ty)).heap.size = w2.heap.size + 1 := by simp
  obtain ⟨r1, r2, r3⟩ := (h2.step hba).value hb4 hown
  have hc2 : col2 w2.heap.size = none := Classical.byContradiction fun e => by
    rcases hc : col2 w2.heap.size with _ | p
    · exact e hc
    · have := (h2.lt _ p hc).2; omega
  have hcr : recol col2 (w2.alloc (.cells arr ty)) w4 (.ent 0) w2.heap.size = none := by rw [recol_old (by omega)]; exact hc2
  have hW := h2.below.size
  have hf := f2.1.size
  have hs : Only (fun k => k = w2.heap.size) w4 (w4.setCell ⟨w2.heap.size, i, none⟩ u) := (Only.refl (fun k => k = w2.heap.size) w4).setCell (p := ⟨w2.heap.size, i, none⟩) (.inl rfl) u
  have hfar : ∀ k, k < w2.heap.size → (w4.setCell ⟨w2.heap.size, i, none⟩ u).heap[k]? = w2.heap[k]? := fun k hk => (Below.heap_setCell _ _ _ _ (by show k ≠ w2.heap.size; omega)).trans ((hb4.block k (by omega)).trans (hba.block k hk))
  refine ⟨⟨_, ⟨ad, vL, vd, vv, hsb, r1.other hs (fun k e => by subst e; exact ⟨hcr, hW⟩)⟩, ?_, r3, fun k hk h0 => ?_⟩, ?_, (hfar _ (Array.getElem?_eq_some_iff.1 h.b1).1).trans h.b1, (hfar _ (Array.getElem?_eq_some_iff.1 h.b2).1).trans h.b2, ?_⟩
  · have f3 := (f2.trans (Fr.below hba)).trans r2
    exact ⟨f3.1.setCell (p := ⟨w2.heap.size, i, none⟩) (.inr hf) u, f3.2⟩
  · rcases h0 with h0 | h0
    · rw [recol_old (by omega)]
      exact Classical.byContradiction fun e => (f2.2 _ e).elim (fun e1 => e1 (hc k hk)) (fun e1 => by omega)
    · rw [h0]; exact hcr
  · exact SrcB.same (.of_row hown) (fun _ g e _ => Below.heap_setCell _ _ _ _ (by have := (own_block_lt hown g e).1; show g ≠ w2.heap.size; omega)) (by simp [World.setCell])
  · exact Mem.row_set ((hb4.block _ (by omega)).trans (Mem.new_block w2 _)) i u
theorem ROwn.below {W w0 w w' : World} {N b B B' B3 : Nat} {col : Col} {o1 o2 o3 : Obj} {t : St} {v : Value} {xs : List UInt8} (h : ROwn W w0 N b B B' B3 col o1 o2 o3 t v xs w) (hb : Below w.heap.size w w') : ROwn W w0 N b B B' B3 col o1 o2 o3 t v xs w' := by
  obtain ⟨col1, a1, f1, c1⟩ := h.run
  exact ⟨⟨col1, a1.step hb, f1.trans (Fr.below hb), c1⟩, h.own.below hb, (hb.block _ (Array.getElem?_eq_some_iff.1 h.b1).1).trans h.b1, (hb.block _ (Array.getElem?_eq_some_iff.1 h.b2).1).trans h.b2, (hb.block _ (Array.getElem?_eq_some_iff.1 h.b3).1).trans h.b3⟩
theorem ROwn.bes {W w0 w : World} {N b B B' B3 : Nat} {col : Col} {o1 o2 o3 : Obj} {t : St} {v : Value} {xs : List UInt8} (h : ROwn W w0 N b B B' B3 col o1 o2 o3 t v xs w) : RBes W w0 N b B B' col o1 o2 t w := by
  obtain ⟨col1, a1, f1, -⟩ := h.run
  exact ⟨⟨col1, a1, f1⟩, h.b1, h.b2⟩
/-- A turn of the slab, beside an item of the call's own. -/
theorem ROwn.turn {W w0 w w' : World} {N M b B B' B3 : Nat} {col col1 col2 : Col} {o1 o2 o3 : Obj} {t t' : St} {v : Value} {xs : List UInt8} (h : ROwn W w0 N b B B' B3 col o1 o2 o3 t v xs w) (hB : B ≤ B' ∧ B' < w0.heap.size ∧ w0.heap.size ≤ B3) (f1 : Fr col col1 w0 w)
    (c1 : (∀ g, v.ownBlock = some g → col1 g = some (.ent 0)) ∧ ∀ k, B ≤ k → k < w0.heap.size ∨ k = B3 → col1 k = none) (a2 : RAt W w' M b col2 t') (f2 : Fr col1 col2 w w') (hk : ∀ k p, col1 k = some p → col2 k = some p ∧ (p ≠ .slab → w'.heap[k]? = w.heap[k]?)) : ROwn W w0 M b B B' B3 col o1 o2 o3 t' v xs w' := by
  have l1 := (Array.getElem?_eq_some_iff.1 h.b1).1
  have l2 := (Array.getElem?_eq_some_iff.1 h.b2).1
  have l3 := (Array.getElem?_eq_some_iff.1 h.b3).1
  refine ⟨⟨col2, a2, f1.trans f2, fun g e => (hk g _ (c1.1 g e)).1, fun k h1 h2 => Classical.byContradiction fun e => (f2.2 k e).elim (fun e1 => e1 (c1.2 k h1 h2)) (fun e1 => ?_)⟩, h.own.same (fun _ g e _ => (hk g _ (c1.1 g e)).2 (by simp)) f2.1.size,
    (f2.keep l1 (c1.2 _ (Nat.le_refl _) (.inl (by omega)))).trans h.b1, (f2.keep l2 (c1.2 _ hB.1 (.inl hB.2.1))).trans h.b2, (f2.keep l3 (c1.2 _ (by omega) (.inr rfl))).trans h.b3⟩
  rcases h2 with h2 | h2 <;> omega
theorem ROwn.free {W w0 w : World} {N b B B' B3 : Nat} {col : Col} {o1 o2 o3 : Obj} {t : St} {v : Value} {xs : List UInt8} (h : ROwn W w0 N b B B' B3 col o1 o2 o3 t v xs w) (hB : B ≤ B' ∧ B' < w0.heap.size ∧ w0.heap.size ≤ B3) (hg : Slab.Good N t.slab) (hN : N ≤ 1000000) (c n : Int) : ∃ mb, w.cell? ⟨b, 1, none⟩ = some (.pointer (some ⟨mb, 0, none⟩)) ∧
    Calls Tryz.prog 56 #[.pointer (some ⟨mb, 0, none⟩), .agg #[.int .i64 c, .int .i64 n]] w fun e w' => e = .returned (.int .i64 (t.slab.free (c, n)).1) ∧ ROwn W w0 (N + 1) b B B' B3 col o1 o2 o3 { t with slab := (t.slab.free (c, n)).2 } v xs w' := by
  obtain ⟨col1, ⟨ad, vL, vd, vv, rfl, h1⟩, f1, c1⟩ := h.run
  refine ⟨ad.mb, Mem.row_cell h1.self 1, (h1.free hg hN c n).mono ?_⟩
  rintro e w' ⟨col2, rfl, h2, f2, hk⟩
  exact ⟨rfl, h.turn hB f1 c1 ⟨ad, vL, vd, vv, rfl, h2⟩ f2 hk⟩
theorem ROwn.take {W w0 w : World} {N b B B' B3 : Nat} {col : Col} {o1 o2 o3 : Obj} {t : St} {v : Value} {xs : List UInt8} (h : ROwn W w0 N b B B' B3 col o1 o2 o3 t v xs w) (hB : B ≤ B' ∧ B' < w0.heap.size ∧ w0.heap.size ≤ B3) (hg : Slab.Good N t.slab) (hN : N ≤ 1000000) (size : Int) : ∃ mb, w.cell? ⟨b, 1, none⟩ = some (.pointer (some ⟨mb, 0, none⟩)) ∧
    Calls Tryz.prog 57 #[.pointer (some ⟨mb, 0, none⟩), .int .i64 size] w fun e w' => e = .returned (.tuple #[.agg #[.int .i64 (t.slab.take size).1.1.1, .int .i64 (t.slab.take size).1.1.2], .int .i64 (t.slab.take size).1.2]) ∧ ROwn W w0 (N + 1) b B B' B3 col o1 o2 o3 { t with slab := (t.slab.take size).2 } v xs w' := by
  obtain ⟨col1, ⟨ad, vL, vd, vv, rfl, h1⟩, f1, c1⟩ := h.run
  refine ⟨ad.mb, Mem.row_cell h1.self 1, (h1.take hg hN size).mono ?_⟩
  rintro e w' ⟨col2, rfl, h2, f2, hk⟩
  exact ⟨rfl, h.turn hB f1 c1 ⟨ad, vL, vd, vv, rfl, h2⟩ f2 hk⟩
set_option maxRecDepth 100000 in
set_option maxHeartbeats 4000000 in
theorem update_any (h : RAt W w N b col s) {n : Nat} (hi : Inv n N s) (hn : n ≤ 1000) (it : Shard.Item) (a : Option Addr) (c : Nat) (hvs : it.val.length ≤ 3000) (hsrc : SrcB w (.slice a it.val.length c) it.val) :
    Calls Tryz.prog 31 #[.pointer (some ⟨b, 0, none⟩), .agg (it.arr (.slice a it.val.length c))] w (RoomPost W w N b col (s.update it)) := by
  have hcn : ∀ j, w.heap.size ≤ j → col j = none := fun j hj => Classical.byContradiction fun e => by have := (h.lt j e).2; omega
  have hb2 : Below w.heap.size w (w.alloc (.cells (it.arr (.slice a it.val.length c)) 34)) := Mem.al (Below.refl _ _) _
  have n1 : (w.alloc (.cells (it.arr (.slice a it.val.length c)) 34)).heap[w.heap.size]? = some (.cells (it.arr (.slice a it.val.length c)) 34 (0, 0)) := Mem.new_block w _
  have hsz : w.heap.size ≤ w.heap.size ∧ w.heap.size < (w.alloc (.cells (it.arr (.slice a it.val.length c)) 34)).heap.size := by simp
  obtain ⟨w0, hw0⟩ : ∃ w0, w.alloc (.cells (it.arr (.slice a it.val.length c)) 34) = w0 := ⟨_, rfl⟩
  rw [hw0] at hb2 hsz n1
  have hbs : RBes W w0 N b w.heap.size w.heap.size col (.cells (it.arr (.slice a it.val.length c)) 34 (0, 0)) (.cells (it.arr (.slice a it.val.length c)) 34 (0, 0)) s w0 := ⟨⟨col, h.step hb2, Fr.refl _ _⟩, n1, n1⟩
  have hat := hbs.at hi (by omega) it.key
  obtain ⟨y, hy⟩ : ∃ y, s.update it = y := ⟨_, rfl⟩
  have hyu : (match Tab.get s.tab.L it.key with | none => (6, s.tick) | some x => if (s.ent x).it.val.length = it.val.length then (0, { s.tick with ent := upd s.ent x ⟨it, (s.ent x).chunk⟩ }) else (1, s.tick)) = y := hy
  rw [hy]
  have i0 : w0.cell? ⟨w.heap.size, 0, none⟩ = some (.string it.key) := Mem.row_cell n1 0
  obtain ⟨m, hm⟩ : ∃ m, place s.tab.L it.key = m := ⟨_, rfl⟩
  rw [hm] at hat
  have HB := Lib.hid (And.intro hcn (And.intro hb2 hsz))
  have HI := Lib.hid (And.intro hi (And.intro (hsrc.below hb2) hm))
  have HY := Lib.hid hyu
  clear hcn hb2 hsz n1 hbs h hi hsrc hy hyu hm
  unfold Item.arr at hw0 ⊢
  rcases hg : Tab.get s.tab.L it.key with _ | x
  · rw [hg] at hat
    have HG := Lib.hid hg
    clear hg
    go_enter Tryz.func31, Tryz.ntmps31
    go_wp2_with fail
    refine hat.mono ?_
    rintro e w1 ⟨rfl, h1, -⟩
    have H1 := Lib.hid h1
    clear hat h1 i0
    go_wp2_with fail
    go_ret
    obtain ⟨col1, a1, f1⟩ := H1.out.run
    have e := HY.out
    rw [HG.out] at e
    rw [← e]
    exact ⟨rfl, col1, a1.congr (t := s.tick) rfl rfl rfl rfl rfl rfl, (Fr.below HB.out.2.1).trans f1⟩
  · rw [hg] at hat
    have HG := Lib.hid hg
    clear hg
    go_enter Tryz.func31, Tryz.ntmps31
    go_wp2_with fail
    refine hat.mono ?_
    rintro e w1 ⟨rfl, h1, hb1⟩
    have H1 := Lib.hid (And.intro h1 (HI.out.2.1.below hb1))
    clear hat h1 i0 hb1
    obtain ⟨g, c1, va, vc, e1, c0, hcl, hsv⟩ := H1.out.1.cells HI.out.1 HG.out
    rw [HI.out.2.2] at e1 hcl
    have hml := (List.getElem?_eq_some_iff.1 e1).1
    have hmi : (m : Int) < s.tab.L.length := by omega
    have d1 : w1.cell? ⟨g, m * 12 + 1, none⟩ = some (.slice va (s.ent x).it.val.length vc) := hcl 1 (by omega)
    have i1 : w1.cell? ⟨w.heap.size, 1, none⟩ = some (.slice a it.val.length c) := Mem.row_cell H1.out.1.b1 1
    have HE := Lib.hid e1
    clear e1 hcl hsv
    by_cases hl : (s.ent x).it.val.length = it.val.length
    · have hlb : (((s.ent x).it.val.length : Int) != (it.val.length : Int)) = false := by rw [hl]; simp
      have HL := Lib.hid hl
      clear hl
      go_wp2_with fail
      go_quiet (fail)
      clear d1 i1 hlb c0
      obtain ⟨w2, hw2⟩ : ∃ w2, w1.drewN nq = w2 := ⟨_, rfl⟩
      have hb12 : Below w1.heap.size w1 w2 := by rw [← hw2]; exact Mem.dn (Below.refl _ _) _
      rw [hw2]
      have h2 := H1.out.1.below hb12
      have hba := Mem.al (Below.refl w2.heap.size w2) (.cells (it.arr (.slice a it.val.length c)) 34)
      have nb := Mem.new_block w2 (.cells (it.arr (.slice a it.val.length c)) 34)
      have h3 := h2.below hba
      have hs3 := (H1.out.2.below hb12).below hba
      have cel := fun j => Mem.row_cell h2.b1 j
      have i0 := cel 0
      have i1 := cel 1
      have i2 := cel 2
      have i3 := cel 3
      have i4 := cel 4
      have i5 := cel 5
      have i6 := cel 6
      have i7 := cel 7
      have i8 := cel 8
      have i9 := cel 9
      simp only [Item.arr, List.getElem?_toArray, List.getElem?_cons_zero, List.getElem?_cons_succ] at i0 i1 i2 i3 i4 i5 i6 i7 i8 i9
      have k1 : (w2.alloc (.cells (it.arr (.slice a it.val.length c)) 34)).cell? ⟨w.heap.size, 1, none⟩ = some (.slice a it.val.length c) := Mem.row_cell h3.b1 1
      have H3 := Lib.hid (And.intro h3 (And.intro hs3 nb))
      have H2 := Lib.hid h2
      unfold Item.arr at k1 H3
      clear h2 h3 hs3 nb cel hw2 hb12 hba
      go_wp2_with (first
        | (at_builtin; refine wpList_append_B _ _ _ it.val rfl rfl rfl rfl H3.out.2.1 (by omega) ?_; intro v4 w4 hown4 hb4; obtain ⟨y4, z4, hv4⟩ := Src.shape (Src.of_row hown4); subst hv4; have nb4 := (hb4.block _ (Array.getElem?_eq_some_iff.1 H3.out.2.2).1).trans H3.out.2.2; have p1 := Mem.row_cell nb4 1; have fz1 := Mem.row_free nb4 1; simp only [List.getElem?_toArray, List.getElem?_cons_zero, List.getElem?_cons_succ] at p1; have H4 := Lib.hid (And.intro hown4 (And.intro hb4 nb4)); clear hown4 hb4 nb4 k1)
        | fail)
      have ho5 := H2.out.owned HB.out.1 (arr := #[.string it.key, .slice a it.val.length c, .int .u32 it.flags, .int .i64 it.exp, .int .u64 it.cas, .int .i64 it.sec, .int .u64 it.seq, .bool it.stale, .bool it.won, .bool it.seen]) H4.out.2.1 H4.out.1 1 (.slice y4 it.val.length z4)
      obtain ⟨w5, hw5⟩ : ∃ w5, w4.setCell ⟨w2.heap.size, 1, none⟩ (.slice y4 it.val.length z4) = w5 := ⟨_, rfl⟩
      rw [hw5] at ho5 ⊢
      have H5 := Lib.hid (ho5.below (Below.drew (Below.refl _ w5)))
      obtain ⟨col5, ⟨ad, vL, vd, vv, hsb, h5⟩, f5, hc5, -⟩ := ho5.run
      obtain ⟨aL, cL, hvL, -, hcell⟩ := h5.shape
      obtain ⟨gL, haL, -⟩ := hcell m _ HE.out
      subst haL
      have c5 : w5.cell? ⟨b, 0, none⟩ = some (.slice (some ⟨gL, 0, none⟩) s.tab.L.length cL) := by rw [← hsb, ← hvL]; exact Mem.row_cell h5.self 0
      have cel := fun j => Mem.row_cell ho5.b3 j
      have p0 := cel 0
      have p1 := cel 1
      have p2 := cel 2
      have p3 := cel 3
      have p4 := cel 4
      have p5 := cel 5
      have p6 := cel 6
      have p7 := cel 7
      have p8 := cel 8
      have p9 := cel 9
      simp at p0 p1 p2 p3 p4 p5 p6 p7 p8 p9
      have h5d := h5.step (Below.drew (Below.refl _ w5))
      have hst := h5d.storeItem hvL HE.out (Inv.only_at HI.out.1 HE.out) it (ho5.own.below (Below.drew (Below.refl _ w5))) hc5
      have hth := h5d.there (off := 0) (len := 10) hvL HE.out (by omega)
      have H6 := Lib.hid (And.intro hst (And.intro hth (f5.trans (Fr.below (Below.drew (Below.refl _ w5))))))
      have hm0 : (0 : Int) ≤ m := by omega
      have HSB := Lib.hid hsb
      clear hw5 ho5 h5 h5d f5 hc5 hcell cel hst hth hvL hsb i0 i2 i3 i4 i5 i6 i7 i8 i9
      go_wp2_with fail
      refine wp_region_still_tail 8 (by kernel_rfl) (by kernel_rfl) ?_
      simp only [List.take_succ_cons, List.take_zero, List.drop_succ_cons, List.drop_zero]
      repeat still_step
      refine wpStill_nil ?_
      change wpList _ _ _ _ _ w5.drew
      go_wp2_with (first | (refine wpList_store_mid rfl 34 _ _ rfl gL (m * 12) (it.arr (.slice y4 it.val.length z4)) rfl rfl H6.out.2.1 (item_size it _) (one_of rfl) ?_) | fail)
      go_ret
      have e := HY.out
      rw [HG.out] at e
      simp only at e
      rw [if_pos HL.out] at e
      rw [← e]
      exact ⟨rfl, col5, RAt.congr (s := { s with ent := upd s.ent x ⟨it, (s.ent x).chunk⟩ }) ⟨ad, _, _, _, HSB.out, H6.out.1.1⟩ rfl rfl rfl rfl rfl rfl, ((Fr.below HB.out.2.1).trans H6.out.2.2).trans H6.out.1.2⟩
    · have hlb : (((s.ent x).it.val.length : Int) != (it.val.length : Int)) = true := by simp; omega
      have HL := Lib.hid hl
      clear hl
      go_wp2_with fail
      go_quiet (fail)
      clear d1 i1 hlb
      go_wp2_with fail
      go_ret
      obtain ⟨col1, a1, f1⟩ := H1.out.1.run
      have e := HY.out
      rw [HG.out] at e
      simp only at e
      rw [if_neg HL.out] at e
      rw [← e]
      exact ⟨rfl, col1, (a1.congr (t := s.tick) rfl rfl rfl rfl rfl rfl).step (Mem.dn (Below.refl _ _) _), ((Fr.below HB.out.2.1).trans f1).trans (Fr.below (Mem.dn (Below.refl _ _) _))⟩
end
end Go.Proofs.YteonjgnnpgpnnaaGreat.RefSh

