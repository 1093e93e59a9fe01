/- Part5: Shard1, Shard2, Slab4, Slab5, Slab6, Shard3, Shard4, Shard5, ShardP, Shard6, one behind the other. -/
import Derived.Test.YtkchlibkfafgdaaPart1
import Derived.Test.YtkchlibkfafgdaaPart2
import Derived.Test.YtkchlibkfafgdaaPart3
import Derived.Test.YtkchlibkfafgdaaPart4
import Derived.Outline
import Derived.Maps.AppendAt
import Derived.Deep.RegionHeld3
import Derived.Deep.RegionLaw
import Derived.Deep.AppendLies
import Derived.Deep.CutRange
import Derived.StillTailTactics
import Derived.Laws.Rows
import Derived.Laws.ResultCell
/- Layer 11: a shard's state, and where its parts lie: each block has a colour. -/
namespace Go.Proofs.Ytkchlibkfafgdaa.Shard
open Go Go.RowKit Go.Proofs.Ytkchlibkfafgdaa.Mem Go.Proofs.Ytkchlibkfafgdaa.App

inductive Part where
  | self | table | slab | order | judge | drops
  | ent (n : Nat)
deriving DecidableEq
def Ent.arr (x : Ent) (v : Value) : Array Value := #[.string x.it.key, v, .int .u32 x.it.flags, .int .i64 x.it.exp, .int .u64 x.it.cas, .int .i64 x.it.sec, .int .u64 x.it.seq, .bool x.it.stale, .bool x.it.won, .bool x.it.seen, .int .i64 x.chunk.1, .int .i64 x.chunk.2]
structure Addrs where
  sb : Nat
  tb : Nat
  mb : Nat
  ob : Nat
  jb : Nat
  fb : Nat
  cb : Nat
def cellsS (l : List ByteArray) : List Value := l.map Value.string
def shardObj (ad : Addrs) (vd : Value) : Obj := .cells #[.pointer (some ⟨ad.tb, 0, none⟩), .pointer (some ⟨ad.mb, 0, none⟩), .pointer (some ⟨ad.ob, 0, none⟩), .pointer (some ⟨ad.jb, 0, none⟩), vd] 71 (0, 0)
abbrev Col := Nat → Option Part
/-- The blocks that come in a part's turn have its colour. -/
def recol (col : Col) (w w' : World) (p : Part) : Col := fun k => if k < w.heap.size then col k else if k < w'.heap.size then some p else none
def Of (col : Col) (p : Part) : Nat → Prop := fun k => col k = some p
structure Parts (W w : World) (n : Nat) (hl : Nat → Prop) (col : Col) (ad : Addrs) (seed : Int) (s : St) (vd : Value) (vv : Nat → Value) : Prop where
  self : w.heap[ad.sb]? = some (shardObj ad vd)
  csb : col ad.sb = some .self
  tab : ∃ F, TabE.At w ad.tb F seed s.tab ∧ ∀ k, F k → col k = some .table
  sm : TabE.Sm n seed s.tab
  slab : ∃ F, Slab.At w ad.mb F s.slab ∧ ∀ k, F k → col k = some .slab
  order : ∃ F, Slru.At w ad.ob F s.order ∧ ∀ k, F k → col k = some .order
  judge : Tiny.Run W w ad.jb ad.fb ad.cb s.judge
  cj : col ad.jb = some .judge ∧ col ad.fb = some .judge ∧ col ad.cb = some .judge
  drops : w.ownsRow 0 9 1 vd s.drops.length (cellsS s.drops)
  cd : ∀ g, vd.ownBlock = some g → col g = some .drops
  ents : ∀ p ∈ s.tab.L, ¬ hl p.2 → w.heap[p.2]? = some (.cells ((s.ent p.2).arr (vv p.2)) 78 (0, 0)) ∧ OwnB w 0 (vv p.2) (s.ent p.2).it.val ∧ (s.ent p.2).it.key = p.1 ∧ col p.2 = some (.ent p.2) ∧ ∀ g, (vv p.2).ownBlock = some g → col g = some (.ent p.2) ∧ g ≠ p.2
  lt : ∀ k p, col k = some p → W.heap.size ≤ k ∧ k < w.heap.size
  below : Below W.heap.size W w
section
variable {W w w' : World} {n m : Nat} {hl hl' : Nat → Prop} {col : Col} {ad : Addrs} {seed : Int} {s : St} {vd : Value} {vv : Nat → Value} {p : Part}
/-- A part of another colour is as it was. -/
theorem Parts.far (h : Parts W w n hl col ad seed s vd vv) (ho : Only (Of col p) w w') {k : Nat} {q : Part} (hk : col k = some q) (hq : q ≠ p) : w'.heap[k]? = w.heap[k]? :=
  ho.same k (h.lt k q hk).2 (fun e => hq (by unfold Of at e; rw [hk] at e; injection e))
theorem recol_old {k : Nat} (hk : k < w.heap.size) : recol col w w' p k = col k := if_pos hk
theorem Parts.recol_of (h : Parts W w n hl col ad seed s vd vv) {k : Nat} {q : Part} (hk : col k = some q) : recol col w w' p k = some q := by rw [recol_old (h.lt k q hk).2]; exact hk
theorem recol_grow {F F' : Nat → Prop} (hF : ∀ k, F k → col k = some p) (hg : Grows w F F') (hlt : ∀ k, F' k → k < w'.heap.size) : ∀ k, F' k → recol col w w' p k = some p := fun k hk => by
  unfold recol
  by_cases h : k < w.heap.size
  · rw [if_pos h]
    exact (hg k hk).elim (hF k) (fun e => by omega)
  · rw [if_neg h, if_pos (hlt k hk)]
theorem Parts.recol_lt (h : Parts W w n hl col ad seed s vd vv) (hz : w.heap.size ≤ w'.heap.size) : ∀ k q, recol col w w' p k = some q → W.heap.size ≤ k ∧ k < w'.heap.size := fun k q hk => by
  unfold recol at hk
  have hW := h.below.size
  by_cases h1 : k < w.heap.size
  · rw [if_pos h1] at hk
    have := h.lt k q hk; omega
  · rw [if_neg h1] at hk
    by_cases h2 : k < w'.heap.size
    · omega
    · rw [if_neg h2] at hk; cases hk
theorem Parts.onlyBelow (h : Parts W w n hl col ad seed s vd vv) (ho : Only (Of col p) w w') : Below W.heap.size W w' :=
  Below.trans h.below (ho.below h.below.size (fun k hk => (h.lt k p hk).1))
theorem Parts.judgeFar (h : Parts W w n hl col ad seed s vd vv) (ho : Only (Of col p) w w') (hp : Part.judge ≠ p) : Tiny.Run W w' ad.jb ad.fb ad.cb s.judge :=
  h.judge.other ho (fun k hk => by
    have h0 : ∀ j, col j = some Part.judge → j ≠ k := fun j hj e => hp (by unfold Of at hk; rw [← e, hj] at hk; injection hk)
    exact ⟨⟨h0 _ h.cj.1, h0 _ h.cj.2.1, h0 _ h.cj.2.2⟩, (h.lt k p hk).1⟩)
theorem Parts.entsFar (h : Parts W w n hl col ad seed s vd vv) (ho : Only (Of col p) w w') (hp : ∀ m, Part.ent m ≠ p) : ∀ q ∈ s.tab.L, ¬ hl q.2 → w'.heap[q.2]? = some (.cells ((s.ent q.2).arr (vv q.2)) 78 (0, 0)) ∧ OwnB w' 0 (vv q.2) (s.ent q.2).it.val ∧ (s.ent q.2).it.key = q.1 ∧ recol col w w' p q.2 = some (.ent q.2) ∧ ∀ g, (vv q.2).ownBlock = some g → recol col w w' p g = some (.ent q.2) ∧ g ≠ q.2 := fun q hq hn => by
  obtain ⟨h1, h2, h3, h4, h5⟩ := h.ents q hq hn
  exact ⟨(h.far ho h4 (hp _)).trans h1, row_keep h2 fun g e => h.far ho (h5 g e).1 (hp _), h3, h.recol_of h4, fun g e => ⟨h.recol_of (h5 g e).1, (h5 g e).2⟩⟩
theorem Parts.onlyOf {F : Nat → Prop} (hF : ∀ k, F k → col k = some p) (ho : Only F w w') : Only (Of col p) w w' := ho.mono hF
/-- The table's turn. -/
theorem Parts.turnTab (h : Parts W w n hl col ad seed s vd vv) {F F' : Nat → Prop} {t : Tab.St Nat} (hF : ∀ k, F k → col k = some .table) (ha : TabE.At w' ad.tb F' seed t) (ho : Only F w w') (hg : Grows w F F') (hs : TabE.Sm m seed t)
    (hL : ∀ q ∈ t.L, ¬ hl' q.2 → q ∈ s.tab.L ∧ ¬ hl q.2) : Parts W w' m hl' (recol col w w' .table) ad seed { s with tab := t } vd vv := by
  have hoc := Parts.onlyOf hF ho
  obtain ⟨Fs, hs1, hs2⟩ := h.slab
  obtain ⟨Fo, ho1, ho2⟩ := h.order
  exact ⟨(h.far hoc h.csb (by decide)).trans h.self, h.recol_of h.csb, ⟨F', ha, recol_grow hF hg ha.lt⟩, hs,
    ⟨Fs, hs1.same (fun k hk => h.far hoc (hs2 k hk) (by decide)) hoc.size, fun k hk => h.recol_of (hs2 k hk)⟩,
    ⟨Fo, ho1.same (fun k hk => h.far hoc (ho2 k hk) (by decide)) hoc.size, fun k hk => h.recol_of (ho2 k hk)⟩,
    h.judgeFar hoc (by decide), ⟨h.recol_of h.cj.1, h.recol_of h.cj.2.1, h.recol_of h.cj.2.2⟩,
    row_keep h.drops fun g e => h.far hoc (h.cd g e) (by decide), fun g e => h.recol_of (h.cd g e),
    fun q hq hn => h.entsFar hoc (fun _ e => by cases e) q (hL q hq hn).1 (hL q hq hn).2, h.recol_lt hoc.size, h.onlyBelow hoc⟩
/-- The slab's turn. -/
theorem Parts.turnSlab (h : Parts W w n hl col ad seed s vd vv) {F F' : Nat → Prop} {t : Slab.St} (hF : ∀ k, F k → col k = some .slab) (ha : Slab.At w' ad.mb F' t) (hlt : ∀ k, F' k → k < w'.heap.size) (ho : Only F w w') (hg : Grows w F F') :
    Parts W w' n hl (recol col w w' .slab) ad seed { s with slab := t } vd vv := by
  have hoc := Parts.onlyOf hF ho
  obtain ⟨Ft, ht1, ht2⟩ := h.tab
  obtain ⟨Fo, ho1, ho2⟩ := h.order
  exact ⟨(h.far hoc h.csb (by decide)).trans h.self, h.recol_of h.csb, ⟨Ft, ht1.same (fun k hk => h.far hoc (ht2 k hk) (by decide)) hoc.size, fun k hk => h.recol_of (ht2 k hk)⟩, h.sm,
    ⟨F', ha, recol_grow hF hg hlt⟩,
    ⟨Fo, ho1.same (fun k hk => h.far hoc (ho2 k hk) (by decide)) hoc.size, fun k hk => h.recol_of (ho2 k hk)⟩,
    h.judgeFar hoc (by decide), ⟨h.recol_of h.cj.1, h.recol_of h.cj.2.1, h.recol_of h.cj.2.2⟩,
    row_keep h.drops fun g e => h.far hoc (h.cd g e) (by decide), fun g e => h.recol_of (h.cd g e),
    h.entsFar hoc (fun _ e => by cases e), h.recol_lt hoc.size, h.onlyBelow hoc⟩
/-- The list's turn. -/
theorem Parts.turnOrder (h : Parts W w n hl col ad seed s vd vv) {F F' : Nat → Prop} {t : Slru.St} (hF : ∀ k, F k → col k = some .order) (ha : Slru.At w' ad.ob F' t) (hlt : ∀ k, F' k → k < w'.heap.size) (ho : Only F w w') (hg : Grows w F F') :
    Parts W w' n hl (recol col w w' .order) ad seed { s with order := t } vd vv := by
  have hoc := Parts.onlyOf hF ho
  obtain ⟨Ft, ht1, ht2⟩ := h.tab
  obtain ⟨Fs, hs1, hs2⟩ := h.slab
  exact ⟨(h.far hoc h.csb (by decide)).trans h.self, h.recol_of h.csb, ⟨Ft, ht1.same (fun k hk => h.far hoc (ht2 k hk) (by decide)) hoc.size, fun k hk => h.recol_of (ht2 k hk)⟩, h.sm,
    ⟨Fs, hs1.same (fun k hk => h.far hoc (hs2 k hk) (by decide)) hoc.size, fun k hk => h.recol_of (hs2 k hk)⟩,
    ⟨F', ha, recol_grow hF hg hlt⟩,
    h.judgeFar hoc (by decide), ⟨h.recol_of h.cj.1, h.recol_of h.cj.2.1, h.recol_of h.cj.2.2⟩,
    row_keep h.drops fun g e => h.far hoc (h.cd g e) (by decide), fun g e => h.recol_of (h.cd g e),
    h.entsFar hoc (fun _ e => by cases e), h.recol_lt hoc.size, h.onlyBelow hoc⟩
/-- Something fresh came. -/
theorem Parts.step (h : Parts W w n hl col ad seed s vd vv) (hb : Below w.heap.size w w') : Parts W w' n hl col ad seed s vd vv := by
  obtain ⟨Ft, ht1, ht2⟩ := h.tab
  obtain ⟨Fs, hs1, hs2⟩ := h.slab
  obtain ⟨Fo, ho1, ho2⟩ := h.order
  have hk : ∀ k q, col k = some q → w'.heap[k]? = w.heap[k]? := fun k q e => hb.block k (h.lt k q e).2
  exact ⟨(hk _ _ h.csb).trans h.self, h.csb, ⟨Ft, ht1.same (fun k e => hk k _ (ht2 k e)) hb.size, ht2⟩, h.sm, ⟨Fs, hs1.same (fun k e => hk k _ (hs2 k e)) hb.size, hs2⟩, ⟨Fo, ho1.same (fun k e => hk k _ (ho2 k e)) hb.size, ho2⟩,
    h.judge.step hb, h.cj, row_keep h.drops fun g e => hk g _ (h.cd g e), h.cd,
    fun q hq hn => by
      obtain ⟨h1, h2, h3, h4, h5⟩ := h.ents q hq hn
      exact ⟨(hk _ _ h4).trans h1, row_keep h2 fun g e => hk g _ (h5 g e).1, h3, h4, h5⟩,
    fun k q e => ⟨(h.lt k q e).1, Nat.lt_of_lt_of_le (h.lt k q e).2 hb.size⟩, Mem.tr h.below hb⟩
/-- The judge's turn. -/
theorem Parts.turnJudge (h : Parts W w n hl col ad seed s vd vv) {j : Tiny.St} (hj : Tiny.Run W w' ad.jb ad.fb ad.cb j) (ho : Only (fun k => k = ad.fb ∨ k = ad.cb) w w') : Parts W w' n hl (recol col w w' .judge) ad seed { s with judge := j } vd vv := by
  have hoc : Only (Of col .judge) w w' := ho.mono fun k hk => hk.elim (fun e => e ▸ h.cj.2.1) (fun e => e ▸ h.cj.2.2)
  obtain ⟨Ft, ht1, ht2⟩ := h.tab
  obtain ⟨Fs, hs1, hs2⟩ := h.slab
  obtain ⟨Fo, ho1, ho2⟩ := h.order
  exact ⟨(h.far hoc h.csb (by decide)).trans h.self, h.recol_of h.csb, ⟨Ft, ht1.same (fun k hk => h.far hoc (ht2 k hk) (by decide)) hoc.size, fun k hk => h.recol_of (ht2 k hk)⟩, h.sm,
    ⟨Fs, hs1.same (fun k hk => h.far hoc (hs2 k hk) (by decide)) hoc.size, fun k hk => h.recol_of (hs2 k hk)⟩,
    ⟨Fo, ho1.same (fun k hk => h.far hoc (ho2 k hk) (by decide)) hoc.size, fun k hk => h.recol_of (ho2 k hk)⟩,
    hj, ⟨h.recol_of h.cj.1, h.recol_of h.cj.2.1, h.recol_of h.cj.2.2⟩,
    row_keep h.drops fun g e => h.far hoc (h.cd g e) (by decide), fun g e => h.recol_of (h.cd g e),
    h.entsFar hoc (fun _ e => by cases e), h.recol_lt hoc.size, h.onlyBelow hoc⟩
/-- The drops' turn: a row, stored into the shard's own block. -/
theorem Parts.turnDrops (h : Parts W w n hl col ad seed s vd vv) {l : List ByteArray} {vd' : Value} (ho : Only (Of col .drops) w w') (hown : w'.ownsRow 0 9 1 vd' l.length (cellsS l)) (hg : ∀ g, vd'.ownBlock = some g → vd.ownBlock = some g ∨ w.heap.size ≤ g) :
    Parts W (w'.setCell ⟨ad.sb, 4, none⟩ vd') n hl (recol col w w' .drops) ad seed { s with drops := l } vd' vv := by
  obtain ⟨Ft, ht1, ht2⟩ := h.tab
  obtain ⟨Fs, hs1, hs2⟩ := h.slab
  obtain ⟨Fo, ho1, ho2⟩ := h.order
  have hsb := (h.far ho h.csb (by decide)).trans h.self
  have hz2 : (w'.setCell ⟨ad.sb, 4, none⟩ vd').heap.size = w'.heap.size := by simp [World.setCell]
  have hsl := (h.lt _ _ h.csb)
  have hset : ∀ k, k ≠ ad.sb → (w'.setCell ⟨ad.sb, 4, none⟩ vd').heap[k]? = w'.heap[k]? := fun k hk => Below.heap_setCell _ _ _ _ hk
  have hne : ∀ k q, col k = some q → q ≠ .self → k ≠ ad.sb := fun k q e hq e1 => hq (by rw [e1, h.csb] at e; injection e with e; exact e.symm)
  have hk : ∀ k q, col k = some q → q ≠ .self → q ≠ .drops → (w'.setCell ⟨ad.sb, 4, none⟩ vd').heap[k]? = w.heap[k]? := fun k q e h1 h2 => (hset k (hne k q e h1)).trans (h.far ho e h2)
  have hvb : ∀ g, vd'.ownBlock = some g → g ≠ ad.sb := fun g e => (hg g e).elim (fun e1 => hne g _ (h.cd g e1) (by decide)) (fun e1 => by omega)
  have hol : ∀ g, vd'.ownBlock = some g → g < w'.heap.size := fun g e => (own_block_lt hown g e).2
  have hoj : Only (fun k => Of col .drops k ∨ k = ad.sb) w (w'.setCell ⟨ad.sb, 4, none⟩ vd') := (ho.mono (fun k hk => .inl hk)).setCell (p := ⟨ad.sb, 4, none⟩) (.inl (.inr rfl)) vd'
  refine ⟨Mem.row_set hsb 4 vd', h.recol_of h.csb, ⟨Ft, ht1.same (fun k e => hk k _ (ht2 k e) (by decide) (by decide)) (by rw [hz2]; exact ho.size), fun k e => h.recol_of (ht2 k e)⟩, h.sm,
    ⟨Fs, hs1.same (fun k e => hk k _ (hs2 k e) (by decide) (by decide)) (by rw [hz2]; exact ho.size), fun k e => h.recol_of (hs2 k e)⟩,
    ⟨Fo, ho1.same (fun k e => hk k _ (ho2 k e) (by decide) (by decide)) (by rw [hz2]; exact ho.size), fun k e => h.recol_of (ho2 k e)⟩,
    h.judge.other hoj (fun k hk => ?_), ⟨h.recol_of h.cj.1, h.recol_of h.cj.2.1, h.recol_of h.cj.2.2⟩,
    row_keep hown fun g e => hset g (hvb g e), fun g e => ?_, fun q hq hn => ?_, fun k q hk => by rw [hz2]; exact h.recol_lt ho.size k q hk, (h.onlyBelow ho).setCell (p := ⟨ad.sb, 4, none⟩) hsl.1 vd'⟩
  · have h0 : ∀ j, col j = some Part.judge → j ≠ k := fun j hj e => by
      rcases hk with hk | hk
      · unfold Of at hk; rw [← e, hj] at hk; cases hk
      · rw [e, hk, h.csb] at hj; cases hj
    exact ⟨⟨h0 _ h.cj.1, h0 _ h.cj.2.1, h0 _ h.cj.2.2⟩, hk.elim (fun e => (h.lt k _ e).1) (fun e => e ▸ hsl.1)⟩
  · unfold recol
    by_cases h1 : g < w.heap.size
    · rw [if_pos h1]; exact (hg g e).elim (h.cd g) (fun e1 => by omega)
    · rw [if_neg h1, if_pos (hol g e)]
  · obtain ⟨h1, h2, h3, h4, h5⟩ := h.ents q hq hn
    exact ⟨(hk _ _ h4 (by simp) (by simp)).trans h1, row_keep h2 fun g e => hk g _ (h5 g e).1 (by simp) (by simp), h3, h.recol_of h4, fun g e => ⟨h.recol_of (h5 g e).1, (h5 g e).2⟩⟩
/-- An entry's turn: its block b and its value's row are new. -/
theorem Parts.turnEnt (h : Parts W w n hl col ad seed s vd vv) {b : Nat} {x : Ent} {v : Value} (hb : w'.heap[b]? = some (.cells (x.arr v) 78 (0, 0))) (ho : Only (Of col (.ent b)) w w') (hcb : col b = some (.ent b))
    (hown : OwnB w' 0 v x.it.val) (hg : ∀ g, v.ownBlock = some g → (col g = some (.ent b) ∨ w.heap.size ≤ g) ∧ g ≠ b) (hkey : ∀ q ∈ s.tab.L, q.2 = b → x.it.key = q.1) (hh : ∀ q ∈ s.tab.L, q.2 ≠ b → ¬ hl' q.2 → ¬ hl q.2) :
    Parts W w' n hl' (recol col w w' (.ent b)) ad seed { s with ent := upd s.ent b x } vd (upd vv b v) := by
  obtain ⟨Ft, ht1, ht2⟩ := h.tab
  obtain ⟨Fs, hs1, hs2⟩ := h.slab
  obtain ⟨Fo, ho1, ho2⟩ := h.order
  refine ⟨(h.far ho h.csb (by simp)).trans h.self, h.recol_of h.csb, ⟨Ft, ht1.same (fun k hk => h.far ho (ht2 k hk) (by simp)) ho.size, fun k hk => h.recol_of (ht2 k hk)⟩, h.sm,
    ⟨Fs, hs1.same (fun k hk => h.far ho (hs2 k hk) (by simp)) ho.size, fun k hk => h.recol_of (hs2 k hk)⟩,
    ⟨Fo, ho1.same (fun k hk => h.far ho (ho2 k hk) (by simp)) ho.size, fun k hk => h.recol_of (ho2 k hk)⟩,
    h.judgeFar ho (by simp), ⟨h.recol_of h.cj.1, h.recol_of h.cj.2.1, h.recol_of h.cj.2.2⟩,
    row_keep h.drops fun g e => h.far ho (h.cd g e) (by simp), fun g e => h.recol_of (h.cd g e), fun q hq hn => ?_, h.recol_lt ho.size, h.onlyBelow ho⟩
  by_cases e : q.2 = b
  · show w'.heap[q.2]? = some (.cells ((upd s.ent b x q.2).arr (upd vv b v q.2)) 78 (0, 0)) ∧ OwnB w' 0 (upd vv b v q.2) (upd s.ent b x q.2).it.val ∧ (upd s.ent b x q.2).it.key = q.1 ∧ _ ∧ ∀ g, (upd vv b v q.2).ownBlock = some g → _
    rw [e, upd_same, upd_same]
    refine ⟨hb, hown, hkey q hq e, h.recol_of hcb, fun g eg => ⟨?_, (hg g eg).2⟩⟩
    unfold recol
    by_cases h1 : g < w.heap.size
    · rw [if_pos h1]; exact (hg g eg).1.elim id (fun e1 => by omega)
    · rw [if_neg h1, if_pos (own_block_lt hown g eg).2]
  · obtain ⟨h1, h2, h3, h4, h5⟩ := h.ents q hq (hh q hq e hn)
    show w'.heap[q.2]? = some (.cells ((upd s.ent b x q.2).arr (upd vv b v q.2)) 78 (0, 0)) ∧ OwnB w' 0 (upd vv b v q.2) (upd s.ent b x q.2).it.val ∧ (upd s.ent b x q.2).it.key = q.1 ∧ _ ∧ ∀ g, (upd vv b v q.2).ownBlock = some g → _
    rw [upd_other _ _ e, upd_other _ _ e]
    have hne : Part.ent q.2 ≠ Part.ent b := fun e1 => e (by injection e1)
    exact ⟨(h.far ho h4 hne).trans h1, row_keep h2 fun g eg => h.far ho (h5 g eg).1 hne, h3, h.recol_of h4, fun g eg => ⟨h.recol_of (h5 g eg).1, (h5 g eg).2⟩⟩
end
/-- Only the shard's own blocks are turned; what it gains is fresh. -/
def Fr (col col' : Col) (w w' : World) : Prop := Only (fun k => col k ≠ none) w w' ∧ Grows w (fun k => col k ≠ none) (fun k => col' k ≠ none)
section
variable {w w' w'' : World} {col col' col'' : Col} {p : Part}
theorem Fr.refl (col : Col) (w : World) : Fr col col w w := ⟨Only.refl _ _, Grows.refl _ _⟩
theorem Fr.trans (h : Fr col col' w w') (h' : Fr col' col'' w' w'') : Fr col col'' w w'' :=
  ⟨h.1.trans h'.1 h.2, fun k hk => (h'.2 k hk).elim (h.2 k) (fun e => .inr (Nat.le_trans h.1.size e))⟩
theorem Fr.of {F : Nat → Prop} (hF : ∀ k, F k → col k = some p) (ho : Only F w w') : Fr col (recol col w w' p) w w' := by
  refine ⟨ho.mono fun k hk => by rw [hF k hk]; simp, fun k hk => ?_⟩
  replace hk : recol col w w' p k ≠ none := hk
  unfold recol at hk
  by_cases h1 : k < w.heap.size
  · rw [if_pos h1] at hk; exact .inl hk
  · exact .inr (by omega)
theorem Fr.below (hb : Below w.heap.size w w') : Fr col col w w' := ⟨Only.of_below hb (fun k h1 h2 => by omega), Grows.refl _ _⟩
/-- A block of the caller's own is as it was. -/
theorem Fr.keep (h : Fr col col' w w') {k : Nat} (hk : k < w.heap.size) (hc : col k = none) : w'.heap[k]? = w.heap[k]? := h.1.same k hk (fun e => e hc)
end
/-- A shard that a run holds. -/
def At (W w : World) (n : Nat) (b : Nat) (col : Col) (seed : Int) (s : St) : Prop := ∃ ad vd vv, ad.sb = b ∧ Parts W w n (fun _ => False) col ad seed s vd vv
def Turn (W w : World) (n b : Nat) (col : Col) (seed : Int) (s : St) (w' : World) : Prop := ∃ col', At W w' n b col' seed s ∧ Fr col col' w w'
theorem At.step {W w w' : World} {n b : Nat} {col : Col} {seed : Int} {s : St} (h : At W w n b col seed s) (hb : Below w.heap.size w w') : At W w' n b col seed s := by
  obtain ⟨ad, vd, vv, e, h⟩ := h
  exact ⟨ad, vd, vv, e, h.step hb⟩
theorem At.lt {W w : World} {n b : Nat} {col : Col} {seed : Int} {s : St} (h : At W w n b col seed s) : ∀ k, col k ≠ none → k < w.heap.size := by
  obtain ⟨ad, vd, vv, e, h⟩ := h
  intro k hk
  rcases hc : col k with _ | p
  · exact absurd hc hk
  · exact (h.lt k p hc).2
end Go.Proofs.Ytkchlibkfafgdaa.Shard

/- Layer 11: Used, Len, Drops, Use. -/
namespace Go.Proofs.Ytkchlibkfafgdaa.Shard
open Go Go.RowKit Go.Proofs.Ytkchlibkfafgdaa.Mem Go.Proofs.Ytkchlibkfafgdaa.App

section
variable {W w : World} {n b : Nat} {col : Col} {seed : Int} {s : St}
theorem used_any (h : At W w n b col seed s) : Calls Try.prog 19 #[.pointer (some ⟨b, 0, none⟩)] w fun e w' => e = .returned (.int .i64 s.slab.used) ∧ w = w' := by
  obtain ⟨ad, vd, vv, rfl, h⟩ := h
  have c1 : w.cell? ⟨ad.sb, 1, none⟩ = some (.pointer (some ⟨ad.mb, 0, none⟩)) := Mem.row_cell h.self 1
  obtain ⟨F, hs, -⟩ := h.slab
  have hu := Slab.used_any hs
  clear h hs
  go_enter Try.func19, Try.ntmps19
  go_wp2_with (go_at_call 42; refine hu.mono ?_; rintro e w' ⟨rfl, rfl⟩)
  go_ret
  exact ⟨rfl, rfl⟩
theorem len_any (h : At W w n b col seed s) : Calls Try.prog 25 #[.pointer (some ⟨b, 0, none⟩)] w fun e w' => e = .returned (.int .i64 s.tab.L.length) ∧ w = w' := by
  obtain ⟨ad, vd, vv, rfl, h⟩ := h
  have c0 : w.cell? ⟨ad.sb, 0, none⟩ = some (.pointer (some ⟨ad.tb, 0, none⟩)) := Mem.row_cell h.self 0
  obtain ⟨F, hs, -⟩ := h.tab
  have hu := TabE.len_any hs
  clear h hs
  go_enter Try.func25, Try.ntmps25
  go_wp2_with (go_at_call 47; refine hu.mono ?_; rintro e w' ⟨rfl, rfl⟩)
  go_ret
  exact ⟨rfl, rfl⟩
/-- Drops: the row is handed over. -/
theorem drops_any (h : At W w n b col seed s) : Calls Try.prog 14 #[.pointer (some ⟨b, 0, none⟩)] w fun e w' => ∃ v, e = .returned v ∧ Turn W w n b col seed { s with drops := [] } w' ∧ w'.ownsRow W.heap.size 9 1 v s.drops.length (cellsS s.drops) := by
  obtain ⟨ad, vd, vv, rfl, h⟩ := h
  have c4 : w.cell? ⟨ad.sb, 4, none⟩ = some vd := Mem.row_cell h.self 4
  have f4 := Mem.row_free h.self 4
  obtain ⟨a, c, hv⟩ := Src.shape (Src.of_row h.drops)
  subst hv
  have HH := Lib.hid h
  clear h
  go_enter Try.func14, Try.ntmps14
  go_wp2_with fail
  go_ret
  have h := HH.out
  refine ⟨_, rfl, ⟨_, ⟨ad, _, vv, rfl, h.turnDrops (Only.refl _ _) (l := []) (vd' := .slice none 0 0) (World.ownsRow_nil _ _ _ _) (fun g e => by cases e)⟩, (Only.refl _ _).setCell (p := ⟨ad.sb, 4, none⟩) (.inl (by rw [h.csb]; simp)) _, fun k hk => ?_⟩, ?_⟩
  · replace hk : recol col w w .drops k ≠ none := hk
    unfold recol at hk
    by_cases h1 : k < w.heap.size
    · rw [if_pos h1] at hk; exact .inl hk
    · exact .inr (by omega)
  refine row_keep ⟨h.drops.1, ?_⟩ fun g e => Below.heap_setCell _ _ _ _ (fun e1 => ?_)
  · rcases h.drops.2 with h1 | ⟨g, cap, cur, h1, h2, h3⟩
    · exact .inl h1
    · exact .inr ⟨g, cap, cur, h1, (h.lt _ _ (h.cd g (by rw [h1]; rfl))).1, h3⟩
  · have h1 := h.cd g e
    rw [show g = ad.sb from e1, h.csb] at h1
    cases h1
theorem use_any (h : At W w n b col seed s) (k : ByteArray) (hk : k.size ≤ maxLen) (hl : s.order.all.length ≤ 1000000000) : Calls Try.prog 16 #[.pointer (some ⟨b, 0, none⟩), .string k] w fun e w' => e = .returned (.tuple #[]) ∧ Turn W w n b col seed { s with judge := s.judge.touch k.data.toList, order := (s.order.hit k).2 } w' := by
  obtain ⟨ad, vd, vv, rfl, h⟩ := h
  have c3 : w.cell? ⟨ad.sb, 3, none⟩ = some (.pointer (some ⟨ad.jb, 0, none⟩)) := Mem.row_cell h.self 3
  have ht := Tiny.touch_run h.judge k hk
  have HH := Lib.hid h
  clear h
  go_enter Try.func16, Try.ntmps16
  go_wp2_with fail
  refine ht.mono ?_
  rintro e w1 ⟨rfl, hj, ho⟩
  have h1 := HH.out.turnJudge hj ho
  have f1 : Fr col (recol col w w1 .judge) w w1 := Fr.of (p := .judge) (fun k hk => hk.elim (fun e => e ▸ HH.out.cj.2.1) (fun e => e ▸ HH.out.cj.2.2)) ho
  have d2 : w1.cell? ⟨ad.sb, 2, none⟩ = some (.pointer (some ⟨ad.ob, 0, none⟩)) := Mem.row_cell h1.self 2
  obtain ⟨F, hs, hF⟩ := h1.order
  have hh := Slru.hit_any hs k (by show s.order.all.length ≤ _; omega)
  have H1 := Lib.hid (And.intro h1 hF)
  clear ht hj ho h1 hs hF c3
  unfold Slru.TurnPost at hh
  go_wp2_with fail
  refine hh.mono ?_
  rintro e w2 ⟨F', rfl, ha, ho, hg⟩
  have h2 := H1.out.1.turnOrder H1.out.2 ha ha.lt ho hg
  have H2 := Lib.hid (And.intro h2 (f1.trans (Fr.of H1.out.2 ho)))
  clear hh ha ho hg h2
  go_wp2_with fail
  go_end0
  exact ⟨rfl, _, ⟨ad, vd, vv, rfl, H2.out.1⟩, H2.out.2⟩
end
end Go.Proofs.Ytkchlibkfafgdaa.Shard

/- The walks of the slab's number, Fits, Take, Free. -/
namespace Go.Proofs.Ytkchlibkfafgdaa.Slab
open Go Go.RowKit Go.Proofs.Ytkchlibkfafgdaa.Mem

/-- What number comes to. -/
def NumberPost (w : World) (b : Nat) (F : Nat → Prop) (s : St) (k : Nat) (e : Ending) (w' : World) : Prop :=
  e = .returned (.int .i64 (s.number k).1) ∧ At w' b F (s.number k).2 ∧ Only F w w'

theorem AtW.setGone {w : World} {b : Nat} {F : Nat → Prop} {s : St} {mb : Nat} {gv : Nat → Value} (h : AtW w b F s mb gv) {k : Nat} (hk : k < 6) (v : Value) (l : List Int)
    (hv : w.ownsRow 0 3 1 v l.length (l.map (Value.int .i64))) (hown : v.ownBlock = (gv k).ownBlock ∨ v.ownBlock = none) :
    AtW (w.setCell ⟨b, 3 + k, none⟩ v) b F { s with gone := put s.gone k l } mb (put gv k v) := by
  have hsame : ∀ j, j ≠ b → (w.setCell ⟨b, 3 + k, none⟩ v).heap[j]? = w.heap[j]? := fun j hj => Below.heap_setCell _ _ _ _ hj
  have hvb : v.ownBlock ≠ some b := fun e => by
    rcases hown with h1 | h1
    · exact h.row_ne hk (h1 ▸ e)
    · rw [h1] at e; cases e
  refine ⟨?_, h.map.same (hsame _ h.map_ne), fun j hj => ?_, h.fb, h.fm, fun j hj g e => ?_, fun i j hi hj hij g e e' => ?_, fun j hj => Nat.lt_of_lt_of_le (h.lt j hj) (by simp [World.setCell])⟩
  · have := Mem.row_set h.blk (3 + k) v
    rwa [cells_set_gone k hk v l] at this
  · by_cases hjk : j = k
    · subst hjk
      simp only [put_same]
      exact row_same hv fun g e => hsame g (fun e' => hvb (e' ▸ e))
    · simp only [put_other _ _ hjk]
      exact row_same (h.rows j hj) fun g e => hsame g (fun e' => h.row_ne hj (e' ▸ e))
  · by_cases hjk : j = k
    · subst hjk
      rw [put_same] at e
      rcases hown with h1 | h1
      · exact h.fr j hj g (h1 ▸ e)
      · rw [h1] at e; cases e
    · rw [put_other _ _ hjk] at e
      exact h.fr j hj g e
  · by_cases hik : i = k
    · subst hik
      rw [put_same] at e
      rw [put_other _ _ (Ne.symm hij)] at e'
      rcases hown with h1 | h1
      · exact h.apart i j hi hj hij g (h1 ▸ e) e'
      · rw [h1] at e; cases e
    · rw [put_other _ _ hik] at e
      by_cases hjk : j = k
      · subst hjk
        rw [put_same] at e'
        rcases hown with h1 | h1
        · exact h.apart i j hi hj hij g e (h1 ▸ e')
        · rw [h1] at e'; cases e'
      · rw [put_other _ _ hjk] at e'
        exact h.apart i j hi hj hij g e e'
/-- A store into one of the struct's own plain cells. -/
theorem AtW.setOwn {w : World} {b : Nat} {F : Nat → Prop} {s t : St} {mb : Nat} {gv : Nat → Value} (h : AtW w b F s mb gv) (i : Nat) (v : Value) (hc : (cells s mb gv).setIfInBounds i v = cells t mb gv)
    (hi : t.inn = s.inn) (hg : t.gone = s.gone) : AtW (w.setCell ⟨b, i, none⟩ v) b F t mb gv := by
  have hsame : ∀ j, j ≠ b → (w.setCell ⟨b, i, none⟩ v).heap[j]? = w.heap[j]? := fun j hj => Below.heap_setCell _ _ _ _ hj
  refine ⟨?_, ?_, fun j hj => ?_, h.fb, h.fm, h.fr, h.apart, fun j hj => Nat.lt_of_lt_of_le (h.lt j hj) (by simp [World.setCell])⟩
  · have := Mem.row_set h.blk i v
    rwa [hc] at this
  · rw [hi]; exact h.map.same (hsame _ h.map_ne)
  · rw [hg]; exact row_same (h.rows j hj) fun g e => hsame g (fun e' => h.row_ne hj (e' ▸ e))

theorem number_none {s : St} {k : Nat} (h : s.gone k = []) : s.number k = (s.made k, { s with made := put s.made k (s.made k + 1) }) := by unfold St.number; rw [h]; rfl
theorem number_some {s : St} {k : Nat} (h : s.gone k ≠ []) : s.number k = ((s.gone k).getLast h, { s with gone := put s.gone k (s.gone k).dropLast }) := by
  unfold St.number; rw [List.getLast?_eq_some_getLast h]

set_option maxRecDepth 100000 in
set_option maxHeartbeats 1000000 in
theorem number_new {w : World} {b : Nat} {F : Nat → Prop} {s : St} (h : At w b F s) (k : Nat) (hk : k < 6) (m0 : 0 ≤ s.made k) (m1 : s.made k ≤ 1099511627776) (hg : s.gone k = []) :
    Calls Try.prog 57 #[.pointer (some ⟨b, 0, none⟩), .int .i64 k] w (NumberPost w b F s k) := by
  obtain ⟨mb, gv, h⟩ := h
  have ck : w.cell? ⟨b, 3 + k, none⟩ = some (gv k) := (Mem.row_cell h.blk (3 + k)).trans (cells_gone k hk)
  have cm : w.cell? ⟨b, 9 + k, none⟩ = some (.int .i64 (s.made k)) := (Mem.row_cell h.blk (9 + k)).trans (cells_made k hk)
  have fm := Mem.row_free h.blk (9 + k)
  obtain ⟨A, c, hv⟩ : ∃ A c, gv k = .slice A 0 c := by
    have hr := h.rows k hk
    rw [hg] at hr
    rcases hr.2 with ⟨e1, _⟩ | ⟨g, cap, cur, e1, _⟩
    · exact ⟨_, _, e1⟩
    · exact ⟨_, _, e1⟩
  rw [hv] at ck
  have hk0 : (0 : Int) ≤ k := by omega
  have hk6 : (k : Int) < 6 := by omega
  have hfin : ∀ w', w' = (w.setCell ⟨b, 9 + k, none⟩ (.int .i64 (s.made k + 1))).drew → NumberPost w b F s k (.returned (.int .i64 (s.made k))) w' := fun w' e => by
    subst e
    unfold NumberPost
    rw [number_none hg]
    exact ⟨rfl, At.same (w := w.setCell ⟨b, 9 + k, none⟩ (.int .i64 (s.made k + 1))) ⟨mb, gv, h.setOwn (t := { s with made := put s.made k (s.made k + 1) }) (9 + k) _ (cells_set_made k hk _) rfl rfl⟩ (fun _ _ => rfl) (Nat.le_refl _), ((Only.refl F w).setCell (.inl h.fb) _).drew⟩
  have hmk : s.made k + 1 - 1 = s.made k := by omega
  generalize s.made k = m at *
  clear hv h hg
  have HK := Lib.hid hmk
  clear hmk hk
  go_enter Try.func57, Try.ntmps57
  go_wp2
  refine wp_region_still_tail 10 (by kernel_rfl) (by kernel_rfl) ?_
  simp only [List.take_succ_cons, List.take_zero, List.drop_succ_cons, List.drop_zero]
  repeat still_step
  refine wpStill_nil ?_
  change wpList _ _ _ _ _ w.drew
  go_wp2
  go_ret
  exact hfin _ rfl

theorem row_pop {w : World} {base : Nat} {e : TypeId} {g n cap : Nat} {xs : List Value} (h : w.ownsRow base e 1 (.slice (some ⟨g, 0, none⟩) (n + 1) cap) (n + 1) xs) : w.ownsRow base e 1 (.slice (some ⟨g, 0, none⟩) n cap) n xs.dropLast := by
  have hl : xs.length = n + 1 := by have := h.1; omega
  refine ⟨by simp [hl], ?_⟩
  rcases h.2 with ⟨h1, _⟩ | ⟨g', cap', cur, h1, h2, h3, h4, h5, h6, h7⟩
  · cases h1
  · injection h1 with e1 _ e2
    injection e1 with e1
    injection e1 with e1
    subst e1; subst e2
    refine .inr ⟨g, cap, cur, rfl, h2, h3, by omega, h5, h6, ?_⟩
    rw [← h7, List.dropLast_eq_take, List.length_take, List.take_take]
    have : cur.toList.length = cap := by simp [h6]
    rw [this]
    congr 1
    omega

set_option maxRecDepth 100000 in
set_option maxHeartbeats 1000000 in
theorem number_old {w : World} {b : Nat} {F : Nat → Prop} {s : St} (h : At w b F s) (k : Nat) (hk : k < 6) (hg : s.gone k ≠ []) (hlen : (s.gone k).length ≤ 1099511627776) :
    Calls Try.prog 57 #[.pointer (some ⟨b, 0, none⟩), .int .i64 k] w (NumberPost w b F s k) := by
  obtain ⟨mb, gv, h⟩ := h
  obtain ⟨n, hn⟩ : ∃ n, (s.gone k).length = n + 1 := ⟨(s.gone k).length - 1, by have := List.length_pos_iff.2 hg; omega⟩
  have hr := h.rows k hk
  rw [hn] at hr hlen
  obtain ⟨g, cap, cur, hv, _, hgb, hcap, hcap', hcur⟩ := Mem.row_block hr
  have ck : w.cell? ⟨b, 3 + k, none⟩ = some (gv k) := (Mem.row_cell h.blk (3 + k)).trans (cells_gone k hk)
  have fk := Mem.row_free h.blk (3 + k)
  have hlast : ((s.gone k).map (Value.int .i64))[n]? = some (.int .i64 ((s.gone k).getLast hg)) := by
    rw [List.getElem?_map, List.getLast_eq_getElem, List.getElem?_eq_getElem (by omega)]
    simp [hn]
  have hgb' : g ≠ b := fun e => h.row_ne hk (by rw [hv, e]; rfl)
  have cl : (w.setCell ⟨b, 3 + k, none⟩ (.slice (some ⟨g, 0, none⟩) n cap)).cell? ⟨g, n, none⟩ = some (.int .i64 ((s.gone k).getLast hg)) := by
    rw [World.cell?_setCell_other _ _ _ _ (by intro e; injection e with e1; exact hgb' e1.symm)]
    exact (Mem.row_cell hgb n).trans (hcur n _ hlast)
  have hk0 : (0 : Int) ≤ k := by omega
  have hk6 : (k : Int) < 6 := by omega
  have hfin : ∀ w', w' = (w.setCell ⟨b, 3 + k, none⟩ (.slice (some ⟨g, 0, none⟩) n cap)).drew → NumberPost w b F s k (.returned (.int .i64 ((s.gone k).getLast hg))) w' := fun w' e => by
    subst e
    unfold NumberPost
    rw [number_some hg]
    rw [hv] at hr
    have hrow := row_pop hr
    refine ⟨rfl, At.same (w := w.setCell ⟨b, 3 + k, none⟩ (.slice (some ⟨g, 0, none⟩) n cap)) ⟨mb, _, h.setGone hk _ (s.gone k).dropLast ?_ (.inl (by rw [hv]; rfl))⟩ (fun _ _ => rfl) (Nat.le_refl _), ((Only.refl F w).setCell (.inl h.fb) _).drew⟩
    rw [List.length_dropLast, hn, List.map_dropLast]
    exact hrow
  rw [hv] at ck
  generalize (s.gone k).getLast hg = x at *
  have HN := Lib.hid hn
  have hw1 : IntKind.i64.wrap (n : Int) = n := by rw [IntKind.wrap_i64]; omega
  have hw2 : (n : Int) ≤ cap := by omega
  have hw3 : (0 : Int) ≤ n := by omega
  clear hr hv h hgb hcur hlast hn
  go_enter Try.func57, Try.ntmps57
  go_wp2
  refine wp_region_still_tail 10 (by kernel_rfl) (by kernel_rfl) ?_
  simp only [List.take_succ_cons, List.take_zero, List.drop_succ_cons, List.drop_zero]
  repeat still_step
  refine wpStill_nil ?_
  change wpList _ _ _ _ _ w.drew
  go_wp2
  go_ret
  exact hfin _ rfl

theorem number_any {w : World} {b : Nat} {F : Nat → Prop} {s : St} (h : At w b F s) {N : Nat} (hs : Small N s) (hN : N ≤ 1099511627776) (k : Nat) (hk : k < 6) :
    Calls Try.prog 57 #[.pointer (some ⟨b, 0, none⟩), .int .i64 k] w (NumberPost w b F s k) := by
  by_cases hg : s.gone k = []
  · exact number_new h k hk (hs.m0 k) (by have := hs.m1 k; omega) hg
  · exact number_old h k hk hg (Nat.le_trans (hs.g k) hN)

theorem classE_ok {size : Int} (h : classN size < 6) : classE size = 0 ∧ classR size = (classN size : Nat) := by unfold classE classR; rw [if_neg (by omega), if_neg (by omega)]; exact ⟨rfl, rfl⟩
theorem classE_no {size : Int} (h : classN size = 6) : classE size = 4 ∧ classR size = 0 := by unfold classE classR; rw [if_pos h, if_pos h]; exact ⟨rfl, rfl⟩

set_option maxRecDepth 100000 in
set_option maxHeartbeats 1000000 in
theorem fits_any {w : World} {b : Nat} {F : Nat → Prop} {s : St} (h : At w b F s) {N : Nat} (hs : Small N s) (hN : N ≤ 1099511627776) (size less : Int) (hl : -9223372036854775808 ≤ less ∧ less ≤ 9223372036854775807) :
    Calls Try.prog 51 #[.pointer (some ⟨b, 0, none⟩), .int .i64 size, .int .i64 less] w fun e w' => e = .returned (.bool (s.fits size less)) ∧ ∃ n, w' = w.drewN n := by
  obtain ⟨mb, gv, h⟩ := h
  have c0 : w.cell? ⟨b, 0, none⟩ = some (.int .i64 s.budget) := Mem.row_cell h.blk 0
  have c1 : w.cell? ⟨b, 1, none⟩ = some (.int .i64 s.used) := Mem.row_cell h.blk 1
  have u0 := hs.u0
  have u1 : s.used ≤ 2251799813685248 := by have := hs.u1; omega
  obtain ⟨l0, l1⟩ := hl
  clear h hs
  by_cases h6 : classN size = 6
  · have hr : s.fits size less = false := by unfold St.fits; simp [h6]
    rw [hr]
    have e0 : (classE size == 0) = false := by rw [(classE_no h6).1]; rfl
    clear h6 hr
    go_enter Try.func51, Try.ntmps51
    go_wp2_with (go_at_call 22; refine (class_any _ _).mono ?_; rintro e w' ⟨rfl, rfl⟩)
    go_quiet (fail)
    go_wp2
    go_ret
    exact ⟨rfl, _, rfl⟩
  have hc := class_six size
  have e0 : (classE size == 0) = true := by rw [(classE_ok (by omega)).1]; rfl
  have er : classR size = (classN size : Nat) := (classE_ok (by omega)).2
  have hb := bytes_range (classN size : Nat)
  by_cases h0 : 0 ≤ less
  case neg =>
    have hr : s.fits size less = false := by unfold St.fits; simp; intros; omega
    rw [hr]
    have d0 : decide ((0 : Int) ≤ less) = false := by simpa using h0
    clear h6 hr er hb hc h0
    go_enter Try.func51, Try.ntmps51
    go_wp2_with (go_at_call 22; refine (class_any _ _).mono ?_; rintro e w' ⟨rfl, rfl⟩)
    go_quiet (fail)
    go_wp2
    go_ret
    exact ⟨rfl, _, rfl⟩
  have d0 : decide ((0 : Int) ≤ less) = true := by simpa using h0
  by_cases h1 : less ≤ s.used
  case neg =>
    have hr : s.fits size less = false := by unfold St.fits; simp; intros; omega
    rw [hr]
    have d1 : decide (less ≤ s.used) = false := by simpa using h1
    clear h6 hr er hb hc h1
    go_enter Try.func51, Try.ntmps51
    go_wp2_with (go_at_call 22; refine (class_any _ _).mono ?_; rintro e w' ⟨rfl, rfl⟩)
    go_quiet (fail)
    go_wp2
    go_ret
    exact ⟨rfl, _, rfl⟩
  have d1 : decide (less ≤ s.used) = true := by simpa using h1
  have hr : s.fits size less = decide (s.used - less + bytesI (classR size) ≤ s.budget) := by
    unfold St.fits; rw [er]
    by_cases hx : s.used - less + bytesI ((classN size : Nat) : Int) ≤ s.budget
    · simp [hx, h0, h1]; omega
    · simp [hx]
  rw [hr]
  rw [← er] at hb
  obtain ⟨hb0, hb1⟩ := hb
  have w1 : IntKind.i64.wrap (s.used - less) = s.used - less := by rw [IntKind.wrap_i64]; omega
  have w2 : IntKind.i64.wrap (s.used - less + bytesI (classR size)) = s.used - less + bytesI (classR size) := by rw [IntKind.wrap_i64]; omega
  clear h6 hr er hc
  go_enter Try.func51, Try.ntmps51
  go_wp2_with (go_at_call 22; refine (class_any _ _).mono ?_; rintro e w' ⟨rfl, rfl⟩)
  go_quiet ((go_at_call 24; exact Calls.quiet_of_same ((bytes_any _ _).mono fun _ _ ⟨h, e⟩ => ⟨h, e.symm⟩)))
  go_wp2
  go_ret
  exact ⟨rfl, _, rfl⟩
end Go.Proofs.Ytkchlibkfafgdaa.Slab

/- The walks of the slab's Take and Free. -/
namespace Go.Proofs.Ytkchlibkfafgdaa.Slab
open Go Go.RowKit Go.Proofs.Ytkchlibkfafgdaa.Mem

/-- What Take, Free come to. -/
def TakePost (w : World) (b : Nat) (F : Nat → Prop) (s : St) (size : Int) (e : Ending) (w' : World) : Prop :=
  ∃ F', e = .returned (.tuple #[.agg #[.int .i64 (s.take size).1.1.1, .int .i64 (s.take size).1.1.2], .int .i64 (s.take size).1.2]) ∧ At w' b F' (s.take size).2 ∧ Only F w w' ∧ Grows w F F'

set_option maxRecDepth 100000 in
set_option maxHeartbeats 1000000 in
theorem take_long {w : World} {b : Nat} {F : Nat → Prop} {s : St} (h : At w b F s) (size : Int) (h6 : classN size = 6) :
    Calls Try.prog 38 #[.pointer (some ⟨b, 0, none⟩), .int .i64 size] w (TakePost w b F s size) := by
  have hfin : ∀ w', Below w.heap.size w w' → TakePost w b F s size (.returned (.tuple #[.agg #[.int .i64 0, .int .i64 0], .int .i64 4])) w' := fun w' hb => by
    have ht : s.take size = (((0, 0), 4), s) := by unfold St.take; rw [if_pos h6]
    unfold TakePost; rw [ht]
    have hl : ∀ k, F k → k < w.heap.size := by obtain ⟨_, _, h⟩ := h; exact h.lt
    exact ⟨F, rfl, h.below hb, Only.of_below hb (fun k h1 h2 => by omega), Grows.refl _ _⟩
  have e0 : (classE size == 0) = false := by rw [(classE_no h6).1]; rfl
  have e1 := Lib.hid (classE_no h6).1
  clear h h6
  go_enter Try.func38, Try.ntmps38
  go_wp2_with (go_at_call 22; refine (class_any _ _).mono ?_; rintro e w' ⟨rfl, rfl⟩)
  refine bodyPost_ret (v := .tuple #[.agg #[.int .i64 0, .int .i64 0], .int .i64 (classE size)]) (by simp [results, Try.results38, go_sem]) rfl ?_
  rw [e1.out]
  refine hfin _ ?_
  repeat (first | exact Below.refl _ _ | refine Below.drew ?_ | refine Mem.al ?_ _ | refine Below.setCell ?_ (by first | omega | (simp; omega) | simp) _)

set_option maxRecDepth 100000 in
set_option maxHeartbeats 1000000 in
theorem take_full {w : World} {b : Nat} {F : Nat → Prop} {s : St} (h : At w b F s) {N : Nat} (hs : Small N s) (hN : N ≤ 1099511627776) (size : Int) (h6 : classN size < 6) (hx : s.budget < s.used + bytesI (classN size)) :
    Calls Try.prog 38 #[.pointer (some ⟨b, 0, none⟩), .int .i64 size] w (TakePost w b F s size) := by
  have hfin : ∀ w', Below w.heap.size w w' → TakePost w b F s size (.returned (.tuple #[.agg #[.int .i64 0, .int .i64 0], .int .i64 5])) w' := fun w' hb => by
    have ht : s.take size = (((0, 0), 5), s) := by unfold St.take; rw [if_neg (by omega), if_pos hx]
    unfold TakePost; rw [ht]
    have hl : ∀ k, F k → k < w.heap.size := by obtain ⟨_, _, h⟩ := h; exact h.lt
    exact ⟨F, rfl, h.below hb, Only.of_below hb (fun k h1 h2 => by omega), Grows.refl _ _⟩
  obtain ⟨mb, gv, h⟩ := h
  have hbl := h.lt _ h.fb
  have c0 : w.cell? ⟨b, 0, none⟩ = some (.int .i64 s.budget) := Mem.row_cell h.blk 0
  have c1 : w.cell? ⟨b, 1, none⟩ = some (.int .i64 s.used) := Mem.row_cell h.blk 1
  have u0 := hs.u0
  have u1 : s.used ≤ 2251799813685248 := by have := hs.u1; omega
  obtain ⟨e1, er⟩ := classE_ok h6
  have e0 : (classE size == 0) = true := by rw [e1]; rfl
  rw [← er] at hx
  have hb := bytes_range (classR size)
  obtain ⟨hb0, hb1⟩ := hb
  have w2 : IntKind.i64.wrap (s.used + bytesI (classR size)) = s.used + bytesI (classR size) := by rw [IntKind.wrap_i64]; omega
  clear h h6 hs er e1
  go_enter Try.func38, Try.ntmps38
  go_wp2_with (go_at_call 22; refine (class_any _ _).mono ?_; rintro e w' ⟨rfl, rfl⟩)
  go_quiet ((go_at_call 24; exact Calls.quiet_of_same ((bytes_any _ _).mono fun _ _ ⟨h, e⟩ => ⟨h, e.symm⟩)))
  go_wp2
  refine bodyPost_ret (v := .tuple #[.agg #[.int .i64 0, .int .i64 0], .int .i64 5]) (by simp [results, Try.results38, go_sem]) rfl ?_
  refine hfin _ ?_
  repeat (first | exact Below.refl _ _ | refine Below.drew ?_ | refine Mem.dn ?_ _ | refine Mem.al ?_ _ | refine Below.setCell ?_ (by first | omega | (simp; omega) | simp) _)

/-- A new pair in the map of chunks. -/
theorem set_pairs (l : List (Int × Int)) (c : Int × Int) : Maps.set (pairs l) c (.bool true) = pairs (addIn l c) := by
  induction l with
  | nil => rfl
  | cons p l ih =>
    simp only [pairs, List.map_cons, Maps.set, addIn, List.mem_cons] at ih ⊢
    by_cases h : c = p
    · subst h; simp
    · rw [if_neg h, ih]
      by_cases hm : c ∈ l <;> simp [h, hm]

theorem AtW.addIn {w : World} {b : Nat} {F : Nat → Prop} {s : St} {mb : Nat} {gv : Nat → Value} (h : AtW w b F s mb gv) {o : Obj} {c : Int × Int} (hm : Maps.Is encC (w.putObj mb o) mb (Maps.set (pairs s.inn) c (.bool true))) :
    AtW (w.putObj mb o) b F { s with inn := Slab.addIn s.inn c } mb gv := by
  have hsame : ∀ j, j ≠ mb → (w.putObj mb o).heap[j]? = w.heap[j]? := fun j hj => World.putObj_heap_other hj
  exact ⟨(hsame _ (Ne.symm h.map_ne)).trans h.blk, by rw [set_pairs] at hm; exact hm, fun k hk => row_same (h.rows k hk) fun g e => hsame g (fun e' => h.row_map hk (e' ▸ e)), h.fb, h.fm, h.fr, h.apart, fun k hk => by rw [World.putObj_size]; exact h.lt k hk⟩

set_option maxRecDepth 100000 in
set_option maxHeartbeats 2000000 in
theorem take_ok {w : World} {b : Nat} {F : Nat → Prop} {s : St} (h : At w b F s) {N : Nat} (hs : Small N s) (hN : N ≤ 1099511627776) (size : Int) (h6 : classN size < 6) (hx : ¬ s.budget < s.used + bytesI (classN size)) :
    Calls Try.prog 38 #[.pointer (some ⟨b, 0, none⟩), .int .i64 size] w (TakePost w b F s size) := by
  obtain ⟨k, hk⟩ : ∃ k, classN size = k := ⟨_, rfl⟩
  obtain ⟨e1, er⟩ := classE_ok h6
  rw [hk] at er hx h6
  have hb := bytes_range (k : Nat)
  obtain ⟨hb0, hb1⟩ := hb
  have u0 := hs.u0
  have u1 : s.used ≤ 2251799813685248 := by have := hs.u1; omega
  have hbl : b < w.heap.size := by obtain ⟨_, _, h⟩ := h; exact h.lt _ h.fb
  have c0 : w.cell? ⟨b, 0, none⟩ = some (.int .i64 s.budget) := by obtain ⟨_, _, h⟩ := h; exact Mem.row_cell h.blk 0
  have c1 : w.cell? ⟨b, 1, none⟩ = some (.int .i64 s.used) := by obtain ⟨_, _, h⟩ := h; exact Mem.row_cell h.blk 1
  have w2 : IntKind.i64.wrap (s.used + bytesI k) = s.used + bytesI k := by rw [IntKind.wrap_i64]; omega
  have hx' : decide (s.budget < s.used + bytesI k) = false := by simpa using hx
  have HE := Lib.hid er
  have HE1 := Lib.hid e1
  have HK := Lib.hid hk
  have HX := Lib.hid hx
  clear er e1 hk hx
  go_enter Try.func38, Try.ntmps38
  go_wp2_with (go_at_call 22; refine (class_any _ _).mono ?_; rw [HE.out, HE1.out]; rintro e w' ⟨rfl, rfl⟩)
  go_quiet ((go_at_call 24; exact Calls.quiet_of_same ((bytes_any _ _).mono fun _ _ ⟨h, e⟩ => ⟨h, e.symm⟩)))
  go_wp2_with fail
  have hat := (h.below (Mem.al (Below.refl _ w) (.cells #[.int .i64 0, .int .i64 0] 76))).same (w' := (w.alloc (.cells #[.int .i64 0, .int .i64 0] 76)).drewN nq) (fun _ _ => rfl) (Nat.le_refl _)
  refine (number_any hat hs hN k h6).mono ?_
  have hn1 : (s.number k).2.used = s.used ∧ (s.number k).2.inn = s.inn ∧ (s.number k).2.budget = s.budget := by
    unfold St.number; split <;> exact ⟨rfl, rfl, rfl⟩
  obtain ⟨n, t, hnt⟩ : ∃ n t, s.number k = (n, t) := ⟨_, _, rfl⟩
  have ht : s.take size = ((((k : Int), n), 0), { t with used := s.used + bytesI k, inn := Slab.addIn s.inn (k, n) }) := by
    unfold St.take; rw [HK.out, if_neg (by omega), if_neg (by have := HX.out; omega), hnt]
  have hFl : ∀ k, F k → k < w.heap.size := by obtain ⟨_, _, h⟩ := h; exact h.lt
  unfold NumberPost
  rw [hnt] at hn1 ⊢
  rintro e w3 ⟨rfl, ⟨mb, gv, h3⟩, ho⟩
  obtain ⟨hn1, hn2, hn3⟩ := hn1
  simp only at hn1 hn2 hn3 h3 ⊢
  have hs3 : w.heap.size < w3.heap.size := by have := ho.size; simp at this; omega
  have hR : w3.heap[w.heap.size]? = some (.cells #[.int .i64 0, .int .i64 0] 76 (0, 0)) := (ho.same _ (by simp) (fun e => by have := hFl _ e; omega)).trans (Mem.new_block w _)
  have hC := Mem.new_block w3 (.cells #[.int .i64 k, .int .i64 n] 76)
  have c1' : w3.cell? ⟨b, 1, none⟩ = some (.int .i64 s.used) := by rw [← hn1]; exact Mem.row_cell h3.blk 1
  have f1' := Mem.row_free h3.blk 1
  have c2' : w3.cell? ⟨b, 2, none⟩ = some (.map (some mb)) := Mem.row_cell h3.blk 2
  have hb3 : b < w3.heap.size := h3.lt _ h3.fb
  have hm3 : mb < w3.heap.size := h3.lt _ h3.fm
  -- the world behind the store of used, then of the chunk
  have h4 : AtW ((w3.alloc (.cells #[.int .i64 k, .int .i64 n] 76)).setCell ⟨b, 1, none⟩ (.int .i64 (s.used + bytesI k))) b F { t with used := s.used + bytesI k } mb gv := by
    refine AtW.setOwn (s := t) ?_ 1 _ (cells_set_used _) rfl rfl
    have hsm : ∀ j, j < w3.heap.size → (w3.alloc (.cells #[.int .i64 k, .int .i64 n] 76)).heap[j]? = w3.heap[j]? := fun j hj => Below.heap_alloc _ _ _ hj
    exact ⟨(hsm _ hb3).trans h3.blk, h3.map.same (hsm _ hm3), fun j hj => row_same (h3.rows j hj) fun g e => hsm g (h3.lt _ (h3.fr j hj g e)), h3.fb, h3.fm, h3.fr, h3.apart, fun j hj => by have := h3.lt j hj; simp; omega⟩
  obtain ⟨o, hmu, hIs⟩ := Maps.run_update (w := ((w3.alloc (.cells #[.int .i64 k, .int .i64 n] 76)).setCell ⟨b, 1, none⟩ (.int .i64 (s.used + bytesI k))).drew.drew) chunkLaw Try.underlying93 (h4.map.same rfl) ((k : Int), n) (.bool true)
  have h5 := AtW.addIn (w := ((w3.alloc (.cells #[.int .i64 k, .int .i64 n] 76)).setCell ⟨b, 1, none⟩ (.int .i64 (s.used + bytesI k))).drew.drew) ⟨h4.blk, h4.map, h4.rows, h4.fb, h4.fm, h4.fr, h4.apart, h4.lt⟩ hIs
  have hO : Only F w (((w3.alloc (.cells #[.int .i64 k, .int .i64 n] 76)).setCell ⟨b, 1, none⟩ (.int .i64 (s.used + bytesI k))).drew.drew.putObj mb o) := by
    refine Only.putObj (Only.drew (Only.drew (Only.setCell (Only.alloc ?_ _) (.inl h3.fb) _))) (.inl h3.fm) _
    exact Only.trans (F' := F) (y := (w.alloc (.cells #[.int .i64 0, .int .i64 0] 76)).drewN nq) (Only.drewN (Only.alloc (Only.refl F w) _) nq) ho (Grows.refl _ _)
  have hne1 : w.heap.size ≠ b := by omega
  have hne2 : w.heap.size ≠ mb := by have := hFl _ h3.fm; omega
  have hR9 : (((w3.alloc (.cells #[.int .i64 k, .int .i64 n] 76)).setCell ⟨b, 1, none⟩ (.int .i64 (s.used + bytesI k))).drew.drew.putObj mb o).heap[w.heap.size]? = some (.cells #[.int .i64 0, .int .i64 0] 76 (0, 0)) :=
    (World.putObj_heap_other hne2).trans ((Below.heap_setCell _ _ _ _ hne1).trans ((Below.heap_alloc _ _ _ hs3).trans hR))
  have hC9 : (((w3.alloc (.cells #[.int .i64 k, .int .i64 n] 76)).setCell ⟨b, 1, none⟩ (.int .i64 (s.used + bytesI k))).drew.drew.putObj mb o).heap[w3.heap.size]? = some (.cells #[.int .i64 k, .int .i64 n] 76 (0, 0)) :=
    (World.putObj_heap_other (by omega)).trans ((Below.heap_setCell _ _ _ _ (by simp; omega)).trans hC)
  generalize ((w3.alloc (.cells #[.int .i64 k, .int .i64 n] 76)).setCell ⟨b, 1, none⟩ (.int .i64 (s.used + bytesI k))).drew.drew.putObj mb o = W9 at *
  clear hs hat hnt hIs h4 h h3 ho hC hR
  have hmu' : ∀ _ : True, (Instr.mapUpdate 93 (.map (some mb)) (.agg #[.int .i64 k, .int .i64 n]) (.bool true)).run Try.prog
      (((w3.alloc (.cells #[.int .i64 k, .int .i64 n] 76)).setCell ⟨b, 1, none⟩ (.int .i64 (s.used + bytesI k))).drew.drew) = .ok () W9 := fun _ => hmu
  rw [hn2] at h5
  have q0 := Mem.row_cell hR9 0
  have q1 := Mem.row_cell hR9 1
  have q2 := Mem.row_free hR9 0
  have q3 := Mem.row_free hR9 1
  have p0 := Mem.row_cell hC9 0
  have p1 := Mem.row_cell hC9 1
  simp only [List.getElem?_toArray, List.getElem?_cons_zero, List.getElem?_cons_succ] at q0 q1 p0 p1
  have H5 := Lib.hid h5
  have HO := Lib.hid hO
  have HT := Lib.hid ht
  have HR := Lib.hid hR9
  have HS := Lib.hid hs3
  clear hmu h5 hO ht hR9 hC9 hn1 hn2 hn3 HK HX HE HE1 hx'
  go_wp2
  have k1 : (w3.alloc (.cells #[.int .i64 k, .int .i64 n] 76)).cell? ⟨b, 1, none⟩ = some (.int .i64 s.used) := (World.cell?_alloc_lt _ _ _ hb3).trans c1'
  have k2 : (w3.alloc (.cells #[.int .i64 k, .int .i64 n] 76)).frozen? ⟨b, 1, none⟩ = false := (World.frozen?_of_block (Below.heap_alloc _ _ _ hb3)).trans f1'
  have k3 : ((w3.alloc (.cells #[.int .i64 k, .int .i64 n] 76)).setCell ⟨b, 1, none⟩ (.int .i64 (s.used + bytesI k))).cell? ⟨b, 2, none⟩ = some (.map (some mb)) := by
    rw [World.cell?_setCell_other _ _ _ _ (by simp)]; exact (World.cell?_alloc_lt _ _ _ hb3).trans c2'
  have k4 : ((w3.alloc (.cells #[.int .i64 k, .int .i64 n] 76)).setCell ⟨b, 1, none⟩ (.int .i64 (s.used + bytesI k))).heap[w3.heap.size]? = some (.cells #[.int .i64 k, .int .i64 n] 76 (0, 0)) :=
    (Below.heap_setCell _ _ _ _ (by simp; omega)).trans (Mem.new_block w3 _)
  have k5 := Mem.row_cell k4 0
  have k6 := Mem.row_cell k4 1
  simp only [List.getElem?_toArray, List.getElem?_cons_zero, List.getElem?_cons_succ] at k5 k6
  clear k4
  generalize w3.alloc (.cells #[.int .i64 k, .int .i64 n] 76) = Wa at *
  refine wp_region_still_tail 9 (by kernel_rfl) (by kernel_rfl) ?_
  simp only [List.take_succ_cons, List.take_zero, List.drop_succ_cons, List.drop_zero]
  repeat (first | still_step | still_call ((bytes_any _ _).mono fun _ _ ⟨h, e⟩ => ⟨h, e.symm⟩))
  refine wpStill_nil ?_
  change wpList _ _ _ _ _ Wa.drew
  go_wp2
  replace k3 : (Wa.setCell ⟨b, 1, none⟩ (.int .i64 (s.used + bytesI k))).drew.cell? ⟨b, 2, none⟩ = _ := k3
  replace k5 : (Wa.setCell ⟨b, 1, none⟩ (.int .i64 (s.used + bytesI k))).drew.cell? ⟨w3.heap.size, 0, none⟩ = _ := k5
  replace k6 : (Wa.setCell ⟨b, 1, none⟩ (.int .i64 (s.used + bytesI k))).drew.cell? ⟨w3.heap.size, 1, none⟩ = _ := k6
  generalize (Wa.setCell ⟨b, 1, none⟩ (.int .i64 (s.used + bytesI k))).drew = Wb at *
  refine wp_region_still_tail 5 (by kernel_rfl) (by kernel_rfl) ?_
  simp only [List.take_succ_cons, List.take_zero, List.drop_succ_cons, List.drop_zero]
  repeat still_step
  refine wpStill_nil ?_
  change wpList _ _ _ _ _ Wb.drew
  go_wp2
  have r1 : ((W9.setCell ⟨w.heap.size, 0, none⟩ (.int .i64 k)).setCell ⟨w.heap.size, 1, none⟩ (.int .i64 n)).cell? ⟨w.heap.size, 1, none⟩ = some (.int .i64 n) :=
    World.cell?_setCell_same' _ _ _ (by rw [World.cell?_setCell_other _ _ _ _ (by simp), q1]; rfl)
  have r0 : ((W9.setCell ⟨w.heap.size, 0, none⟩ (.int .i64 k)).setCell ⟨w.heap.size, 1, none⟩ (.int .i64 n)).cell? ⟨w.heap.size, 0, none⟩ = some (.int .i64 k) := by
    rw [World.cell?_setCell_other _ _ _ _ (by simp)]; exact World.cell?_setCell_same' _ _ _ (by rw [q0]; rfl)
  refine bodyPost_ret (v := .tuple #[.agg #[.int .i64 k, .int .i64 n], .int .i64 0]) (by simp [results, Try.results38, go_sem, r0, r1]) rfl ?_
  unfold TakePost
  rw [HT.out]
  have hsm : ∀ j, F j → ((W9.setCell ⟨w.heap.size, 0, none⟩ (.int .i64 k)).setCell ⟨w.heap.size, 1, none⟩ (.int .i64 n)).heap[j]? = W9.heap[j]? := fun j hj => by
    have := hFl j hj
    rw [Below.heap_setCell _ _ _ _ (by simp; omega), Below.heap_setCell _ _ _ _ (by simp; omega)]
  exact ⟨F, rfl, At.same (w := W9) ⟨mb, gv, H5.out⟩ hsm (by simp [World.setCell]), (HO.out.setCell (.inr (Nat.le_refl _)) _).setCell (.inr (Nat.le_refl _)) _, Grows.refl _ _⟩

theorem take_any {w : World} {b : Nat} {F : Nat → Prop} {s : St} (h : At w b F s) {N : Nat} (hs : Small N s) (hN : N ≤ 1099511627776) (size : Int) :
    Calls Try.prog 38 #[.pointer (some ⟨b, 0, none⟩), .int .i64 size] w (TakePost w b F s size) := by
  by_cases h6 : classN size = 6
  · exact take_long h size h6
  have := class_six size
  by_cases hx : s.budget < s.used + bytesI (classN size)
  · exact take_full h hs hN size (by omega) hx
  · exact take_ok h hs hN size (by omega) hx
end Go.Proofs.Ytkchlibkfafgdaa.Slab

/- The walk of the slab's Free. -/
namespace Go.Proofs.Ytkchlibkfafgdaa.Slab
open Go Go.RowKit Go.Proofs.Ytkchlibkfafgdaa.Mem

def FreePost (w : World) (b : Nat) (F : Nat → Prop) (s : St) (c : Int × Int) (e : Ending) (w' : World) : Prop :=
  ∃ F', e = .returned (.int .i64 (s.free c).1) ∧ At w' b F' (s.free c).2 ∧ Only F w w' ∧ Grows w F F'

set_option maxRecDepth 100000 in
set_option maxHeartbeats 1000000 in
theorem free_no {w : World} {b : Nat} {F : Nat → Prop} {s : St} (h : At w b F s) (c n : Int) (hc : (c, n) ∉ s.inn) :
    Calls Try.prog 34 #[.pointer (some ⟨b, 0, none⟩), .agg #[.int .i64 c, .int .i64 n]] w (FreePost w b F s (c, n)) := by
  have hfin : ∀ w', Below w.heap.size w w' → FreePost w b F s (c, n) (.returned (.int .i64 1)) w' := fun w' hb => by
    have ht : s.free (c, n) = (1, s) := by unfold St.free; rw [if_neg hc]
    unfold FreePost; rw [ht]
    have hl : ∀ k, F k → k < w.heap.size := by obtain ⟨_, _, h⟩ := h; exact h.lt
    exact ⟨F, rfl, h.below hb, Only.of_below hb (fun k h1 h2 => by omega), Grows.refl _ _⟩
  obtain ⟨mb, gv, h⟩ := h
  have c2 : w.cell? ⟨b, 2, none⟩ = some (.map (some mb)) := Mem.row_cell h.blk 2
  have hb : b < w.heap.size := h.lt _ h.fb
  have hml := h.map.lt
  have hlk : ∀ m, (Instr.lookup 93 (.map (some mb)) (.agg #[.int .i64 c, .int .i64 n]) false).run Try.prog ((w.alloc (.cells #[.int .i64 c, .int .i64 n] 76)).drewN m) = .ok (.bool false) ((w.alloc (.cells #[.int .i64 c, .int .i64 n] 76)).drewN m) := fun m => by
    have := lookup_pairs (w := (w.alloc (.cells #[.int .i64 c, .int .i64 n] 76)).drewN m) (h.map.same (by show (w.alloc _).heap[mb]? = _; exact Below.heap_alloc _ _ _ hml)) c n
    simpa [hc] using this
  clear h hc
  go_enter Try.func34, Try.ntmps34
  go_wp2
  go_quiet (fail)
  go_wp2
  go_ret
  exact hfin _ (Mem.dn (Mem.al (Below.refl _ _) _) _)

theorem del_pairs (l : List (Int × Int)) (c : Int × Int) : Maps.del (pairs l) c = pairs (l.erase c) := by
  induction l with
  | nil => rfl
  | cons p l ih =>
    simp only [pairs, List.map_cons, Maps.del, List.erase_cons] at ih ⊢
    by_cases h : c = p
    · subst h; simp
    · rw [if_neg h, ih]
      have : (p == c) = false := by simpa using Ne.symm h
      simp [this]
theorem AtW.delIn {w : World} {b : Nat} {F : Nat → Prop} {s : St} {mb : Nat} {gv : Nat → Value} (h : AtW w b F s mb gv) {o : Obj} {c : Int × Int} (hm : Maps.Is encC (w.putObj mb o) mb (Maps.del (pairs s.inn) c)) :
    AtW (w.putObj mb o) b F { s with inn := s.inn.erase c } mb gv := by
  have hsame : ∀ j, j ≠ mb → (w.putObj mb o).heap[j]? = w.heap[j]? := fun j hj => World.putObj_heap_other hj
  exact ⟨(hsame _ (Ne.symm h.map_ne)).trans h.blk, by rw [del_pairs] at hm; exact hm, fun k hk => row_same (h.rows k hk) fun g e => hsame g (fun e' => h.row_map hk (e' ▸ e)), h.fb, h.fm, h.fr, h.apart, fun k hk => by rw [World.putObj_size]; exact h.lt k hk⟩

theorem infoInt : (Try.prog.info? 3).map (fun i => (i.zero, i.size, i.bytes)) = some (some (.int .i64 0), 1, 8) := by kernel_rfl

/-- A number behind the freed ones of a class. -/
theorem AtW.pushGone {w w1 : World} {b : Nat} {F : Nat → Prop} {s : St} {mb : Nat} {gv : Nat → Value} (h : AtW w b F s mb gv) {k : Nat} (hk : k < 6) {o : Obj} {g cap : Nat} {n : Int}
    (hown : w1.ownsRow 0 3 1 (.slice (some ⟨g, 0, none⟩) ((s.gone k).length + 1) cap) ((s.gone k).length + 1) ((s.gone k).map (Value.int .i64) ++ [.int .i64 n]))
    (hgrow : (w.alloc o).drew.grownBy w1 (gv k).ownBlock) (hat : (gv k).ownBlock = some g ∨ g = w.heap.size + 1) (hlt : g < w1.heap.size) :
    AtW (w1.setCell ⟨b, 3 + k, none⟩ (.slice (some ⟨g, 0, none⟩) ((s.gone k).length + 1) cap)) b (fun j => F j ∨ j = g) { s with gone := put s.gone k (s.gone k ++ [n]) } mb (put gv k (.slice (some ⟨g, 0, none⟩) ((s.gone k).length + 1) cap)) := by
  have hgb : g ≠ b := fun e => hat.elim (fun e1 => h.row_ne hk (e ▸ e1)) (fun e1 => by have := h.lt _ h.fb; omega)
  have hgm : g ≠ mb := fun e => hat.elim (fun e1 => h.row_map hk (e ▸ e1)) (fun e1 => by have := h.lt _ h.fm; omega)
  have hsz : w.heap.size + 1 ≤ w1.heap.size := by have := hgrow.size; simpa using this
  have hsame : ∀ j, F j → (gv k).ownBlock ≠ some j → w1.heap[j]? = w.heap[j]? := fun j hj hne => by
    have hl := h.lt j hj
    exact (hgrow.block j (by simp; omega) (Ne.symm hne)).trans (Below.heap_alloc w o j hl)
  have hset : ∀ j, j ≠ b → ∀ v, (w1.setCell ⟨b, 3 + k, none⟩ v).heap[j]? = w1.heap[j]? := fun j hj v => Below.heap_setCell _ _ _ _ hj
  have hgj : ∀ j, j < 6 → j ≠ k → ∀ g', (gv j).ownBlock = some g' → g' ≠ g := fun j hj hjk g' e e1 => by
    subst e1
    exact hat.elim (fun e2 => h.apart j k hj hk hjk g' e e2) (fun e2 => by have := h.lt _ (h.fr j hj g' e); omega)
  refine ⟨?_, h.map.same ((hset _ h.map_ne _).trans (hsame _ h.fm (h.row_map hk))), fun j hj => ?_, .inl h.fb, .inl h.fm, fun j hj g' e => ?_, fun i j hi hj hij g' e e' => ?_, fun j hj => ?_⟩
  · have := Mem.row_set ((hsame _ h.fb (h.row_ne hk)).trans h.blk) (3 + k) (.slice (some ⟨g, 0, none⟩) ((s.gone k).length + 1) cap)
    rwa [cells_set_gone k hk _ (s.gone k ++ [n])] at this
  · by_cases hjk : j = k
    · subst hjk
      simp only [put_same]
      have : w1.ownsRow 0 3 1 (.slice (some ⟨g, 0, none⟩) ((s.gone j).length + 1) cap) (s.gone j ++ [n]).length ((s.gone j ++ [n]).map (Value.int .i64)) := by simpa using hown
      exact row_same this fun g' e => hset _ (fun e' => hgb (by simp [Value.ownBlock] at e; omega)) _
    · simp only [put_other _ _ hjk]
      exact row_same (h.rows j hj) fun g' e => (hset _ (fun e' => h.row_ne hj (e' ▸ e)) _).trans (hsame _ (h.fr j hj g' e) (fun e2 => h.apart j k hj hk hjk g' e e2))
  · by_cases hjk : j = k
    · subst hjk
      simp only [put_same] at e
      exact .inr (by simp [Value.ownBlock] at e; exact e.symm)
    · simp only [put_other _ _ hjk] at e
      exact .inl (h.fr j hj g' e)
  · by_cases hik : i = k
    · subst hik
      have hji := Ne.symm hij
      simp only [put_same, put_other _ _ hji] at e e'
      exact hgj j hj hji g' e' (by simp [Value.ownBlock] at e; exact e.symm)
    · by_cases hjk : j = k
      · subst hjk
        simp only [put_same, put_other _ _ hij] at e e'
        exact hgj i hi hij g' e (by simp [Value.ownBlock] at e'; exact e'.symm)
      · simp only [put_other _ _ hik, put_other _ _ hjk] at e e'
        exact h.apart i j hi hj hij g' e e'
  · rw [show (w1.setCell ⟨b, 3 + k, none⟩ (.slice (some ⟨g, 0, none⟩) ((s.gone k).length + 1) cap)).heap.size = w1.heap.size from by simp [World.setCell]]
    exact hj.elim (fun e => by have := h.lt j e; omega) (fun e => e ▸ hlt)

set_option maxRecDepth 100000 in
set_option maxHeartbeats 2000000 in
theorem free_yes {w : World} {b : Nat} {F : Nat → Prop} {s : St} (h : At w b F s) {N : Nat} (hs : Small N s) (hN : N ≤ 1099511627776) (k : Nat) (n : Int) (hk : k < 6) (hc : ((k : Int), n) ∈ s.inn) :
    Calls Try.prog 34 #[.pointer (some ⟨b, 0, none⟩), .agg #[.int .i64 k, .int .i64 n]] w (FreePost w b F s (k, n)) := by
  obtain ⟨mb, gv, h⟩ := h
  obtain ⟨i0, hi, hz0, hz1, hz2⟩ := info_parts infoInt
  have hb : b < w.heap.size := h.lt _ h.fb
  have hml := h.map.lt
  have hFl : ∀ k, F k → k < w.heap.size := h.lt
  -- behind the box of c
  have h1 : AtW (w.alloc (.cells #[.int .i64 k, .int .i64 n] 76)) b F s mb gv := by
    have hsm : ∀ j, j < w.heap.size → (w.alloc (.cells #[.int .i64 k, .int .i64 n] 76)).heap[j]? = w.heap[j]? := fun j hj => Below.heap_alloc _ _ _ hj
    exact ⟨(hsm _ hb).trans h.blk, h.map.same (hsm _ hml), fun j hj => row_same (h.rows j hj) fun g e => hsm g (h.lt _ (h.fr j hj g e)), h.fb, h.fm, h.fr, h.apart, fun j hj => by have := h.lt j hj; simp; omega⟩
  have c2 : w.cell? ⟨b, 2, none⟩ = some (.map (some mb)) := Mem.row_cell h.blk 2
  have hlk : ∀ m, (Instr.lookup 93 (.map (some mb)) (.agg #[.int .i64 k, .int .i64 n]) false).run Try.prog ((w.alloc (.cells #[.int .i64 k, .int .i64 n] 76)).drewN m) = .ok (.bool true) ((w.alloc (.cells #[.int .i64 k, .int .i64 n] 76)).drewN m) := fun m => by
    have := lookup_pairs (w := (w.alloc (.cells #[.int .i64 k, .int .i64 n] 76)).drewN m) (h.map.same (by show (w.alloc _).heap[mb]? = _; exact Below.heap_alloc _ _ _ hml)) k n
    simpa [hc] using this
  have H1 := Lib.hid h1
  have HC := Lib.hid hc
  clear h h1 hc
  go_enter Try.func34, Try.ntmps34
  go_wp2
  go_quiet (fail)
  go_wp2
  have ha : AtW ((w.alloc (.cells #[.int .i64 k, .int .i64 n] 76)).drewN nq) b F s mb gv := ⟨H1.out.blk, H1.out.map, H1.out.rows, H1.out.fb, H1.out.fm, H1.out.fr, H1.out.apart, H1.out.lt⟩
  have hR : ((w.alloc (.cells #[.int .i64 k, .int .i64 n] 76)).drewN nq).heap[w.heap.size]? = some (.cells #[.int .i64 k, .int .i64 n] 76 (0, 0)) := Mem.new_block w _
  have hO : Only F w ((w.alloc (.cells #[.int .i64 k, .int .i64 n] 76)).drewN nq) := Only.drewN (Only.alloc (Only.refl F w) _) nq
  have hsz : ((w.alloc (.cells #[.int .i64 k, .int .i64 n] 76)).drewN nq).heap.size = w.heap.size + 1 := by show (w.alloc _).heap.size = _; simp
  clear hlk H1
  generalize (w.alloc (.cells #[.int .i64 k, .int .i64 n] 76)).drewN nq = Wa at *
  obtain ⟨o, hdel, hIs⟩ := Maps.run_delete (w := Wa.drew) chunkLaw Try.underlying93 (ha.map.same rfl) ((k : Int), n) 0 76
  have hb4 := AtW.delIn (w := Wa.drew) ⟨ha.blk, ha.map, ha.rows, ha.fb, ha.fm, ha.fr, ha.apart, ha.lt⟩ hIs
  have hR4 : (Wa.drew.putObj mb o).heap[w.heap.size]? = some (.cells #[.int .i64 k, .int .i64 n] 76 (0, 0)) := (World.putObj_heap_other (by have := hFl _ ha.fm; omega)).trans hR
  have hO4 : Only F w (Wa.drew.putObj mb o) := hO.drew.putObj (.inl ha.fm) o
  have hsz4 : (Wa.drew.putObj mb o).heap.size = w.heap.size + 1 := by rw [World.putObj_size]; exact hsz
  have d2 : Wa.cell? ⟨b, 2, none⟩ = some (.map (some mb)) := Mem.row_cell ha.blk 2
  have d0 := Mem.row_cell hR 0
  have d1 := Mem.row_cell hR 1
  simp only [List.getElem?_toArray, List.getElem?_cons_zero, List.getElem?_cons_succ] at d0 d1
  generalize Wa.drew.putObj mb o = Wb at *
  have hdel' : ∀ _ : True, (Builtin.delete_ #[93, 76] 0 #[.map (some mb), .agg #[.int .i64 k, .int .i64 n]]).run Try.prog Wa.drew = .ok (.tuple #[]) Wb := fun _ => hdel
  have HA := Lib.hid hb4
  have HR := Lib.hid hR4
  have HO := Lib.hid hO4
  have HZ := Lib.hid hsz4
  clear hdel hIs ha hR hO hsz hb4 hR4 hO4 hsz4
  refine wp_region_still_tail 5 (by kernel_rfl) (by kernel_rfl) ?_
  simp only [List.take_succ_cons, List.take_zero, List.drop_succ_cons, List.drop_zero]
  repeat still_step
  refine wpStill_nil ?_
  change wpList _ _ _ _ _ Wa.drew
  go_wp2
  have hb4 := HA.out
  have ck : Wb.cell? ⟨b, 3 + k, none⟩ = some (gv k) := (Mem.row_cell hb4.blk (3 + k)).trans (cells_gone k hk)
  have fk := Mem.row_free hb4.blk (3 + k)
  have d0' := Mem.row_cell HR.out 0
  have d1' := Mem.row_cell HR.out 1
  simp only [List.getElem?_toArray, List.getElem?_cons_zero, List.getElem?_cons_succ] at d0' d1'
  have hrow := hb4.rows k hk
  have hk0 : (0 : Int) ≤ k := by omega
  have hk6 : (k : Int) < 6 := by omega
  clear hb4 d2 d0 d1 hdel'
  have hRn := HR.out
  have hW0 : 0 < Wb.heap.size := by have := HZ.out; omega
  have hne : (gv k).ownBlock ≠ some b := HA.out.row_ne hk
  have hneR : (gv k).ownBlock ≠ some w.heap.size := fun e => by have := hFl _ (HA.out.fr k hk _ e); omega
  have hlb : b < Wb.heap.size := by have := HZ.out; omega
  have hlR : w.heap.size < Wb.heap.size := by have := HZ.out; omega
  have hlen : (s.gone k).length ≤ 1099511627776 := Nat.le_trans (hs.g k) hN
  obtain ⟨v0, hv0⟩ : ∃ v0, gv k = v0 := ⟨_, rfl⟩
  obtain ⟨L, hL⟩ : ∃ L, (s.gone k).length = L := ⟨_, rfl⟩
  obtain ⟨X, hX⟩ : ∃ X, (s.gone k).map (Value.int .i64) = X := ⟨_, rfl⟩
  simp only [hv0, hL, hX] at ck hrow hne hneR hlen
  have HV := Lib.hid hv0
  have HL := Lib.hid hL
  have HX := Lib.hid hX
  clear hv0 hL hX
  have hmx : L + 1 ≤ maxLen := by unfold maxLen; omega
  have hby : (L + 1) * 8 ≤ 140737488355328 := by omega
  have hstep : ∀ {ops : Array Oper} {o : Oper} {a : Act} {K : Act → World → Prop} {Q : Exit → Act → World → Prop} {E : Prop}, o.guard = none → o.op = .call { callee := .builtin .append, args := #[.tmp 26, .tmp 29], argTypes := #[94, 94] } → a.eval (.tmp 26) = v0 → a.eval (.tmp 29) = .slice (some ⟨Wb.heap.size, 0, none⟩) 1 1 → (∀ g cap w', w'.ownsRow 0 3 1 (.slice (some ⟨g, 0, none⟩) (L + 1) cap) (L + 1) (X ++ [.int .i64 n]) → (Wb.alloc (.cells #[.int .i64 n] 3)).drew.grownBy w' v0.ownBlock → (v0.ownBlock = some g ∨ g = Wb.heap.size + 1) → g < w'.heap.size → K (a.put o.dst (.slice (some ⟨g, 0, none⟩) (L + 1) cap)) w') → if Region.wanted o (yielded ops a.tmps) = true then Oper.wp Try.prog o a (Wb.alloc (.cells #[.int .i64 n] 3)).drew K Q else E := fun hg ho he hx hK => step_append_lies _ hg _ _ _ ho 0 3 i0 _ 1 8 Try.underlying94 hi hz0 hz1 hz2 rfl (by omega) v0 L X he ((hrow.alloc _).drew) ⟨Wb.heap.size, 0, none⟩ 1 1 [.int .i64 n] hx rfl (World.news_of_block (cs := #[.int .i64 n]) (t := 3) (fr := (0, 0)) (heap_alloc_new Wb _)) (by simp [Value.oneCell']) (by decide) hmx hby (Nat.zero_le _) (Wb.heap.size + 1) (by simp) hK
  have hsl : b < (Wb.alloc (.cells #[.int .i64 n] 3)).drew.heap.size := by simp; omega
  have hsR : w.heap.size < (Wb.alloc (.cells #[.int .i64 n] 3)).drew.heap.size := by simp; omega
  have hblk : ∀ w1 : World, (Wb.alloc (.cells #[.int .i64 n] 3)).drew.grownBy w1 v0.ownBlock → w1.heap[b]? = Wb.heap[b]? ∧ w1.heap[w.heap.size]? = Wb.heap[w.heap.size]? := fun w1 hg => by
    constructor
    · exact (hg.block b hsl (Ne.symm hne)).trans (Below.heap_alloc Wb _ _ hlb)
    · exact (hg.block _ hsR (Ne.symm hneR)).trans (Below.heap_alloc Wb _ _ hlR)
  have hfarb : ∀ w1 : World, (Wb.alloc (.cells #[.int .i64 n] 3)).drew.grownBy w1 v0.ownBlock → w1.cell? ⟨b, 3 + k, none⟩ = some v0 ∧ w1.frozen? ⟨b, 3 + k, none⟩ = false ∧ w1.cell? ⟨w.heap.size, 0, none⟩ = some (.int .i64 k) ∧ w1.cell? ⟨w.heap.size, 1, none⟩ = some (.int .i64 n) := fun w1 hg => by
    obtain ⟨e1, e2⟩ := hblk w1 hg
    exact ⟨(World.cell?_of_block e1).trans ck, (World.frozen?_of_block e1).trans fk, (World.cell?_of_block e2).trans d0', (World.cell?_of_block e2).trans d1'⟩
  go_cut [] from 17 to 33 (fun wx => ∃ g cap w1, w1.ownsRow 0 3 1 (.slice (some ⟨g, 0, none⟩) (L + 1) cap) (L + 1) (X ++ [.int .i64 n]) ∧ (Wb.alloc (.cells #[.int .i64 n] 3)).drew.grownBy w1 v0.ownBlock ∧ (v0.ownBlock = some g ∨ g = Wb.heap.size + 1) ∧ g < w1.heap.size ∧ wx = w1.setCell ⟨b, 3 + k, none⟩ (.slice (some ⟨g, 0, none⟩) (L + 1) cap))
  case first =>
    go_region_law (refine hstep (by rfl) (by rfl) (by rfl) (by rfl) ?_; intro gg cap w1 hown1 hgrow hat hlt; have cw1 := (hfarb w1 hgrow).1; have fw1 := (hfarb w1 hgrow).2.1; have ew1 := (hfarb w1 hgrow).2.2.1; have gw1 := (hfarb w1 hgrow).2.2.2)
    all_goals (go_wp2_with fail; go_meet; exact ⟨_, _, _, hown1, hgrow, hat, hlt, rfl⟩)
  case rest =>
    obtain ⟨g, cap, w1, hown1, hgrow, hat, hlt, rfl⟩ := hcut
    have hv0 := HV.out
    have hL := HL.out
    have hX := HX.out
    subst hL hX hv0
    have h5 := HA.out.pushGone hk hown1 hgrow hat hlt
    have hO5 : Only F w (w1.setCell ⟨b, 3 + k, none⟩ (.slice (some ⟨g, 0, none⟩) ((s.gone k).length + 1) cap)) :=
      ((((HO.out.alloc _).drew.grown hgrow fun g' e => .inl (HA.out.fr k hk g' e)).setCell (.inl HA.out.fb) _))
    have hFg : F g ∨ w.heap.size ≤ g := hat.elim (fun e => .inl (HA.out.fr k hk g e)) (fun e => .inr (by have := HZ.out; omega))
    have hR5 : (w1.setCell ⟨b, 3 + k, none⟩ (.slice (some ⟨g, 0, none⟩) ((s.gone k).length + 1) cap)).heap[w.heap.size]? = some (.cells #[.int .i64 k, .int .i64 n] 76 (0, 0)) :=
      (Below.heap_setCell _ _ _ _ (by simp; omega)).trans ((hblk w1 hgrow).2.trans HR.out)
    have hu0 := hs.u0
    have hu1 : s.used ≤ 2251799813685248 := by have := hs.u1; omega
    clear hown1 hgrow hat hlt hstep hfarb hblk hrow ck fk d0' d1' hRn hne hneR
    generalize w1.setCell ⟨b, 3 + k, none⟩ (.slice (some ⟨g, 0, none⟩) ((s.gone k).length + 1) cap) = Wc at *
    have e1 := Mem.row_cell h5.blk 1
    have e2 := Mem.row_free h5.blk 1
    have e3 := Mem.row_cell hR5 0
    simp only [List.getElem?_toArray, List.getElem?_cons_zero] at e3
    replace e1 : Wc.cell? ⟨b, 1, none⟩ = some (.int .i64 s.used) := e1
    obtain ⟨hb0, hb1⟩ := bytes_range (k : Int)
    have hw2 : IntKind.i64.wrap (s.used - bytesI k) = s.used - bytesI k := by rw [IntKind.wrap_i64]; omega
    have H5 := Lib.hid h5
    have HO5 := Lib.hid hO5
    have HF := Lib.hid hFg
    clear h5 hO5 hFg hs hR5
    go_wp2
    refine wp_region_still_tail 10 (by kernel_rfl) (by kernel_rfl) ?_
    simp only [List.take_succ_cons, List.take_zero, List.drop_succ_cons, List.drop_zero]
    repeat (first | still_step | still_call ((bytes_any _ _).mono fun _ _ ⟨h, e⟩ => ⟨h, e.symm⟩))
    refine wpStill_nil ?_
    change wpList _ _ _ _ _ Wc.drew
    go_wp2
    go_ret
    have ht : s.free ((k : Int), n) = (0, { s with inn := s.inn.erase ((k : Int), n), gone := put s.gone k (s.gone k ++ [n]), used := s.used - bytesI k }) := by
      unfold St.free; rw [if_pos HC.out]; rfl
    unfold FreePost
    rw [ht]
    have h6 := AtW.setOwn H5.out 1 _ (cells_set_used (s.used - bytesI k)) rfl rfl
    refine ⟨fun j => F j ∨ j = g, rfl, At.same (w := Wc.setCell ⟨b, 1, none⟩ (.int .i64 (s.used - bytesI k))) ⟨mb, _, h6⟩ (fun _ _ => rfl) (Nat.le_refl _), (HO5.out.setCell (.inl HA.out.fb) _).drew, fun j hj => hj.elim .inl (fun e => ?_)⟩
    subst e
    exact HF.out

theorem free_any {w : World} {b : Nat} {F : Nat → Prop} {s : St} (h : At w b F s) {N : Nat} (hs : Small N s) (hN : N ≤ 1099511627776) (c n : Int) :
    Calls Try.prog 34 #[.pointer (some ⟨b, 0, none⟩), .agg #[.int .i64 c, .int .i64 n]] w (FreePost w b F s (c, n)) := by
  by_cases hc : (c, n) ∈ s.inn
  · have h6 := hs.cls _ hc
    simp only at h6
    obtain ⟨k, rfl⟩ : ∃ k : Nat, c = k := ⟨c.toNat, by omega⟩
    exact free_yes h hs hN k n (by omega) hc
  · exact free_no h c n hc
end Go.Proofs.Ytkchlibkfafgdaa.Slab

/- Layer 11: Remove. -/
namespace Go.Proofs.Ytkchlibkfafgdaa.Shard
open Go Go.RowKit Go.Proofs.Ytkchlibkfafgdaa.Mem Go.Proofs.Ytkchlibkfafgdaa.App

theorem slab_lt {w : World} {b : Nat} {F : Nat → Prop} {s : Slab.St} (h : Slab.At w b F s) : ∀ k, F k → k < w.heap.size := by obtain ⟨_, _, h⟩ := h; exact h.lt
section
variable {W w : World} {n N b : Nat} {col : Col} {seed : Int} {s : St}
set_option maxRecDepth 100000 in
set_option maxHeartbeats 2000000 in
theorem remove_any (h : At W w n b col seed s) (k : ByteArray) (hk : k.size ≤ maxLen) (hl : s.order.all.length ≤ 1000000000) (hsm : Slab.Small N s.slab) (hN : N ≤ 1099511627776) :
    Calls Try.prog 21 #[.pointer (some ⟨b, 0, none⟩), .string k] w fun e w' => e = .returned (.bool (s.remove k).1) ∧ Turn W w n b col seed (s.remove k).2 w' := by
  obtain ⟨ad, vd, vv, rfl, h⟩ := h
  have c0 : w.cell? ⟨ad.sb, 0, none⟩ = some (.pointer (some ⟨ad.tb, 0, none⟩)) := Mem.row_cell h.self 0
  obtain ⟨F, hs, hF⟩ := h.tab
  have hget := TabE.get_any hs h.sm k hk
  have HH := Lib.hid (And.intro h hF)
  have HS := Lib.hid hsm
  clear h hs hF hsm
  unfold TabE.TurnPost at hget
  unfold St.remove
  rcases hg : Tab.get s.tab.L k with _ | x
  · have hv : TabE.getV s.tab.L k = .tuple #[.pointer none, .bool false] := by unfold TabE.getV; rw [hg]
    rw [hv] at hget
    clear hv hg
    go_enter Try.func21, Try.ntmps21
    go_wp2_with fail
    refine hget.mono ?_
    rintro e w1 ⟨F1, rfl, ha, ho, hgr⟩
    have h1 := HH.out.1.turnTab (hl' := fun _ => False) HH.out.2 ha ho hgr HH.out.1.sm.tick (fun q hq _ => ⟨hq, fun e => e⟩)
    have H1 := Lib.hid (And.intro h1 (Fr.of HH.out.2 ho))
    clear hget ha ho hgr h1
    go_wp2_with fail
    go_ret
    exact ⟨rfl, _, ⟨ad, vd, vv, rfl, H1.out.1⟩, H1.out.2⟩
  · have hv : TabE.getV s.tab.L k = .tuple #[.pointer (some ⟨x, 0, none⟩), .bool true] := by unfold TabE.getV; rw [hg]
    rw [hv] at hget
    clear hv
    have HG := Lib.hid hg
    have HS2 : Hid (Tab.Rising s.tab.tick.L) := Lib.hid (by obtain ⟨F, hs, -⟩ := HH.out.1.tab; exact hs.rise)
    clear hg
    go_enter Try.func21, Try.ntmps21
    go_wp2_with fail
    refine hget.mono ?_
    rintro e w1 ⟨F1, rfl, ha, ho, hgr⟩
    have h1 := HH.out.1.turnTab (hl' := fun _ => False) HH.out.2 ha ho hgr HH.out.1.sm.tick (fun q hq _ => ⟨hq, fun e => e⟩)
    have d0 : w1.cell? ⟨ad.sb, 0, none⟩ = some (.pointer (some ⟨ad.tb, 0, none⟩)) := Mem.row_cell h1.self 0
    obtain ⟨F2, hs2, hF2⟩ := h1.tab
    have hdel := TabE.delete_any hs2 h1.sm k hk
    have FR1 := Lib.hid (Fr.of HH.out.2 ho)
    have H1 := Lib.hid (And.intro h1 hF2)
    clear hget ha ho hgr h1 hs2 hF2 c0
    unfold TabE.TurnPost at hdel
    go_wp2_with fail
    refine hdel.mono ?_
    rintro e w2 ⟨F3, rfl, ha, ho, hgr⟩
    obtain ⟨bb, hbb⟩ : ∃ q, (Tab.get s.tab.tick.L k).isSome = q := ⟨_, rfl⟩
    rw [hbb]
    have hmem : (k, x) ∈ s.tab.tick.L := (Tab.get_mem HS2.out.nodup).1 HG.out
    obtain ⟨e1, -, -, e4, -⟩ := H1.out.1.ents (k, x) hmem (fun e => e)
    have e1' := (H1.out.1.far (Parts.onlyOf H1.out.2 ho) e4 (by simp)).trans e1
    have h2 := H1.out.1.turnTab (hl' := fun _ => False) H1.out.2 ha ho hgr (H1.out.1.sm.del k) (fun q hq _ => ⟨(Tab.mem_del.1 hq).1, fun e => e⟩)
    have d1 : w2.cell? ⟨ad.sb, 1, none⟩ = some (.pointer (some ⟨ad.mb, 0, none⟩)) := Mem.row_cell h2.self 1
    have d10 : w2.cell? ⟨x, 10, none⟩ = some (.int .i64 (s.ent x).chunk.1) := Mem.row_cell e1' 10
    have d11 : w2.cell? ⟨x, 11, none⟩ = some (.int .i64 (s.ent x).chunk.2) := Mem.row_cell e1' 11
    have h2d := h2.step (Below.drew (Below.refl _ w2))
    obtain ⟨F4, hs4, hF4⟩ := h2d.slab
    have hfree := Slab.free_any hs4 HS.out hN (s.ent x).chunk.1 (s.ent x).chunk.2
    have FR2 := Lib.hid ((FR1.out.trans (Fr.of H1.out.2 ho)).trans (Fr.below (Below.drew (Below.refl _ w2))))
    have H2 := Lib.hid (And.intro h2d hF4)
    clear hdel ha ho hgr h2 h2d hs4 hF4 e1 e1' e4 hmem hbb d0
    unfold Slab.FreePost at hfree
    go_wp2_with fail
    refine wp_region_still_tail 8 (by kernel_rfl) (by kernel_rfl) ?_
    simp only [List.take_succ_cons, List.take_zero, List.drop_succ_cons, List.drop_zero]
    repeat still_step
    refine wpStill_nil ?_
    change wpList _ _ _ _ _ w2.drew
    go_wp2_with fail
    refine hfree.mono ?_
    rintro e w3 ⟨F5, rfl, ha, ho, hgr⟩
    have h3 := H2.out.1.turnSlab H2.out.2 ha (slab_lt ha) ho hgr
    have g2 : w3.cell? ⟨ad.sb, 2, none⟩ = some (.pointer (some ⟨ad.ob, 0, none⟩)) := Mem.row_cell h3.self 2
    obtain ⟨F6, hs6, hF6⟩ := h3.order
    have hrem := Slru.remove_any hs6 k (by show s.order.all.length ≤ _; omega)
    have FR3 := Lib.hid (FR2.out.trans (Fr.of H2.out.2 ho))
    have H3 := Lib.hid (And.intro h3 hF6)
    clear hfree ha ho hgr h3 hs6 hF6 d1 d10 d11
    unfold Slru.TurnPost at hrem
    go_wp2_with fail
    refine hrem.mono ?_
    rintro e w4 ⟨F7, rfl, ha, ho, hgr⟩
    have h4 := H3.out.1.turnOrder H3.out.2 ha ha.lt ho hgr
    have H4 := Lib.hid (And.intro h4 (FR3.out.trans (Fr.of H3.out.2 ho)))
    clear hrem ha ho hgr h4
    go_wp2_with fail
    go_ret
    exact ⟨rfl, _, ⟨ad, vd, vv, rfl, H4.out.1⟩, H4.out.2⟩
end
end Go.Proofs.Ytkchlibkfafgdaa.Shard

/- Layer 11: drop. -/
namespace Go.Proofs.Ytkchlibkfafgdaa.Shard
open Go Go.RowKit Go.Proofs.Ytkchlibkfafgdaa.Mem Go.Proofs.Ytkchlibkfafgdaa.App

theorem infoS : (Try.prog.info? 9).map (fun i => (i.zero, i.size, i.bytes)) = some (some (.string ⟨#[]⟩), 1, 16) := by kernel_rfl
theorem src_str (w : World) (k : ByteArray) : Src (w.alloc (.cells #[.string k] 9)) 1 (.slice (some ⟨w.heap.size, 0, none⟩) 1 1) 1 [.string k] := by
  have hn := Mem.new_block w (.cells #[.string k] 9)
  refine .inr ⟨w.heap.size, 0, 1, rfl, rfl, by simp, fun j u hu => ?_⟩
  have := Mem.row_cell hn j
  rw [Nat.zero_add, this]
  simpa using hu
theorem fr_set {col col' : Col} {w w' : World} (h : Fr col col' w w') {b : Nat} (hb : col b ≠ none) (i : Nat) (v : Value) : Fr col col' w (w'.setCell ⟨b, i, none⟩ v) := ⟨h.1.setCell (p := ⟨b, i, none⟩) (.inl hb) v, h.2⟩
section
variable {W w : World} {n N b : Nat} {col : Col} {seed : Int} {s : St}
set_option maxRecDepth 100000 in
set_option maxHeartbeats 2000000 in
theorem drop_any (h : At W w n b col seed s) (k : ByteArray) (hk : k.size ≤ maxLen) (hl : s.order.all.length ≤ 1000000000) (hsm : Slab.Small N s.slab) (hN : N ≤ 1099511627776) (hd : (s.remove k).2.drops.length ≤ 1000000000) :
    Calls Try.prog 50 #[.pointer (some ⟨b, 0, none⟩), .string k] w fun e w' => e = .returned (.tuple #[]) ∧ Turn W w n b col seed (s.drop k) w' := by
  obtain ⟨i0, hi, hz0, hz1, hz2⟩ := info_parts infoS
  have hr := remove_any h k hk hl hsm hN
  unfold St.drop
  generalize s.remove k = y at *
  obtain ⟨q, t⟩ := y
  replace hd : t.drops.length ≤ 1000000000 := hd
  clear h hsm
  go_enter Try.func50, Try.ntmps50
  go_wp2_with fail
  refine hr.mono ?_
  rintro e w1 ⟨rfl, col1, ⟨ad, vd, vv, rfl, h1⟩, fr1⟩
  replace h1 : Parts W w1 n (fun _ => False) col1 ad seed t vd vv := h1
  have c4 : w1.cell? ⟨ad.sb, 4, none⟩ = some vd := Mem.row_cell h1.self 4
  have H1 := Lib.hid h1
  have hfin : ∀ v' w', w'.ownsRow 0 9 1 v' (t.drops.length + 1) (cellsS t.drops ++ [.string k]) → (w1.alloc (.cells #[.string k] 9)).grownBy w' vd.ownBlock → (v'.ownBlock = vd.ownBlock ∨ v'.ownBlock = some (w1.heap.size + 1)) →
      Hid (Turn W w n ad.sb col seed { t with drops := t.drops ++ [k] } (w'.setCell ⟨ad.sb, 4, none⟩ v')) ∧ w'.cell? ⟨ad.sb, 4, none⟩ = some vd ∧ w'.frozen? ⟨ad.sb, 4, none⟩ = false := fun v' w' hown hg hat => by
    have hoa : Only (Of col1 .drops) w1 (w1.alloc (.cells #[.string k] 9)) := (Only.refl _ _).alloc _
    have ho : Only (Of col1 .drops) w1 w' := hoa.grown hg (fun g e => .inl (H1.out.cd g e))
    have hsb : w'.heap[ad.sb]? = w1.heap[ad.sb]? := H1.out.far ho H1.out.csb (by decide)
    refine ⟨Lib.hid ⟨_, ⟨ad, v', vv, rfl, H1.out.turnDrops ho (by rw [List.length_append, cellsS, List.map_append]; exact hown) (fun g e => ?_)⟩, fr1.trans (fr_set (Fr.of (p := .drops) (fun k hk => hk) ho) (by rw [H1.out.csb]; simp) 4 v')⟩, (World.cell?_of_block hsb).trans c4, (World.frozen?_of_block hsb).trans (Mem.row_free H1.out.self 4)⟩
    rcases hat with h | h
    · exact .inl (h ▸ e)
    · rw [h] at e; injection e with e; exact .inr (by omega)
  have HF := Lib.hid hfin
  clear hr h1 hfin
  go_wp2_with (first
    | (at_builtin; refine wpList_append_src (.tmp 11) (.tmp 13) _ _ _ _ i0 _ 1 16 0 vd _ t.drops.length 1 (cellsS t.drops) [.string k] rfl rfl Try.underlying39 Try.underlying39 hi hz0 hz1 hz2 rfl (by decide) rfl rfl (H1.out.drops.alloc _) (src_str w1 k) (by simp [Value.oneCell']) (by unfold maxLen; omega) (by omega) (Nat.zero_le _) ?_; intro v3 w3 hown3 hgr3 hat3; obtain ⟨y3, z3, hv3⟩ := Src.shape (Src.of_row hown3); obtain ⟨HA, c5, f5⟩ := HF.out v3 w3 hown3 hgr3 (by simpa using hat3); rw [hv3] at HA ⊢; clear hown3 hgr3 hat3 hv3 c4)
    | fail)
  go_end0
  exact ⟨rfl, HA.out⟩
end
end Go.Proofs.Ytkchlibkfafgdaa.Shard

/- Layer 11: find. -/
namespace Go.Proofs.Ytkchlibkfafgdaa.Shard
open Go Go.RowKit Go.Proofs.Ytkchlibkfafgdaa.Mem Go.Proofs.Ytkchlibkfafgdaa.App

def ptrE : Option Nat → Value
  | some x => .pointer (some ⟨x, 0, none⟩)
  | none => .pointer none
section
variable {W w : World} {n N b : Nat} {col : Col} {seed : Int} {s : St}
set_option maxRecDepth 100000 in
set_option maxHeartbeats 2000000 in
theorem find_any (h : At W w n b col seed s) (k : ByteArray) (env : Env) (hk : k.size ≤ maxLen) (hl : s.order.all.length ≤ 1000000000) (hsm : Slab.Small N s.slab) (hN : N ≤ 1099511627776) (hd : (s.tick.remove k).2.drops.length ≤ 1000000000) :
    Calls Try.prog 32 #[.pointer (some ⟨b, 0, none⟩), .string k, .agg env.arr] w fun e w' => e = .returned (ptrE (s.find k env).1) ∧ Turn W w n b col seed (s.find k env).2 w' := by
  obtain ⟨ad, vd, vv, rfl, h⟩ := h
  have hwz : ∀ k q, col k = some q → k ≠ w.heap.size := fun k q e e1 => by have := (h.lt k q e).2; omega
  have nb : (w.alloc (.cells env.arr 33)).heap[w.heap.size]? = some (.cells env.arr 33 (0, 0)) := Mem.new_block w _
  replace h := h.step (Mem.al (Below.refl w.heap.size w) (.cells env.arr 33))
  have hlt0 : w.heap.size < (w.alloc (.cells env.arr 33)).heap.size := by simp
  have HB := Lib.hid (And.intro nb (And.intro hwz hlt0))
  clear nb hwz hlt0
  have FR0 : Hid (Fr col col w (w.alloc (.cells env.arr 33))) := Lib.hid (Fr.below (Mem.al (Below.refl w.heap.size w) _))
  have c0 : (w.alloc (.cells env.arr 33)).cell? ⟨ad.sb, 0, none⟩ = some (.pointer (some ⟨ad.tb, 0, none⟩)) := Mem.row_cell h.self 0
  obtain ⟨F, hs, hF⟩ := h.tab
  have hget := TabE.get_any hs h.sm k hk
  have hrise : Tab.Rising s.tab.L := hs.rise
  have HH := Lib.hid (And.intro h (And.intro hF (And.intro hsm hrise)))
  have HD := Lib.hid hd
  clear h hs hF hsm hrise hd
  unfold TabE.TurnPost at hget
  have hfind : s.find k env = match Tab.get s.tab.L k with | some x => if (s.ent x).it.live env then (some x, s.tick) else (none, s.tick.drop k) | none => (none, s.tick) := rfl
  obtain ⟨y, hy⟩ : ∃ y, s.find k env = y := ⟨_, rfl⟩
  rw [hy] at hfind ⊢
  have HY := Lib.hid hfind
  clear hfind hy
  rcases hg : Tab.get s.tab.L k with _ | x
  · have hv : TabE.getV s.tab.L k = .tuple #[.pointer none, .bool false] := by unfold TabE.getV; rw [hg]
    rw [hv] at hget
    have HY2 : Hid (y = (none, s.tick)) := Lib.hid (by have := HY.out; rw [hg] at this; exact this)
    clear hv hg
    go_enter Try.func32, Try.ntmps32
    go_wp2_with fail
    refine hget.mono ?_
    rintro e w1 ⟨F1, rfl, ha, ho, hgr⟩
    have h1 := HH.out.1.turnTab (hl' := fun _ => False) HH.out.2.1 ha ho hgr HH.out.1.sm.tick (fun q hq _ => ⟨hq, fun e => e⟩)
    have H1 := Lib.hid (And.intro h1 (FR0.out.trans (Fr.of HH.out.2.1 ho)))
    clear hget ha ho hgr h1
    go_wp2_with fail
    go_ret
    rw [HY2.out]
    exact ⟨rfl, _, ⟨ad, vd, vv, rfl, H1.out.1⟩, H1.out.2⟩
  · have hv : TabE.getV s.tab.L k = .tuple #[.pointer (some ⟨x, 0, none⟩), .bool true] := by unfold TabE.getV; rw [hg]
    rw [hv] at hget
    have hmem : (k, x) ∈ s.tab.tick.L := (Tab.get_mem HH.out.2.2.2.nodup).1 hg
    have HY2 : Hid (y = if (s.ent x).it.live env then (some x, s.tick) else (none, s.tick.drop k)) := Lib.hid (by have := HY.out; rw [hg] at this; exact this)
    clear hv hg
    have HM := Lib.hid hmem
    clear hmem
    go_enter Try.func32, Try.ntmps32
    go_wp2_with fail
    refine hget.mono ?_
    rintro e w1 ⟨F1, rfl, ha, ho, hgr⟩
    have h1 := HH.out.1.turnTab (hl' := fun _ => False) HH.out.2.1 ha ho hgr HH.out.1.sm.tick (fun q hq _ => ⟨hq, fun e => e⟩)
    obtain ⟨e1, -⟩ := h1.ents (k, x) HM.out (fun e => e)
    have cell := fun j => Mem.row_cell e1 j
    have d0 := cell 0
    have d1 := cell 1
    have d2 := cell 2
    have d3 := cell 3
    have d4 := cell 4
    have d5 := cell 5
    have d6 := cell 6
    have d7 := cell 7
    have d8 := cell 8
    have d9 := cell 9
    simp only [Ent.arr, List.getElem?_toArray, List.getElem?_cons_zero, List.getElem?_cons_succ] at d0 d1 d2 d3 d4 d5 d6 d7 d8 d9
    have hlive := live_any (s.ent x).it (vv x) env w1.drew
    unfold Item.arr Env.arr at hlive
    have hbox := (ho.same _ HB.out.2.2 (fun hk => HB.out.2.1 _ _ (HH.out.2.1 _ hk) rfl)).trans HB.out.1
    have q0 := Mem.row_cell hbox 0
    have q1 := Mem.row_cell hbox 1
    have q2 := Mem.row_cell hbox 2
    have q3 := Mem.row_cell hbox 3
    simp only [Env.arr, List.getElem?_toArray, List.getElem?_cons_zero, List.getElem?_cons_succ] at q0 q1 q2 q3
    have hdrop := fun w' (hb : Below w1.heap.size w1 w') => drop_any (s := s.tick) ⟨ad, vd, vv, rfl, (h1.step hb)⟩ k hk hl HH.out.2.2.1 hN HD.out
    have HDr := Lib.hid hdrop
    clear hdrop hbox
    have H1 := Lib.hid (And.intro h1 (FR0.out.trans (Fr.of HH.out.2.1 ho)))
    clear hget ha ho hgr h1 e1 cell c0
    go_wp2_with fail
    refine wp_region_still_tail 5 (by kernel_rfl) (by kernel_rfl) ?_
    simp only [List.take_succ_cons, List.take_zero, List.drop_succ_cons, List.drop_zero]
    repeat still_step
    refine wpStill_nil ?_
    change wpList _ _ _ _ _ w1.drew
    obtain ⟨lv, hlv⟩ : ∃ q, (s.ent x).it.live env = q := ⟨_, rfl⟩
    rw [hlv] at hlive
    have HLV := Lib.hid hlv
    clear hlv d0 d1 d2 d3 d4 d5 d6 d7 d8 d9 q0 q1 q2 q3
    go_wp2_with fail
    refine hlive.mono ?_
    rintro e w2 ⟨rfl, hb2⟩
    clear hlive
    have hb : Below w1.heap.size w1 w2 := Mem.tr (Below.drew (Below.refl _ w1)) hb2
    have hdr := HDr.out w2 hb
    have HB2 := Lib.hid hb
    clear hb hb2
    cases lv with
    | true =>
      go_wp2_with fail
      go_ret
      rw [HY2.out, if_pos HLV.out]
      exact ⟨rfl, _, ⟨ad, vd, vv, rfl, H1.out.1.step HB2.out⟩, H1.out.2.trans (Fr.below HB2.out)⟩
    | false =>
      go_wp2_with fail
      refine hdr.mono ?_
      rintro e w3 ⟨rfl, ha⟩
      have HA := Lib.hid ha
      clear hdr ha
      go_wp2_with fail
      go_ret
      rw [HY2.out, if_neg (by rw [HLV.out]; decide)]
      obtain ⟨c9, a9, f9⟩ := HA.out
      exact ⟨rfl, c9, a9, (H1.out.2.trans (Fr.below HB2.out)).trans f9⟩
end
end Go.Proofs.Ytkchlibkfafgdaa.Shard

/- Layer 11, plain: room, Store, Update, and what stays true of a shard. -/
namespace Go.Proofs.Ytkchlibkfafgdaa.Shard
open Go

theorem remove_ent (s : St) (k : ByteArray) : (s.remove k).2.ent = s.ent := by unfold St.remove; split <;> rfl
theorem remove_drops (s : St) (k : ByteArray) : (s.remove k).2.drops = s.drops := by unfold St.remove; split <;> rfl
theorem remove_judge (s : St) (k : ByteArray) : (s.remove k).2.judge = s.judge := by unfold St.remove; split <;> rfl
theorem remove_L (s : St) (k : ByteArray) (hr : Tab.Rising s.tab.L) : (s.remove k).2.tab.L = Tab.del s.tab.L k := by
  unfold St.remove
  rcases hg : Tab.get s.tab.L k with _ | x
  · show s.tab.L = _
    refine (List.filter_eq_self.2 fun p hp => ?_).symm
    refine decide_eq_true fun e => ?_
    have := (Tab.get_mem hr.nodup (k := k) (v := p.2)).2 (by rw [← e]; exact hp)
    rw [hg] at this; cases this
  · rfl
theorem find_ent (s : St) (k : ByteArray) (env : Env) : (s.find k env).2.ent = s.ent := by
  unfold St.find
  split
  · split
    · rfl
    · show (s.tick.remove k).2.ent = s.ent
      rw [remove_ent]; rfl
  · rfl
/-- What was found is there. -/
theorem find_some {s : St} {k : ByteArray} {env : Env} {x : Nat} (h : (s.find k env).1 = some x) : Tab.get s.tab.L k = some x ∧ (s.ent x).it.live env = true ∧ (s.find k env).2 = s.tick := by
  unfold St.find at h ⊢
  rcases hg : Tab.get s.tab.L k with _ | y
  · rw [hg] at h; cases h
  · rw [hg] at h
    simp only at h ⊢
    by_cases hl : (s.ent y).it.live env = true
    · rw [if_pos hl] at h ⊢
      injection h with h
      subst h
      exact ⟨rfl, hl, rfl⟩
    · rw [if_neg hl] at h; cases h
/-- What was not found is not there behind it. -/
theorem find_none {s : St} {k : ByteArray} {env : Env} (h : (s.find k env).1 = none) : (Tab.get s.tab.L k = none ∧ (s.find k env).2 = s.tick) ∨ (∃ x, Tab.get s.tab.L k = some x ∧ (s.ent x).it.live env = false ∧ (s.find k env).2 = s.tick.drop k) := by
  unfold St.find at h ⊢
  rcases hg : Tab.get s.tab.L k with _ | y
  · exact .inl ⟨rfl, rfl⟩
  · rw [hg] at h
    simp only at h ⊢
    by_cases hl : (s.ent y).it.live env = true
    · rw [if_pos hl] at h; cases h
    · rw [if_neg hl]
      exact .inr ⟨y, rfl, by simpa using hl, rfl⟩

/-- What stays true of a shard: at most n keys, at most N calls. -/
structure Inv (n N : Nat) (s : St) : Prop where
  slab : Slab.Good N s.slab
  rise : Tab.Rising s.tab.L
  keys : ∀ k, k ∈ s.order.all ↔ k ∈ s.tab.L.map (·.1)
  ond : s.order.all.Nodup
  ents : ∀ p ∈ s.tab.L, (s.ent p.2).it.key = p.1 ∧ p.1.size ≤ 300 ∧ (s.ent p.2).it.size ≤ 2048 ∧ (s.ent p.2).chunk.1 = (Slab.classN (s.ent p.2).it.size : Nat)
  mem : s.slab.inn.Perm (s.tab.L.map fun p => (s.ent p.2).chunk)
  len : s.tab.L.length ≤ n
  dl : s.drops.length ≤ N
section
variable {n m N M : Nat} {s : St}
theorem Inv.mono (h : Inv n N s) (h1 : n ≤ m) (h2 : N ≤ M) : Inv m M s := ⟨h.slab.mono h2, h.rise, h.keys, h.ond, h.ents, h.mem, Nat.le_trans h.len h1, Nat.le_trans h.dl h2⟩
theorem Inv.olen (h : Inv n N s) : s.order.all.length = s.tab.L.length := by
  have := ((List.perm_ext_iff_of_nodup h.ond h.rise.nodup).2 h.keys).length_eq
  simpa using this
theorem Inv.tick (h : Inv n N s) : Inv n N s.tick := ⟨h.slab, h.rise, h.keys, h.ond, h.ents, h.mem, h.len, h.dl⟩
theorem Inv.emptied (h : Inv n N s) : Inv n N { s with drops := [] } := ⟨h.slab, h.rise, h.keys, h.ond, h.ents, h.mem, h.len, Nat.zero_le _⟩
theorem without_app (l m : List ByteArray) (k : ByteArray) : Slru.without (l ++ m) k = Slru.without l k ++ Slru.without m k := by unfold Slru.without; exact List.filter_append ..
theorem mem_without {l : List ByteArray} {k x : ByteArray} : x ∈ Slru.without l k ↔ x ∈ l ∧ x ≠ k := by unfold Slru.without; simp
theorem oremove_all {o : Slru.St} {k : ByteArray} (h : k ∈ o.all) : (o.remove k).2.all = Slru.without o.all k := by
  unfold Slru.St.remove
  rw [if_pos h]
  show Slru.without o.trial k ++ Slru.without o.safe k = _
  rw [← without_app]; rfl
theorem Rising.nd {L : Tab.Pairs Nat} (h : Tab.Rising L) : L.Nodup := by
  unfold Tab.Rising at h
  exact h.imp fun {a b} h (e : a = b) => Tab.ltK_ne h (by rw [e])
theorem del_perm {L : Tab.Pairs Nat} (h : Tab.Rising L) {k : ByteArray} {x : Nat} (hm : (k, x) ∈ L) : L.Perm ((k, x) :: Tab.del L k) := by
  refine (List.perm_ext_iff_of_nodup (Rising.nd h) (List.nodup_cons.2 ⟨fun e => (Tab.mem_del.1 e).2 rfl, (Rising.nd h).sublist List.filter_sublist⟩)).2 fun p => ?_
  rw [List.mem_cons, Tab.mem_del]
  constructor
  · intro hp
    by_cases e : p.1 = k
    · refine .inl ?_
      have h1 := (Tab.get_mem h.nodup (k := k) (v := x)).2 hm
      have h2 := (Tab.get_mem h.nodup (k := k) (v := p.2)).2 (by rw [← e]; exact hp)
      rw [h1] at h2
      injection h2 with h2
      rw [h2, ← e]
    · exact .inr ⟨hp, e⟩
  · rintro (rfl | hp)
    · exact hm
    · exact hp.1
/-- The chunks behind a remove. -/
theorem Inv.rest (h : Inv n N s) {k : ByteArray} {x : Nat} (hm : (k, x) ∈ s.tab.L) : (s.ent x).chunk ∈ s.slab.inn ∧ (s.slab.inn.erase (s.ent x).chunk).Perm ((Tab.del s.tab.L k).map fun p => (s.ent p.2).chunk) := by
  have hp := h.mem.trans ((del_perm h.rise hm).map fun p => (s.ent p.2).chunk)
  refine ⟨hp.mem_iff.2 (by simp), ?_⟩
  have := hp.erase (s.ent x).chunk
  simpa using this
theorem Inv.remove (h : Inv n N s) (k : ByteArray) : Inv n (N + 1) (s.remove k).2 := by
  unfold St.remove
  rcases hg : Tab.get s.tab.L k with _ | x
  · exact h.tick.mono (Nat.le_refl _) (by omega)
  · have hm := (Tab.get_mem h.rise.nodup).1 hg
    obtain ⟨h1, h2⟩ := h.rest hm
    have hk : k ∈ s.order.all := (h.keys k).2 (List.mem_map.2 ⟨_, hm, rfl⟩)
    obtain ⟨-, f1, -⟩ := Slab.free_in h1
    refine ⟨h.slab.free _, Tab.rising_del h.rise k, fun j => ?_, ?_, fun p hp => h.ents p (Tab.mem_del.1 hp).1, ?_, Nat.le_trans (List.length_filter_le _ _) h.len, Nat.le_succ_of_le h.dl⟩
    · show j ∈ (s.order.remove k).2.all ↔ j ∈ (Tab.del s.tab.L k).map (·.1)
      rw [oremove_all hk, mem_without, h.keys]
      simp only [List.mem_map, Tab.mem_del]
      constructor
      · rintro ⟨⟨p, hp, rfl⟩, hne⟩; exact ⟨p, ⟨hp, hne⟩, rfl⟩
      · rintro ⟨p, ⟨hp, hne⟩, rfl⟩; exact ⟨⟨p, hp, rfl⟩, hne⟩
    · show (s.order.remove k).2.all.Nodup
      rw [oremove_all hk]
      exact h.ond.sublist List.filter_sublist
    · show (s.slab.free (s.ent x).chunk).2.inn.Perm _
      rw [f1]; exact h2
theorem Inv.drop (h : Inv n N s) (k : ByteArray) : Inv n (N + 1) (s.drop k) := by
  have h1 := h.remove k
  have e := remove_drops s k
  exact ⟨h1.slab, h1.rise, h1.keys, h1.ond, h1.ents, h1.mem, h1.len, by show ((s.remove k).2.drops ++ [k]).length ≤ _; rw [e, List.length_append]; have := h.dl; simp; omega⟩
theorem Inv.find (h : Inv n N s) (k : ByteArray) (env : Env) : Inv n (N + 1) (s.find k env).2 := by
  unfold St.find
  split
  · split
    · exact h.tick.mono (Nat.le_refl _) (by omega)
    · exact h.tick.drop k
  · exact h.tick.mono (Nat.le_refl _) (by omega)
end

/-- room: at most f rounds. -/
def St.room (it : Item) (old : Bool) (less : Int) (env : Env) : Nat → St → Int × St
  | 0, s => (5, s)
  | f + 1, s => if s.slab.fits it.size less = true then (0, s) else
    match s.order.victim it.key with
    | none => (5, s)
    | some v => match Tab.get s.tab.L v with
      | none => (5, s)
      | some x => if old = true ∨ (s.ent x).it.live env = false then St.room it old less env f (s.tick.drop v)
        else if s.judge.admit it.key.data.toList v.data.toList = true then St.room it old less env f (s.tick.drop v) else (8, s.tick)
def St.less (s : St) (old : Option Nat) : Int := match old with
  | some x => Slab.bytesI (s.ent x).chunk.1
  | none => 0
/-- An entry is filled. -/
def St.fill (s : St) (x : Nat) (it : Item) : St := { s with slab := (s.slab.take it.size).2, ent := upd s.ent x ⟨it, (s.slab.take it.size).1.1⟩ }
def St.freed (s : St) (x : Nat) : St := { s with slab := (s.slab.free (s.ent x).chunk).2 }
def St.added (s : St) (k : ByteArray) (x : Nat) : St := { s with tab := s.tab.put k x, order := (s.order.add k).2 }
def St.stored (s : St) (old : Option Nat) (fresh : Nat) (it : Item) : St := match old with
  | some x => (s.freed x).fill x it
  | none => (s.added it.key fresh).fill fresh it
def St.store (s : St) (fresh : Nat) (it : Item) (env : Env) : Int × St :=
  if Slab.classN it.size = 6 then (4, s) else
    if (St.room it (s.find it.key env).1.isSome ((s.find it.key env).2.less (s.find it.key env).1) env ((s.find it.key env).2.order.all.length + 1) (s.find it.key env).2).1 = 0 then
      (0, (St.room it (s.find it.key env).1.isSome ((s.find it.key env).2.less (s.find it.key env).1) env ((s.find it.key env).2.order.all.length + 1) (s.find it.key env).2).2.stored (s.find it.key env).1 fresh it)
    else St.room it (s.find it.key env).1.isSome ((s.find it.key env).2.less (s.find it.key env).1) env ((s.find it.key env).2.order.all.length + 1) (s.find it.key env).2
def St.update (s : St) (it : Item) : Int × St := match Tab.get s.tab.L it.key with
  | none => (6, s.tick)
  | some x => if (s.ent x).it.val.length = it.val.length then (0, { s.tick with ent := upd s.ent x ⟨it, (s.ent x).chunk⟩ }) else (1, s.tick)
section
variable {n m N M : Nat} {s : St} {it : Item} {old : Bool} {less : Int} {env : Env}
/-- One round of room. -/
theorem room_cases (f : Nat) (s : St) : (s.slab.fits it.size less = true ∧ St.room it old less env (f + 1) s = (0, s)) ∨ (s.slab.fits it.size less = false ∧ s.order.victim it.key = none ∧ St.room it old less env (f + 1) s = (5, s)) ∨
    (s.slab.fits it.size less = false ∧ ∃ v, s.order.victim it.key = some v ∧ v ≠ it.key ∧ v ∈ s.order.all ∧ ((Tab.get s.tab.L v = none ∧ St.room it old less env (f + 1) s = (5, s)) ∨ ∃ x, Tab.get s.tab.L v = some x ∧
      (((old = true ∨ (s.ent x).it.live env = false ∨ s.judge.admit it.key.data.toList v.data.toList = true) ∧ St.room it old less env (f + 1) s = St.room it old less env f (s.tick.drop v)) ∨
       (old = false ∧ (s.ent x).it.live env = true ∧ s.judge.admit it.key.data.toList v.data.toList = false ∧ St.room it old less env (f + 1) s = (8, s.tick))))) := by
  rw [St.room]
  by_cases hf : s.slab.fits it.size less = true
  · exact .inl ⟨hf, by rw [if_pos hf]⟩
  rw [if_neg hf]
  have hf' : s.slab.fits it.size less = false := by simpa using hf
  rcases hv : s.order.victim it.key with _ | v
  · exact .inr (.inl ⟨hf', rfl, rfl⟩)
  refine .inr (.inr ⟨hf', v, rfl, ?_, ?_, ?_⟩)
  · have := List.find?_some hv; simpa using this
  · exact List.mem_of_find?_eq_some hv
  · simp only
    rcases hg : Tab.get s.tab.L v with _ | x
    · exact .inl ⟨rfl, rfl⟩
    · refine .inr ⟨x, rfl, ?_⟩
      simp only
      by_cases h1 : old = true ∨ (s.ent x).it.live env = false
      · rw [if_pos h1]; exact .inl ⟨h1.elim .inl (fun h => .inr (.inl h)), rfl⟩
      · rw [if_neg h1]
        by_cases h2 : s.judge.admit it.key.data.toList v.data.toList = true
        · rw [if_pos h2]; exact .inl ⟨.inr (.inr h2), rfl⟩
        · rw [if_neg h2]
          refine .inr ⟨?_, ?_, by simpa using h2, rfl⟩
          · cases old <;> simp_all
          · cases hl : (s.ent x).it.live env <;> simp_all
/-- What holds through a room. -/
theorem room_ind {P : Nat → St → Prop} (htick : ∀ f s, P f s → P f s.tick) (hdown : ∀ f s, P (f + 1) s → P f s)
    (hdrop : ∀ f s v x, P (f + 1) s → s.slab.fits it.size less = false → v ≠ it.key → v ∈ s.order.all → Tab.get s.tab.L v = some x → P f (s.tick.drop v)) : ∀ f s, P f s → P 0 (St.room it old less env f s).2
  | 0, s, h => h
  | f + 1, s, h => by
    have hz : ∀ f s, P f s → P 0 s := fun f => by
      induction f with
      | zero => exact fun s h => h
      | succ f ih => exact fun s h => ih s (hdown f s h)
    rcases room_cases (it := it) (old := old) (less := less) (env := env) f s with ⟨_, e⟩ | ⟨_, _, e⟩ | ⟨hf, v, hv, hne, hm, ⟨_, e⟩ | ⟨x, hx, ⟨_, e⟩ | ⟨_, _, _, e⟩⟩⟩
    · rw [e]; exact hz _ _ h
    · rw [e]; exact hz _ _ h
    · rw [e]; exact hz _ _ h
    · rw [e]; exact room_ind htick hdown hdrop f _ (hdrop f s v x h hf hne hm hx)
    · rw [e]; exact hz _ _ (htick _ _ h)
theorem Inv.room (h : Inv n N s) (f : Nat) : Inv n (N + f) (St.room it old less env f s).2 := by
  have := room_ind (it := it) (old := old) (less := less) (env := env) (P := fun g t => g ≤ f ∧ Inv n (N + (f - g)) t) (fun g t ht => ⟨ht.1, ht.2.tick⟩) (fun g t ht => ⟨by omega, ht.2.mono (Nat.le_refl _) (by omega)⟩)
    (fun g t v x ht _ _ _ _ => ⟨by omega, (ht.2.tick.drop v).mono (Nat.le_refl _) (by omega)⟩) f s ⟨Nat.le_refl _, by rw [Nat.sub_self]; exact h⟩
  exact this.2.mono (Nat.le_refl _) (by omega)
/-- room tells that it fits only if so. -/
theorem room_fits : ∀ (f : Nat) (s : St), (St.room it old less env f s).1 = 0 → (St.room it old less env f s).2.slab.fits it.size less = true
  | 0, s, h => by cases h
  | f + 1, s, h => by
    rcases room_cases (it := it) (old := old) (less := less) (env := env) f s with ⟨h1, e⟩ | ⟨_, _, e⟩ | ⟨hf, v, hv, hne, hm, ⟨_, e⟩ | ⟨x, hx, ⟨_, e⟩ | ⟨_, _, _, e⟩⟩⟩
    · rw [e]; exact h1
    · rw [e] at h; cases h
    · rw [e] at h; cases h
    · rw [e] at h ⊢; exact room_fits f _ h
    · rw [e] at h; cases h
theorem drop_ent (s : St) (k : ByteArray) : (s.drop k).ent = s.ent := remove_ent s k
theorem drop_L (s : St) (k : ByteArray) (hr : Tab.Rising s.tab.L) : (s.drop k).tab.L = Tab.del s.tab.L k := remove_L s k hr
theorem room_ent (f : Nat) (s : St) : (St.room it old less env f s).2.ent = s.ent :=
  room_ind (it := it) (old := old) (less := less) (env := env) (P := fun _ t => t.ent = s.ent) (fun _ _ h => h) (fun _ _ h => h) (fun _ t v _ h _ _ _ _ => (drop_ent t.tick v).trans h) f s rfl
/-- What room leaves of the key itself, and of the others. -/
theorem room_key (f : Nat) (s : St) (hr : Tab.Rising s.tab.L) : Tab.Rising (St.room it old less env f s).2.tab.L ∧ (∀ p : ByteArray × Nat, p ∈ (St.room it old less env f s).2.tab.L → p ∈ s.tab.L) ∧ (∀ p : ByteArray × Nat, p.1 = it.key → p ∈ s.tab.L → p ∈ (St.room it old less env f s).2.tab.L) :=
  room_ind (it := it) (old := old) (less := less) (env := env) (P := fun _ t => Tab.Rising t.tab.L ∧ (∀ p : ByteArray × Nat, p ∈ t.tab.L → p ∈ s.tab.L) ∧ (∀ p : ByteArray × Nat, p.1 = it.key → p ∈ s.tab.L → p ∈ t.tab.L)) (fun _ _ h => h) (fun _ _ h => h)
    (fun _ t v _ ⟨h1, h2, h3⟩ _ hne _ _ => by
      rw [drop_L t.tick v h1]
      exact ⟨Tab.rising_del h1 v, fun p hp => h2 p (Tab.mem_del.1 hp).1, fun p e hp => Tab.mem_del.2 ⟨h3 p e hp, fun e1 => hne (e1.symm.trans e)⟩⟩) f s ⟨hr, fun _ h => h, fun _ _ h => h⟩
theorem fits_true {t : Slab.St} {size less : Int} (h : t.fits size less = true) : Slab.classN size < 6 ∧ 0 ≤ less ∧ less ≤ t.used ∧ t.used - less + Slab.bytesI (Slab.classN size) ≤ t.budget := by
  unfold Slab.St.fits at h
  exact of_decide_eq_true h
theorem take_ok {t : Slab.St} (h : Slab.Good N t) {size : Int} (h6 : Slab.classN size < 6) (hu : t.used + Slab.bytesI (Slab.classN size) ≤ t.budget) : ∃ nn, (t.take size).1 = ((((Slab.classN size : Nat) : Int), nn), 0) ∧ (t.take size).2.inn = t.inn ++ [(((Slab.classN size : Nat) : Int), nn)] ∧ (t.take size).2.used = t.used + Slab.bytesI (Slab.classN size) ∧ (t.take size).2.budget = t.budget := by
  obtain ⟨cc, nn, ee, h1, ⟨h2, -⟩ | ⟨h2, h3, h4, h5, h6', h7, h8, h9⟩⟩ := h.take_two size
  · exfalso
    rcases Slab.take_cases t size with ⟨e6, _⟩ | ⟨_, hx, _⟩ | ⟨_, _, e⟩
    · omega
    · omega
    · rw [e] at h1
      injection h1 with _ h1
      rw [← h1] at h2
      rcases h2 with h2 | h2 <;> cases h2
  · subst h4 h2
    exact ⟨nn, h1, h7, h8, h9⟩
theorem put_perm {L : Tab.Pairs Nat} (h : Tab.Rising L) {k : ByteArray} {x : Nat} (hk : k ∉ L.map (·.1)) : (Tab.put L k x).Perm ((k, x) :: L) := by
  refine (List.perm_ext_iff_of_nodup (Rising.nd (Tab.rising_put h k x)) (List.nodup_cons.2 ⟨fun e => hk (List.mem_map.2 ⟨_, e, rfl⟩), Rising.nd h⟩)).2 fun p => ?_
  rw [Tab.mem_put h, List.mem_cons]
  exact ⟨fun e => e.elim .inl (fun e => .inr e.1), fun e => e.elim .inl (fun e => .inr ⟨e, fun e1 => hk (List.mem_map.2 ⟨p, e, e1⟩)⟩)⟩
theorem size_class {z : Int} (h : Slab.classN z < 6) : z ≤ 2048 := by
  unfold Slab.classN at h
  repeat' split at h
  all_goals omega
theorem map_upd {L : Tab.Pairs Nat} {f : Nat → Ent} {x : Nat} {v : Ent} (h : ∀ p ∈ L, p.2 ≠ x) : (L.map fun p => (upd f x v p.2).chunk) = L.map fun p => (f p.2).chunk :=
  List.map_congr_left fun p hp => by rw [upd_other _ _ (h p hp)]
/-- A new entry. -/
theorem Inv.fillNew (h : Inv n N s) {x : Nat} (hx : ∀ p ∈ s.tab.L, p.2 ≠ x) (hk : it.key ∉ s.tab.L.map (·.1)) (hks : it.key.size ≤ 300) (h6 : Slab.classN it.size < 6) (hu : s.slab.used + Slab.bytesI (Slab.classN it.size) ≤ s.slab.budget) :
    Inv (n + 1) (N + 1) ((s.added it.key x).fill x it) := by
  obtain ⟨nn, h1, h2, h3, h4⟩ := take_ok h.slab h6 hu
  have hka : it.key ∉ s.order.all := fun e => hk ((h.keys _).1 e)
  have hall : (s.order.add it.key).2.all.Perm (it.key :: s.order.all) := by
    unfold Slru.St.add
    rw [if_neg hka]
    show ((s.order.trial ++ [it.key]) ++ s.order.safe).Perm _
    rw [List.append_assoc]
    exact List.perm_middle
  have hL : ((s.added it.key x).fill x it).tab.L = Tab.put s.tab.L it.key x := Tab.put_L _ _ _
  refine ⟨h.slab.take it.size, by rw [hL]; exact Tab.rising_put h.rise _ _, fun j => ?_, hall.nodup_iff.2 (List.nodup_cons.2 ⟨hka, h.ond⟩), fun p hp => ?_, ?_, ?_, Nat.le_succ_of_le h.dl⟩
  · rw [hL, ((put_perm h.rise hk).map (·.1)).mem_iff]
    show j ∈ (s.order.add it.key).2.all ↔ _
    rw [hall.mem_iff, List.mem_cons, List.map_cons, List.mem_cons, h.keys]
  · rw [hL, Tab.mem_put h.rise] at hp
    show (upd s.ent x _ p.2).it.key = p.1 ∧ _ ∧ (upd s.ent x _ p.2).it.size ≤ 2048 ∧ (upd s.ent x _ p.2).chunk.1 = (Slab.classN (upd s.ent x _ p.2).it.size : Nat)
    rcases hp with rfl | ⟨hp, _⟩
    · rw [upd_same]
      refine ⟨rfl, hks, size_class h6, ?_⟩
      show (s.slab.take it.size).1.1.1 = _
      rw [h1]
    · rw [upd_other _ _ (hx p hp)]; exact h.ents p hp
  · rw [hL]
    show (s.slab.take it.size).2.inn.Perm ((Tab.put s.tab.L it.key x).map fun p => (upd s.ent x ⟨it, (s.slab.take it.size).1.1⟩ p.2).chunk)
    refine List.Perm.trans ?_ ((put_perm h.rise hk).map _).symm
    rw [List.map_cons, map_upd hx, h2, h1]
    simp only [upd_same]
    exact (List.perm_append_singleton _ _).trans (h.mem.cons _)
  · rw [hL, Tab.put_len_new h.rise x hk]; have := h.len; omega
/-- Blocks of two keys are two. -/
theorem Inv.apart (h : Inv n N s) {k : ByteArray} {x : Nat} (hm : (k, x) ∈ s.tab.L) : ∀ p ∈ Tab.del s.tab.L k, p.2 ≠ x := fun p hp e => by
  rw [Tab.mem_del] at hp
  have h1 := (h.ents p hp.1).1
  have h2 := (h.ents _ hm).1
  simp only at h2
  rw [e, h2] at h1
  exact hp.2 h1.symm
/-- An elder entry. -/
theorem Inv.fillOld (h : Inv n N s) {x : Nat} (hm : (it.key, x) ∈ s.tab.L) (h6 : Slab.classN it.size < 6) (hu : s.slab.used - Slab.bytesI (s.ent x).chunk.1 + Slab.bytesI (Slab.classN it.size) ≤ s.slab.budget) :
    Inv n (N + 2) ((s.freed x).fill x it) := by
  obtain ⟨g1, g2⟩ := h.rest hm
  obtain ⟨-, f1, f2, f3⟩ := Slab.free_in g1
  obtain ⟨nn, h1, h2, h3, h4⟩ := take_ok (h.slab.free (s.ent x).chunk) h6 (by rw [f2, f3]; exact hu)
  have hap := h.apart hm
  refine ⟨(h.slab.free _).take it.size, h.rise, h.keys, h.ond, fun p hp => ?_, ?_, h.len, Nat.le_trans h.dl (by omega)⟩
  · show (upd s.ent x ⟨it, ((s.slab.free (s.ent x).chunk).2.take it.size).1.1⟩ p.2).it.key = p.1 ∧ _ ∧ (upd s.ent x ⟨it, ((s.slab.free (s.ent x).chunk).2.take it.size).1.1⟩ p.2).it.size ≤ 2048 ∧ (upd s.ent x ⟨it, ((s.slab.free (s.ent x).chunk).2.take it.size).1.1⟩ p.2).chunk.1 = (Slab.classN (upd s.ent x ⟨it, ((s.slab.free (s.ent x).chunk).2.take it.size).1.1⟩ p.2).it.size : Nat)
    have h0 := h.ents p hp
    by_cases e : p.2 = x
    · rw [e, upd_same]
      have hk := (h.ents _ hm).1
      simp only at hk
      rw [e, hk] at h0
      exact ⟨h0.1, h0.2.1, size_class h6, by rw [h1]⟩
    · rw [upd_other _ _ e]; exact h0
  · show ((s.slab.free (s.ent x).chunk).2.take it.size).2.inn.Perm (s.tab.L.map fun p => (upd s.ent x ⟨it, ((s.slab.free (s.ent x).chunk).2.take it.size).1.1⟩ p.2).chunk)
    refine List.Perm.trans ?_ ((del_perm h.rise hm).map _).symm
    rw [List.map_cons, map_upd hap, h2, f1, h1]
    simp only [upd_same]
    exact (List.perm_append_singleton _ _).trans (g2.cons _)
theorem less_at (s t : St) (he : t.ent = s.ent) (o : Option Nat) : t.less o = s.less o := by unfold St.less; rw [he]
/-- What room leaves for the store. -/
theorem Inv.stored (h : Inv n N s) (hks : it.key.size ≤ 300) {old : Option Nat} {fresh : Nat} (hold : ∀ x, old = some x → (it.key, x) ∈ s.tab.L) (hnew : old = none → it.key ∉ s.tab.L.map (·.1)) (hf : ∀ p ∈ s.tab.L, p.2 ≠ fresh) (hfit : s.slab.fits it.size (s.less old) = true) :
    Inv (n + 1) (N + 2) (s.stored old fresh it) := by
  obtain ⟨h6, h0, h1, h2⟩ := fits_true hfit
  cases old with
  | some x => exact (h.fillOld (hold x rfl) h6 (by simpa [St.less] using h2)).mono (by omega) (Nat.le_refl _)
  | none => exact (h.fillNew hf (hnew rfl) hks h6 (by simpa [St.less] using h2)).mono (Nat.le_refl _) (by omega)
theorem get_none {L : Tab.Pairs Nat} (h : Tab.Rising L) {k : ByteArray} (hg : Tab.get L k = none) : k ∉ L.map (·.1) := fun hm => by
  obtain ⟨p, hp, rfl⟩ := List.mem_map.1 hm
  have := (Tab.get_mem h.nodup (k := p.1) (v := p.2)).2 hp
  rw [hg] at this; cases this
/-- What find leaves of the key. -/
theorem find_key (h : Inv n N s) (k : ByteArray) (env : Env) : (∀ x, (s.find k env).1 = some x → (k, x) ∈ (s.find k env).2.tab.L) ∧ ((s.find k env).1 = none → k ∉ (s.find k env).2.tab.L.map (·.1)) ∧ (∀ p, p ∈ (s.find k env).2.tab.L → p ∈ s.tab.L) := by
  refine ⟨fun x hx => ?_, fun hx => ?_, fun p hp => ?_⟩
  · obtain ⟨h1, h2, h3⟩ := find_some hx
    rw [h3]
    exact (Tab.get_mem h.rise.nodup).1 h1
  · rcases find_none hx with ⟨h1, h2⟩ | ⟨x, h1, h2, h3⟩
    · rw [h2]; exact get_none h.rise h1
    · rw [h3, drop_L s.tick k h.rise]
      intro hm
      obtain ⟨p, hp, rfl⟩ := List.mem_map.1 hm
      exact (Tab.mem_del.1 hp).2 rfl
  · rcases hx : (s.find k env).1 with _ | x
    · rcases find_none hx with ⟨h1, h2⟩ | ⟨x, h1, h2, h3⟩
      · rw [h2] at hp; exact hp
      · rw [h3, drop_L s.tick k h.rise] at hp; exact (Tab.mem_del.1 hp).1
    · obtain ⟨h1, h2, h3⟩ := find_some hx
      rw [h3] at hp; exact hp
theorem Inv.store (h : Inv n N s) (hks : it.key.size ≤ 300) {fresh : Nat} (hf : ∀ p ∈ s.tab.L, p.2 ≠ fresh) : Inv (n + 1) (N + n + 4) (s.store fresh it env).2 := by
  unfold St.store
  by_cases h6 : Slab.classN it.size = 6
  · rw [if_pos h6]; exact h.mono (by omega) (by omega)
  rw [if_neg h6]
  have h1 := h.find it.key env
  obtain ⟨k1, k2, k3⟩ := find_key h it.key env
  have hlen := h1.olen
  have hl1 := h1.len
  generalize s.find it.key env = y at *
  have h2 := h1.room (it := it) (old := y.1.isSome) (less := y.2.less y.1) (env := env) (y.2.order.all.length + 1)
  have hft := room_fits (it := it) (old := y.1.isSome) (less := y.2.less y.1) (env := env) (y.2.order.all.length + 1) y.2
  have hke := room_key (it := it) (old := y.1.isSome) (less := y.2.less y.1) (env := env) (y.2.order.all.length + 1) y.2 h1.rise
  have hen := room_ent (it := it) (old := y.1.isSome) (less := y.2.less y.1) (env := env) (y.2.order.all.length + 1) y.2
  generalize St.room it y.1.isSome (y.2.less y.1) env (y.2.order.all.length + 1) y.2 = z at *
  by_cases h0 : z.1 = 0
  · rw [if_pos h0]
    refine (h2.stored hks (fun x e => hke.2.2 _ rfl (k1 x e)) (fun e hm => ?_) (fun p hp => hf p (k3 p (hke.2.1 p hp))) (by rw [less_at y.2 z.2 hen]; exact hft h0)).mono (Nat.le_refl _) (by omega)
    obtain ⟨p, hp, e1⟩ := List.mem_map.1 hm
    exact k2 e (List.mem_map.2 ⟨p, hke.2.1 p hp, e1⟩)
  · rw [if_neg h0]
    exact h2.mono (by omega) (by omega)
theorem Inv.update (h : Inv n N s) (it : Item) : Inv n N (s.update it).2 := by
  unfold St.update
  rcases hg : Tab.get s.tab.L it.key with _ | x
  · exact h.tick
  · simp only
    have hm := (Tab.get_mem h.rise.nodup).1 hg
    by_cases hl : (s.ent x).it.val.length = it.val.length
    · rw [if_pos hl]
      have hz : it.size = (s.ent x).it.size := by
        have hk := (h.ents _ hm).1
        simp only at hk
        unfold Item.size
        rw [hk, hl]
      refine ⟨h.slab, h.rise, h.keys, h.ond, fun p hp => ?_, ?_, h.len, h.dl⟩
      · have h0 := h.ents p hp
        show (upd s.ent x ⟨it, (s.ent x).chunk⟩ p.2).it.key = p.1 ∧ _ ∧ (upd s.ent x ⟨it, (s.ent x).chunk⟩ p.2).it.size ≤ 2048 ∧ (upd s.ent x ⟨it, (s.ent x).chunk⟩ p.2).chunk.1 = (Slab.classN (upd s.ent x ⟨it, (s.ent x).chunk⟩ p.2).it.size : Nat)
        by_cases e : p.2 = x
        · rw [e, upd_same]
          have hk := (h.ents _ hm).1
          simp only at hk
          rw [e, hk] at h0
          exact ⟨h0.1, h0.2.1, by rw [hz]; exact h0.2.2.1, by rw [hz]; exact h0.2.2.2⟩
        · rw [upd_other _ _ e]; exact h0
      · refine h.mem.trans (List.Perm.of_eq (List.map_congr_left fun p hp => ?_))
        show _ = (upd s.ent x ⟨it, (s.ent x).chunk⟩ p.2).chunk
        by_cases e : p.2 = x
        · rw [e, upd_same]
        · rw [upd_other _ _ e]
    · rw [if_neg hl]; exact h.tick
end
end Go.Proofs.Ytkchlibkfafgdaa.Shard

/- Layer 11: Look. -/
namespace Go.Proofs.Ytkchlibkfafgdaa.Shard
open Go Go.RowKit Go.Proofs.Ytkchlibkfafgdaa.Mem Go.Proofs.Ytkchlibkfafgdaa.App

theorem zero_size : (Try.prog.info? 31).map (·.size) = some zeroI.size := by kernel_rfl
theorem results_two {P : Program} {fn : Func} {p u : Tmp} {ty : TypeId} (h : fn.results = #[.cell p ty, .tmp u]) (tmps : Array Value) (w : World) (g : Nat) (t : TypeId) (cs : Array Value) (fr : Nat × Nat) (d : TypeDesc) {x : Value}
    (hp : tmps.getD p undef = .pointer (some ⟨g, 0, none⟩)) (hx : tmps.getD u undef = x) (hg : w.heap[g]? = some (.cells cs t fr))
    (hu : P.underlying ty = some d) (hd : (match d with | .struct _ | .array _ _ => true | _ => false) = true) (hi : (P.info? ty).map (·.size) = some cs.size) :
    (results fn tmps).run P w = .ok (.tuple #[.agg cs, x]) w := by
  rw [results_cell_tmp h, hp, hx]
  simp [asAddr, run_loadVar_row w g t ty cs fr d hg hu hd hi, Result.andThen]
/-- Something of the caller's own was turned. -/
theorem Parts.aside {W w w' : World} {n : Nat} {hl : Nat → Prop} {col : Col} {ad : Addrs} {seed : Int} {s : St} {vd : Value} {vv : Nat → Value} {F : Nat → Prop} (h : Parts W w n hl col ad seed s vd vv) (ho : Only F w w') (hF : ∀ k, F k → col k = none ∧ W.heap.size ≤ k) : Parts W w' n hl col ad seed s vd vv := by
  obtain ⟨Ft, ht1, ht2⟩ := h.tab
  obtain ⟨Fs, hs1, hs2⟩ := h.slab
  obtain ⟨Fo, ho1, ho2⟩ := h.order
  have hk : ∀ k q, col k = some q → w'.heap[k]? = w.heap[k]? := fun k q e => ho.same k (h.lt k q e).2 (fun e1 => by rw [(hF k e1).1] at e; cases e)
  have hj : ∀ j k, col j = some Part.judge → F k → j ≠ k := fun j k e e1 e2 => by rw [e2, (hF k e1).1] at e; cases e
  exact ⟨(hk _ _ h.csb).trans h.self, h.csb, ⟨Ft, ht1.same (fun k e => hk k _ (ht2 k e)) ho.size, ht2⟩, h.sm, ⟨Fs, hs1.same (fun k e => hk k _ (hs2 k e)) ho.size, hs2⟩, ⟨Fo, ho1.same (fun k e => hk k _ (ho2 k e)) ho.size, ho2⟩,
    h.judge.other ho (fun k e => ⟨⟨hj _ k h.cj.1 e, hj _ k h.cj.2.1 e, hj _ k h.cj.2.2 e⟩, (hF k e).2⟩), h.cj, row_keep h.drops fun g e => hk g _ (h.cd g e), h.cd,
    fun q hq hn => by
      obtain ⟨h1, h2, h3, h4, h5⟩ := h.ents q hq hn
      exact ⟨(hk _ _ h4).trans h1, row_keep h2 fun g e => hk g _ (h5 g e).1, h3, h4, h5⟩,
    fun k q e => ⟨(h.lt k q e).1, Nat.lt_of_lt_of_le (h.lt k q e).2 ho.size⟩, Below.trans h.below (ho.below h.below.size (fun k e => (hF k e).2))⟩
theorem At.aside {W w w' : World} {n b : Nat} {col : Col} {seed : Int} {s : St} {F : Nat → Prop} (h : At W w n b col seed s) (ho : Only F w w') (hF : ∀ k, F k → col k = none ∧ W.heap.size ≤ k) : At W w' n b col seed s := by
  obtain ⟨ad, vd, vv, e, h⟩ := h
  exact ⟨ad, vd, vv, e, h.aside ho hF⟩
theorem At.size {W w : World} {n b : Nat} {col : Col} {seed : Int} {s : St} (h : At W w n b col seed s) : W.heap.size ≤ w.heap.size := by
  obtain ⟨ad, vd, vv, e, h⟩ := h
  exact h.below.size
theorem Only.setRow {F : Nat → Prop} {w w' : World} {g : Nat} {cs : Array Value} (hg : F g ∨ w.heap.size ≤ g) (h : Only F w w') : Only F w (w'.setRow g cs) :=
  ⟨h.os, h.tape, h.output, by simpa [World.setRow] using h.size, fun k hk hn => (setRow_other w' g k cs (fun e => hg.elim (fun e1 => hn (e ▸ e1)) (fun e1 => by omega))).trans (h.same k hk hn)⟩
theorem Fr.setRow {col col' : Col} {w w' : World} (h : Fr col col' w w') {g : Nat} {cs : Array Value} (hg : col g ≠ none ∨ w.heap.size ≤ g) : Fr col col' w (w'.setRow g cs) := ⟨Only.setRow hg h.1, h.2⟩
/-- An entry that a key has. -/
theorem At.entry {W w : World} {n b : Nat} {col : Col} {seed : Int} {s : St} (h : At W w n b col seed s) {k : ByteArray} {x : Nat} (hg : Tab.get s.tab.L k = some x) : ∃ v, w.heap[x]? = some (.cells ((s.ent x).arr v) 78 (0, 0)) ∧ OwnB w 0 v (s.ent x).it.val ∧ (s.ent x).it.key = k ∧ col x = some (.ent x) ∧ ∀ g, v.ownBlock = some g → col g = some (.ent x) ∧ g ≠ x := by
  obtain ⟨ad, vd, vv, e, h⟩ := h
  obtain ⟨F, hs, hF⟩ := h.tab
  have hr : Tab.Rising s.tab.L := hs.rise
  exact ⟨_, h.ents (k, x) ((Tab.get_mem hr.nodup).1 hg) (fun e => e)⟩
theorem zero_one : zeroI.all (·.oneCell') = true := by kernel_rfl
/-- What a look answers. -/
def LookPost (W w : World) (n b : Nat) (col : Col) (seed : Int) (s : St) (y : Option Nat × St) (e : Ending) (w' : World) : Prop :=
  Turn W w n b col seed y.2 w' ∧ (match y.1 with
    | some x => ∃ v, e = .returned (.tuple #[.agg ((s.ent x).it.arr v), .bool true]) ∧ OwnB w' w.heap.size v (s.ent x).it.val
    | none => e = .returned (.tuple #[.agg zeroI, .bool false]))
section
variable {W w : World} {n N b : Nat} {col : Col} {seed : Int} {s : St}
set_option maxRecDepth 100000 in
set_option maxHeartbeats 2000000 in
theorem look_any (h : At W w n b col seed s) (k : ByteArray) (env : Env) (hk : k.size ≤ maxLen) (hl : s.order.all.length ≤ 1000000000) (hsm : Slab.Small N s.slab) (hN : N ≤ 1099511627776) (hd : (s.tick.remove k).2.drops.length ≤ 1000000000) (hv : ∀ x, Tab.get s.tab.L k = some x → (s.ent x).it.val.length ≤ 1000000) :
    Calls Try.prog 15 #[.pointer (some ⟨b, 0, none⟩), .string k, .agg env.arr] w (LookPost W w n b col seed s (s.find k env)) := by
  have hb2 : Below w.heap.size w ((w.alloc (.cells env.arr 33)).alloc (.cells zeroI 31)) := Mem.al (Mem.al (Below.refl _ _) _) _
  have n1 : ((w.alloc (.cells env.arr 33)).alloc (.cells zeroI 31)).heap[w.heap.size]? = some (.cells env.arr 33 (0, 0)) := Mem.new_later (Mem.new_block w _) _
  have n2 : ((w.alloc (.cells env.arr 33)).alloc (.cells zeroI 31)).heap[w.heap.size + 1]? = some (.cells zeroI 31 (0, 0)) := Mem.new_block2 w _ _
  have hsz : ((w.alloc (.cells env.arr 33)).alloc (.cells zeroI 31)).heap.size = w.heap.size + 2 := by simp
  have hcn : ∀ j, w.heap.size ≤ j → col j = none := fun j hj => Classical.byContradiction fun e => by have := h.lt j e; omega
  have h2 := h.step hb2
  have hfind := find_any h2 k env hk hl hsm hN hd
  obtain ⟨w0, hw0⟩ : ∃ w0, (w.alloc (.cells env.arr 33)).alloc (.cells zeroI 31) = w0 := ⟨_, rfl⟩
  rw [hw0] at hfind n1 n2 hsz hb2
  have q0 := Mem.row_cell n1 0
  have q1 := Mem.row_cell n1 1
  have q2 := Mem.row_cell n1 2
  have q3 := Mem.row_cell n1 3
  simp only [Env.arr, List.getElem?_toArray, List.getElem?_cons_zero, List.getElem?_cons_succ] at q0 q1 q2 q3
  have HL : Hid (W.heap.size ≤ w.heap.size) := Lib.hid h.size
  have HN := Lib.hid (And.intro n2 (And.intro hsz (And.intro hcn hb2)))
  have HW := Lib.hid hw0
  clear n1 n2 hsz hcn hb2 h2 h
  unfold Env.arr zeroI at hw0
  unfold Env.arr at hfind ⊢
  go_enter Try.func15, Try.ntmps15
  go_wp2_with fail
  refine hfind.mono ?_
  rintro e w1 ⟨rfl, col1, a1, f1⟩
  have m2 : w1.heap[w.heap.size + 1]? = some (.cells zeroI 31 (0, 0)) := (f1.keep (by rw [HN.out.2.1]; omega) (HN.out.2.2.1 _ (by omega))).trans HN.out.1
  have HF0 := Lib.hid f1
  have f1 := (Fr.below HN.out.2.2.2).trans f1
  have H1 := Lib.hid (And.intro a1 (And.intro f1 m2))
  clear hfind a1 f1 m2
  rcases hy : (s.find k env).1 with _ | x
  · have HY := Lib.hid hy
    clear hy
    unfold ptrE
    go_wp2_with (first | (refine wpList_store_row rfl 31 _ _ rfl (w.heap.size + 1) zeroI rfl rfl 31 zeroI H1.out.2.2 zero_size rfl zero_one ?_) | fail)
    have hrow : (w1.setRow (w.heap.size + 1) zeroI).heap[w.heap.size + 1]? = some (.cells zeroI 31 (0, 0)) := setRow_heap _ _ _ _ _ _ H1.out.2.2
    refine bodyPost_ret (results_two Try.results15 _ _ (w.heap.size + 1) _ _ _ _ rfl rfl hrow Try.underlying31 rfl zero_size) rfl ?_
    obtain ⟨a1, f1, m2⟩ := H1.out
    have hcc : col1 (w.heap.size + 1) = none := Classical.byContradiction fun e => (HF0.out.2 _ e).elim (fun e1 => e1 (HN.out.2.2.1 _ (by omega))) (fun e1 => by have := HN.out.2.1; omega)
    refine ⟨⟨col1, a1.aside (F := fun k => k = w.heap.size + 1) (Only.setRow (.inl rfl) (Only.refl _ _)) (fun k e => by subst e; exact ⟨hcc, by have := HL.out; omega⟩), f1.setRow (.inr (by omega))⟩, ?_⟩
    rw [HY.out]
    rfl
  · obtain ⟨g1, g2, g3⟩ := find_some hy
    have a1 := H1.out.1
    rw [g3] at a1
    obtain ⟨v, e1, hown, -, hcx, -⟩ := a1.entry (k := k) (x := x) g1
    have hvx := hv x g1
    have cell := fun j => Mem.row_cell e1 j
    have d0 := cell 0
    have d1 := cell 1
    have d2 := cell 2
    have d3 := cell 3
    have d4 := cell 4
    have d5 := cell 5
    have d6 := cell 6
    have d7 := cell 7
    have d8 := cell 8
    have d9 := cell 9
    simp only [St.tick, Ent.arr, List.getElem?_toArray, List.getElem?_cons_zero, List.getElem?_cons_succ] at d0 d1 d2 d3 d4 d5 d6 d7 d8 d9
    have hcl := owned_any (s.ent x).it (SrcB.of_row hown) hvx
    have HY := Lib.hid (And.intro hy g3)
    clear hy g1 g2 g3 a1 e1 hown hcx cell hvx
    unfold Item.arr at hcl
    unfold ptrE
    go_wp2_with fail
    refine hcl.mono ?_
    rintro e w2 ⟨v2, rfl, hown2, hb2⟩
    obtain ⟨ya, yc, hv'⟩ := Src.shape (Src.of_row hown2)
    subst hv'
    have k2 : w2.heap[w.heap.size + 1]? = some (.cells zeroI 31 (0, 0)) := (hb2.block _ (Array.getElem?_eq_some_iff.1 H1.out.2.2).1).trans H1.out.2.2
    have H2 := Lib.hid (And.intro hown2 (And.intro hb2 k2))
    clear hcl hown2 hb2 k2 d0 d1 d2 d3 d4 d5 d6 d7 d8 d9
    go_wp2_with (first | (refine wpList_store_row rfl 31 _ _ rfl (w.heap.size + 1) ((s.ent x).it.arr (.slice ya (s.ent x).it.val.length yc)) rfl rfl 31 zeroI H2.out.2.2 (item_size (s.ent x).it _) rfl (item_one (s.ent x).it H2.out.1) ?_) | fail)
    have hrow := setRow_heap _ _ _ ((s.ent x).it.arr (.slice ya (s.ent x).it.val.length yc)) _ _ H2.out.2.2
    refine bodyPost_ret (results_two Try.results15 _ _ (w.heap.size + 1) _ _ _ _ rfl rfl hrow Try.underlying31 rfl (item_size (s.ent x).it _)) rfl ?_
    obtain ⟨a1, f1, m2⟩ := H1.out
    have hcc : col1 (w.heap.size + 1) = none := Classical.byContradiction fun e => (HF0.out.2 _ e).elim (fun e1 => e1 (HN.out.2.2.1 _ (by omega))) (fun e1 => by have := HN.out.2.1; omega)
    obtain ⟨hown2, hb2, k2⟩ := H2.out
    have hzz := (Array.getElem?_eq_some_iff.1 m2).1
    refine ⟨⟨col1, (a1.step hb2).aside (F := fun k => k = w.heap.size + 1) (Only.setRow (.inl rfl) (Only.refl _ _)) (fun k e => by subst e; exact ⟨hcc, by have := HL.out; omega⟩), (f1.trans (Fr.below hb2)).setRow (.inr (by omega))⟩, ?_⟩
    rw [HY.out.1]
    refine ⟨_, rfl, row_keep (Mem.row_less hown2 (by omega)) fun g e => setRow_other _ _ _ _ (fun e1 => ?_)⟩
    have := (own_block_lt hown2 g e).1
    omega
end
end Go.Proofs.Ytkchlibkfafgdaa.Shard

