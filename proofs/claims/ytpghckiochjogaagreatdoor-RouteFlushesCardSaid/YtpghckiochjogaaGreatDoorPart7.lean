/- Part7: Shard1, Shard2, Slab4, Slab5, one behind the other. -/
import Derived.Test.YtpghckiochjogaaGreatDoorPart3
import Derived.Test.YtpghckiochjogaaGreatDoorPart1
import Derived.Test.YtpghckiochjogaaGreatDoorPart4
import Derived.Test.YtpghckiochjogaaGreatDoorPart2
import Derived.Test.YtpghckiochjogaaGreatDoorPart6
import Derived.Outline
/- Layer 11: a shard's state, and where its parts lie: each block has a colour. -/
namespace Go.Proofs.YtpghckiochjogaaGreatDoor.Shard
open Go Go.RowKit Go.Proofs.YtpghckiochjogaaGreatDoor.Mem Go.Proofs.YtpghckiochjogaaGreatDoor.App
structure Addrs where
  sb : Nat
  tb : Nat
  mb : Nat
  ob : Nat
  jb : Nat
  fb : Nat
  cb : Nat
def shardObj (ad : Addrs) (vd : Value) : Obj := .cells #[.pointer (some ⟨ad.tb, 0, none⟩), .pointer (some ⟨ad.mb, 0, none⟩), .pointer (some ⟨ad.ob, 0, none⟩), .pointer (some ⟨ad.jb, 0, none⟩), vd] 83 (0, 0)
structure Parts (W w : World) (n : Nat) (hl : Nat → Prop) (col : Col) (ad : Addrs) (seed : Int) (s : St) (vd : Value) (vv : Nat → Value) : Prop where
  self : w.heap[ad.sb]? = some (shardObj ad vd)
  csb : col ad.sb = some .self
  tab : ∃ F, TabE.At w ad.tb F seed s.tab ∧ ∀ k, F k → col k = some .table
  sm : TabE.Sm n seed s.tab
  slab : ∃ F, Slab.At w ad.mb F s.slab ∧ ∀ k, F k → col k = some .slab
  order : ∃ F, Slru.At w ad.ob F s.order ∧ ∀ k, F k → col k = some .order
  judge : Tiny.Run W w ad.jb ad.fb ad.cb s.judge
  cj : col ad.jb = some .judge ∧ col ad.fb = some .judge ∧ col ad.cb = some .judge
  drops : w.ownsRow 0 9 1 vd s.drops.length (cellsS s.drops)
  cd : ∀ g, vd.ownBlock = some g → col g = some .drops
  ents : ∀ p ∈ s.tab.L, ¬ hl p.2 → w.heap[p.2]? = some (.cells ((s.ent p.2).arr (vv p.2)) 125 (0, 0)) ∧ OwnB w 0 (vv p.2) (s.ent p.2).it.val ∧ (s.ent p.2).it.key = p.1 ∧ col p.2 = some (.ent p.2) ∧ ∀ g, (vv p.2).ownBlock = some g → col g = some (.ent p.2) ∧ g ≠ p.2
  lt : ∀ k p, col k = some p → W.heap.size ≤ k ∧ k < w.heap.size
  below : Below W.heap.size W w
section
variable {W w w' : World} {n m : Nat} {hl hl' : Nat → Prop} {col : Col} {ad : Addrs} {seed : Int} {s : St} {vd : Value} {vv : Nat → Value} {p : Part}
theorem Parts.far (h : Parts W w n hl col ad seed s vd vv) (ho : Only (Of col p) w w') {k : Nat} {q : Part} (hk : col k = some q) (hq : q ≠ p) : w'.heap[k]? = w.heap[k]? :=
  ho.same k (h.lt k q hk).2 (fun e => hq (by unfold Of at e; rw [hk] at e; injection e))
theorem Parts.recol_of (h : Parts W w n hl col ad seed s vd vv) {k : Nat} {q : Part} (hk : col k = some q) : recol col w w' p k = some q := by rw [recol_old (h.lt k q hk).2]; exact hk
theorem Parts.recol_lt (h : Parts W w n hl col ad seed s vd vv) (hz : w.heap.size ≤ w'.heap.size) : ∀ k q, recol col w w' p k = some q → W.heap.size ≤ k ∧ k < w'.heap.size := fun k q hk => by
  unfold recol at hk
  have hW := h.below.size
  by_cases h1 : k < w.heap.size
  · rw [if_pos h1] at hk
    have := h.lt k q hk; omega
  · rw [if_neg h1] at hk
    by_cases h2 : k < w'.heap.size
    · omega
    · rw [if_neg h2] at hk; cases hk
theorem Parts.onlyBelow (h : Parts W w n hl col ad seed s vd vv) (ho : Only (Of col p) w w') : Below W.heap.size W w' :=
  Below.trans h.below (ho.below h.below.size (fun k hk => (h.lt k p hk).1))
theorem Parts.judgeFar (h : Parts W w n hl col ad seed s vd vv) (ho : Only (Of col p) w w') (hp : Part.judge ≠ p) : Tiny.Run W w' ad.jb ad.fb ad.cb s.judge :=
  h.judge.other ho (fun k hk => by
    have h0 : ∀ j, col j = some Part.judge → j ≠ k := fun j hj e => hp (by unfold Of at hk; rw [← e, hj] at hk; injection hk)
    exact ⟨⟨h0 _ h.cj.1, h0 _ h.cj.2.1, h0 _ h.cj.2.2⟩, (h.lt k p hk).1⟩)
theorem Parts.entsFar (h : Parts W w n hl col ad seed s vd vv) (ho : Only (Of col p) w w') (hp : ∀ m, Part.ent m ≠ p) : ∀ q ∈ s.tab.L, ¬ hl q.2 → w'.heap[q.2]? = some (.cells ((s.ent q.2).arr (vv q.2)) 125 (0, 0)) ∧ OwnB w' 0 (vv q.2) (s.ent q.2).it.val ∧ (s.ent q.2).it.key = q.1 ∧ recol col w w' p q.2 = some (.ent q.2) ∧ ∀ g, (vv q.2).ownBlock = some g → recol col w w' p g = some (.ent q.2) ∧ g ≠ q.2 := fun q hq hn => by
  obtain ⟨h1, h2, h3, h4, h5⟩ := h.ents q hq hn
  exact ⟨(h.far ho h4 (hp _)).trans h1, row_keep h2 fun g e => h.far ho (h5 g e).1 (hp _), h3, h.recol_of h4, fun g e => ⟨h.recol_of (h5 g e).1, (h5 g e).2⟩⟩
theorem Parts.onlyOf {F : Nat → Prop} (hF : ∀ k, F k → col k = some p) (ho : Only F w w') : Only (Of col p) w w' := ho.mono hF
theorem Parts.turnTab (h : Parts W w n hl col ad seed s vd vv) {F F' : Nat → Prop} {t : Tab.St Nat} (hF : ∀ k, F k → col k = some .table) (ha : TabE.At w' ad.tb F' seed t) (ho : Only F w w') (hg : Grows w F F') (hs : TabE.Sm m seed t)
    (hL : ∀ q ∈ t.L, ¬ hl' q.2 → q ∈ s.tab.L ∧ ¬ hl q.2) : Parts W w' m hl' (recol col w w' .table) ad seed { s with tab := t } vd vv := by
  have hoc := Parts.onlyOf hF ho
  obtain ⟨Fs, hs1, hs2⟩ := h.slab
  obtain ⟨Fo, ho1, ho2⟩ := h.order
  exact ⟨(h.far hoc h.csb (by decide)).trans h.self, h.recol_of h.csb, ⟨F', ha, recol_grow hF hg ha.lt⟩, hs,
    ⟨Fs, hs1.same (fun k hk => h.far hoc (hs2 k hk) (by decide)) hoc.size, fun k hk => h.recol_of (hs2 k hk)⟩,
    ⟨Fo, ho1.same (fun k hk => h.far hoc (ho2 k hk) (by decide)) hoc.size, fun k hk => h.recol_of (ho2 k hk)⟩,
    h.judgeFar hoc (by decide), ⟨h.recol_of h.cj.1, h.recol_of h.cj.2.1, h.recol_of h.cj.2.2⟩,
    row_keep h.drops fun g e => h.far hoc (h.cd g e) (by decide), fun g e => h.recol_of (h.cd g e),
    fun q hq hn => h.entsFar hoc (fun _ e => by cases e) q (hL q hq hn).1 (hL q hq hn).2, h.recol_lt hoc.size, h.onlyBelow hoc⟩
theorem Parts.turnSlab (h : Parts W w n hl col ad seed s vd vv) {F F' : Nat → Prop} {t : Slab.St} (hF : ∀ k, F k → col k = some .slab) (ha : Slab.At w' ad.mb F' t) (hlt : ∀ k, F' k → k < w'.heap.size) (ho : Only F w w') (hg : Grows w F F') :
    Parts W w' n hl (recol col w w' .slab) ad seed { s with slab := t } vd vv := by
  have hoc := Parts.onlyOf hF ho
  obtain ⟨Ft, ht1, ht2⟩ := h.tab
  obtain ⟨Fo, ho1, ho2⟩ := h.order
  exact ⟨(h.far hoc h.csb (by decide)).trans h.self, h.recol_of h.csb, ⟨Ft, ht1.same (fun k hk => h.far hoc (ht2 k hk) (by decide)) hoc.size, fun k hk => h.recol_of (ht2 k hk)⟩, h.sm,
    ⟨F', ha, recol_grow hF hg hlt⟩,
    ⟨Fo, ho1.same (fun k hk => h.far hoc (ho2 k hk) (by decide)) hoc.size, fun k hk => h.recol_of (ho2 k hk)⟩,
    h.judgeFar hoc (by decide), ⟨h.recol_of h.cj.1, h.recol_of h.cj.2.1, h.recol_of h.cj.2.2⟩,
    row_keep h.drops fun g e => h.far hoc (h.cd g e) (by decide), fun g e => h.recol_of (h.cd g e),
    h.entsFar hoc (fun _ e => by cases e), h.recol_lt hoc.size, h.onlyBelow hoc⟩
theorem Parts.turnOrder (h : Parts W w n hl col ad seed s vd vv) {F F' : Nat → Prop} {t : Slru.St} (hF : ∀ k, F k → col k = some .order) (ha : Slru.At w' ad.ob F' t) (hlt : ∀ k, F' k → k < w'.heap.size) (ho : Only F w w') (hg : Grows w F F') :
    Parts W w' n hl (recol col w w' .order) ad seed { s with order := t } vd vv := by
  have hoc := Parts.onlyOf hF ho
  obtain ⟨Ft, ht1, ht2⟩ := h.tab
  obtain ⟨Fs, hs1, hs2⟩ := h.slab
  exact ⟨(h.far hoc h.csb (by decide)).trans h.self, h.recol_of h.csb, ⟨Ft, ht1.same (fun k hk => h.far hoc (ht2 k hk) (by decide)) hoc.size, fun k hk => h.recol_of (ht2 k hk)⟩, h.sm,
    ⟨Fs, hs1.same (fun k hk => h.far hoc (hs2 k hk) (by decide)) hoc.size, fun k hk => h.recol_of (hs2 k hk)⟩,
    ⟨F', ha, recol_grow hF hg hlt⟩,
    h.judgeFar hoc (by decide), ⟨h.recol_of h.cj.1, h.recol_of h.cj.2.1, h.recol_of h.cj.2.2⟩,
    row_keep h.drops fun g e => h.far hoc (h.cd g e) (by decide), fun g e => h.recol_of (h.cd g e),
    h.entsFar hoc (fun _ e => by cases e), h.recol_lt hoc.size, h.onlyBelow hoc⟩
theorem Parts.step (h : Parts W w n hl col ad seed s vd vv) (hb : Below w.heap.size w w') : Parts W w' n hl col ad seed s vd vv := by
  obtain ⟨Ft, ht1, ht2⟩ := h.tab
  obtain ⟨Fs, hs1, hs2⟩ := h.slab
  obtain ⟨Fo, ho1, ho2⟩ := h.order
  have hk : ∀ k q, col k = some q → w'.heap[k]? = w.heap[k]? := fun k q e => hb.block k (h.lt k q e).2
  exact ⟨(hk _ _ h.csb).trans h.self, h.csb, ⟨Ft, ht1.same (fun k e => hk k _ (ht2 k e)) hb.size, ht2⟩, h.sm, ⟨Fs, hs1.same (fun k e => hk k _ (hs2 k e)) hb.size, hs2⟩, ⟨Fo, ho1.same (fun k e => hk k _ (ho2 k e)) hb.size, ho2⟩,
    h.judge.step hb, h.cj, row_keep h.drops fun g e => hk g _ (h.cd g e), h.cd,
    fun q hq hn => by
      obtain ⟨h1, h2, h3, h4, h5⟩ := h.ents q hq hn
      exact ⟨(hk _ _ h4).trans h1, row_keep h2 fun g e => hk g _ (h5 g e).1, h3, h4, h5⟩,
    fun k q e => ⟨(h.lt k q e).1, Nat.lt_of_lt_of_le (h.lt k q e).2 hb.size⟩, Mem.tr h.below hb⟩
theorem Parts.turnJudge (h : Parts W w n hl col ad seed s vd vv) {j : Tiny.St} (hj : Tiny.Run W w' ad.jb ad.fb ad.cb j) (ho : Only (fun k => k = ad.fb ∨ k = ad.cb) w w') : Parts W w' n hl (recol col w w' .judge) ad seed { s with judge := j } vd vv := by
  have hoc : Only (Of col .judge) w w' := ho.mono fun k hk => hk.elim (fun e => e ▸ h.cj.2.1) (fun e => e ▸ h.cj.2.2)
  obtain ⟨Ft, ht1, ht2⟩ := h.tab
  obtain ⟨Fs, hs1, hs2⟩ := h.slab
  obtain ⟨Fo, ho1, ho2⟩ := h.order
  exact ⟨(h.far hoc h.csb (by decide)).trans h.self, h.recol_of h.csb, ⟨Ft, ht1.same (fun k hk => h.far hoc (ht2 k hk) (by decide)) hoc.size, fun k hk => h.recol_of (ht2 k hk)⟩, h.sm,
    ⟨Fs, hs1.same (fun k hk => h.far hoc (hs2 k hk) (by decide)) hoc.size, fun k hk => h.recol_of (hs2 k hk)⟩,
    ⟨Fo, ho1.same (fun k hk => h.far hoc (ho2 k hk) (by decide)) hoc.size, fun k hk => h.recol_of (ho2 k hk)⟩,
    hj, ⟨h.recol_of h.cj.1, h.recol_of h.cj.2.1, h.recol_of h.cj.2.2⟩,
    row_keep h.drops fun g e => h.far hoc (h.cd g e) (by decide), fun g e => h.recol_of (h.cd g e),
    h.entsFar hoc (fun _ e => by cases e), h.recol_lt hoc.size, h.onlyBelow hoc⟩
theorem Parts.turnDrops (h : Parts W w n hl col ad seed s vd vv) {l : List ByteArray} {vd' : Value} (ho : Only (Of col .drops) w w') (hown : w'.ownsRow 0 9 1 vd' l.length (cellsS l)) (hg : ∀ g, vd'.ownBlock = some g → vd.ownBlock = some g ∨ w.heap.size ≤ g) :
    Parts W (w'.setCell ⟨ad.sb, 4, none⟩ vd') n hl (recol col w w' .drops) ad seed { s with drops := l } vd' vv := by
  obtain ⟨Ft, ht1, ht2⟩ := h.tab
  obtain ⟨Fs, hs1, hs2⟩ := h.slab
  obtain ⟨Fo, ho1, ho2⟩ := h.order
  have hsb := (h.far ho h.csb (by decide)).trans h.self
  have hz2 : (w'.setCell ⟨ad.sb, 4, none⟩ vd').heap.size = w'.heap.size := by simp [World.setCell]
  have hsl := (h.lt _ _ h.csb)
  have hset : ∀ k, k ≠ ad.sb → (w'.setCell ⟨ad.sb, 4, none⟩ vd').heap[k]? = w'.heap[k]? := fun k hk => Below.heap_setCell _ _ _ _ hk
  have hne : ∀ k q, col k = some q → q ≠ .self → k ≠ ad.sb := fun k q e hq e1 => hq (by rw [e1, h.csb] at e; injection e with e; exact e.symm)
  have hk : ∀ k q, col k = some q → q ≠ .self → q ≠ .drops → (w'.setCell ⟨ad.sb, 4, none⟩ vd').heap[k]? = w.heap[k]? := fun k q e h1 h2 => (hset k (hne k q e h1)).trans (h.far ho e h2)
  have hvb : ∀ g, vd'.ownBlock = some g → g ≠ ad.sb := fun g e => (hg g e).elim (fun e1 => hne g _ (h.cd g e1) (by decide)) (fun e1 => by omega)
  have hol : ∀ g, vd'.ownBlock = some g → g < w'.heap.size := fun g e => (own_block_lt hown g e).2
  have hoj : Only (fun k => Of col .drops k ∨ k = ad.sb) w (w'.setCell ⟨ad.sb, 4, none⟩ vd') := (ho.mono (fun k hk => .inl hk)).setCell (p := ⟨ad.sb, 4, none⟩) (.inl (.inr rfl)) vd'
  refine ⟨Mem.row_set hsb 4 vd', h.recol_of h.csb, ⟨Ft, ht1.same (fun k e => hk k _ (ht2 k e) (by decide) (by decide)) (by rw [hz2]; exact ho.size), fun k e => h.recol_of (ht2 k e)⟩, h.sm,
    ⟨Fs, hs1.same (fun k e => hk k _ (hs2 k e) (by decide) (by decide)) (by rw [hz2]; exact ho.size), fun k e => h.recol_of (hs2 k e)⟩,
    ⟨Fo, ho1.same (fun k e => hk k _ (ho2 k e) (by decide) (by decide)) (by rw [hz2]; exact ho.size), fun k e => h.recol_of (ho2 k e)⟩,
    h.judge.other hoj (fun k hk => ?_), ⟨h.recol_of h.cj.1, h.recol_of h.cj.2.1, h.recol_of h.cj.2.2⟩,
    row_keep hown fun g e => hset g (hvb g e), fun g e => ?_, fun q hq hn => ?_, fun k q hk => by rw [hz2]; exact h.recol_lt ho.size k q hk, (h.onlyBelow ho).setCell (p := ⟨ad.sb, 4, none⟩) hsl.1 vd'⟩
  · have h0 : ∀ j, col j = some Part.judge → j ≠ k := fun j hj e => by
      rcases hk with hk | hk
      · unfold Of at hk; rw [← e, hj] at hk; cases hk
      · rw [e, hk, h.csb] at hj; cases hj
    exact ⟨⟨h0 _ h.cj.1, h0 _ h.cj.2.1, h0 _ h.cj.2.2⟩, hk.elim (fun e => (h.lt k _ e).1) (fun e => e ▸ hsl.1)⟩
  · unfold recol
    by_cases h1 : g < w.heap.size
    · rw [if_pos h1]; exact (hg g e).elim (h.cd g) (fun e1 => by omega)
    · rw [if_neg h1, if_pos (hol g e)]
  · obtain ⟨h1, h2, h3, h4, h5⟩ := h.ents q hq hn
    exact ⟨(hk _ _ h4 (by simp) (by simp)).trans h1, row_keep h2 fun g e => hk g _ (h5 g e).1 (by simp) (by simp), h3, h.recol_of h4, fun g e => ⟨h.recol_of (h5 g e).1, (h5 g e).2⟩⟩
theorem Parts.turnEnt (h : Parts W w n hl col ad seed s vd vv) {b : Nat} {x : Ent} {v : Value} (hb : w'.heap[b]? = some (.cells (x.arr v) 125 (0, 0))) (ho : Only (Of col (.ent b)) w w') (hcb : col b = some (.ent b))
    (hown : OwnB w' 0 v x.it.val) (hg : ∀ g, v.ownBlock = some g → (col g = some (.ent b) ∨ w.heap.size ≤ g) ∧ g ≠ b) (hkey : ∀ q ∈ s.tab.L, q.2 = b → x.it.key = q.1) (hh : ∀ q ∈ s.tab.L, q.2 ≠ b → ¬ hl' q.2 → ¬ hl q.2) :
    Parts W w' n hl' (recol col w w' (.ent b)) ad seed { s with ent := upd s.ent b x } vd (upd vv b v) := by
  obtain ⟨Ft, ht1, ht2⟩ := h.tab
  obtain ⟨Fs, hs1, hs2⟩ := h.slab
  obtain ⟨Fo, ho1, ho2⟩ := h.order
  refine ⟨(h.far ho h.csb (by simp)).trans h.self, h.recol_of h.csb, ⟨Ft, ht1.same (fun k hk => h.far ho (ht2 k hk) (by simp)) ho.size, fun k hk => h.recol_of (ht2 k hk)⟩, h.sm,
    ⟨Fs, hs1.same (fun k hk => h.far ho (hs2 k hk) (by simp)) ho.size, fun k hk => h.recol_of (hs2 k hk)⟩,
    ⟨Fo, ho1.same (fun k hk => h.far ho (ho2 k hk) (by simp)) ho.size, fun k hk => h.recol_of (ho2 k hk)⟩,
    h.judgeFar ho (by simp), ⟨h.recol_of h.cj.1, h.recol_of h.cj.2.1, h.recol_of h.cj.2.2⟩,
    row_keep h.drops fun g e => h.far ho (h.cd g e) (by simp), fun g e => h.recol_of (h.cd g e), fun q hq hn => ?_, h.recol_lt ho.size, h.onlyBelow ho⟩
  by_cases e : q.2 = b
  · show w'.heap[q.2]? = some (.cells ((upd s.ent b x q.2).arr (upd vv b v q.2)) 125 (0, 0)) ∧ OwnB w' 0 (upd vv b v q.2) (upd s.ent b x q.2).it.val ∧ (upd s.ent b x q.2).it.key = q.1 ∧ _ ∧ ∀ g, (upd vv b v q.2).ownBlock = some g → _
    rw [e, upd_same, upd_same]
    refine ⟨hb, hown, hkey q hq e, h.recol_of hcb, fun g eg => ⟨?_, (hg g eg).2⟩⟩
    unfold recol
    by_cases h1 : g < w.heap.size
    · rw [if_pos h1]; exact (hg g eg).1.elim id (fun e1 => by omega)
    · rw [if_neg h1, if_pos (own_block_lt hown g eg).2]
  · obtain ⟨h1, h2, h3, h4, h5⟩ := h.ents q hq (hh q hq e hn)
    show w'.heap[q.2]? = some (.cells ((upd s.ent b x q.2).arr (upd vv b v q.2)) 125 (0, 0)) ∧ OwnB w' 0 (upd vv b v q.2) (upd s.ent b x q.2).it.val ∧ (upd s.ent b x q.2).it.key = q.1 ∧ _ ∧ ∀ g, (upd vv b v q.2).ownBlock = some g → _
    rw [upd_other _ _ e, upd_other _ _ e]
    have hne : Part.ent q.2 ≠ Part.ent b := fun e1 => e (by injection e1)
    exact ⟨(h.far ho h4 hne).trans h1, row_keep h2 fun g eg => h.far ho (h5 g eg).1 hne, h3, h.recol_of h4, fun g eg => ⟨h.recol_of (h5 g eg).1, (h5 g eg).2⟩⟩
end
def At (W w : World) (n : Nat) (b : Nat) (col : Col) (seed : Int) (s : St) : Prop := ∃ ad vd vv, ad.sb = b ∧ Parts W w n (fun _ => False) col ad seed s vd vv
def Turn (W w : World) (n b : Nat) (col : Col) (seed : Int) (s : St) (w' : World) : Prop := ∃ col', At W w' n b col' seed s ∧ Fr col col' w w'
theorem At.step {W w w' : World} {n b : Nat} {col : Col} {seed : Int} {s : St} (h : At W w n b col seed s) (hb : Below w.heap.size w w') : At W w' n b col seed s := by
  obtain ⟨ad, vd, vv, e, h⟩ := h
  exact ⟨ad, vd, vv, e, h.step hb⟩
theorem At.lt {W w : World} {n b : Nat} {col : Col} {seed : Int} {s : St} (h : At W w n b col seed s) : ∀ k, col k ≠ none → k < w.heap.size := by
  obtain ⟨ad, vd, vv, e, h⟩ := h
  intro k hk
  rcases hc : col k with _ | p
  · exact absurd hc hk
  · exact (h.lt k p hc).2
end Go.Proofs.YtpghckiochjogaaGreatDoor.Shard

/- Layer 11: Used, Len, Drops, Use. -/
namespace Go.Proofs.YtpghckiochjogaaGreatDoor.Shard
open Go Go.RowKit Go.Proofs.YtpghckiochjogaaGreatDoor.Mem Go.Proofs.YtpghckiochjogaaGreatDoor.App
section
variable {W w : World} {n b : Nat} {col : Col} {seed : Int} {s : St}
theorem use_any (h : At W w n b col seed s) (k : ByteArray) (hk : k.size ≤ maxLen) (hl : s.order.all.length ≤ 1000000000) : Calls Tryz.prog 34 #[.pointer (some ⟨b, 0, none⟩), .string k] w fun e w' => e = .returned (.tuple #[]) ∧ Turn W w n b col seed { s with judge := s.judge.touch k.data.toList, order := (s.order.hit k).2 } w' := by
  obtain ⟨ad, vd, vv, rfl, h⟩ := h
  have c3 : w.cell? ⟨ad.sb, 3, none⟩ = some (.pointer (some ⟨ad.jb, 0, none⟩)) := Mem.row_cell h.self 3
  have ht := Tiny.touch_run h.judge k hk
  have HH := Lib.hid h
  clear h
  go_enter Tryz.func34, Tryz.ntmps34
  go_wp2_with fail
  refine ht.mono ?_
  rintro e w1 ⟨rfl, hj, ho⟩
  have h1 := HH.out.turnJudge hj ho
  have f1 : Fr col (recol col w w1 .judge) w w1 := Fr.of (p := .judge) (fun k hk => hk.elim (fun e => e ▸ HH.out.cj.2.1) (fun e => e ▸ HH.out.cj.2.2)) ho
  have d2 : w1.cell? ⟨ad.sb, 2, none⟩ = some (.pointer (some ⟨ad.ob, 0, none⟩)) := Mem.row_cell h1.self 2
  obtain ⟨F, hs, hF⟩ := h1.order
  have hh := Slru.hit_any hs k (by show s.order.all.length ≤ _; omega)
  have H1 := Lib.hid (And.intro h1 hF)
  clear ht hj ho h1 hs hF c3
  unfold Slru.TurnPost at hh
  go_wp2_with fail
  refine hh.mono ?_
  rintro e w2 ⟨F', rfl, ha, ho, hg⟩
  have h2 := H1.out.1.turnOrder H1.out.2 ha ha.lt ho hg
  have H2 := Lib.hid (And.intro h2 (f1.trans (Fr.of H1.out.2 ho)))
  clear hh ha ho hg h2
  go_wp2_with fail
  go_end0
  exact ⟨rfl, _, ⟨ad, vd, vv, rfl, H2.out.1⟩, H2.out.2⟩
end
end Go.Proofs.YtpghckiochjogaaGreatDoor.Shard

/- The walks of the slab's number, Fits, Take, Free. -/
namespace Go.Proofs.YtpghckiochjogaaGreatDoor.Slab
open Go Go.RowKit Go.Proofs.YtpghckiochjogaaGreatDoor.Mem
def NumberPost (w : World) (b : Nat) (F : Nat → Prop) (s : St) (k : Nat) (e : Ending) (w' : World) : Prop :=
  e = .returned (.int .i64 (s.number k).1) ∧ At w' b F (s.number k).2 ∧ Only F w w'
theorem AtW.setGone {w : World} {b : Nat} {F : Nat → Prop} {s : St} {mb : Nat} {gv : Nat → Value} (h : AtW w b F s mb gv) {k : Nat} (hk : k < 6) (v : Value) (l : List Int)
    (hv : w.ownsRow 0 3 1 v l.length (l.map (Value.int .i64))) (hown : v.ownBlock = (gv k).ownBlock ∨ v.ownBlock = none) :
    AtW (w.setCell ⟨b, 3 + k, none⟩ v) b F { s with gone := put s.gone k l } mb (put gv k v) := by
  have hsame : ∀ j, j ≠ b → (w.setCell ⟨b, 3 + k, none⟩ v).heap[j]? = w.heap[j]? := fun j hj => Below.heap_setCell _ _ _ _ hj
  have hvb : v.ownBlock ≠ some b := fun e => by
    rcases hown with h1 | h1
    · exact h.row_ne hk (h1 ▸ e)
    · rw [h1] at e; cases e
  refine ⟨?_, h.map.same (hsame _ h.map_ne), fun j hj => ?_, h.fb, h.fm, fun j hj g e => ?_, fun i j hi hj hij g e e' => ?_, fun j hj => Nat.lt_of_lt_of_le (h.lt j hj) (by simp [World.setCell])⟩
  · have := Mem.row_set h.blk (3 + k) v
    rwa [cells_set_gone k hk v l] at this
  · by_cases hjk : j = k
    · subst hjk
      simp only [put_same]
      exact row_same hv fun g e => hsame g (fun e' => hvb (e' ▸ e))
    · simp only [put_other _ _ hjk]
      exact row_same (h.rows j hj) fun g e => hsame g (fun e' => h.row_ne hj (e' ▸ e))
  · by_cases hjk : j = k
    · subst hjk
      rw [put_same] at e
      rcases hown with h1 | h1
      · exact h.fr j hj g (h1 ▸ e)
      · rw [h1] at e; cases e
    · rw [put_other _ _ hjk] at e
      exact h.fr j hj g e
  · by_cases hik : i = k
    · subst hik
      rw [put_same] at e
      rw [put_other _ _ (Ne.symm hij)] at e'
      rcases hown with h1 | h1
      · exact h.apart i j hi hj hij g (h1 ▸ e) e'
      · rw [h1] at e; cases e
    · rw [put_other _ _ hik] at e
      by_cases hjk : j = k
      · subst hjk
        rw [put_same] at e'
        rcases hown with h1 | h1
        · exact h.apart i j hi hj hij g e (h1 ▸ e')
        · rw [h1] at e'; cases e'
      · rw [put_other _ _ hjk] at e'
        exact h.apart i j hi hj hij g e e'
theorem AtW.setOwn {w : World} {b : Nat} {F : Nat → Prop} {s t : St} {mb : Nat} {gv : Nat → Value} (h : AtW w b F s mb gv) (i : Nat) (v : Value) (hc : (cells s mb gv).setIfInBounds i v = cells t mb gv)
    (hi : t.inn = s.inn) (hg : t.gone = s.gone) : AtW (w.setCell ⟨b, i, none⟩ v) b F t mb gv := by
  have hsame : ∀ j, j ≠ b → (w.setCell ⟨b, i, none⟩ v).heap[j]? = w.heap[j]? := fun j hj => Below.heap_setCell _ _ _ _ hj
  refine ⟨?_, ?_, fun j hj => ?_, h.fb, h.fm, h.fr, h.apart, fun j hj => Nat.lt_of_lt_of_le (h.lt j hj) (by simp [World.setCell])⟩
  · have := Mem.row_set h.blk i v
    rwa [hc] at this
  · rw [hi]; exact h.map.same (hsame _ h.map_ne)
  · rw [hg]; exact row_same (h.rows j hj) fun g e => hsame g (fun e' => h.row_ne hj (e' ▸ e))
theorem number_none {s : St} {k : Nat} (h : s.gone k = []) : s.number k = (s.made k, { s with made := put s.made k (s.made k + 1) }) := by unfold St.number; rw [h]; rfl
theorem number_some {s : St} {k : Nat} (h : s.gone k ≠ []) : s.number k = ((s.gone k).getLast h, { s with gone := put s.gone k (s.gone k).dropLast }) := by
  unfold St.number; rw [List.getLast?_eq_some_getLast h]
set_option maxRecDepth 100000 in
set_option maxHeartbeats 1000000 in
theorem number_new {w : World} {b : Nat} {F : Nat → Prop} {s : St} (h : At w b F s) (k : Nat) (hk : k < 6) (m0 : 0 ≤ s.made k) (m1 : s.made k ≤ 2199023255552) (hg : s.gone k = []) :
    Calls Tryz.prog 138 #[.pointer (some ⟨b, 0, none⟩), .int .i64 k] w (NumberPost w b F s k) := by
  obtain ⟨mb, gv, h⟩ := h
  have ck : w.cell? ⟨b, 3 + k, none⟩ = some (gv k) := (Mem.row_cell h.blk (3 + k)).trans (cells_gone k hk)
  have cm : w.cell? ⟨b, 9 + k, none⟩ = some (.int .i64 (s.made k)) := (Mem.row_cell h.blk (9 + k)).trans (cells_made k hk)
  have fm := Mem.row_free h.blk (9 + k)
  obtain ⟨A, c, hv⟩ : ∃ A c, gv k = .slice A 0 c := by
    have hr := h.rows k hk
    rw [hg] at hr
    rcases hr.2 with ⟨e1, _⟩ | ⟨g, cap, cur, e1, _⟩
    · exact ⟨_, _, e1⟩
    · exact ⟨_, _, e1⟩
  rw [hv] at ck
  have hk0 : (0 : Int) ≤ k := by omega
  have hk6 : (k : Int) < 6 := by omega
  have hfin : ∀ w', w' = (w.setCell ⟨b, 9 + k, none⟩ (.int .i64 (s.made k + 1))).drew → NumberPost w b F s k (.returned (.int .i64 (s.made k))) w' := fun w' e => by
    subst e
    unfold NumberPost
    rw [number_none hg]
    exact ⟨rfl, At.same (w := w.setCell ⟨b, 9 + k, none⟩ (.int .i64 (s.made k + 1))) ⟨mb, gv, h.setOwn (t := { s with made := put s.made k (s.made k + 1) }) (9 + k) _ (cells_set_made k hk _) rfl rfl⟩ (fun _ _ => rfl) (Nat.le_refl _), ((Only.refl F w).setCell (.inl h.fb) _).drew⟩
  have hmk : s.made k + 1 - 1 = s.made k := by omega
  generalize s.made k = m at *
  clear hv h hg
  have HK := Lib.hid hmk
  clear hmk hk
  go_enter Tryz.func138, Tryz.ntmps138
  go_wp2
  refine wp_region_still_tail 10 (by kernel_rfl) (by kernel_rfl) ?_
  simp only [List.take_succ_cons, List.take_zero, List.drop_succ_cons, List.drop_zero]
  repeat still_step
  refine wpStill_nil ?_
  change wpList _ _ _ _ _ w.drew
  go_wp2
  go_ret
  exact hfin _ rfl
theorem row_pop {w : World} {base : Nat} {e : TypeId} {g n cap : Nat} {xs : List Value} (h : w.ownsRow base e 1 (.slice (some ⟨g, 0, none⟩) (n + 1) cap) (n + 1) xs) : w.ownsRow base e 1 (.slice (some ⟨g, 0, none⟩) n cap) n xs.dropLast := by
  have hl : xs.length = n + 1 := by have := h.1; omega
  refine ⟨by simp [hl], ?_⟩
  rcases h.2 with ⟨h1, _⟩ | ⟨g', cap', cur, h1, h2, h3, h4, h5, h6, h7⟩
  · cases h1
  · injection h1 with e1 _ e2
    injection e1 with e1
    injection e1 with e1
    subst e1; subst e2
    refine .inr ⟨g, cap, cur, rfl, h2, h3, by omega, h5, h6, ?_⟩
    rw [← h7, List.dropLast_eq_take, List.length_take, List.take_take]
    have : cur.toList.length = cap := by simp [h6]
    rw [this]
    congr 1
    omega
set_option maxRecDepth 100000 in
set_option maxHeartbeats 1000000 in
theorem number_old {w : World} {b : Nat} {F : Nat → Prop} {s : St} (h : At w b F s) (k : Nat) (hk : k < 6) (hg : s.gone k ≠ []) (hlen : (s.gone k).length ≤ 2199023255552) :
    Calls Tryz.prog 138 #[.pointer (some ⟨b, 0, none⟩), .int .i64 k] w (NumberPost w b F s k) := by
  obtain ⟨mb, gv, h⟩ := h
  obtain ⟨n, hn⟩ : ∃ n, (s.gone k).length = n + 1 := ⟨(s.gone k).length - 1, by have := List.length_pos_iff.2 hg; omega⟩
  have hr := h.rows k hk
  rw [hn] at hr hlen
  obtain ⟨g, cap, cur, hv, _, hgb, hcap, hcap', hcur⟩ := Mem.row_block hr
  have ck : w.cell? ⟨b, 3 + k, none⟩ = some (gv k) := (Mem.row_cell h.blk (3 + k)).trans (cells_gone k hk)
  have fk := Mem.row_free h.blk (3 + k)
  have hlast : ((s.gone k).map (Value.int .i64))[n]? = some (.int .i64 ((s.gone k).getLast hg)) := by
    rw [List.getElem?_map, List.getLast_eq_getElem, List.getElem?_eq_getElem (by omega)]
    simp [hn]
  have hgb' : g ≠ b := fun e => h.row_ne hk (by rw [hv, e]; rfl)
  have cl : (w.setCell ⟨b, 3 + k, none⟩ (.slice (some ⟨g, 0, none⟩) n cap)).cell? ⟨g, n, none⟩ = some (.int .i64 ((s.gone k).getLast hg)) := by
    rw [World.cell?_setCell_other _ _ _ _ (by intro e; injection e with e1; exact hgb' e1.symm)]
    exact (Mem.row_cell hgb n).trans (hcur n _ hlast)
  have hk0 : (0 : Int) ≤ k := by omega
  have hk6 : (k : Int) < 6 := by omega
  have hfin : ∀ w', w' = (w.setCell ⟨b, 3 + k, none⟩ (.slice (some ⟨g, 0, none⟩) n cap)).drew → NumberPost w b F s k (.returned (.int .i64 ((s.gone k).getLast hg))) w' := fun w' e => by
    subst e
    unfold NumberPost
    rw [number_some hg]
    rw [hv] at hr
    have hrow := row_pop hr
    refine ⟨rfl, At.same (w := w.setCell ⟨b, 3 + k, none⟩ (.slice (some ⟨g, 0, none⟩) n cap)) ⟨mb, _, h.setGone hk _ (s.gone k).dropLast ?_ (.inl (by rw [hv]; rfl))⟩ (fun _ _ => rfl) (Nat.le_refl _), ((Only.refl F w).setCell (.inl h.fb) _).drew⟩
    rw [List.length_dropLast, hn, List.map_dropLast]
    exact hrow
  rw [hv] at ck
  generalize (s.gone k).getLast hg = x at *
  have HN := Lib.hid hn
  have hw1 : IntKind.i64.wrap (n : Int) = n := by rw [IntKind.wrap_i64]; omega
  have hw2 : (n : Int) ≤ cap := by omega
  have hw3 : (0 : Int) ≤ n := by omega
  clear hr hv h hgb hcur hlast hn
  go_enter Tryz.func138, Tryz.ntmps138
  go_wp2
  refine wp_region_still_tail 10 (by kernel_rfl) (by kernel_rfl) ?_
  simp only [List.take_succ_cons, List.take_zero, List.drop_succ_cons, List.drop_zero]
  repeat still_step
  refine wpStill_nil ?_
  change wpList _ _ _ _ _ w.drew
  go_wp2
  go_ret
  exact hfin _ rfl
theorem number_any {w : World} {b : Nat} {F : Nat → Prop} {s : St} (h : At w b F s) {N : Nat} (hs : Small N s) (hN : N ≤ 2199023255552) (k : Nat) (hk : k < 6) :
    Calls Tryz.prog 138 #[.pointer (some ⟨b, 0, none⟩), .int .i64 k] w (NumberPost w b F s k) := by
  by_cases hg : s.gone k = []
  · exact number_new h k hk (hs.m0 k) (by have := hs.m1 k; omega) hg
  · exact number_old h k hk hg (Nat.le_trans (hs.g k) hN)
theorem classE_ok {size : Int} (h : classN size < 6) : classE size = 0 ∧ classR size = (classN size : Nat) := by unfold classE classR; rw [if_neg (by omega), if_neg (by omega)]; exact ⟨rfl, rfl⟩
theorem classE_no {size : Int} (h : classN size = 6) : classE size = 4 ∧ classR size = 0 := by unfold classE classR; rw [if_pos h, if_pos h]; exact ⟨rfl, rfl⟩
set_option maxRecDepth 100000 in
set_option maxHeartbeats 1000000 in
theorem fits_any {w : World} {b : Nat} {F : Nat → Prop} {s : St} (h : At w b F s) {N : Nat} (hs : Small N s) (hN : N ≤ 2199023255552) (size less : Int) (hl : -9223372036854775808 ≤ less ∧ less ≤ 9223372036854775807) :
    Calls Tryz.prog 135 #[.pointer (some ⟨b, 0, none⟩), .int .i64 size, .int .i64 less] w fun e w' => e = .returned (.bool (s.fits size less)) ∧ ∃ n, w' = w.drewN n := by
  obtain ⟨mb, gv, h⟩ := h
  have c0 : w.cell? ⟨b, 0, none⟩ = some (.int .i64 s.budget) := Mem.row_cell h.blk 0
  have c1 : w.cell? ⟨b, 1, none⟩ = some (.int .i64 s.used) := Mem.row_cell h.blk 1
  have u0 := hs.u0
  have u1 : s.used ≤ 4503599627370496 := by have := hs.u1; omega
  obtain ⟨l0, l1⟩ := hl
  clear h hs
  by_cases h6 : classN size = 6
  · have hr : s.fits size less = false := by unfold St.fits; simp [h6]
    rw [hr]
    have e0 : (classE size == 0) = false := by rw [(classE_no h6).1]; rfl
    clear h6 hr
    go_enter Tryz.func135, Tryz.ntmps135
    go_wp2_with (go_at_call 108; refine (class_any _ _).mono ?_; rintro e w' ⟨rfl, rfl⟩)
    go_quiet (fail)
    go_wp2
    go_ret
    exact ⟨rfl, _, rfl⟩
  have hc := class_six size
  have e0 : (classE size == 0) = true := by rw [(classE_ok (by omega)).1]; rfl
  have er : classR size = (classN size : Nat) := (classE_ok (by omega)).2
  have hb := bytes_range (classN size : Nat)
  by_cases h0 : 0 ≤ less
  case neg =>
    have hr : s.fits size less = false := by unfold St.fits; simp; intros; omega
    rw [hr]
    have d0 : decide ((0 : Int) ≤ less) = false := by simpa using h0
    clear h6 hr er hb hc h0
    go_enter Tryz.func135, Tryz.ntmps135
    go_wp2_with (go_at_call 108; refine (class_any _ _).mono ?_; rintro e w' ⟨rfl, rfl⟩)
    go_quiet (fail)
    go_wp2
    go_ret
    exact ⟨rfl, _, rfl⟩
  have d0 : decide ((0 : Int) ≤ less) = true := by simpa using h0
  by_cases h1 : less ≤ s.used
  case neg =>
    have hr : s.fits size less = false := by unfold St.fits; simp; intros; omega
    rw [hr]
    have d1 : decide (less ≤ s.used) = false := by simpa using h1
    clear h6 hr er hb hc h1
    go_enter Tryz.func135, Tryz.ntmps135
    go_wp2_with (go_at_call 108; refine (class_any _ _).mono ?_; rintro e w' ⟨rfl, rfl⟩)
    go_quiet (fail)
    go_wp2
    go_ret
    exact ⟨rfl, _, rfl⟩
  have d1 : decide (less ≤ s.used) = true := by simpa using h1
  have hr : s.fits size less = decide (s.used - less + bytesI (classR size) ≤ s.budget) := by
    unfold St.fits; rw [er]
    by_cases hx : s.used - less + bytesI ((classN size : Nat) : Int) ≤ s.budget
    · simp [hx, h0, h1]; omega
    · simp [hx]
  rw [hr]
  rw [← er] at hb
  obtain ⟨hb0, hb1⟩ := hb
  have w1 : IntKind.i64.wrap (s.used - less) = s.used - less := by rw [IntKind.wrap_i64]; omega
  have w2 : IntKind.i64.wrap (s.used - less + bytesI (classR size)) = s.used - less + bytesI (classR size) := by rw [IntKind.wrap_i64]; omega
  clear h6 hr er hc
  go_enter Tryz.func135, Tryz.ntmps135
  go_wp2_with (go_at_call 108; refine (class_any _ _).mono ?_; rintro e w' ⟨rfl, rfl⟩)
  go_quiet ((go_at_call 118; exact Calls.quiet_of_same ((bytes_any _ _).mono fun _ _ ⟨h, e⟩ => ⟨h, e.symm⟩)))
  go_wp2
  go_ret
  exact ⟨rfl, _, rfl⟩
end Go.Proofs.YtpghckiochjogaaGreatDoor.Slab

/- The walks of the slab's Take and Free. -/
namespace Go.Proofs.YtpghckiochjogaaGreatDoor.Slab
open Go Go.RowKit Go.Proofs.YtpghckiochjogaaGreatDoor.Mem
def TakePost (w : World) (b : Nat) (F : Nat → Prop) (s : St) (size : Int) (e : Ending) (w' : World) : Prop :=
  ∃ F', e = .returned (.tuple #[.agg #[.int .i64 (s.take size).1.1.1, .int .i64 (s.take size).1.1.2], .int .i64 (s.take size).1.2]) ∧ At w' b F' (s.take size).2 ∧ Only F w w' ∧ Grows w F F'
set_option maxRecDepth 100000 in
set_option maxHeartbeats 1000000 in
theorem take_long {w : World} {b : Nat} {F : Nat → Prop} {s : St} (h : At w b F s) (size : Int) (h6 : classN size = 6) :
    Calls Tryz.prog 113 #[.pointer (some ⟨b, 0, none⟩), .int .i64 size] w (TakePost w b F s size) := by
  have hfin : ∀ w', Below w.heap.size w w' → TakePost w b F s size (.returned (.tuple #[.agg #[.int .i64 0, .int .i64 0], .int .i64 4])) w' := fun w' hb => by
    have ht : s.take size = (((0, 0), 4), s) := by unfold St.take; rw [if_pos h6]
    unfold TakePost; rw [ht]
    have hl : ∀ k, F k → k < w.heap.size := by obtain ⟨_, _, h⟩ := h; exact h.lt
    exact ⟨F, rfl, h.below hb, Only.of_below hb (fun k h1 h2 => by omega), Grows.refl _ _⟩
  have e0 : (classE size == 0) = false := by rw [(classE_no h6).1]; rfl
  have e1 := Lib.hid (classE_no h6).1
  clear h h6
  go_enter Tryz.func113, Tryz.ntmps113
  go_wp2_with (go_at_call 108; refine (class_any _ _).mono ?_; rintro e w' ⟨rfl, rfl⟩)
  refine bodyPost_ret (v := .tuple #[.agg #[.int .i64 0, .int .i64 0], .int .i64 (classE size)]) (by simp [results, Tryz.results113, go_sem]) rfl ?_
  rw [e1.out]
  refine hfin _ ?_
  repeat (first | exact Below.refl _ _ | refine Below.drew ?_ | refine Mem.al ?_ _ | refine Below.setCell ?_ (by first | omega | (simp; omega) | simp) _)
set_option maxRecDepth 100000 in
set_option maxHeartbeats 1000000 in
theorem take_full {w : World} {b : Nat} {F : Nat → Prop} {s : St} (h : At w b F s) {N : Nat} (hs : Small N s) (hN : N ≤ 2199023255552) (size : Int) (h6 : classN size < 6) (hx : s.budget < s.used + bytesI (classN size)) :
    Calls Tryz.prog 113 #[.pointer (some ⟨b, 0, none⟩), .int .i64 size] w (TakePost w b F s size) := by
  have hfin : ∀ w', Below w.heap.size w w' → TakePost w b F s size (.returned (.tuple #[.agg #[.int .i64 0, .int .i64 0], .int .i64 5])) w' := fun w' hb => by
    have ht : s.take size = (((0, 0), 5), s) := by unfold St.take; rw [if_neg (by omega), if_pos hx]
    unfold TakePost; rw [ht]
    have hl : ∀ k, F k → k < w.heap.size := by obtain ⟨_, _, h⟩ := h; exact h.lt
    exact ⟨F, rfl, h.below hb, Only.of_below hb (fun k h1 h2 => by omega), Grows.refl _ _⟩
  obtain ⟨mb, gv, h⟩ := h
  have hbl := h.lt _ h.fb
  have c0 : w.cell? ⟨b, 0, none⟩ = some (.int .i64 s.budget) := Mem.row_cell h.blk 0
  have c1 : w.cell? ⟨b, 1, none⟩ = some (.int .i64 s.used) := Mem.row_cell h.blk 1
  have u0 := hs.u0
  have u1 : s.used ≤ 4503599627370496 := by have := hs.u1; omega
  obtain ⟨e1, er⟩ := classE_ok h6
  have e0 : (classE size == 0) = true := by rw [e1]; rfl
  rw [← er] at hx
  have hb := bytes_range (classR size)
  obtain ⟨hb0, hb1⟩ := hb
  have w2 : IntKind.i64.wrap (s.used + bytesI (classR size)) = s.used + bytesI (classR size) := by rw [IntKind.wrap_i64]; omega
  clear h h6 hs er e1
  go_enter Tryz.func113, Tryz.ntmps113
  go_wp2_with (go_at_call 108; refine (class_any _ _).mono ?_; rintro e w' ⟨rfl, rfl⟩)
  go_quiet ((go_at_call 118; exact Calls.quiet_of_same ((bytes_any _ _).mono fun _ _ ⟨h, e⟩ => ⟨h, e.symm⟩)))
  go_wp2
  refine bodyPost_ret (v := .tuple #[.agg #[.int .i64 0, .int .i64 0], .int .i64 5]) (by simp [results, Tryz.results113, go_sem]) rfl ?_
  refine hfin _ ?_
  repeat (first | exact Below.refl _ _ | refine Below.drew ?_ | refine Mem.dn ?_ _ | refine Mem.al ?_ _ | refine Below.setCell ?_ (by first | omega | (simp; omega) | simp) _)
theorem set_pairs (l : List (Int × Int)) (c : Int × Int) : Maps.set (pairs l) c (.bool true) = pairs (addIn l c) := by
  induction l with
  | nil => rfl
  | cons p l ih =>
    simp only [pairs, List.map_cons, Maps.set, addIn, List.mem_cons] at ih ⊢
    by_cases h : c = p
    · subst h; simp
    · rw [if_neg h, ih]
      by_cases hm : c ∈ l <;> simp [h, hm]
theorem AtW.addIn {w : World} {b : Nat} {F : Nat → Prop} {s : St} {mb : Nat} {gv : Nat → Value} (h : AtW w b F s mb gv) {o : Obj} {c : Int × Int} (hm : Maps.Is encC (w.putObj mb o) mb (Maps.set (pairs s.inn) c (.bool true))) :
    AtW (w.putObj mb o) b F { s with inn := Slab.addIn s.inn c } mb gv := by
  have hsame : ∀ j, j ≠ mb → (w.putObj mb o).heap[j]? = w.heap[j]? := fun j hj => World.putObj_heap_other hj
  exact ⟨(hsame _ (Ne.symm h.map_ne)).trans h.blk, by rw [set_pairs] at hm; exact hm, fun k hk => row_same (h.rows k hk) fun g e => hsame g (fun e' => h.row_map hk (e' ▸ e)), h.fb, h.fm, h.fr, h.apart, fun k hk => by rw [World.putObj_size]; exact h.lt k hk⟩
set_option maxRecDepth 100000 in
set_option maxHeartbeats 2000000 in
theorem take_ok {w : World} {b : Nat} {F : Nat → Prop} {s : St} (h : At w b F s) {N : Nat} (hs : Small N s) (hN : N ≤ 2199023255552) (size : Int) (h6 : classN size < 6) (hx : ¬ s.budget < s.used + bytesI (classN size)) :
    Calls Tryz.prog 113 #[.pointer (some ⟨b, 0, none⟩), .int .i64 size] w (TakePost w b F s size) := by
  obtain ⟨k, hk⟩ : ∃ k, classN size = k := ⟨_, rfl⟩
  obtain ⟨e1, er⟩ := classE_ok h6
  rw [hk] at er hx h6
  have hb := bytes_range (k : Nat)
  obtain ⟨hb0, hb1⟩ := hb
  have u0 := hs.u0
  have u1 : s.used ≤ 4503599627370496 := by have := hs.u1; omega
  have hbl : b < w.heap.size := by obtain ⟨_, _, h⟩ := h; exact h.lt _ h.fb
  have c0 : w.cell? ⟨b, 0, none⟩ = some (.int .i64 s.budget) := by obtain ⟨_, _, h⟩ := h; exact Mem.row_cell h.blk 0
  have c1 : w.cell? ⟨b, 1, none⟩ = some (.int .i64 s.used) := by obtain ⟨_, _, h⟩ := h; exact Mem.row_cell h.blk 1
  have w2 : IntKind.i64.wrap (s.used + bytesI k) = s.used + bytesI k := by rw [IntKind.wrap_i64]; omega
  have hx' : decide (s.budget < s.used + bytesI k) = false := by simpa using hx
  have HE := Lib.hid er
  have HE1 := Lib.hid e1
  have HK := Lib.hid hk
  have HX := Lib.hid hx
  clear er e1 hk hx
  go_enter Tryz.func113, Tryz.ntmps113
  go_wp2_with (go_at_call 108; refine (class_any _ _).mono ?_; rw [HE.out, HE1.out]; rintro e w' ⟨rfl, rfl⟩)
  go_quiet ((go_at_call 118; exact Calls.quiet_of_same ((bytes_any _ _).mono fun _ _ ⟨h, e⟩ => ⟨h, e.symm⟩)))
  go_wp2_with fail
  have hat := (h.below (Mem.al (Below.refl _ w) (.cells #[.int .i64 0, .int .i64 0] 123))).same (w' := (w.alloc (.cells #[.int .i64 0, .int .i64 0] 123)).drewN nq) (fun _ _ => rfl) (Nat.le_refl _)
  refine (number_any hat hs hN k h6).mono ?_
  have hn1 : (s.number k).2.used = s.used ∧ (s.number k).2.inn = s.inn ∧ (s.number k).2.budget = s.budget := by
    unfold St.number; split <;> exact ⟨rfl, rfl, rfl⟩
  obtain ⟨n, t, hnt⟩ : ∃ n t, s.number k = (n, t) := ⟨_, _, rfl⟩
  have ht : s.take size = ((((k : Int), n), 0), { t with used := s.used + bytesI k, inn := Slab.addIn s.inn (k, n) }) := by
    unfold St.take; rw [HK.out, if_neg (by omega), if_neg (by have := HX.out; omega), hnt]
  have hFl : ∀ k, F k → k < w.heap.size := by obtain ⟨_, _, h⟩ := h; exact h.lt
  unfold NumberPost
  rw [hnt] at hn1 ⊢
  rintro e w3 ⟨rfl, ⟨mb, gv, h3⟩, ho⟩
  obtain ⟨hn1, hn2, hn3⟩ := hn1
  simp only at hn1 hn2 hn3 h3 ⊢
  have hs3 : w.heap.size < w3.heap.size := by have := ho.size; simp at this; omega
  have hR : w3.heap[w.heap.size]? = some (.cells #[.int .i64 0, .int .i64 0] 123 (0, 0)) := (ho.same _ (by simp) (fun e => by have := hFl _ e; omega)).trans (Mem.new_block w _)
  have hC := Mem.new_block w3 (.cells #[.int .i64 k, .int .i64 n] 123)
  have c1' : w3.cell? ⟨b, 1, none⟩ = some (.int .i64 s.used) := by rw [← hn1]; exact Mem.row_cell h3.blk 1
  have f1' := Mem.row_free h3.blk 1
  have c2' : w3.cell? ⟨b, 2, none⟩ = some (.map (some mb)) := Mem.row_cell h3.blk 2
  have hb3 : b < w3.heap.size := h3.lt _ h3.fb
  have hm3 : mb < w3.heap.size := h3.lt _ h3.fm
  have h4 : AtW ((w3.alloc (.cells #[.int .i64 k, .int .i64 n] 123)).setCell ⟨b, 1, none⟩ (.int .i64 (s.used + bytesI k))) b F { t with used := s.used + bytesI k } mb gv := by
    refine AtW.setOwn (s := t) ?_ 1 _ (cells_set_used _) rfl rfl
    have hsm : ∀ j, j < w3.heap.size → (w3.alloc (.cells #[.int .i64 k, .int .i64 n] 123)).heap[j]? = w3.heap[j]? := fun j hj => Below.heap_alloc _ _ _ hj
    exact ⟨(hsm _ hb3).trans h3.blk, h3.map.same (hsm _ hm3), fun j hj => row_same (h3.rows j hj) fun g e => hsm g (h3.lt _ (h3.fr j hj g e)), h3.fb, h3.fm, h3.fr, h3.apart, fun j hj => by have := h3.lt j hj; simp; omega⟩
  obtain ⟨o, hmu, hIs⟩ := Maps.run_update (w := ((w3.alloc (.cells #[.int .i64 k, .int .i64 n] 123)).setCell ⟨b, 1, none⟩ (.int .i64 (s.used + bytesI k))).drew.drew) chunkLaw Tryz.underlying102 (h4.map.same rfl) ((k : Int), n) (.bool true)
  have h5 := AtW.addIn (w := ((w3.alloc (.cells #[.int .i64 k, .int .i64 n] 123)).setCell ⟨b, 1, none⟩ (.int .i64 (s.used + bytesI k))).drew.drew) ⟨h4.blk, h4.map, h4.rows, h4.fb, h4.fm, h4.fr, h4.apart, h4.lt⟩ hIs
  have hO : Only F w (((w3.alloc (.cells #[.int .i64 k, .int .i64 n] 123)).setCell ⟨b, 1, none⟩ (.int .i64 (s.used + bytesI k))).drew.drew.putObj mb o) := by
    refine Only.putObj (Only.drew (Only.drew (Only.setCell (Only.alloc ?_ _) (.inl h3.fb) _))) (.inl h3.fm) _
    exact Only.trans (F' := F) (y := (w.alloc (.cells #[.int .i64 0, .int .i64 0] 123)).drewN nq) (Only.drewN (Only.alloc (Only.refl F w) _) nq) ho (Grows.refl _ _)
  have hne1 : w.heap.size ≠ b := by omega
  have hne2 : w.heap.size ≠ mb := by have := hFl _ h3.fm; omega
  have hR9 : (((w3.alloc (.cells #[.int .i64 k, .int .i64 n] 123)).setCell ⟨b, 1, none⟩ (.int .i64 (s.used + bytesI k))).drew.drew.putObj mb o).heap[w.heap.size]? = some (.cells #[.int .i64 0, .int .i64 0] 123 (0, 0)) :=
    (World.putObj_heap_other hne2).trans ((Below.heap_setCell _ _ _ _ hne1).trans ((Below.heap_alloc _ _ _ hs3).trans hR))
  have hC9 : (((w3.alloc (.cells #[.int .i64 k, .int .i64 n] 123)).setCell ⟨b, 1, none⟩ (.int .i64 (s.used + bytesI k))).drew.drew.putObj mb o).heap[w3.heap.size]? = some (.cells #[.int .i64 k, .int .i64 n] 123 (0, 0)) :=
    (World.putObj_heap_other (by omega)).trans ((Below.heap_setCell _ _ _ _ (by simp; omega)).trans hC)
  generalize ((w3.alloc (.cells #[.int .i64 k, .int .i64 n] 123)).setCell ⟨b, 1, none⟩ (.int .i64 (s.used + bytesI k))).drew.drew.putObj mb o = W9 at *
  clear hs hat hnt hIs h4 h h3 ho hC hR
  have hmu' : ∀ _ : True, (Instr.mapUpdate 102 (.map (some mb)) (.agg #[.int .i64 k, .int .i64 n]) (.bool true)).run Tryz.prog
      (((w3.alloc (.cells #[.int .i64 k, .int .i64 n] 123)).setCell ⟨b, 1, none⟩ (.int .i64 (s.used + bytesI k))).drew.drew) = .ok () W9 := fun _ => hmu
  rw [hn2] at h5
  have q0 := Mem.row_cell hR9 0
  have q1 := Mem.row_cell hR9 1
  have q2 := Mem.row_free hR9 0
  have q3 := Mem.row_free hR9 1
  have p0 := Mem.row_cell hC9 0
  have p1 := Mem.row_cell hC9 1
  simp only [List.getElem?_toArray, List.getElem?_cons_zero, List.getElem?_cons_succ] at q0 q1 p0 p1
  have H5 := Lib.hid h5
  have HO := Lib.hid hO
  have HT := Lib.hid ht
  have HR := Lib.hid hR9
  have HS := Lib.hid hs3
  clear hmu h5 hO ht hR9 hC9 hn1 hn2 hn3 HK HX HE HE1 hx'
  go_wp2
  have k1 : (w3.alloc (.cells #[.int .i64 k, .int .i64 n] 123)).cell? ⟨b, 1, none⟩ = some (.int .i64 s.used) := (World.cell?_alloc_lt _ _ _ hb3).trans c1'
  have k2 : (w3.alloc (.cells #[.int .i64 k, .int .i64 n] 123)).frozen? ⟨b, 1, none⟩ = false := (World.frozen?_of_block (Below.heap_alloc _ _ _ hb3)).trans f1'
  have k3 : ((w3.alloc (.cells #[.int .i64 k, .int .i64 n] 123)).setCell ⟨b, 1, none⟩ (.int .i64 (s.used + bytesI k))).cell? ⟨b, 2, none⟩ = some (.map (some mb)) := by
    rw [World.cell?_setCell_other _ _ _ _ (by simp)]; exact (World.cell?_alloc_lt _ _ _ hb3).trans c2'
  have k4 : ((w3.alloc (.cells #[.int .i64 k, .int .i64 n] 123)).setCell ⟨b, 1, none⟩ (.int .i64 (s.used + bytesI k))).heap[w3.heap.size]? = some (.cells #[.int .i64 k, .int .i64 n] 123 (0, 0)) :=
    (Below.heap_setCell _ _ _ _ (by simp; omega)).trans (Mem.new_block w3 _)
  have k5 := Mem.row_cell k4 0
  have k6 := Mem.row_cell k4 1
  simp only [List.getElem?_toArray, List.getElem?_cons_zero, List.getElem?_cons_succ] at k5 k6
  clear k4
  generalize w3.alloc (.cells #[.int .i64 k, .int .i64 n] 123) = Wa at *
  refine wp_region_still_tail 9 (by kernel_rfl) (by kernel_rfl) ?_
  simp only [List.take_succ_cons, List.take_zero, List.drop_succ_cons, List.drop_zero]
  repeat (first | still_step | still_call ((bytes_any _ _).mono fun _ _ ⟨h, e⟩ => ⟨h, e.symm⟩))
  refine wpStill_nil ?_
  change wpList _ _ _ _ _ Wa.drew
  go_wp2
  replace k3 : (Wa.setCell ⟨b, 1, none⟩ (.int .i64 (s.used + bytesI k))).drew.cell? ⟨b, 2, none⟩ = _ := k3
  replace k5 : (Wa.setCell ⟨b, 1, none⟩ (.int .i64 (s.used + bytesI k))).drew.cell? ⟨w3.heap.size, 0, none⟩ = _ := k5
  replace k6 : (Wa.setCell ⟨b, 1, none⟩ (.int .i64 (s.used + bytesI k))).drew.cell? ⟨w3.heap.size, 1, none⟩ = _ := k6
  generalize (Wa.setCell ⟨b, 1, none⟩ (.int .i64 (s.used + bytesI k))).drew = Wb at *
  refine wp_region_still_tail 5 (by kernel_rfl) (by kernel_rfl) ?_
  simp only [List.take_succ_cons, List.take_zero, List.drop_succ_cons, List.drop_zero]
  repeat still_step
  refine wpStill_nil ?_
  change wpList _ _ _ _ _ Wb.drew
  go_wp2
  have r1 : ((W9.setCell ⟨w.heap.size, 0, none⟩ (.int .i64 k)).setCell ⟨w.heap.size, 1, none⟩ (.int .i64 n)).cell? ⟨w.heap.size, 1, none⟩ = some (.int .i64 n) :=
    World.cell?_setCell_same' _ _ _ (by rw [World.cell?_setCell_other _ _ _ _ (by simp), q1]; rfl)
  have r0 : ((W9.setCell ⟨w.heap.size, 0, none⟩ (.int .i64 k)).setCell ⟨w.heap.size, 1, none⟩ (.int .i64 n)).cell? ⟨w.heap.size, 0, none⟩ = some (.int .i64 k) := by
    rw [World.cell?_setCell_other _ _ _ _ (by simp)]; exact World.cell?_setCell_same' _ _ _ (by rw [q0]; rfl)
  refine bodyPost_ret (v := .tuple #[.agg #[.int .i64 k, .int .i64 n], .int .i64 0]) (by simp [results, Tryz.results113, go_sem, r0, r1]) rfl ?_
  unfold TakePost
  rw [HT.out]
  have hsm : ∀ j, F j → ((W9.setCell ⟨w.heap.size, 0, none⟩ (.int .i64 k)).setCell ⟨w.heap.size, 1, none⟩ (.int .i64 n)).heap[j]? = W9.heap[j]? := fun j hj => by
    have := hFl j hj
    rw [Below.heap_setCell _ _ _ _ (by simp; omega), Below.heap_setCell _ _ _ _ (by simp; omega)]
  exact ⟨F, rfl, At.same (w := W9) ⟨mb, gv, H5.out⟩ hsm (by simp [World.setCell]), (HO.out.setCell (.inr (Nat.le_refl _)) _).setCell (.inr (Nat.le_refl _)) _, Grows.refl _ _⟩
theorem take_any {w : World} {b : Nat} {F : Nat → Prop} {s : St} (h : At w b F s) {N : Nat} (hs : Small N s) (hN : N ≤ 2199023255552) (size : Int) :
    Calls Tryz.prog 113 #[.pointer (some ⟨b, 0, none⟩), .int .i64 size] w (TakePost w b F s size) := by
  by_cases h6 : classN size = 6
  · exact take_long h size h6
  have := class_six size
  by_cases hx : s.budget < s.used + bytesI (classN size)
  · exact take_full h hs hN size (by omega) hx
  · exact take_ok h hs hN size (by omega) hx
end Go.Proofs.YtpghckiochjogaaGreatDoor.Slab

