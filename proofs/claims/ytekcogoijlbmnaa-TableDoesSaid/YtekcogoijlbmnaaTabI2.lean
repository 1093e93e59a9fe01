/- Layer 9: the table in memory; New, Len, Left, Buckets. -/
import Derived.Test.YtekcogoijlbmnaaTab1
import Derived.Test.YtekcogoijlbmnaaHash
import Derived.Test.YtekcogoijlbmnaaMem
import Derived.OwnWalk
import Derived.Laws.OwnMore
import Derived.Deep.QuietTactic
import Derived.BigQuiet
namespace Go.Proofs.Ytekcogoijlbmnaa.TabI
open Go Go.RowKit Go.Proofs.Ytekcogoijlbmnaa.Mem Go.Proofs.Ytekcogoijlbmnaa.Tab

abbrev V := Int
abbrev encV (v : V) : Value := (.int .i64 v)
def pairCells (p : ByteArray × V) : List Value := [.string p.1, (.int .i64 p.2)]
def cellsP (l : Pairs V) : List Value := l.flatMap pairCells
theorem cellsP_cons (p : ByteArray × V) (l : Pairs V) : cellsP (p :: l) = .string p.1 :: (.int .i64 p.2) :: cellsP l := rfl
theorem cellsP_app (l m : Pairs V) : cellsP (l ++ m) = cellsP l ++ cellsP m := by simp [cellsP]
theorem cellsP_len (l : Pairs V) : (cellsP l).length = l.length * 2 := by
  induction l with
  | nil => rfl
  | cons p l ih => rw [cellsP_cons, List.length_cons, List.length_cons, List.length_cons, ih]; omega
theorem cellsP_get : ∀ (l : Pairs V) (k : Nat) (p : ByteArray × V), l[k]? = some p → (cellsP l)[k * 2]? = some (.string p.1) ∧ (cellsP l)[k * 2 + 1]? = some (.int .i64 p.2)
  | [], k, p, h => by simp at h
  | d :: l, 0, p, h => by
    simp at h; subst h; exact ⟨rfl, rfl⟩
  | d :: l, k + 1, p, h => by
    have := cellsP_get l k p (by simpa using h)
    rw [cellsP_cons]
    refine ⟨?_, ?_⟩
    · rw [show (k + 1) * 2 = k * 2 + 1 + 1 from by omega, List.getElem?_cons_succ, List.getElem?_cons_succ]; exact this.1
    · rw [show (k + 1) * 2 + 1 = k * 2 + 1 + 1 + 1 from by omega, List.getElem?_cons_succ, List.getElem?_cons_succ]; exact this.2
theorem one_cellsP (l : Pairs V) : ∀ u ∈ cellsP l, u.oneCell' = true := fun u hu => by
  simp only [cellsP, pairCells, List.mem_flatMap] at hu
  obtain ⟨p, _, hp⟩ := hu
  rcases List.mem_cons.1 hp with rfl | hp
  · rfl
  · have : u = (.int .i64 p.2) := by simpa using hp
    subst this; rfl

/-- The bucket's place for a text, as a number. -/
def hN (seed : Int) (k : ByteArray) : Nat := (Hash.ofI seed k.data.toList).toNat
theorem below_hN {seed : Int} (h0 : 0 ≤ seed) (h1 : seed < 18446744073709551616) (k : ByteArray) {n : Nat} (hn : 0 < n) : Hash.belowI (Hash.ofI seed k.data.toList) (n : Int) = ((hN seed k % n : Nat) : Int) := by
  have := Hash.ofI_range k.data.toList h0 h1
  unfold Hash.belowI hN
  rw [if_neg (by omega), Int.natCast_emod, Int.toNat_of_nonneg this.1]
theorem below_zero (x : Int) : Hash.belowI x ((0 : Nat) : Int) = 0 := by unfold Hash.belowI; rfl

def tabObj (seed : Int) (ev nv : Value) (left many : Int) : Obj := .cells #[.int .u64 seed, ev, nv, .int .i64 left, .int .i64 many] 52 (0, 0)
abbrev OwnP (w : World) (v : Value) (l : Pairs V) : Prop := w.ownsRow 0 57 2 v l.length (cellsP l)
abbrev bkObj (a : Array Value) : Obj := .cells a 59 (0, 0)

structure AtW (w : World) (b : Nat) (F : Nat → Prop) (seed : Int) (c : Con V) (many : Nat) (ea : Option Addr) (eb nb : Nat) (gv : Nat → Value) : Prop where
  blk : w.heap[b]? = some (tabObj seed (.slice ea c.E c.E) (.slice (some ⟨nb, 0, none⟩) c.N c.N) c.left many)
  eo : (c.E = 0 ∧ ea = none) ∨ (ea = some ⟨eb, 0, none⟩ ∧ F eb ∧ eb ≠ nb ∧ ∃ a, w.heap[eb]? = some (bkObj a) ∧ a.size = c.E ∧ ∀ k, k < c.E → a[k]? = some (gv k))
  no : ∃ a, w.heap[nb]? = some (bkObj a) ∧ a.size = c.N ∧ ∀ k, k < c.N → a[k]? = some (gv (c.E + k))
  rows : ∀ k, k < c.E + c.N → OwnP w (gv k) (c.bs k)
  fb : F b
  fn : F nb
  fr : ∀ k, k < c.E + c.N → ∀ g, (gv k).ownBlock = some g → F g
  apart : ∀ j k, j < c.E + c.N → k < c.E + c.N → j ≠ k → ∀ g, (gv j).ownBlock = some g → (gv k).ownBlock ≠ some g
  lt : ∀ k, F k → k < w.heap.size

/-- The address of a bucket. -/
def adr (c : Con V) (eb nb k : Nat) : Addr := if k < c.E then ⟨eb, k, none⟩ else ⟨nb, k - c.E, none⟩

section
variable {w w' : World} {b : Nat} {F G : Nat → Prop} {seed : Int} {c : Con V} {many : Nat} {ea : Option Addr} {eb nb : Nat} {gv : Nat → Value}
theorem row_same {base : Nat} {e : TypeId} {size n : Nat} {v : Value} {xs : List Value} (h : w.ownsRow base e size v n xs) (hs : ∀ g, v.ownBlock = some g → w'.heap[g]? = w.heap[g]?) : w'.ownsRow base e size v n xs := by
  refine ⟨h.1, ?_⟩
  rcases h.2 with h1 | ⟨g, cap, cur, h1, h2, h3, h4⟩
  · exact .inl h1
  · exact .inr ⟨g, cap, cur, h1, h2, (hs g (by rw [h1]; rfl)).trans h3, h4⟩
theorem own_lt {base : Nat} {e : TypeId} {size n : Nat} {v : Value} {xs : List Value} (h : w.ownsRow base e size v n xs) : ∀ g, v.ownBlock = some g → base ≤ g ∧ g < w.heap.size := fun g e => by
  rcases h.2 with ⟨e1, _⟩ | ⟨g', cap, cur, e1, h2, e2, _⟩
  · rw [e1] at e; cases e
  · rw [e1] at e
    have : g' = g := by simpa [Value.ownBlock] using e
    subst this
    exact ⟨h2, (Array.getElem?_eq_some_iff.1 e2).1⟩
theorem row_not {e t : TypeId} {base size n k : Nat} {v : Value} {xs : List Value} {cs : Array Value} (h : w.ownsRow base e size v n xs) (hk : w.heap[k]? = some (.cells cs t (0, 0))) (hne : e ≠ t) : v.ownBlock ≠ some k := fun e1 => by
  rcases h.2 with ⟨q, _⟩ | ⟨g1, cap, cur, q, _, b1, _⟩
  · rw [q] at e1; cases e1
  · rw [q] at e1
    have : g1 = k := by simpa [Value.ownBlock] using e1
    subst this
    rw [b1] at hk
    injection hk with hk
    injection hk with _ hk
    exact hne hk
theorem AtW.row_b (h : AtW w b F seed c many ea eb nb gv) {k : Nat} (hk : k < c.E + c.N) : (gv k).ownBlock ≠ some b := row_not (h.rows k hk) h.blk (by decide)
theorem AtW.row_n (h : AtW w b F seed c many ea eb nb gv) {k : Nat} (hk : k < c.E + c.N) : (gv k).ownBlock ≠ some nb := by
  obtain ⟨a, ha, _⟩ := h.no
  exact row_not (h.rows k hk) ha (by decide)
theorem AtW.ne_bn (h : AtW w b F seed c many ea eb nb gv) : b ≠ nb := fun e => by
  obtain ⟨a, ha, _⟩ := h.no
  rw [← e, h.blk] at ha
  injection ha with ha
  injection ha with _ ha
  exact absurd ha (by decide)
theorem AtW.ne_be (h : AtW w b F seed c many ea eb nb gv) (hE : 0 < c.E) : b ≠ eb := fun e => by
  rcases h.eo with ⟨h0, _⟩ | ⟨_, _, _, a, ha, _⟩
  · omega
  · rw [← e, h.blk] at ha
    injection ha with ha
    injection ha with _ ha
    exact absurd ha (by decide)
theorem AtW.row_e (h : AtW w b F seed c many ea eb nb gv) (hE : 0 < c.E) {k : Nat} (hk : k < c.E + c.N) : (gv k).ownBlock ≠ some eb := by
  rcases h.eo with ⟨h0, _⟩ | ⟨_, _, _, a, ha, _⟩
  · omega
  · exact row_not (h.rows k hk) ha (by decide)
theorem AtW.same (h : AtW w b F seed c many ea eb nb gv) (hs : ∀ k, F k → w'.heap[k]? = w.heap[k]?) (hz : w.heap.size ≤ w'.heap.size) : AtW w' b F seed c many ea eb nb gv := by
  refine ⟨(hs _ h.fb).trans h.blk, ?_, ?_, fun k hk => row_same (h.rows k hk) fun g e => hs g (h.fr k hk g e), h.fb, h.fn, h.fr, h.apart, fun k hk => Nat.lt_of_lt_of_le (h.lt k hk) hz⟩
  · rcases h.eo with h0 | ⟨h1, h2, h3, a, h4, h5⟩
    · exact .inl h0
    · exact .inr ⟨h1, h2, h3, a, (hs _ h2).trans h4, h5⟩
  · obtain ⟨a, h1, h2⟩ := h.no
    exact ⟨a, (hs _ h.fn).trans h1, h2⟩
theorem AtW.below (h : AtW w b F seed c many ea eb nb gv) (hb : Below w.heap.size w w') : AtW w' b F seed c many ea eb nb gv := h.same (fun k hk => hb.block k (h.lt k hk)) hb.size
theorem AtW.only (h : AtW w b F seed c many ea eb nb gv) (ho : Only G w w') (hd : ∀ k, F k → ¬ G k) : AtW w' b F seed c many ea eb nb gv := h.same (fun k hk => ho.same k (h.lt k hk) (hd k hk)) ho.size
/-- A bucket's cell. -/
theorem AtW.loc (h : AtW w b F seed c many ea eb nb gv) {k : Nat} (hk : k < c.E + c.N) : ∃ g i, adr c eb nb k = ⟨g, i, none⟩ ∧ F g ∧ w.cell? ⟨g, i, none⟩ = some (gv k) ∧ w.frozen? ⟨g, i, none⟩ = false ∧ g ≠ b ∧ ∀ j, j < c.E + c.N → (gv j).ownBlock ≠ some g := by
  unfold adr
  by_cases hE : k < c.E
  · rw [if_pos hE]
    rcases h.eo with ⟨h0, _⟩ | ⟨_, h2, _, a, ha, _, hc⟩
    · omega
    · exact ⟨eb, k, rfl, h2, (Mem.row_cell ha k).trans (hc k hE), Mem.row_free ha k, Ne.symm (h.ne_be (by omega)), fun j hj => h.row_e (by omega) hj⟩
  · rw [if_neg hE]
    obtain ⟨a, ha, _, hc⟩ := h.no
    refine ⟨nb, k - c.E, rfl, h.fn, (Mem.row_cell ha _).trans ?_, Mem.row_free ha _, Ne.symm h.ne_bn, fun j hj => h.row_n hj⟩
    have := hc (k - c.E) (by omega)
    rwa [show c.E + (k - c.E) = k from by omega] at this
def updv (gv : Nat → Value) (k : Nat) (v : Value) : Nat → Value := fun j => if j = k then v else gv j
@[simp] theorem updv_same (gv : Nat → Value) (k : Nat) (v : Value) : updv gv k v k = v := by simp [updv]
theorem updv_other (gv : Nat → Value) {k j : Nat} (v : Value) (h : j ≠ k) : updv gv k v j = gv j := by simp [updv, h]
theorem arr_set {a : Array Value} {n i : Nat} {f : Nat → Value} (v : Value) (hs : a.size = n) (_hi : i < n) (hc : ∀ k, k < n → a[k]? = some (f k)) : (a.setIfInBounds i v).size = n ∧ ∀ k, k < n → (a.setIfInBounds i v)[k]? = some (if k = i then v else f k) := by
  refine ⟨by simpa using hs, fun k hk => ?_⟩
  rw [Array.getElem?_setIfInBounds]
  by_cases e : i = k
  · subst e; simp [hs, hk]
  · rw [if_neg e, if_neg (Ne.symm e)]; exact hc k hk
/-- A bucket gets a new row: what else is the table's lay as it lay. -/
theorem AtW.setRow (h : AtW w b F seed c many ea eb nb gv) {k : Nat} (hk : k < c.E + c.N) {v : Value} {x : Pairs V} (hs : ∀ j, F j → (gv k).ownBlock ≠ some j → w'.heap[j]? = w.heap[j]?) (hz : w.heap.size ≤ w'.heap.size)
    (hown : OwnP w' v x) (hat : ∀ g, v.ownBlock = some g → (gv k).ownBlock = some g ∨ w.heap.size ≤ g) :
    AtW (w'.setCell (adr c eb nb k) v) b (fun j => F j ∨ v.ownBlock = some j) seed (c.set k x) many ea eb nb (updv gv k v) := by
  obtain ⟨g0, i0, hadr, hF0, hc0, _, hgb, hgr⟩ := h.loc hk
  have hnv : v.ownBlock ≠ some g0 := fun e => (hat g0 e).elim (hgr k hk) (fun e1 => by have := h.lt g0 hF0; omega)
  have hset : ∀ j, j ≠ g0 → (w'.setCell (adr c eb nb k) v).heap[j]? = w'.heap[j]? := fun j hj => Below.heap_setCell _ _ _ _ (by rw [hadr]; exact hj)
  have hz2 : (w'.setCell (adr c eb nb k) v).heap.size = w'.heap.size := by simp [World.setCell]
  have hold : ∀ j, F j → j ≠ g0 → (gv k).ownBlock ≠ some j → (w'.setCell (adr c eb nb k) v).heap[j]? = w.heap[j]? := fun j h1 h2 h3 => (hset j h2).trans (hs j h1 h3)
  have hvb : v.ownBlock ≠ some b := fun e => (hat b e).elim (h.row_b hk) (fun e1 => by have := h.lt b h.fb; omega)
  refine ⟨(hold b h.fb (Ne.symm hgb) (h.row_b hk)).trans h.blk, ?_, ?_, fun j hj => ?_, .inl h.fb, .inl h.fn, fun j hj g e => ?_, fun i j hi hj hij g e e' => ?_, fun j hj => ?_⟩
  · rcases h.eo with h0 | ⟨h1, h2, h3, a, ha, hsz, hc⟩
    · exact .inl h0
    · refine .inr ⟨h1, .inl h2, h3, ?_⟩
      have hE : 0 < c.E ∨ c.E = 0 := by omega
      by_cases hke : k < c.E
      · have e1 : (⟨eb, k, none⟩ : Addr) = ⟨g0, i0, none⟩ := by rw [← hadr]; unfold adr; rw [if_pos hke]
        injection e1 with e1 e2
        obtain ⟨q1, q2⟩ := arr_set v hsz hke hc
        refine ⟨_, ?_, q1, fun j hj => q2 j hj⟩
        rw [hadr, ← e1, ← e2]
        exact Mem.row_set ((hs eb h2 (h.row_e (by omega) hk)).trans ha) k v
      · have e1 : (⟨nb, k - c.E, none⟩ : Addr) = ⟨g0, i0, none⟩ := by rw [← hadr]; unfold adr; rw [if_neg hke]
        injection e1 with e1 e2
        refine ⟨a, ?_, hsz, fun j hj => ?_⟩
        · refine (hset eb (by rw [← e1]; exact h3)).trans ((hs eb h2 (fun e => ?_)).trans ha)
          exact row_not (h.rows k hk) ha (by decide) e
        · rw [updv_other _ _ (by have : j < c.E := hj; omega)]; exact hc j hj
  · obtain ⟨a, ha, hsz, hc⟩ := h.no
    by_cases hke : k < c.E
    · have e1 : (⟨eb, k, none⟩ : Addr) = ⟨g0, i0, none⟩ := by rw [← hadr]; unfold adr; rw [if_pos hke]
      injection e1 with e1 e2
      have hne : nb ≠ g0 := by
        rcases h.eo with ⟨h0, _⟩ | ⟨_, _, h3, _⟩
        · omega
        · rw [← e1]; exact Ne.symm h3
      refine ⟨a, (hold nb h.fn hne (h.row_n hk)).trans ha, hsz, fun j hj => ?_⟩
      rw [updv_other _ _ (by show c.E + j ≠ k; omega)]; exact hc j hj
    · have e1 : (⟨nb, k - c.E, none⟩ : Addr) = ⟨g0, i0, none⟩ := by rw [← hadr]; unfold adr; rw [if_neg hke]
      injection e1 with e1 e2
      obtain ⟨q1, q2⟩ := arr_set (f := fun j => gv (c.E + j)) v hsz (show k - c.E < c.N by omega) hc
      refine ⟨_, ?_, q1, fun j hj => ?_⟩
      · rw [hadr, ← e1, ← e2]
        exact Mem.row_set ((hs nb h.fn (h.row_n hk)).trans ha) (k - c.E) v
      · rw [q2 j hj]
        unfold updv
        show some (if j = k - c.E then v else gv (c.E + j)) = some (if c.E + j = k then v else gv (c.E + j))
        by_cases e : j = k - c.E
        · rw [if_pos e, if_pos (by omega)]
        · rw [if_neg e, if_neg (by omega)]
  · show OwnP _ (updv gv k v j) (upd c.bs k x j)
    by_cases e : j = k
    · subst e
      rw [updv_same, upd_same]
      exact row_same hown fun g e => hset g (fun e1 => hnv (e1 ▸ e))
    · rw [updv_other _ _ e, upd_other _ _ e]
      exact row_same (h.rows j hj) fun g e' => hold g (h.fr j hj g e') (fun e1 => hgr j hj (e1 ▸ e')) (h.apart j k hj hk e g e')
  · by_cases e1 : j = k
    · subst e1; rw [updv_same] at e; exact .inr e
    · rw [updv_other _ _ e1] at e; exact .inl (h.fr j hj g e)
  · by_cases e1 : i = k
    · subst e1
      rw [updv_same] at e
      rw [updv_other _ _ (Ne.symm hij)] at e'
      exact (hat g e).elim (fun e2 => h.apart i j hi hj hij g e2 e') (fun e2 => by have := h.lt g (h.fr j hj g e'); omega)
    · rw [updv_other _ _ e1] at e
      by_cases e2 : j = k
      · subst e2
        rw [updv_same] at e'
        exact (hat g e').elim (fun e2 => h.apart i j hi hj hij g e e2) (fun e2 => by have := h.lt g (h.fr i hi g e); omega)
      · rw [updv_other _ _ e2] at e'
        exact h.apart i j hi hj hij g e e'
  · rw [hz2]
    exact hj.elim (fun e => Nat.lt_of_lt_of_le (h.lt j e) hz) (fun e => (own_lt hown j e).2)
/-- The struct's numbers turn. -/
theorem AtW.setBlk (h : AtW w b F seed c many ea eb nb gv) (l' m' : Nat) (hb : w'.heap[b]? = some (tabObj seed (.slice ea c.E c.E) (.slice (some ⟨nb, 0, none⟩) c.N c.N) l' m')) (hs : ∀ j, j ≠ b → w'.heap[j]? = w.heap[j]?) (hz : w.heap.size ≤ w'.heap.size) :
    AtW w' b F seed { c with left := l' } m' ea eb nb gv := by
  refine ⟨hb, ?_, ?_, fun k hk => row_same (h.rows k hk) fun g e => hs g (fun e1 => h.row_b hk (e1 ▸ e)), h.fb, h.fn, h.fr, h.apart, fun k hk => Nat.lt_of_lt_of_le (h.lt k hk) hz⟩
  · rcases h.eo with h0 | ⟨h1, h2, h3, a, h4, h5⟩
    · exact .inl h0
    · refine .inr ⟨h1, h2, h3, a, (hs _ (fun e => ?_)).trans h4, h5⟩
      rw [e, h.blk] at h4
      injection h4 with h4
      injection h4 with _ h4
      exact absurd h4 (by decide)
  · obtain ⟨a, h1, h2⟩ := h.no
    exact ⟨a, (hs _ (Ne.symm h.ne_bn)).trans h1, h2⟩
end

/-- A table in state s lies at block b, its memory the blocks F. -/
def At (w : World) (b : Nat) (F : Nat → Prop) (seed : Int) (s : St V) : Prop := ∃ c ea eb nb gv, AtW w b F seed c s.L.length ea eb nb gv ∧ Abs (hN seed) c s.L ∧ c.E ≤ c.N ∧ c.N = s.buckets ∧ c.left = s.left ∧ ∀ p ∈ s.L, p.1.size ≤ maxLen
section
variable {w w' : World} {b : Nat} {F G : Nat → Prop} {seed : Int} {s : St V}
theorem At.lt (h : At w b F seed s) : ∀ k, F k → k < w.heap.size := by obtain ⟨_, _, _, _, _, h, _⟩ := h; exact h.lt
theorem At.fb (h : At w b F seed s) : F b := by obtain ⟨_, _, _, _, _, h, _⟩ := h; exact h.fb
theorem At.same (h : At w b F seed s) (hs : ∀ k, F k → w'.heap[k]? = w.heap[k]?) (hz : w.heap.size ≤ w'.heap.size) : At w' b F seed s := by
  obtain ⟨c, ea, eb, nb, gv, h, h'⟩ := h
  exact ⟨c, ea, eb, nb, gv, h.same hs hz, h'⟩
theorem At.below (h : At w b F seed s) (hb : Below w.heap.size w w') : At w' b F seed s := h.same (fun k hk => hb.block k (h.lt k hk)) hb.size
theorem At.only (h : At w b F seed s) (ho : Only G w w') (hd : ∀ k, F k → ¬ G k) : At w' b F seed s := h.same (fun k hk => ho.same k (h.lt k hk) (hd k hk)) ho.size
theorem At.rise (h : At w b F seed s) : Rising s.L := by obtain ⟨_, _, _, _, _, _, h, _⟩ := h; exact h.rise
end
theorem infoBk : (Try.prog.info? 59).map (fun i => (i.zero, i.size, i.bytes)) = some (some (.slice none 0 0), 1, 24) := by kernel_rfl
theorem infoPair : (Try.prog.info? 57).map (fun i => (i.zero, i.size, i.bytes)) = some (some (.agg #[.string ⟨#[]⟩, (.int .i64 0)]), 2, 24) := by kernel_rfl
theorem made_nil {n : Nat} {cur : Array Value} (hs : cur.size = n * 1) (ht : cur.toList.take (n * 1) = (madeCells (Value.slice none 0 0).cells (n * 1)).toList) : ∀ k, k < n → cur[k]? = some (.slice none 0 0) := fun k hk => by
  have h1 : cur.toList.take (n * 1) = cur.toList := List.take_of_length_le (by simp [hs])
  rw [h1] at ht
  have h2 : cur[k]? = cur.toList[k]? := by simp
  rw [h2, ht]
  simp [madeCells, Value.cells, hk, Nat.mod_one]
def NewPost (w : World) (seed : Int) (e : Ending) (w' : World) : Prop :=
  ∃ (b : Nat) (F : Nat → Prop), e = .returned (.pointer (some ⟨b, 0, none⟩)) ∧ At w' b F seed new ∧ (∀ k, F k → w.heap.size ≤ k) ∧ Below w.heap.size w w'
set_option maxHeartbeats 1000000 in
theorem new_any (seed : Int) (w : World) : Calls Try.prog 10 #[.int .u64 seed] w (NewPost w seed) := by
  obtain ⟨i0, hi, hz0, hz1, hz2⟩ := info_parts infoBk
  have hfin : ∀ w1, w1.ownsRow w.heap.size 59 1 (.slice (some ⟨w.heap.size, 0, none⟩) 8 8) 8 (madeCells (Value.slice none 0 0).cells (8 * 1)).toList → w.grownBy w1 none →
      NewPost w seed (.returned (.pointer (some ⟨w1.heap.size, 0, none⟩))) (w1.alloc (tabObj seed (.slice none 0 0) (.slice (some ⟨w.heap.size, 0, none⟩) 8 8) 0 0)) := fun w1 hown hg => by
    rcases hown.2 with ⟨e, _⟩ | ⟨g, cap, cur, e, _, hgb, _, _, hsz, htk⟩
    · cases e
    injection e with e _ e2
    injection e with e
    injection e with e
    subst e; subst e2
    have hlt := (Array.getElem?_eq_some_iff.1 hgb).1
    have hle := hg.size
    refine ⟨_, fun k => k = w.heap.size ∨ k = w1.heap.size, rfl, ⟨⟨0, 8, 0, fun _ => []⟩, none, 0, w.heap.size, fun _ => .slice none 0 0, ⟨Mem.new_block _ _, .inl ⟨rfl, rfl⟩, ⟨cur, (Below.heap_alloc _ _ _ hlt).trans hgb, hsz, made_nil hsz htk⟩, fun k _ => World.ownsRow_nil _ _ _ _, .inr rfl, .inl rfl, fun k _ g e => (by cases e), fun j k _ _ _ g e => (by cases e), ?_⟩, abs_new _, Nat.zero_le _, rfl, rfl, fun p hp => by cases hp⟩, ?_, ?_⟩
    · rintro k (rfl | rfl) <;> simp <;> omega
    · rintro k (rfl | rfl) <;> omega
    · exact ((Below.refl _ w).grown hg (Nat.le_refl _) (fun j hj => by cases hj)).alloc hle _
  have HF := Lib.hid hfin
  clear hfin
  go_enter Try.func10, Try.ntmps10
  go_wp2_with (at_make; refine wpList_make_full _ rfl _ _ _ rfl w.heap.size 59 i0 _ 1 Try.underlying50 hi hz0 hz1 .i64 .i64 8 8 8 rfl rfl rfl rfl (by rw [hz2]; omega) (by unfold maxLen; omega) (Nat.le_refl _) ?_; intro w1 hown hg; have H1 := Lib.hid (HF.out w1 hown hg); clear hown hg)
  go_ret
  exact H1.out
theorem len_any {w : World} {b : Nat} {F : Nat → Prop} {seed : Int} {s : St V} (h : At w b F seed s) : Calls Try.prog 16 #[.pointer (some ⟨b, 0, none⟩)] w fun e w' => e = .returned (.int .i64 s.L.length) ∧ w = w' := by
  obtain ⟨c, ea, eb, nb, gv, h, -⟩ := h
  have c1 : w.cell? ⟨b, 4, none⟩ = some (.int .i64 (s.L.length : Nat)) := Mem.row_cell h.blk 4
  clear h
  go_enter Try.func16, Try.ntmps16
  go_wp2
  go_ret
  exact ⟨rfl, rfl⟩
end Go.Proofs.Ytekcogoijlbmnaa.TabI
