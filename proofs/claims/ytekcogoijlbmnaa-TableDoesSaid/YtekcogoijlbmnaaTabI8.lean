/- Layer 9: Put. -/
import Derived.Test.YtekcogoijlbmnaaTabI7
import Derived.Shelf.RegionOpen
namespace Go.Proofs.Ytekcogoijlbmnaa.TabI
open Go Go.RowKit Go.Proofs.Ytekcogoijlbmnaa.Mem Go.Proofs.Ytekcogoijlbmnaa.Tab

section
variable {w w' : World} {b : Nat} {F G : Nat → Prop} {seed : Int} {c : Con V} {many : Nat} {ea : Option Addr} {eb nb : Nat} {gv : Nat → Value}
/-- A bucket's row turns where it lies. -/
theorem AtW.turnRow (h : AtW w b F seed c many ea eb nb gv) {k : Nat} (hk : k < c.E + c.N) {x : Pairs V} (hs : ∀ j, F j → (gv k).ownBlock ≠ some j → w'.heap[j]? = w.heap[j]?) (hz : w.heap.size ≤ w'.heap.size) (hown : OwnP w' (gv k) x) :
    AtW w' b F seed (c.set k x) many ea eb nb gv := by
  refine ⟨(hs b h.fb (h.row_b hk)).trans h.blk, ?_, ?_, fun j hj => ?_, h.fb, h.fn, h.fr, h.apart, fun j hj => Nat.lt_of_lt_of_le (h.lt j hj) hz⟩
  · rcases h.eo with h0 | ⟨h1, h2, h3, a, ha, h5⟩
    · exact .inl h0
    · exact .inr ⟨h1, h2, h3, a, (hs eb h2 (row_not (h.rows k hk) ha (by decide))).trans ha, h5⟩
  · obtain ⟨a, ha, h2⟩ := h.no
    exact ⟨a, (hs nb h.fn (h.row_n hk)).trans ha, h2⟩
  · show OwnP w' (gv j) (upd c.bs k x j)
    by_cases e : j = k
    · subst e; rw [upd_same]; exact hown
    · rw [upd_other _ _ e]
      exact row_same (h.rows j hj) fun g e' => hs g (h.fr j hj g e') (h.apart j k hj hk e g e')
/-- A pair's value is stored. -/
theorem own_store {l : Pairs V} {g n cap i : Nat} {k : ByteArray} {u u' : V} (h : OwnP w (.slice (some ⟨g, 0, none⟩) n cap) l) (hi : l[i]? = some (k, u)) : OwnP (w.setCell ⟨g, i * 2 + 1, none⟩ (.int .i64 u')) (.slice (some ⟨g, 0, none⟩) n cap) (l.set i (k, u')) := by
  have hil := (List.getElem?_eq_some_iff.1 hi).1
  have hset : ∀ (l : Pairs V) (i : Nat), l[i]? = some (k, u) → cellsP (l.set i (k, u')) = (cellsP l).set (i * 2 + 1) (.int .i64 u') := fun l => by
    induction l with
    | nil => intro i h; simp at h
    | cons p l ih =>
      intro i h
      match i, h with
      | 0, h => simp at h; subst h; rfl
      | i + 1, h =>
        rw [List.set_cons_succ, cellsP_cons, cellsP_cons, ih i (by simpa using h), show (i + 1) * 2 + 1 = i * 2 + 1 + 1 + 1 from by omega]
        rfl
  refine ⟨by rw [cellsP_len], ?_⟩
  rcases h.2 with ⟨e, _⟩ | ⟨g', cap', cur, e, h2, h3, h4, h5, h6, h7⟩
  · cases e
  injection e with e e1 e2
  injection e with e
  injection e with e
  subst e; subst e2
  refine .inr ⟨g, cap, cur.setIfInBounds (i * 2 + 1) (.int .i64 u'), by rw [List.length_set, e1], h2, Mem.row_set h3 _ _, by rw [List.length_set]; exact h4, h5, by simpa using h6, ?_⟩
  rw [hset l i hi, List.length_set, ← h7]
  simp only [Array.toList_setIfInBounds]
  rw [List.take_set]
/-- The table grows. -/
theorem AtW.grow (h : AtW w b F seed c many ea eb nb gv) {nb' : Nat} {a : Array Value} (hnb : w.heap.size ≤ nb') (hb : w'.heap[b]? = some (tabObj seed (.slice (some ⟨nb, 0, none⟩) c.N c.N) (.slice (some ⟨nb', 0, none⟩) (2 * c.N) (2 * c.N)) c.N many))
    (hn : w'.heap[nb']? = some (bkObj a)) (hs : a.size = 2 * c.N) (ha : ∀ k, k < 2 * c.N → a[k]? = some (.slice none 0 0)) (ho : ∀ j, F j → j ≠ b → w'.heap[j]? = w.heap[j]?) (hz : w.heap.size ≤ w'.heap.size) :
    AtW w' b (fun j => F j ∨ j = nb') seed c.grow many (some ⟨nb, 0, none⟩) nb nb' (fun j => if j < c.N then gv (c.E + j) else .slice none 0 0) := by
  have hob : ∀ j g, (if j < c.N then gv (c.E + j) else Value.slice none 0 0).ownBlock = some g → j < c.N ∧ (gv (c.E + j)).ownBlock = some g := fun j g e => by
    by_cases hj : j < c.N
    · rw [if_pos hj] at e; exact ⟨hj, e⟩
    · rw [if_neg hj] at e; cases e
  have hnblt := h.lt nb h.fn
  obtain ⟨a0, h1, h2, h3⟩ := h.no
  refine ⟨hb, .inr ⟨rfl, .inl h.fn, by omega, a0, (ho nb h.fn (Ne.symm h.ne_bn)).trans h1, h2, fun k hk => ?_⟩, ⟨a, hn, hs, fun k hk => ?_⟩, fun k hk => ?_, .inl h.fb, .inr rfl, fun k _ g e => ?_, fun j k _ _ hjk g e e' => ?_, fun j hj => ?_⟩
  · rw [h3 k hk]; rw [if_pos (show k < c.N from hk)]
  · rw [ha k hk]; rw [if_neg (show ¬ c.grow.E + k < c.N from by show ¬ c.N + k < c.N; omega)]
  · show OwnP w' (if k < c.N then gv (c.E + k) else .slice none 0 0) (if k < c.N then c.bs (c.E + k) else [])
    by_cases hkN : k < c.N
    · rw [if_pos hkN, if_pos hkN]
      exact row_same (h.rows _ (by omega)) fun g e => ho g (h.fr _ (by omega) g e) (fun e1 => h.row_b (show c.E + k < c.E + c.N by omega) (e1 ▸ e))
    · rw [if_neg hkN, if_neg hkN]; exact World.ownsRow_nil _ _ _ _
  · obtain ⟨q1, q2⟩ := hob k g e
    exact .inl (h.fr _ (by omega) g q2)
  · obtain ⟨q1, q2⟩ := hob j g e
    obtain ⟨q3, q4⟩ := hob k g e'
    exact h.apart _ _ (by omega) (by omega) (by omega) g q2 q4
  · rcases hj with e | e
    · exact Nat.lt_of_lt_of_le (h.lt j e) hz
    · rw [e]; exact (Array.getElem?_eq_some_iff.1 hn).1
end
/-- Where Put stands behind its store. -/
def Stored (w : World) (b : Nat) (F : Nat → Prop) (seed : Int) (s : St V) (k : ByteArray) (v : V) (w' : World) : Prop :=
  ∃ F' c ea eb nb gv, Mid w F w' b F' seed c (Tab.put s.L k v).length ea eb nb gv ∧ Abs (hN seed) c (Tab.put s.L k v) ∧ c.E ≤ c.N ∧ c.N = s.buckets ∧ c.left = s.left - 1
theorem stored_old {w w1 : World} {b : Nat} {F F1 : Nat → Prop} {seed : Int} {s : St V} {c : Con V} {ea : Option Addr} {eb nb n g n1 cap i : Nat} {gv : Nat → Value} {k : ByteArray} {u : V} (v : V) (h : Mid w F w1 b F1 seed c s.L.length ea eb nb gv) (hf : Fits n seed c s.L)
    (hE : c.E ≤ c.N) (hNb : c.N = s.buckets) (hl : c.left = s.left - 1) (hi : (c.bs (c.idx (hN seed) k))[i]? = some (k, u)) (hg : gv (c.idx (hN seed) k) = .slice (some ⟨g, 0, none⟩) n1 cap) : Stored w b F seed s k v (w1.setCell ⟨g, i * 2 + 1, none⟩ (.int .i64 v)) := by
  have hidx := hf.abs.idx_lt k
  have hrow := h.at_.rows _ hidx
  rw [hg] at hrow
  have hkm : k ∈ s.L.map (·.1) := (hf.abs.find k).1 (List.mem_map.2 ⟨_, List.mem_of_getElem? hi, rfl⟩)
  have h1 := h.at_.turnRow hidx (w' := w1.setCell ⟨g, i * 2 + 1, none⟩ (.int .i64 v)) (x := (c.bs (c.idx (hN seed) k)).set i (k, v)) (fun j hj hn => Below.heap_setCell _ _ _ _ (fun e => by rw [hg] at hn; exact hn (by rw [e]; rfl))) (by simp [World.setCell]) (by rw [hg]; exact own_store hrow hi)
  refine ⟨F1, _, ea, eb, nb, gv, ⟨by rw [put_len_old hf.abs.rise v hkm]; exact h1, h.only.setCell (p := ⟨g, i * 2 + 1, none⟩) ?_ _, h.grows⟩, hf.abs.change v hi, hE, hNb, hl⟩
  exact (h.grows g (h.at_.fr _ hidx g (by rw [hg]; rfl)))
theorem stored_new {w w1 w6 : World} {b : Nat} {F F1 : Nat → Prop} {seed : Int} {s : St V} {c : Con V} {ea : Option Addr} {eb nb n g i g' cap' : Nat} {gv : Nat → Value} {k : ByteArray} (v : V) (h : Mid w F w1 b F1 seed c s.L.length ea eb nb gv) (hf : Fits n seed c s.L)
    (hE : c.E ≤ c.N) (hNb : c.N = s.buckets) (hl : c.left = s.left - 1) (hk : k ∉ s.L.map (·.1)) (hadr : adr c eb nb (c.idx (hN seed) k) = ⟨g, i, none⟩) {o : Obj}
    (hown : OwnP w6 (.slice (some ⟨g', 0, none⟩) ((c.bs (c.idx (hN seed) k)).length + 1) cap') (c.bs (c.idx (hN seed) k) ++ [(k, v)])) (hgrow : (w1.alloc o).grownBy w6 (gv (c.idx (hN seed) k)).ownBlock) (hat : (gv (c.idx (hN seed) k)).ownBlock = some g' ∨ g' = w1.heap.size + 1) :
    Stored w b F seed s k v ((w6.setCell ⟨g, i, none⟩ (.slice (some ⟨g', 0, none⟩) ((c.bs (c.idx (hN seed) k)).length + 1) cap')).setCell ⟨b, 4, none⟩ (.int .i64 ((s.L.length : Int) + 1))) := by
  have hidx := hf.abs.idx_lt k
  have hsm : ∀ j, F1 j → (gv (c.idx (hN seed) k)).ownBlock ≠ some j → w6.heap[j]? = w1.heap[j]? := fun j hj hn => (hgrow.block j (by have := h.at_.lt j hj; simp; omega) (Ne.symm hn)).trans (Below.heap_alloc _ _ _ (h.at_.lt j hj))
  have hz : w1.heap.size + 1 ≤ w6.heap.size := by have := hgrow.size; simpa using this
  have h1 := h.at_.setRow hidx (w' := w6) (v := .slice (some ⟨g', 0, none⟩) ((c.bs (c.idx (hN seed) k)).length + 1) cap') hsm (by omega) hown (fun g2 e => by
    have e2 : g' = g2 := by simpa [Value.ownBlock] using e
    subst e2
    exact hat.imp id (fun e => by omega))
  rw [hadr] at h1
  have hFg : F1 g := by
    obtain ⟨g2, i2, e, hF, _⟩ := h.at_.loc hidx
    rw [hadr] at e; injection e with e; rw [e]; exact hF
  have h2 := h1.setBlk (w' := (w6.setCell ⟨g, i, none⟩ (.slice (some ⟨g', 0, none⟩) ((c.bs (c.idx (hN seed) k)).length + 1) cap')).setCell ⟨b, 4, none⟩ (.int .i64 ((s.L.length : Int) + 1))) c.left (s.L.length + 1) (Mem.row_set h1.blk 4 _) (fun j hj => Below.heap_setCell _ _ _ _ hj) (by simp [World.setCell])
  refine ⟨_, _, ea, eb, nb, _, ⟨by rw [put_len_new hf.abs.rise v hk]; exact h2, ?_, fun j hj => ?_⟩, hf.abs.add v hk, hE, hNb, hl⟩
  · refine ((h.only.trans (((Only.refl F1 w1).alloc o).grown hgrow fun g2 e => ?_) h.grows).setCell (p := ⟨g, i, none⟩) (h.grows g hFg) _).setCell (p := ⟨b, 4, none⟩) (h.grows b h.at_.fb) _
    exact .inl (h.at_.fr _ hidx g2 e)
  · rcases hj with e | e
    · exact h.grows j e
    · have e2 : g' = j := by simpa [Value.ownBlock] using e
      subst e2
      exact hat.elim (fun e => h.grows _ (h.at_.fr _ hidx _ e)) (fun e => .inr (by have := h.only.size; omega))
theorem Sm.put {n : Nat} {seed : Int} {s : St V} (h : Sm n seed s) (hn : n + 1 ≤ 1000000000) (k : ByteArray) (v : V) : Sm (n + 1) seed (s.put k v) := by
  have := h.len
  have := h.bk
  have hp := (Tab.put_len (L := s.L) k v).1
  refine ⟨h.s0, h.s1, by rw [put_L]; omega, hn, ?_⟩
  unfold St.put St.grown
  split
  · rename_i hc; simp only at hc ⊢; omega
  · simp only; omega
theorem Sm.tick {n : Nat} {seed : Int} {s : St V} (h : Sm n seed s) : Sm n seed s.tick := ⟨h.s0, h.s1, h.len, h.nle, h.bk⟩
theorem Sm.del {n : Nat} {seed : Int} {s : St V} (h : Sm n seed s) (k : ByteArray) : Sm n seed (s.del k) := ⟨h.s0, h.s1, Nat.le_trans (del_len_le _ _) h.len, h.nle, h.bk⟩
theorem Sm.mono {n m : Nat} {seed : Int} {s : St V} (h : Sm n seed s) (hm : n ≤ m) (hm2 : m ≤ 1000000000) : Sm m seed s := ⟨h.s0, h.s1, Nat.le_trans h.len hm, hm2, by have := h.bk; omega⟩
end Go.Proofs.Ytekcogoijlbmnaa.TabI
