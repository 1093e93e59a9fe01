/- Layer 8: the walks of New, Len, Protected, Add. -/
import Derived.Test.YtpppknopbjpciaaSlru3
namespace Go.Proofs.Ytpppknopbjpciaa.Slru
open Go Go.RowKit Go.Proofs.Ytpppknopbjpciaa.Mem

def key? (ps : List (ByteArray × Value)) (xs : List Nd) : Prop := ∀ k v, Maps.get ps k = some v ↔ ∃ n, (n, k) ∈ xs ∧ v = .pointer (some ⟨n, 0, none⟩)
/-- The list at block b, its map at mb; all that is its own is in F. -/
structure AtW (w : World) (b : Nat) (F : Nat → Prop) (s : St) (mb : Nat) (ts ss : List Nd) (ps : List (ByteArray × Value)) : Prop where
  rows : Rows w b mb s.most ts ss
  map : Maps.Is Value.string w mb ps
  look : key? ps (ts ++ ss)
  pnd : (ps.map (·.1)).Nodup
  tr : ts.map (·.2) = s.trial
  sf : ss.map (·.2) = s.safe
  knd : s.all.Nodup
  fb : F b
  fm : F mb
  fn : ∀ j ∈ (ts ++ ss).map (·.1), F j
  lt : ∀ k, F k → k < w.heap.size
def At (w : World) (b : Nat) (F : Nat → Prop) (s : St) : Prop := ∃ mb ts ss ps, AtW w b F s mb ts ss ps
section
variable {w w' : World} {b mb n : Nat} {F : Nat → Prop} {s : St} {ts ss : List Nd} {ps : List (ByteArray × Value)} {k : ByteArray}
theorem AtW.all (h : AtW w b F s mb ts ss ps) : s.all = (ts ++ ss).map (·.2) := by unfold St.all; rw [← h.tr, ← h.sf, List.map_append]
theorem AtW.same (h : AtW w b F s mb ts ss ps) (hs : ∀ k, F k → w'.heap[k]? = w.heap[k]?) (hz : w.heap.size ≤ w'.heap.size) : AtW w' b F s mb ts ss ps :=
  ⟨h.rows.same fun j hj => hs j (hj.elim (fun e => e ▸ h.fb) (h.fn j)), h.map.same (hs mb h.fm), h.look, h.pnd, h.tr, h.sf, h.knd, h.fb, h.fm, h.fn, fun k hk => Nat.lt_of_lt_of_le (h.lt k hk) hz⟩
theorem At.same (h : At w b F s) (hs : ∀ k, F k → w'.heap[k]? = w.heap[k]?) (hz : w.heap.size ≤ w'.heap.size) : At w' b F s := by
  obtain ⟨mb, ts, ss, ps, h⟩ := h
  exact ⟨mb, ts, ss, ps, h.same hs hz⟩
theorem At.lt (h : At w b F s) : ∀ k, F k → k < w.heap.size := by obtain ⟨_, _, _, _, h⟩ := h; exact h.lt
theorem At.below (h : At w b F s) (ho : Below w.heap.size w w') : At w' b F s := h.same (fun k hk => ho.block k (h.lt k hk)) ho.size
theorem At.only {G : Nat → Prop} (h : At w b F s) (ho : Only G w w') (hd : ∀ k, F k → ¬ G k) : At w' b F s := h.same (fun k hk => ho.same k (h.lt k hk) (hd k hk)) ho.size
theorem At.nodup (h : At w b F s) : s.all.Nodup := by obtain ⟨_, _, _, _, h⟩ := h; exact h.knd
theorem AtW.map_off (h : AtW w b F s mb ts ss ps) : mb ≠ b ∧ mb ∉ (ts ++ ss).map (·.1) := by
  obtain ⟨es, clock, hb, _⟩ := h.map
  refine ⟨fun e => ?_, fun hm => ?_⟩
  · subst e
    have := h.rows.blk
    rw [hb] at this
    injection this with this
    cases this
  · obtain ⟨⟨n, k⟩, hn, e⟩ := List.mem_map.1 hm
    simp only at e
    subst e
    obtain ⟨_, _, _, e2⟩ := h.rows.node hn
    rw [hb] at e2
    injection e2 with e2
    cases e2
theorem AtW.get_some (h : AtW w b F s mb ts ss ps) (hk : k ∈ s.all) : ∃ n, (n, k) ∈ ts ++ ss ∧ Maps.get ps k = some (.pointer (some ⟨n, 0, none⟩)) := by
  rw [h.all] at hk
  obtain ⟨⟨n, k'⟩, hm, e⟩ := List.mem_map.1 hk
  simp only at e
  subst e
  exact ⟨n, hm, (h.look _ _).2 ⟨n, hm, rfl⟩⟩
theorem AtW.get_none (h : AtW w b F s mb ts ss ps) (hk : k ∉ s.all) : Maps.get ps k = none := by
  rcases hg : Maps.get ps k with _ | v
  · rfl
  · obtain ⟨n, hn, _⟩ := (h.look k v).1 hg
    exact absurd (by rw [h.all]; exact List.mem_map.2 ⟨_, hn, rfl⟩) hk
end

theorem zeroNode (w : World) : (zeroValue 46).run Try.prog w = .ok (.pointer none) w := by kernel_rfl
theorem strLaw : Maps.KeyLaw Try.prog 9 Value.string := Maps.stringLaw Try.underlying9

theorem new_any (most : Int) (w : World) : Calls Try.prog 10 #[.int .i64 most] w fun e w' =>
    e = .returned (.pointer (some ⟨w.heap.size + 1, 0, none⟩)) ∧ w' = (w.alloc (.map #[] 0)).alloc (listObj most w.heap.size [] []) := by
  have hmm := @run_makeMap Try.prog
  go_enter Try.func10, Try.ntmps10
  go_wp2
  go_ret
  exact ⟨rfl, rfl⟩
theorem new_gives (most : Int) (w : World) : Calls Try.prog 10 #[.int .i64 most] w fun e w' =>
    ∃ (b : Nat) (F : Nat → Prop), e = .returned (.pointer (some ⟨b, 0, none⟩)) ∧ At w' b F (new most) ∧ (∀ k, F k → w.heap.size ≤ k) ∧ Below w.heap.size w w' :=
  (new_any most w).mono fun e w' ⟨he, hw⟩ => by
    subst hw
    refine ⟨_, fun k => k = w.heap.size ∨ k = w.heap.size + 1, he, ⟨w.heap.size, [], [], [], ⟨Mem.new_block2 w _ _, fun l n k r e => by simp at e, fun l n k r e => by simp at e, List.nodup_nil⟩, (Maps.Is.new w).same (Below.heap_alloc _ _ _ (by simp)), fun k v => by simp [Maps.get], List.nodup_nil, rfl, rfl, List.nodup_nil, .inr rfl, .inl rfl, fun j hj => by simp at hj, ?_⟩, fun k hk => by omega, Mem.al (Mem.al (Below.refl _ _) _) _⟩
    rintro k (rfl | rfl) <;> simp <;> omega
theorem len_any {w : World} {b : Nat} {F : Nat → Prop} {s : St} (h : At w b F s) (hl : s.all.length ≤ 9223372036854775807) : Calls Try.prog 15 #[.pointer (some ⟨b, 0, none⟩)] w fun e w' => e = .returned (.int .i64 s.all.length) ∧ ∃ d, w' = w.drewN d := by
  obtain ⟨mb, ts, ss, ps, h⟩ := h
  have c4 := Mem.row_cell h.rows.blk 4
  have c7 := Mem.row_cell h.rows.blk 7
  simp only [listArr, List.getElem?_toArray, List.getElem?_cons_zero, List.getElem?_cons_succ] at c4 c7
  have e : s.all.length = ts.length + ss.length := by rw [h.all]; simp
  have hw : IntKind.i64.wrap ((ts.length : Int) + (ss.length : Int)) = (ts.length : Int) + (ss.length : Int) := by rw [IntKind.wrap_i64]; omega
  have e' : (s.all.length : Int) = (ts.length : Int) + (ss.length : Int) := by omega
  rw [e']
  clear h hl e e'
  go_enter Try.func15, Try.ntmps15
  go_wp2
  go_quiet (fail)
  go_wp2
  go_ret
  exact ⟨rfl, _, rfl⟩
theorem protected_any {w : World} {b : Nat} {F : Nat → Prop} {s : St} (h : At w b F s) : Calls Try.prog 23 #[.pointer (some ⟨b, 0, none⟩)] w fun e w' => e = .returned (.int .i64 s.safe.length) ∧ w = w' := by
  obtain ⟨mb, ts, ss, ps, h⟩ := h
  have c7 := Mem.row_cell h.rows.blk 7
  simp only [listArr, List.getElem?_toArray, List.getElem?_cons_zero, List.getElem?_cons_succ] at c7
  have e : s.safe.length = ss.length := by rw [← h.sf]; simp
  rw [e]
  clear h e
  go_enter Try.func23, Try.ntmps23
  go_wp2
  go_ret
  exact ⟨rfl, rfl⟩
end Go.Proofs.Ytpppknopbjpciaa.Slru
