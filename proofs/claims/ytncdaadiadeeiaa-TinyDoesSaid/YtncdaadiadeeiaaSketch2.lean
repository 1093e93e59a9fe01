/- The walks over layer 5: Add, Count, Copy. -/
import Derived.Test.YtncdaadiadeeiaaSketch1
import Derived.Test.YtncdaadiadeeiaaSeveral
import Derived.Test.YtncdaadiadeeiaaStillIn
import Derived.Test.YtncdaadiadeeiaaOnly
namespace Go.Proofs.Ytncdaadiadeeiaa.Sketch
open Go Go.RowKit Go.Shelf Go.Proofs.Ytncdaadiadeeiaa.Mem Go.Proofs.Ytncdaadiadeeiaa.Rng Go.Proofs.Ytncdaadiadeeiaa.StillIn
attribute [local go_sem] Oper.semAt_some

def AddPost (w : World) (b : Nat) (k : St) (s : List UInt8) (e : Ending) (w' : World) : Prop := e = .returned (.bool (k.add s).1) ∧ At w' b (k.add s).2 ∧ Only (fun j => j = b) w w'
/-- The call's own blocks, and the sketch: behind so many rows. -/
def blocks (B b : Nat) (k : St) (s : List UInt8) (i : Nat) : List (Nat × Obj) := [(b, .cells (cells { k with c := ups k.seed s k.c i }) 66 (0, 0)), Mem.box B 26 (.pointer (some ⟨b, 0, none⟩))]
theorem blocks_cells (B b : Nat) (k : St) (s : List UInt8) (i : Nat) : ∀ p ∈ blocks B b k s i, p.2.isCells = true := by
  intro p hp
  simp only [blocks, List.mem_cons, List.not_mem_nil, or_false] at hp
  rcases hp with rfl | rfl <;> rfl
theorem Ok.ups {k : St} (h : Ok k) (s : List UInt8) (i : Nat) : Ok { k with c := ups k.seed s k.c i } := ⟨fun _ => ups_15 h.c15 _ _ _ _, h.a0, h.a1, h.s0, h.s1⟩

set_option maxRecDepth 100000 in
set_option maxHeartbeats 2000000 in
theorem add_any {w : World} {b : Nat} {k : St} (h : At w b k) (hk : Ok k) (s : ByteArray) (hs : s.size ≤ maxLen) :
    Calls Try.prog 21 #[.pointer (some ⟨b, 0, none⟩), .string s] w (AddPost w b k s.data.toList) := by
  have hbl : b < w.heap.size := (Array.getElem?_eq_some_iff.1 h).1
  have c0 : (w.alloc (.cells #[.pointer (some ⟨b, 0, none⟩)] 26)).cell? ⟨b, 0, none⟩ = some (.int .u64 k.seed) := (Mem.row_cell (Mem.new_later h _) 0).trans (cells_seed k)
  refine (callsIn_wide (n := 9)).1 (callsIn_of_wp_marks Try.func21 rfl trivial ?_ rfl)
  simp only [Try.ntmps21, List.size_toArray, List.length_cons, List.length_nil, Nat.reduceAdd, Nat.reduceSub, Array.replicate_succ, Array.replicate_zero, List.push_toArray, List.append_toArray, List.nil_append, List.cons_append]
  gi_wp2_with fail
  refine ⟨trivial, ?_⟩
  refine (callsIn_wide.2 (Hash.several_gives k.seed 4 s (by omega) hs _)).mono ?_
  rintro e w2 ⟨lb, K, rfl, hseq, hbel, hK⟩
  have hf : Fix w2 (blocks w.heap.size b k s.data.toList 0) :=
    (Fix.cons (Mem.new_later h _) (Fix.cons (Mem.new_block w _) (Fix.nil _))).below hbel (Nat.le_refl _)
  have ho : Only (fun j => j = b) w w2 := Only.of_below (Mem.tr (Mem.al (Below.refl _ _) _) hbel) fun k h1 h2 => by omega
  have hKw : ∀ j, K j → w.heap.size < j := fun j hj => by have := (hK j hj).1; simp at this; omega
  have hs2 : w.heap.size < w2.heap.size := by have := hbel.size; simp at this; omega
  clear hbel c0 h
  gi_wp2_with fail
  refine outer rfl (Hash.enters) hseq (Below.refl _ _) (fun k hk => (hK k hk).2) (fun _ => rfl)
    (fun i W => (Only (fun j => j = b) w W ∧ w2.heap.size ≤ W.heap.size) ∧ Fix W (blocks w.heap.size b k s.data.toList i)) (fun _ _ => False)
    (((own_only (by omega)).and (own_size _ _)).and (own_fix _ _ (blocks_cells _ _ _ _))) (fun _ _ _ _ h _ _ => h) ⟨⟨ho, Nat.le_refl _⟩, hf⟩ ?a1 ?assign ?body ?done ?stop
  case assign =>
    intro l x W Kc hKc
    simp only [Hash.encIH]
    gi_wp2
    exact hKc
  case stop => exact fun D c W _ h _ => h.elim
  case body =>
    rintro l i x W hl _ ⟨⟨hO, hZ⟩, hF⟩ hx
    obtain ⟨hi, rfl⟩ := Hash.several_inv hx
    have c2 := Mem.box_cell hF.tail.head
    have hr := raise_any (w := W.drew) hF.head (hk.ups s.data.toList i) (row := i) (at_ := col k.seed s.data.toList i) (by omega) (col_lt _ _ _)
    have hbel := fun w => Hash.below_any (Hash.nthI k.seed s.data.toList i) 64 (Hash.nthI_range _ _ _).1 (Hash.nthI_range _ _ _).2 (by omega) w
    rw [col_int] at hbel
    have HF := Lib.hid (And.intro hF hO)
    have HX := Lib.hid (And.intro hK hKw)
    clear hF hO hx hf ho hseq hK hKw hl
    obtain ⟨cc, hcc⟩ : ∃ cc, col k.seed s.data.toList i = cc := ⟨_, rfl⟩
    rw [hcc] at hbel hr
    have HC := Lib.hid hcc
    clear hcc
    gi_wp2_with fail
    refine wpIn_region_still_tail 4 (by kernel_rfl) (by kernel_rfl) ?_
    simp only [List.take_succ_cons, List.take_zero, List.drop_succ_cons, List.drop_zero]
    repeat (first | still_step | still_call ((hbel _).mono fun _ _ ⟨h, e⟩ => ⟨h, e.symm⟩))
    refine wpStill_nil ?_
    gi_wp2_with (refine ⟨trivial, ?_⟩; gi_at_call 49; refine (CallsIn.inRound l (callsIn_wide.2 hr)).mono ?_; rintro e W' ⟨rfl, hA', hO'⟩)
    have hO1 : Only (fun j => j = b) W W' := ⟨hO'.os, hO'.tape, hO'.output, hO'.size, hO'.same⟩
    refine ⟨hO1.keepsFrom (fun j e => by omega), hO1.keep (fun j hj => ⟨by have := (HX.out.1 j hj).2; omega, by have := HX.out.2 j hj; omega⟩), ⟨HF.out.2.trans hO1 (fun _ e => .inl e), Nat.le_trans hZ hO1.size⟩, ?_⟩
    refine Fix.cons ?_ (Fix.cons ((hO1.same _ (HF.out.1.lt (p := Mem.box w.heap.size 26 (.pointer (some ⟨b, 0, none⟩))) (by simp [blocks])) (by simp; omega)).trans HF.out.1.tail.head) (Fix.nil _))
    rw [← HC.out] at hA'
    exact hA'
  case done =>
    rintro D W hD ⟨⟨hO, hZ⟩, hF⟩ hKD
    rw [Hash.several_len] at hF
    have hF' : Fix W (blocks w.heap.size b k s.data.toList 4) := hF
    have c2 := Mem.box_cell hF'.tail.head
    have ca := Mem.row_cell hF'.head 129
    have fa := Mem.row_free hF'.head 129
    rw [cells_age] at ca
    simp only at ca
    have hA1 := Mem.row_set hF'.head 129 (.int .i64 (k.age + 1))
    rw [cells_set_age] at hA1
    simp only at hA1
    have hlt := hF'.lt (p := Mem.box w.heap.size 26 (.pointer (some ⟨b, 0, none⟩))) (by simp [blocks])
    have hc2 : (W.setCell ⟨b, 129, none⟩ (.int .i64 (k.age + 1))).cell? ⟨w.heap.size, 0, none⟩ = some (.pointer (some ⟨b, 0, none⟩)) := (World.cell?_setCell_other _ _ _ _ (by simp)).trans c2
    have hw1 : IntKind.i64.wrap (k.age + 1) = k.age + 1 := by have := hk.a0; have := hk.a1; rw [IntKind.wrap_i64]; omega
    have HF := Lib.hid (And.intro hO (And.intro hA1 hKD))
    obtain ⟨a0, a1⟩ : 0 ≤ k.age ∧ k.age < 640 := ⟨hk.a0, hk.a1⟩
    have hhalf := halve_any (w := W.setCell ⟨b, 129, none⟩ (.int .i64 (k.age + 1))) hA1 (fun j => ups_15 hk.c15 k.seed s.data.toList 4 j)
    clear hf ho hseq hK hKw hF hO hKD hA1
    by_cases hag : k.age + 1 < 640
    · have hadd : k.add s.data.toList = (false, { k with c := ups k.seed s.data.toList k.c 4, age := k.age + 1 }) := by unfold St.add; rw [if_pos hag]
      have HD := Lib.hid hadd
      clear hadd
      gi_wp2
      refine ret1 rfl (v := .bool false) ?_ ?_ ?_
      · exact (Below.heap_setCell _ _ _ _ (by simp; omega)).trans HF.out.2.2
      · simp [results, Try.results21, go_sem]
      · unfold AddPost
        rw [HD.out]
        exact ⟨rfl, (World.putObj_heap_other (by omega)).trans HF.out.2.1, (HF.out.1.setCell (.inl rfl) _).putObj (.inr (by omega)) _⟩
    · have hadd : k.add s.data.toList = (true, { k with c := half (ups k.seed s.data.toList k.c 4), age := 320 }) := by unfold St.add; rw [if_neg hag]
      have HD := Lib.hid hadd
      clear hadd
      gi_wp2_with (refine ⟨trivial, ?_⟩; gi_at_call 51; refine (callsIn_wide.2 hhalf).mono ?_; rintro e W' ⟨rfl, hA', hO'⟩)
      refine ret1 rfl (v := .bool true) ?_ ?_ ?_
      · exact (hO'.same D (by simp; exact (Array.getElem?_eq_some_iff.1 HF.out.2.2).1) (by omega)).trans ((Below.heap_setCell _ _ _ _ (by simp; omega)).trans HF.out.2.2)
      · simp [results, Try.results21, go_sem]
      · unfold AddPost
        rw [HD.out]
        exact ⟨rfl, (World.putObj_heap_other (by omega)).trans hA', ((HF.out.1.setCell (.inl rfl) _).trans hO' (fun _ e => .inl e)).putObj (.inr (by omega)) _⟩
/-- Count's own blocks, and the sketch. -/
def blocksC (B b : Nat) (k : St) (s : List UInt8) (i : Nat) : List (Nat × Obj) := [(b, .cells (cells k) 66 (0, 0)), Mem.box B 26 (.pointer (some ⟨b, 0, none⟩)), Mem.box (B + 1) 3 (.int .i64 (cnt k.seed s k.c i : Nat))]
theorem blocksC_cells (B b : Nat) (k : St) (s : List UInt8) (i : Nat) : ∀ p ∈ blocksC B b k s i, p.2.isCells = true := by
  intro p hp
  simp only [blocksC, List.mem_cons, List.not_mem_nil, or_false] at hp
  rcases hp with rfl | rfl | rfl <;> rfl
theorem min_nat (a b : Nat) : (if (b : Int) < (a : Int) then (b : Int) else (a : Int)) = ((min a b : Nat) : Int) := by
  by_cases h : b < a
  · rw [if_pos (by omega)]; omega
  · rw [if_neg (by omega)]; omega
set_option maxRecDepth 100000 in
set_option maxHeartbeats 2000000 in
theorem count_any {w : World} {b : Nat} {k : St} (h : At w b k) (hk : Ok k) (s : ByteArray) (hs : s.size ≤ maxLen) :
    Calls Try.prog 22 #[.pointer (some ⟨b, 0, none⟩), .string s] w fun e w' => e = .returned (.int .i64 (k.count s.data.toList : Nat)) ∧ Below w.heap.size w w' := by
  have hbl : b < w.heap.size := (Array.getElem?_eq_some_iff.1 h).1
  have c0 : ((w.alloc (.cells #[.pointer (some ⟨b, 0, none⟩)] 26)).alloc (.cells #[.int .i64 15] 3)).cell? ⟨b, 0, none⟩ = some (.int .u64 k.seed) :=
    (Mem.row_cell (Mem.new_later (Mem.new_later h _) _) 0).trans (cells_seed k)
  refine (callsIn_wide (n := 9)).1 (callsIn_of_wp_marks Try.func22 rfl trivial ?_ rfl)
  simp only [Try.ntmps22, List.size_toArray, List.length_cons, List.length_nil, Nat.reduceAdd, Nat.reduceSub, Array.replicate_succ, Array.replicate_zero, List.push_toArray, List.append_toArray, List.nil_append, List.cons_append]
  gi_wp2_with fail
  refine ⟨trivial, ?_⟩
  refine (callsIn_wide.2 (Hash.several_gives k.seed 4 s (by omega) hs _)).mono ?_
  rintro e w2 ⟨lb, K, rfl, hseq, hbel, hK⟩
  have hf : Fix w2 (blocksC w.heap.size b k s.data.toList 0) :=
    (Fix.cons (Mem.new_later (Mem.new_later h _) _) (Fix.cons (Mem.new_later (Mem.new_block w _) _) (Fix.cons (Mem.new_block2 w _ _) (Fix.nil _)))).below hbel (Nat.le_refl _)
  have ho : Below w.heap.size w w2 := Mem.tr (Mem.al (Mem.al (Below.refl _ _) _) _) hbel
  have hKw : ∀ j, K j → w.heap.size + 1 < j := fun j hj => by have := (hK j hj).1; simp at this; omega
  have hs2 : w.heap.size + 1 < w2.heap.size := by have := hbel.size; simp at this; omega
  clear hbel c0 h
  gi_wp2_with fail
  refine outer rfl (Hash.enters) hseq (Below.refl _ _) (fun k hk => (hK k hk).2) (fun _ => rfl)
    (fun i W => (Below w.heap.size w W ∧ w2.heap.size ≤ W.heap.size) ∧ Fix W (blocksC w.heap.size b k s.data.toList i)) (fun _ _ => False)
    (((ownFrom_below (Nat.le_refl _) (by omega)).and (own_size _ _)).and (own_fix _ _ (blocksC_cells _ _ _ _))) (fun _ _ _ _ h _ _ => h) ⟨⟨ho, Nat.le_refl _⟩, hf⟩ ?a1 ?assign ?body ?done ?stop
  case assign =>
    intro l x W Kc hKc
    simp only [Hash.encIH]
    gi_wp2
    exact hKc
  case stop => exact fun D c W _ h _ => h.elim
  case body =>
    rintro l i x W hl _ ⟨⟨hO, hZ⟩, hF⟩ hx
    obtain ⟨hi, rfl⟩ := Hash.several_inv hx
    have c2 := Mem.box_cell hF.tail.head
    have c3 := Mem.box_cell hF.tail.tail.head
    have f3 := Mem.box_free hF.tail.tail.head
    have hr := get_any (w := W.drew) hF.head hk (row := i) (at_ := col k.seed s.data.toList i) (by omega) (col_lt _ _ _)
    have hbel := fun w => Hash.below_any (Hash.nthI k.seed s.data.toList i) 64 (Hash.nthI_range _ _ _).1 (Hash.nthI_range _ _ _).2 (by omega) w
    rw [col_int] at hbel
    have HF := Lib.hid (And.intro hF hO)
    have HX := Lib.hid (And.intro hK hKw)
    have hnext : cnt k.seed s.data.toList k.c (i + 1) = min (cnt k.seed s.data.toList k.c i) (k.c (i * 64 + col k.seed s.data.toList i)) := rfl
    obtain ⟨cc, hcc⟩ : ∃ cc, col k.seed s.data.toList i = cc := ⟨_, rfl⟩
    rw [hcc] at hbel hr hnext
    obtain ⟨x, hx0⟩ : ∃ x, cnt k.seed s.data.toList k.c i = x := ⟨_, rfl⟩
    obtain ⟨y, hy0⟩ : ∃ y, k.c (i * 64 + cc) = y := ⟨_, rfl⟩
    rw [hx0] at c3 hnext
    rw [hy0] at hr hnext
    have HN := Lib.hid hnext
    clear hF hO hx hf ho hseq hK hKw hl hcc hx0 hy0 hnext
    gi_wp2_with fail
    refine wpIn_region_still_tail 7 (by kernel_rfl) (by kernel_rfl) ?_
    simp only [List.take_succ_cons, List.take_zero, List.drop_succ_cons, List.drop_zero]
    repeat (first | still_step | still_call ((hbel _).mono fun _ _ ⟨h, e⟩ => ⟨h, e.symm⟩) | still_call (Calls.mono hr fun _ _ ⟨h, e⟩ => ⟨h, e.symm⟩))
    have hgo : ∀ (v : Int) (A : Act) W', v = ((min x y : Nat) : Int) → W' = (W.setCell ⟨w.heap.size + 1, 0, none⟩ (.int .i64 v)).drew →
        rpost w2.heap.size K (fun W => (Below w.heap.size w W ∧ w2.heap.size ≤ W.heap.size) ∧ Fix W (blocksC w.heap.size b k s.data.toList (i + 1))) (fun _ _ => False) W .normal A W' := fun v A W' hv e => by
      subst e
      have hset : ∀ j, j ≠ w.heap.size + 1 → (W.setCell ⟨w.heap.size + 1, 0, none⟩ (.int .i64 v)).heap[j]? = W.heap[j]? := fun j hj => Below.heap_setCell _ _ _ _ hj
      have hkf := (KeepsOthers.setCell W ⟨w.heap.size + 1, 0, none⟩ (.int .i64 v)).from w2.heap.size
      refine ⟨⟨hkf.size, hkf.same⟩, fun j hj => hset j (by have := HX.out.2 j hj; omega), ⟨(HF.out.2.setCell (p := ⟨w.heap.size + 1, 0, none⟩) (by simp) _).drew, ?_⟩, ?_⟩
      · show w2.heap.size ≤ (W.setCell ⟨w.heap.size + 1, 0, none⟩ (.int .i64 v)).heap.size
        simpa [World.setCell] using hZ
      · refine Fix.cons ((hset _ (by simp; omega)).trans HF.out.1.head) (Fix.cons ((hset _ (by simp)).trans HF.out.1.tail.head) (Fix.cons ?_ (Fix.nil _)))
        rw [HN.out, ← hv]
        exact Mem.box_set HF.out.1.tail.tail.head _
    have HG := Lib.hid hgo
    clear hgo
    refine wpStill_nil ?_
    gi_wp2
    · rename_i hlt
      exact HG.out _ _ _ (by omega) rfl
    · rename_i hlt
      exact HG.out _ _ _ (by omega) rfl
  case done =>
    rintro D W hD ⟨⟨hO, hZ⟩, hF⟩ hKD
    rw [Hash.several_len] at hF
    have hF' : Fix W (blocksC w.heap.size b k s.data.toList 4) := hF
    have c3 := Mem.box_cell hF'.tail.tail.head
    have HF := Lib.hid (And.intro hO hKD)
    clear hf ho hseq hK hKw hF hO hKD hF'
    gi_wp2
    refine ret1 rfl (v := .int .i64 (k.count s.data.toList : Nat)) HF.out.2 ?_ ⟨rfl, putObj_below HF.out.1 _ (by omega)⟩
    simp [results, Try.results22, go_sem]
    rfl
end Go.Proofs.Ytncdaadiadeeiaa.Sketch
