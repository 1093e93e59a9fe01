/- The walks over layer 4: Has, Add. -/
import Derived.Test.YtncdaadiadeeiaaBloom1
import Derived.Test.YtncdaadiadeeiaaSeveral
import Derived.Test.YtncdaadiadeeiaaStillIn
import Derived.Test.YtncdaadiadeeiaaOnly
namespace Go.Proofs.Ytncdaadiadeeiaa.Bloom
open Go Go.RowKit Go.Shelf Go.Proofs.Ytncdaadiadeeiaa.Mem Go.Proofs.Ytncdaadiadeeiaa.Rng Go.Proofs.Ytncdaadiadeeiaa.StillIn
attribute [local go_sem] Oper.semAt_some

theorem at_bit {k : St} (hk : Ok k) (p : Nat) : (bits BinOp.and IntKind.u64 (((k.w (p / 64) : Nat) : Int) / 2 ^ (p % 64)) 1 == 0) = !bit k.w p := by
  have h1 := hk.w (p / 64)
  have h2 : k.w (p / 64) / 2 ^ (p % 64) ≤ k.w (p / 64) := Nat.div_le_self _ _
  rw [show (((k.w (p / 64) : Nat) : Int) / 2 ^ (p % 64)) = ((k.w (p / 64) / 2 ^ (p % 64) : Nat) : Int) from by simp, show (1 : Int) = ((1 : Nat) : Int) from rfl, u64_and_nat _ _ (by omega) (by omega), Nat.and_one_is_mod]
  unfold bit
  rw [Nat.testBit_eq_decide_div_mod_eq]
  rcases Nat.mod_two_eq_zero_or_one (k.w (p / 64) / 2 ^ (p % 64)) with h | h <;> rw [h] <;> rfl

def blocks (B b : Nat) (k : St) : List (Nat × Obj) := [(b, .cells (cells k) 76 (0, 0)), Mem.box B 44 (.pointer (some ⟨b, 0, none⟩)), Mem.box (B + 1) 4 (.bool false)]
theorem blocks_cells (B b : Nat) (k : St) : ∀ p ∈ blocks B b k, p.2.isCells = true := by
  intro p hp
  simp only [blocks, List.mem_cons, List.not_mem_nil, or_false] at hp
  rcases hp with rfl | rfl | rfl <;> rfl
set_option maxRecDepth 100000 in
set_option maxHeartbeats 2000000 in
theorem has_any {w : World} {b : Nat} {k : St} (h : At w b k) (hk : Ok k) (s : ByteArray) (hs : s.size ≤ maxLen) :
    Calls Try.prog 33 #[.pointer (some ⟨b, 0, none⟩), .string s] w fun e w' => e = .returned (.bool (k.has s.data.toList)) ∧ Below w.heap.size w w' := by
  have hbl : b < w.heap.size := (Array.getElem?_eq_some_iff.1 h).1
  have c0 : ((w.alloc (.cells #[.pointer (some ⟨b, 0, none⟩)] 44)).alloc (.cells #[.bool false] 4)).cell? ⟨b, 0, none⟩ = some (.int .u64 k.seed) := Mem.row_cell (Mem.new_later (Mem.new_later h _) _) 0
  refine (callsIn_wide (n := 9)).1 (callsIn_of_wp_marks Try.func33 rfl trivial ?_ rfl)
  simp only [Try.ntmps33, List.size_toArray, List.length_cons, List.length_nil, Nat.reduceAdd, Nat.reduceSub, Array.replicate_succ, Array.replicate_zero, List.push_toArray, List.append_toArray, List.nil_append, List.cons_append]
  gi_wp2_with fail
  refine ⟨trivial, ?_⟩
  refine (callsIn_wide.2 (Hash.several_gives k.seed 3 s (by omega) hs _)).mono ?_
  rintro e w2 ⟨lb, K, rfl, hseq, hbel, hK⟩
  have hf : Fix w2 (blocks w.heap.size b k) :=
    (Fix.cons (Mem.new_later (Mem.new_later h _) _) (Fix.cons (Mem.new_later (Mem.new_block w _) _) (Fix.cons (Mem.new_block2 w _ _) (Fix.nil _)))).below hbel (Nat.le_refl _)
  have ho : Below w.heap.size w w2 := Mem.tr (Mem.al (Mem.al (Below.refl _ _) _) _) hbel
  have hs2 : w.heap.size + 1 < w2.heap.size := by have := hbel.size; simp at this; omega
  clear hbel c0 h
  gi_wp2_with fail
  refine outer rfl (Hash.enters) hseq (Below.refl _ _) (fun k hk => (hK k hk).2) (fun _ => rfl)
    (fun i W => (Below w.heap.size w W ∧ hasTo k.seed s.data.toList k.w i = true) ∧ Fix W (blocks w.heap.size b k))
    (fun c W => (c = .ret ∧ Below w.heap.size w W ∧ k.has s.data.toList = false) ∧ Fix W (blocks w.heap.size b k))
    (((ownFrom_below (Nat.le_refl _) (by omega)).and (ownFrom_pure _ (fun i : Nat => hasTo k.seed s.data.toList k.w i = true))).and (own_fix _ (fun _ : Nat => blocks w.heap.size b k) (fun _ => blocks_cells _ _ _)))
    (((ownFrom_pure _ (fun c : Code => c = .ret)).and ((ownFrom_below (Nat.le_refl _) (by omega)).and (ownFrom_pure _ (fun _ : Code => k.has s.data.toList = false)))).and (own_fix _ (fun _ : Code => blocks w.heap.size b k) (fun _ => blocks_cells _ _ _)))
    ⟨⟨ho, rfl⟩, hf⟩ ?a1 ?assign ?body ?done ?stop
  case assign =>
    intro l x W Kc hKc
    simp only [Hash.encIH]
    gi_wp2
    exact hKc
  case body =>
    rintro l i x W hl _ ⟨⟨hO, hH⟩, hF⟩ hx
    obtain ⟨hi, rfl⟩ := Hash.several_inv hx
    have c2 := Mem.box_cell hF.tail.head
    have c3 := Mem.box_cell hF.tail.tail.head
    have f3 := Mem.box_free hF.tail.tail.head
    have hpl := pl_lt k.seed s.data.toList i
    have hbit := at_bit hk (pl k.seed s.data.toList i)
    have cw : W.cell? ⟨b, 1 + pl k.seed s.data.toList i / 64, none⟩ = some (.int .u64 (k.w (pl k.seed s.data.toList i / 64) : Nat)) := (Mem.row_cell hF.head _).trans (cells_word k (by omega))
    have hbel := fun w => Hash.below_any (Hash.nthI k.seed s.data.toList i) 512 (Hash.nthI_range _ _ _).1 (Hash.nthI_range _ _ _).2 (by omega) w
    rw [pl_int] at hbel
    have hnext : hasTo k.seed s.data.toList k.w (i + 1) = (hasTo k.seed s.data.toList k.w i && bit k.w (pl k.seed s.data.toList i)) := rfl
    rw [hH, Bool.true_and] at hnext
    obtain ⟨p, hp⟩ : ∃ p, pl k.seed s.data.toList i = p := ⟨_, rfl⟩
    rw [hp] at hbel cw hnext hpl hbit
    have HN := Lib.hid (And.intro hnext hp)
    have HF := Lib.hid (And.intro hF hO)
    clear hF hO hx hf ho hseq hK hl hp hnext hH
    obtain ⟨q, hq⟩ : ∃ q, bit k.w p = q := ⟨_, rfl⟩
    rw [hq] at hbit
    have HQ := Lib.hid hq
    clear hq
    cases q
    · gi_wp2_with (refine ⟨trivial, ?_⟩; gi_at_call 50; refine (CallsIn.inRound l (callsIn_wide.2 (hbel _))).mono ?_; rintro e w' ⟨rfl, rfl⟩)
      have hno : k.has s.data.toList = false := by
        cases hh : k.has s.data.toList
        · rfl
        · have := (hasTo_iff _ _ _ _).1 hh i (by omega)
          rw [HN.out.2, HQ.out] at this
          cases this
      have hset : ∀ j, j ≠ w.heap.size + 1 → (W.setCell ⟨w.heap.size + 1, 0, none⟩ (.bool false)).heap[j]? = W.heap[j]? := fun j hj => Below.heap_setCell _ _ _ _ hj
      exact ⟨(KeepsOthers.setCell _ _ _).from _, ⟨rfl, HF.out.2.setCell (p := ⟨w.heap.size + 1, 0, none⟩) (by simp) _, hno⟩, Fix.cons ((hset _ (by simp; omega)).trans HF.out.1.head) (Fix.cons ((hset _ (by simp)).trans HF.out.1.tail.head) (Fix.cons (Mem.box_set HF.out.1.tail.tail.head _) (Fix.nil _)))⟩
    · gi_wp2_with (refine ⟨trivial, ?_⟩; gi_at_call 50; refine (CallsIn.inRound l (callsIn_wide.2 (hbel _))).mono ?_; rintro e w' ⟨rfl, rfl⟩)
      exact ⟨KeepsFrom.refl _ _, Keep.refl _ _, ⟨HF.out.2, by rw [HN.out.1, HQ.out]⟩, HF.out.1⟩
  case done =>
    rintro D W hD ⟨⟨hO, hH⟩, hF⟩ hKD
    rw [Hash.several_len] at hH
    have hH' : k.has s.data.toList = true := hH
    have c3 := Mem.box_cell hF.tail.tail.head
    have f3 := Mem.box_free hF.tail.tail.head
    have HD := Lib.hid (And.intro hKD (And.intro hO hH'))
    clear hf ho hseq hK hKD hH hH' hO hF
    gi_wp2
    refine ret1 rfl (v := .bool true) ?_ ?_ ⟨by rw [HD.out.2.2], putObj_below (HD.out.2.1.setCell (p := ⟨w.heap.size + 1, 0, none⟩) (by simp) _) _ (by omega)⟩
    · rw [Below.heap_setCell _ _ _ _ (by simp; omega)]; exact HD.out.1
    · have hc : ((W.setCell ⟨w.heap.size + 1, 0, none⟩ (.bool true)).putObj D (.deferred none)).cell? ⟨w.heap.size + 1, 0, none⟩ = some (.bool true) := by
        rw [putObj_cell _ (by simp; omega)]; exact World.cell?_setCell_same' _ _ _ (by rw [c3]; rfl)
      simp [results, Try.results33, go_sem, hc]
  case stop =>
    rintro D c W hD ⟨⟨rfl, hO, hno⟩, hF⟩ hKD
    have c3 := Mem.box_cell hF.tail.tail.head
    have HD := Lib.hid (And.intro hKD (And.intro hO hno))
    clear hf ho hseq hK hKD hO hno hF
    gi_wp2
    refine ret1 rfl (v := .bool false) HD.out.1 ?_ ⟨by rw [HD.out.2.2], putObj_below HD.out.2.1 _ (by omega)⟩
    have hc : (W.putObj D (.deferred none)).cell? ⟨w.heap.size + 1, 0, none⟩ = some (.bool false) := by
      rw [putObj_cell _ (by simp; omega)]; exact c3
    simp [results, Try.results33, go_sem, hc]
end Go.Proofs.Ytncdaadiadeeiaa.Bloom
