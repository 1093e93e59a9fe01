/- The walks over layer 4: Add. -/
import Derived.Test.YtncdaadiadeeiaaBloom2
namespace Go.Proofs.Ytncdaadiadeeiaa.Bloom
open Go Go.RowKit Go.Shelf Go.Proofs.Ytncdaadiadeeiaa.Mem Go.Proofs.Ytncdaadiadeeiaa.Rng Go.Proofs.Ytncdaadiadeeiaa.StillIn
attribute [local go_sem] Oper.semAt_some

def blocksA (B b : Nat) (k : St) (s : List UInt8) (i : Nat) : List (Nat × Obj) := [(b, .cells (cells { k with w := adds k.seed s k.w i }) 76 (0, 0)), Mem.box B 44 (.pointer (some ⟨b, 0, none⟩))]
theorem blocksA_cells (B b : Nat) (k : St) (s : List UInt8) (i : Nat) : ∀ p ∈ blocksA B b k s i, p.2.isCells = true := by
  intro p hp
  simp only [blocksA, List.mem_cons, List.not_mem_nil, or_false] at hp
  rcases hp with rfl | rfl <;> rfl
set_option maxRecDepth 100000 in
set_option maxHeartbeats 2000000 in
theorem add_any {w : World} {b : Nat} {k : St} (h : At w b k) (hk : Ok k) (s : ByteArray) (hs : s.size ≤ maxLen) :
    Calls Try.prog 31 #[.pointer (some ⟨b, 0, none⟩), .string s] w fun e w' => e = .returned (.bool (k.has s.data.toList)) ∧ At w' b (k.add s.data.toList) ∧ Only (fun j => j = b) w w' := by
  have hbl : b < w.heap.size := (Array.getElem?_eq_some_iff.1 h).1
  have h1 : At (w.alloc (.cells #[.pointer (some ⟨b, 0, none⟩)] 44)) b k := Mem.new_later h _
  have hhas := has_any h1 hk s hs
  refine (callsIn_wide (n := 9)).1 (callsIn_of_wp_marks Try.func31 rfl trivial ?_ rfl)
  simp only [Try.ntmps31, List.size_toArray, List.length_cons, List.length_nil, Nat.reduceAdd, Nat.reduceSub, Array.replicate_succ, Array.replicate_zero, List.push_toArray, List.append_toArray, List.nil_append, List.cons_append]
  gi_wp2_with fail
  refine ⟨trivial, ?_⟩
  refine (callsIn_wide.2 hhas).mono ?_
  rintro e w1 ⟨rfl, hb1⟩
  have hA1 : At w1 b k := (hb1.block b (by simp; omega)).trans h1
  have hbx : w1.heap[w.heap.size]? = some (.cells #[.pointer (some ⟨b, 0, none⟩)] 44 (0, 0)) := (hb1.block _ (by simp)).trans (Mem.new_block w _)
  have hO1 : Only (fun j => j = b) w w1 := Only.of_below (Mem.tr (Mem.al (Below.refl _ _) _) hb1) fun k h1 h2 => by omega
  have c0 : w1.cell? ⟨b, 0, none⟩ = some (.int .u64 k.seed) := Mem.row_cell hA1 0
  have cx := Mem.box_cell hbx
  have hz1 : w.heap.size < w1.heap.size := (Array.getElem?_eq_some_iff.1 hbx).1
  clear h h1 hhas hb1
  gi_wp2_with fail
  refine ⟨trivial, ?_⟩
  refine (callsIn_wide.2 (Hash.several_gives k.seed 3 s (by omega) hs _)).mono ?_
  rintro e w2 ⟨lb, K, rfl, hseq, hbel, hK⟩
  have hf : Fix w2 (blocksA w.heap.size b k s.data.toList 0) := (Fix.cons (p := (b, .cells (cells k) 76 (0, 0))) hA1 (Fix.cons hbx (Fix.nil _))).below hbel (Nat.le_refl _)
  have ho : Only (fun j => j = b) w w2 := hO1.trans (Only.of_below (F := fun j => j = b) hbel fun k h1 h2 => by omega) (fun _ e => .inl e)
  have hKw : ∀ j, K j → w.heap.size < j := fun j hj => by have := (hK j hj).1; omega
  have hs2 : w.heap.size < w2.heap.size := by have := hbel.size; omega
  clear hbel c0 hA1 hO1 hbx cx
  gi_wp2_with fail
  refine outer rfl (Hash.enters) hseq (Below.refl _ _) (fun k hk => (hK k hk).2) (fun _ => rfl)
    (fun i W => (Only (fun j => j = b) w W ∧ w2.heap.size ≤ W.heap.size) ∧ Fix W (blocksA w.heap.size b k s.data.toList i)) (fun _ _ => False)
    (((own_only (by omega)).and (own_size _ _)).and (own_fix _ _ (blocksA_cells _ _ _ _))) (fun _ _ _ _ h _ _ => h) ⟨⟨ho, Nat.le_refl _⟩, hf⟩ ?a1 ?assign ?body ?done ?stop
  case assign =>
    intro l x W Kc hKc
    simp only [Hash.encIH]
    gi_wp2
    exact hKc
  case stop => exact fun D c W _ h _ => h.elim
  case body =>
    rintro l i x W hl _ ⟨⟨hO, hZ⟩, hF⟩ hx
    obtain ⟨hi, rfl⟩ := Hash.several_inv hx
    have c2 := Mem.box_cell hF.tail.head
    have hpl := pl_lt k.seed s.data.toList i
    have hbel := fun w => Hash.below_any (Hash.nthI k.seed s.data.toList i) 512 (Hash.nthI_range _ _ _).1 (Hash.nthI_range _ _ _).2 (by omega) w
    rw [pl_int] at hbel
    have hnext : adds k.seed s.data.toList k.w (i + 1) = setB (adds k.seed s.data.toList k.w i) (pl k.seed s.data.toList i) := rfl
    obtain ⟨p, hp⟩ : ∃ p, pl k.seed s.data.toList i = p := ⟨_, rfl⟩
    rw [hp] at hbel hnext hpl
    have hlt := adds_lt hk.w k.seed s.data.toList i
    obtain ⟨wd, hwd⟩ : ∃ wd, adds k.seed s.data.toList k.w i = wd := ⟨_, rfl⟩
    have cw : W.cell? ⟨b, 1 + p / 64, none⟩ = some (.int .u64 (wd (p / 64) : Nat)) := by rw [← hwd]; exact (Mem.row_cell hF.head _).trans (cells_word _ (by omega))
    have fw : W.frozen? ⟨b, 1 + p / 64, none⟩ = false := Mem.row_free hF.head _
    rw [hwd] at hnext hlt
    have HN := Lib.hid (And.intro hnext hwd)
    have HF := Lib.hid (And.intro hF hO)
    have HX := Lib.hid (And.intro hK hKw)
    have HV := Lib.hid (hlt (p / 64))
    obtain ⟨v, hv⟩ : ∃ v, wd (p / 64) = v := ⟨_, rfl⟩
    obtain ⟨m, hm⟩ : ∃ m, p / 64 = m := ⟨_, rfl⟩
    obtain ⟨r, hr⟩ : ∃ r, p % 64 = r := ⟨_, rfl⟩
    rw [hv] at cw
    rw [hm] at cw fw
    have hd : (p : Int) / 64 = m := by omega
    have hd0 : (0 : Int) ≤ m := by omega
    have hd1 : (m : Int) < 8 := by omega
    have hdw : IntKind.i64.wrap (m : Int) = m := by rw [IntKind.wrap_i64]; omega
    have hr2 : (p : Int).tmod 64 = r := by rw [Int.tmod_eq_emod_of_nonneg (by omega)]; omega
    have hr0 : (0 : Int) ≤ r := by omega
    have hr1 : (r : Int) < 64 := by omega
    have HM := Lib.hid (And.intro hv (And.intro hm hr))
    clear hF hO hx hf ho hseq hK hKw hl hp hnext hwd hlt hv hm hr
    gi_wp2_with (refine ⟨trivial, ?_⟩; gi_at_call 50; refine (CallsIn.inRound l (callsIn_wide.2 (hbel _))).mono ?_; rintro e w' ⟨rfl, rfl⟩)
    refine wpIn_region_still_tail 14 (by kernel_rfl) (by kernel_rfl) ?_
    simp only [List.take_succ_cons, List.take_zero, List.drop_succ_cons, List.drop_zero]
    repeat still_step
    refine wpStill_nil ?_
    have hor : bits BinOp.or IntKind.u64 (v : Int) (IntKind.u64.wrap (2 ^ r)) = ((v ||| 2 ^ r : Nat) : Int) := by
      have h2 : 2 ^ r < 2 ^ 64 := Nat.pow_lt_pow_right (by omega) (by omega)
      have hv := HV.out
      rw [HM.out.1] at hv
      rw [show (2 : Int) ^ r = ((2 ^ r : Nat) : Int) from by simp, Pop.u64w (by omega), u64_or_nat _ _ (by omega) (by omega)]
    gi_wp2
    rw [hor]
    have hset : ∀ j, j ≠ b → (W.setCell ⟨b, 1 + m, none⟩ (.int .u64 ((v ||| 2 ^ r : Nat) : Int))).heap[j]? = W.heap[j]? := fun j hj => Below.heap_setCell _ _ _ _ hj
    have hO1 : Only (fun j => j = b) W (W.setCell ⟨b, 1 + m, none⟩ (.int .u64 ((v ||| 2 ^ r : Nat) : Int))).drew := ((Only.refl (fun j => j = b) W).setCell (p := ⟨b, 1 + m, none⟩) (.inl rfl) _).drew
    refine ⟨hO1.keepsFrom (fun j e => by omega), hO1.keep (fun j hj => ⟨by have := (HX.out.1 j hj).2; omega, by have := HX.out.2 j hj; omega⟩), ⟨HF.out.2.trans hO1 (fun _ e => .inl e), Nat.le_trans hZ hO1.size⟩, ?_⟩
    refine Fix.cons ?_ (Fix.cons ((hO1.same _ (HF.out.1.lt (p := Mem.box w.heap.size 44 (.pointer (some ⟨b, 0, none⟩))) (by simp [blocksA])) (by simp; omega)).trans HF.out.1.tail.head) (Fix.nil _))
    have h1 := Mem.row_set HF.out.1.head (1 + m) (.int .u64 ((v ||| 2 ^ r : Nat) : Int))
    have hcs : (cells { k with w := adds k.seed s.data.toList k.w i }).setIfInBounds (1 + m) (.int .u64 ((v ||| 2 ^ r : Nat) : Int)) = cells { k with w := adds k.seed s.data.toList k.w (i + 1) } := by
      refine cells_set (by omega) rfl ?_ fun j hj => ?_
      · simp only
        rw [HN.out.1]
        unfold setB
        rw [if_pos HM.out.2.1.symm, ← HM.out.2.1, HM.out.1, HM.out.2.2]
      · simp only
        rw [HN.out.1, HN.out.2]
        unfold setB
        rw [if_neg (fun e => hj (e.trans HM.out.2.1))]
    rw [hcs] at h1
    exact h1
  case done =>
    rintro D W hD ⟨⟨hO, hZ⟩, hF⟩ hKD
    rw [Hash.several_len] at hF
    have hF' : Fix W (blocksA w.heap.size b k s.data.toList 3) := hF
    have HD := Lib.hid (And.intro hKD (And.intro hO hF'))
    clear hf ho hseq hK hKw hF hF' hO hKD
    gi_wp2
    refine ret1 rfl (v := .bool (k.has s.data.toList)) HD.out.1 ?_ ⟨rfl, (World.putObj_heap_other (by omega)).trans HD.out.2.2.head, HD.out.2.1.putObj (.inr (by omega)) _⟩
    simp [results, Try.results31, go_sem]
end Go.Proofs.Ytncdaadiadeeiaa.Bloom
