/- Part2: StillIn, Only, Sketch2, Sketch3, Ops, Op5, Sketch4, SpecBloom, Pop, Bloom1, Bloom2, Bloom3, Op4, Bloom4, Tiny1, Tab1, ShardS, one behind the other. -/
import Derived.StillTailTactics
import Derived.OrdersIn
import Derived.TacticsIn
import Derived.RangeFuncCalls
import Derived.Test.YtpghckiochjogaaGreatDoorPart1
import Derived.Deep.WholeRow
import Derived.Test.YtpghckiochjogaaGreatDoorProg
import Derived.Deep.Slices
import Derived.Deep.Fields
import Derived.ChangeSame
import Derived.WalkKit
import Derived.Laws.BitsAllLaws
import Derived.Laws.Bits128
import Derived.WalkSpells
import Derived.WalkLawsBesides
import Derived.Lib.Hide
import Derived.KernelRfl
import Derived.Lib.SliceRun
import Derived.Deep.LoopGhost
import Derived.Lib.Bytealg
/- A region that draws its order in a round's body: where all but the last operations only read, one walk; the wide fence, inside a round. -/
namespace Go.Proofs.YtpghckiochjogaaGreatDoor.StillIn
open Go
section
variable {P : Program} {ops : Array Oper} {md : Region.Mode} {w : World} {n l0 : Nat} {Q : Exit → Act → World → Prop}
def noDefer (l : List Oper) : Bool := l.all fun o => match o.op with | .defer _ => false | _ => true
theorem noDefer_spec {l : List Oper} (h : noDefer l = true) {o : Oper} (ho : o ∈ l) : ∀ c, o.op ≠ .defer c := fun c e => by
  have := List.all_eq_true.1 h o ho
  simp [e] at this
theorem wpOpIn_of_stOp {i : Nat} {a : Act} {K : Act → Prop} {K' : Act → World → Prop} (hd : ∀ (j : Nat) (o : Oper) c, ops[j]? = some o → o.op ≠ .defer c) (h : ∀ a, K a → K' a w) (hh : stOp P ops w i K a) :
    wpOpIn (Fence.wide.inRound l0) n P ops Q i K' a w := by
  unfold stOp at hh
  unfold wpOpIn
  split
  · rename_i ho; simp only [ho] at hh; exact h _ hh
  · rename_i o ho
    simp only [ho] at hh
    split
    · rename_i hw
      simp only [hw, if_true] at hh
      unfold Oper.still at hh
      unfold Oper.wpIn
      refine ⟨fun _ _ => trivial, ?_⟩
      rw [show (Fence.wide.inRound l0).round = some l0 from rfl, Oper.semAt_some _ _ _ (fun c => hd i o c ho)]
      generalize (execOp a.eval o).run P w = r at *
      cases r with
      | ok x w' =>
        cases x <;> simp only [Oper.stillUpon] at hh
        case value v => obtain ⟨rfl, hh⟩ := hh; exact h _ hh
        case skip => obtain ⟨rfl, hh⟩ := hh; exact h _ hh
        case enter f args =>
          obtain ⟨rfl, v, hc, hh⟩ := hh
          refine ⟨fun e => by simp [Fence.wide] at e, CallsIn.inRound l0 (callsIn_wide.2 (hc.mono ?_))⟩
          rintro e w'' ⟨rfl, rfl⟩
          exact h _ hh
      | halt x w' => simp only [Oper.stillUpon] at hh
    · rename_i hw; simp only [hw] at hh; exact ⟨fun _ _ => trivial, h _ hh⟩
theorem wpAnyIn_of_head {m g : Nat} {L : Array Bool → Act → Prop} (hd : ∀ (j : Nat) (o : Oper) c, ops[j]? = some o → o.op ≠ .defer c) (hL : ∀ listed a, L listed a → wpAnyIn (Fence.wide.inRound l0) n P md ops Q g listed a w) :
    ∀ (f : Nat) (listed : Array Bool) (a : Act), wpAnyL P md ops w m L f listed a → wpAnyIn (Fence.wide.inRound l0) n P md ops Q (f + g) listed a w
  | 0, listed, a, h => by rw [Nat.zero_add]; exact hL _ _ h
  | f + 1, listed, a, h => by
    rw [show f + 1 + g = (f + g) + 1 by omega]
    exact ⟨fun h0 => absurd h0 h.1, fun i hi => wpOpIn_of_stOp hd (fun a' h' => wpAnyIn_of_head hd hL f _ a' h') (h.2 i hi).2⟩
theorem wpAnyIn_of_seq {F : Fence} : ∀ (l : List Oper) (k : Nat) (listed : Array Bool) (a : Act) (w : World), (∀ j, l[j]? = ops[k + j]?) →
    Region.seqB md ops l.length k listed = true → wpListIn F n P ops Q l a w → wpAnyIn F n P md ops Q l.length listed a w
  | [], _, _, _, _, _, hB, h => ⟨by simpa [Region.seqB] using hB, h⟩
  | o :: l, k, listed, a, w, hl, hB, h => by
    have h0 : ops[k]? = some o := by simpa using (hl 0).symm
    simp only [List.length_cons, Region.seqB, Bool.and_eq_true, decide_eq_true_eq] at hB
    refine ⟨fun h1 => (by rw [hB.1] at h1; cases h1), fun i hi => ?_⟩
    rw [hB.1] at hi
    have hik : i = k := by simpa using hi
    subst hik
    have hw : wpOpIn F n P ops Q i (wpListIn F n P ops Q l) a w := by unfold wpOpIn; simp only [h0]; exact h
    exact wpOpIn_mono (fun a' w' h' => wpAnyIn_of_seq l (i + 1) _ a' w' (fun j => by have := hl (j + 1); simpa [Nat.add_assoc, Nat.add_comm 1 j] using this) hB.2 h') hw
theorem wpIn_region_still_tail {id : Nat} {a : Act} {l : List Oper} (m : Nat) (hm : P.follows .mixedOrders = true) (hB : (Region.lexTailB .any l.toArray m && noDefer l) = true)
    (h : wpStill P l.toArray { w with drawn := w.drawn + 1 } (fun a' => wpListIn (Fence.wide.inRound l0) n P l.toArray Q (l.drop m) a' { w with drawn := w.drawn + 1 }) (l.take m) a) : (Code.region id l.toArray true).wpIn (Fence.wide.inRound l0) n P Q a w := by
  rw [Bool.and_eq_true] at hB
  obtain ⟨hB, hnd⟩ := hB
  have hd : ∀ (j : Nat) (o : Oper) c, l.toArray[j]? = some o → o.op ≠ .defer c := fun j o c hj => noDefer_spec hnd (List.mem_of_getElem? (by simpa using hj)) c
  simp only [Region.lexTailB, Bool.and_eq_true, decide_eq_true_eq] at hB
  obtain ⟨⟨⟨⟨hsel, hn⟩, hs⟩, hc⟩, hlex⟩ := hB
  have hn' : m < l.length := by simpa using hn
  have htl : (l.take m).length = m := by simp; omega
  have hdl : (l.drop m).length = l.toArray.size - m := by simp
  have inv0 : HeadInv .any l.toArray m (Array.replicate l.toArray.size false) :=
    ⟨by simp, fun j oj _ hl => (by rw [getD_replicate_false] at hl; cases hl), fun t _ ht => getD_in (by simpa using ht) (getD_replicate_false _ _)⟩
  have H := wpAnyL_lex (md := .any) (g := l.toArray.size - m) hsel hs hc hn (l.take m) 0 _ a (fun j hj => by
    have hj' : j < m := by rw [htl] at hj; exact hj
    simp [hj']) (by simpa using htl) inv0 (by rw [htl]; exact hlex) h
  refine wpIn_region_any hm ?_
  have := wpAnyIn_of_head (n := n) (l0 := l0) (Q := Q) (g := l.toArray.size - m) hd (fun listed a' hL => by
    have := wpAnyIn_of_seq (n := n) (P := P) (Q := Q) (F := Fence.wide.inRound l0) (md := .any) (l.drop m) m listed a' { w with drawn := w.drawn + 1 } (fun j => by simp [List.getElem?_drop]) (by rw [hdl]; exact hL.1) hL.2
    rwa [hdl] at this) _ _ _ H
  rw [htl, show m + (l.toArray.size - m) = l.toArray.size by omega] at this
  exact this
end
end Go.Proofs.YtpghckiochjogaaGreatDoor.StillIn

/- Only, in the words of a loop over a function: invariants, what stays. -/
namespace Go.Proofs.YtpghckiochjogaaGreatDoor.Mem
open Go Go.RowKit Go.Proofs.YtpghckiochjogaaGreatDoor.Rng
theorem own_only {β : Type} {F : Nat → Prop} {w : World} {S : Nat} (hS : w.heap.size ≤ S) : OwnFrom S (fun (_ : β) W => Only F w W) := fun _ _ _ _ hs hg hr =>
  hs.grown hg fun g e => .inr (by have := (hr g e).1; omega)
theorem Only.keepsFrom {F : Nat → Prop} {w w' : World} (h : Only F w w') {B : Nat} (hF : ∀ k, F k → k < B) : KeepsFrom B w w' :=
  ⟨h.size, fun k _ hB hk _ => (h.same k (Array.getElem?_eq_some_iff.1 hk).1 (fun e => by have := hF k e; omega)).trans hk⟩
theorem Only.keep {F K : Nat → Prop} {w w' : World} (h : Only F w w') (hK : ∀ k, K k → k < w.heap.size ∧ ¬ F k) : Keep K w w' := fun k hk => h.same k (hK k hk).1 (hK k hk).2
end Go.Proofs.YtpghckiochjogaaGreatDoor.Mem

/- The walks over layer 5: Add, Count, Copy. -/
namespace Go.Proofs.YtpghckiochjogaaGreatDoor.Sketch
open Go Go.RowKit Go.Shelf Go.Proofs.YtpghckiochjogaaGreatDoor.Mem Go.Proofs.YtpghckiochjogaaGreatDoor.Rng Go.Proofs.YtpghckiochjogaaGreatDoor.StillIn
attribute [local go_sem] Oper.semAt_some
def AddPost (w : World) (b : Nat) (k : St) (s : List UInt8) (e : Ending) (w' : World) : Prop := e = .returned (.bool (k.add s).1) ∧ At w' b (k.add s).2 ∧ Only (fun j => j = b) w w'
def blocks (B b : Nat) (k : St) (s : List UInt8) (i : Nat) : List (Nat × Obj) := [(b, .cells (cells { k with c := ups k.seed s k.c i }) 148 (0, 0)), Mem.box B 116 (.pointer (some ⟨b, 0, none⟩))]
theorem blocks_cells (B b : Nat) (k : St) (s : List UInt8) (i : Nat) : ∀ p ∈ blocks B b k s i, p.2.isCells = true := by
  intro p hp
  simp only [blocks, List.mem_cons, List.not_mem_nil, or_false] at hp
  rcases hp with rfl | rfl <;> rfl
theorem Ok.ups {k : St} (h : Ok k) (s : List UInt8) (i : Nat) : Ok { k with c := ups k.seed s k.c i } := ⟨fun _ => ups_15 h.c15 _ _ _ _, h.a0, h.a1, h.s0, h.s1⟩
set_option maxRecDepth 100000 in
set_option maxHeartbeats 2000000 in
theorem add_any {w : World} {b : Nat} {k : St} (h : At w b k) (hk : Ok k) (s : ByteArray) (hs : s.size ≤ maxLen) :
    Calls Tryz.prog 72 #[.pointer (some ⟨b, 0, none⟩), .string s] w (AddPost w b k s.data.toList) := by
  have hbl : b < w.heap.size := (Array.getElem?_eq_some_iff.1 h).1
  have c0 : (w.alloc (.cells #[.pointer (some ⟨b, 0, none⟩)] 116)).cell? ⟨b, 0, none⟩ = some (.int .u64 k.seed) := (Mem.row_cell (Mem.new_later h _) 0).trans (cells_seed k)
  refine (callsIn_wide (n := 9)).1 (callsIn_of_wp_marks Tryz.func72 rfl trivial ?_ rfl)
  simp only [Tryz.ntmps72, List.size_toArray, List.length_cons, List.length_nil, Nat.reduceAdd, Nat.reduceSub, Array.replicate_succ, Array.replicate_zero, List.push_toArray, List.append_toArray, List.nil_append, List.cons_append]
  gi_wp2_with fail
  refine ⟨trivial, ?_⟩
  refine (callsIn_wide.2 (Hash.several_gives k.seed 4 s (by omega) hs _)).mono ?_
  rintro e w2 ⟨lb, K, rfl, hseq, hbel, hK⟩
  have hf : Fix w2 (blocks w.heap.size b k s.data.toList 0) :=
    (Fix.cons (Mem.new_later h _) (Fix.cons (Mem.new_block w _) (Fix.nil _))).below hbel (Nat.le_refl _)
  have ho : Only (fun j => j = b) w w2 := Only.of_below (Mem.tr (Mem.al (Below.refl _ _) _) hbel) fun k h1 h2 => by omega
  have hKw : ∀ j, K j → w.heap.size < j := fun j hj => by have := (hK j hj).1; simp at this; omega
  have hs2 : w.heap.size < w2.heap.size := by have := hbel.size; simp at this; omega
  clear hbel c0 h
  gi_wp2_with fail
  refine outer rfl (Hash.enters) hseq (Below.refl _ _) (fun k hk => (hK k hk).2) (fun _ => rfl)
    (fun i W => (Only (fun j => j = b) w W ∧ w2.heap.size ≤ W.heap.size) ∧ Fix W (blocks w.heap.size b k s.data.toList i)) (fun _ _ => False)
    (((own_only (by omega)).and (own_size _ _)).and (own_fix _ _ (blocks_cells _ _ _ _))) (fun _ _ _ _ h _ _ => h) ⟨⟨ho, Nat.le_refl _⟩, hf⟩ ?a1 ?assign ?body ?done ?stop
  case assign =>
    intro l x W Kc hKc
    simp only [Hash.encIH]
    gi_wp2
    exact hKc
  case stop => exact fun D c W _ h _ => h.elim
  case body =>
    rintro l i x W hl _ ⟨⟨hO, hZ⟩, hF⟩ hx
    obtain ⟨hi, rfl⟩ := Hash.several_inv hx
    have c2 := Mem.box_cell hF.tail.head
    have hr := raise_any (w := W.drew) hF.head (hk.ups s.data.toList i) (row := i) (at_ := col k.seed s.data.toList i) (by omega) (col_lt _ _ _)
    have hbel := fun w => Hash.below_any (Hash.nthI k.seed s.data.toList i) 64 (Hash.nthI_range _ _ _).1 (Hash.nthI_range _ _ _).2 (by omega) w
    rw [col_int] at hbel
    have HF := Lib.hid (And.intro hF hO)
    have HX := Lib.hid (And.intro hK hKw)
    clear hF hO hx hf ho hseq hK hKw hl
    obtain ⟨cc, hcc⟩ : ∃ cc, col k.seed s.data.toList i = cc := ⟨_, rfl⟩
    rw [hcc] at hbel hr
    have HC := Lib.hid hcc
    clear hcc
    gi_wp2_with fail
    refine wpIn_region_still_tail 4 (by kernel_rfl) (by kernel_rfl) ?_
    simp only [List.take_succ_cons, List.take_zero, List.drop_succ_cons, List.drop_zero]
    repeat (first | still_step | still_call ((hbel _).mono fun _ _ ⟨h, e⟩ => ⟨h, e.symm⟩))
    refine wpStill_nil ?_
    gi_wp2_with (refine ⟨trivial, ?_⟩; gi_at_call 106; refine (CallsIn.inRound l (callsIn_wide.2 hr)).mono ?_; rintro e W' ⟨rfl, hA', hO'⟩)
    have hO1 : Only (fun j => j = b) W W' := ⟨hO'.os, hO'.tape, hO'.output, hO'.size, hO'.same⟩
    refine ⟨hO1.keepsFrom (fun j e => by omega), hO1.keep (fun j hj => ⟨by have := (HX.out.1 j hj).2; omega, by have := HX.out.2 j hj; omega⟩), ⟨HF.out.2.trans hO1 (fun _ e => .inl e), Nat.le_trans hZ hO1.size⟩, ?_⟩
    refine Fix.cons ?_ (Fix.cons ((hO1.same _ (HF.out.1.lt (p := Mem.box w.heap.size 116 (.pointer (some ⟨b, 0, none⟩))) (by simp [blocks])) (by simp; omega)).trans HF.out.1.tail.head) (Fix.nil _))
    rw [← HC.out] at hA'
    exact hA'
  case done =>
    rintro D W hD ⟨⟨hO, hZ⟩, hF⟩ hKD
    rw [Hash.several_len] at hF
    have hF' : Fix W (blocks w.heap.size b k s.data.toList 4) := hF
    have c2 := Mem.box_cell hF'.tail.head
    have ca := Mem.row_cell hF'.head 129
    have fa := Mem.row_free hF'.head 129
    rw [cells_age] at ca
    simp only at ca
    have hA1 := Mem.row_set hF'.head 129 (.int .i64 (k.age + 1))
    rw [cells_set_age] at hA1
    simp only at hA1
    have hlt := hF'.lt (p := Mem.box w.heap.size 116 (.pointer (some ⟨b, 0, none⟩))) (by simp [blocks])
    have hc2 : (W.setCell ⟨b, 129, none⟩ (.int .i64 (k.age + 1))).cell? ⟨w.heap.size, 0, none⟩ = some (.pointer (some ⟨b, 0, none⟩)) := (World.cell?_setCell_other _ _ _ _ (by simp)).trans c2
    have hw1 : IntKind.i64.wrap (k.age + 1) = k.age + 1 := by have := hk.a0; have := hk.a1; rw [IntKind.wrap_i64]; omega
    have HF := Lib.hid (And.intro hO (And.intro hA1 hKD))
    obtain ⟨a0, a1⟩ : 0 ≤ k.age ∧ k.age < 640 := ⟨hk.a0, hk.a1⟩
    have hhalf := halve_any (w := W.setCell ⟨b, 129, none⟩ (.int .i64 (k.age + 1))) hA1 (fun j => ups_15 hk.c15 k.seed s.data.toList 4 j)
    clear hf ho hseq hK hKw hF hO hKD hA1
    by_cases hag : k.age + 1 < 640
    · have hadd : k.add s.data.toList = (false, { k with c := ups k.seed s.data.toList k.c 4, age := k.age + 1 }) := by unfold St.add; rw [if_pos hag]
      have HD := Lib.hid hadd
      clear hadd
      gi_wp2
      refine ret1 rfl (v := .bool false) ?_ ?_ ?_
      · exact (Below.heap_setCell _ _ _ _ (by simp; omega)).trans HF.out.2.2
      · simp [results, Tryz.results72, go_sem]
      · unfold AddPost
        rw [HD.out]
        exact ⟨rfl, (World.putObj_heap_other (by omega)).trans HF.out.2.1, (HF.out.1.setCell (.inl rfl) _).putObj (.inr (by omega)) _⟩
    · have hadd : k.add s.data.toList = (true, { k with c := half (ups k.seed s.data.toList k.c 4), age := 320 }) := by unfold St.add; rw [if_neg hag]
      have HD := Lib.hid hadd
      clear hadd
      gi_wp2_with (refine ⟨trivial, ?_⟩; gi_at_call 107; refine (callsIn_wide.2 hhalf).mono ?_; rintro e W' ⟨rfl, hA', hO'⟩)
      refine ret1 rfl (v := .bool true) ?_ ?_ ?_
      · exact (hO'.same D (by simp; exact (Array.getElem?_eq_some_iff.1 HF.out.2.2).1) (by omega)).trans ((Below.heap_setCell _ _ _ _ (by simp; omega)).trans HF.out.2.2)
      · simp [results, Tryz.results72, go_sem]
      · unfold AddPost
        rw [HD.out]
        exact ⟨rfl, (World.putObj_heap_other (by omega)).trans hA', ((HF.out.1.setCell (.inl rfl) _).trans hO' (fun _ e => .inl e)).putObj (.inr (by omega)) _⟩
def blocksC (B b : Nat) (k : St) (s : List UInt8) (i : Nat) : List (Nat × Obj) := [(b, .cells (cells k) 148 (0, 0)), Mem.box B 116 (.pointer (some ⟨b, 0, none⟩)), Mem.box (B + 1) 3 (.int .i64 (cnt k.seed s k.c i : Nat))]
theorem blocksC_cells (B b : Nat) (k : St) (s : List UInt8) (i : Nat) : ∀ p ∈ blocksC B b k s i, p.2.isCells = true := by
  intro p hp
  simp only [blocksC, List.mem_cons, List.not_mem_nil, or_false] at hp
  rcases hp with rfl | rfl | rfl <;> rfl
set_option maxRecDepth 100000 in
set_option maxHeartbeats 2000000 in
theorem count_any {w : World} {b : Nat} {k : St} (h : At w b k) (hk : Ok k) (s : ByteArray) (hs : s.size ≤ maxLen) :
    Calls Tryz.prog 167 #[.pointer (some ⟨b, 0, none⟩), .string s] w fun e w' => e = .returned (.int .i64 (k.count s.data.toList : Nat)) ∧ Below w.heap.size w w' := by
  have hbl : b < w.heap.size := (Array.getElem?_eq_some_iff.1 h).1
  have c0 : ((w.alloc (.cells #[.pointer (some ⟨b, 0, none⟩)] 116)).alloc (.cells #[.int .i64 15] 3)).cell? ⟨b, 0, none⟩ = some (.int .u64 k.seed) :=
    (Mem.row_cell (Mem.new_later (Mem.new_later h _) _) 0).trans (cells_seed k)
  refine (callsIn_wide (n := 9)).1 (callsIn_of_wp_marks Tryz.func167 rfl trivial ?_ rfl)
  simp only [Tryz.ntmps167, List.size_toArray, List.length_cons, List.length_nil, Nat.reduceAdd, Nat.reduceSub, Array.replicate_succ, Array.replicate_zero, List.push_toArray, List.append_toArray, List.nil_append, List.cons_append]
  gi_wp2_with fail
  refine ⟨trivial, ?_⟩
  refine (callsIn_wide.2 (Hash.several_gives k.seed 4 s (by omega) hs _)).mono ?_
  rintro e w2 ⟨lb, K, rfl, hseq, hbel, hK⟩
  have hf : Fix w2 (blocksC w.heap.size b k s.data.toList 0) :=
    (Fix.cons (Mem.new_later (Mem.new_later h _) _) (Fix.cons (Mem.new_later (Mem.new_block w _) _) (Fix.cons (Mem.new_block2 w _ _) (Fix.nil _)))).below hbel (Nat.le_refl _)
  have ho : Below w.heap.size w w2 := Mem.tr (Mem.al (Mem.al (Below.refl _ _) _) _) hbel
  have hKw : ∀ j, K j → w.heap.size + 1 < j := fun j hj => by have := (hK j hj).1; simp at this; omega
  have hs2 : w.heap.size + 1 < w2.heap.size := by have := hbel.size; simp at this; omega
  clear hbel c0 h
  gi_wp2_with fail
  refine outer rfl (Hash.enters) hseq (Below.refl _ _) (fun k hk => (hK k hk).2) (fun _ => rfl)
    (fun i W => (Below w.heap.size w W ∧ w2.heap.size ≤ W.heap.size) ∧ Fix W (blocksC w.heap.size b k s.data.toList i)) (fun _ _ => False)
    (((ownFrom_below (Nat.le_refl _) (by omega)).and (own_size _ _)).and (own_fix _ _ (blocksC_cells _ _ _ _))) (fun _ _ _ _ h _ _ => h) ⟨⟨ho, Nat.le_refl _⟩, hf⟩ ?a1 ?assign ?body ?done ?stop
  case assign =>
    intro l x W Kc hKc
    simp only [Hash.encIH]
    gi_wp2
    exact hKc
  case stop => exact fun D c W _ h _ => h.elim
  case body =>
    rintro l i x W hl _ ⟨⟨hO, hZ⟩, hF⟩ hx
    obtain ⟨hi, rfl⟩ := Hash.several_inv hx
    have c2 := Mem.box_cell hF.tail.head
    have c3 := Mem.box_cell hF.tail.tail.head
    have f3 := Mem.box_free hF.tail.tail.head
    have hr := get_any (w := W.drew) hF.head hk (row := i) (at_ := col k.seed s.data.toList i) (by omega) (col_lt _ _ _)
    have hbel := fun w => Hash.below_any (Hash.nthI k.seed s.data.toList i) 64 (Hash.nthI_range _ _ _).1 (Hash.nthI_range _ _ _).2 (by omega) w
    rw [col_int] at hbel
    have HF := Lib.hid (And.intro hF hO)
    have HX := Lib.hid (And.intro hK hKw)
    have hnext : cnt k.seed s.data.toList k.c (i + 1) = min (cnt k.seed s.data.toList k.c i) (k.c (i * 64 + col k.seed s.data.toList i)) := rfl
    obtain ⟨cc, hcc⟩ : ∃ cc, col k.seed s.data.toList i = cc := ⟨_, rfl⟩
    rw [hcc] at hbel hr hnext
    obtain ⟨x, hx0⟩ : ∃ x, cnt k.seed s.data.toList k.c i = x := ⟨_, rfl⟩
    obtain ⟨y, hy0⟩ : ∃ y, k.c (i * 64 + cc) = y := ⟨_, rfl⟩
    rw [hx0] at c3 hnext
    rw [hy0] at hr hnext
    have HN := Lib.hid hnext
    clear hF hO hx hf ho hseq hK hKw hl hcc hx0 hy0 hnext
    gi_wp2_with fail
    refine wpIn_region_still_tail 7 (by kernel_rfl) (by kernel_rfl) ?_
    simp only [List.take_succ_cons, List.take_zero, List.drop_succ_cons, List.drop_zero]
    repeat (first | still_step | still_call ((hbel _).mono fun _ _ ⟨h, e⟩ => ⟨h, e.symm⟩) | still_call (Calls.mono hr fun _ _ ⟨h, e⟩ => ⟨h, e.symm⟩))
    have hgo : ∀ (v : Int) (A : Act) W', v = ((min x y : Nat) : Int) → W' = (W.setCell ⟨w.heap.size + 1, 0, none⟩ (.int .i64 v)).drew →
        rpost w2.heap.size K (fun W => (Below w.heap.size w W ∧ w2.heap.size ≤ W.heap.size) ∧ Fix W (blocksC w.heap.size b k s.data.toList (i + 1))) (fun _ _ => False) W .normal A W' := fun v A W' hv e => by
      subst e
      have hset : ∀ j, j ≠ w.heap.size + 1 → (W.setCell ⟨w.heap.size + 1, 0, none⟩ (.int .i64 v)).heap[j]? = W.heap[j]? := fun j hj => Below.heap_setCell _ _ _ _ hj
      have hkf := (KeepsOthers.setCell W ⟨w.heap.size + 1, 0, none⟩ (.int .i64 v)).from w2.heap.size
      refine ⟨⟨hkf.size, hkf.same⟩, fun j hj => hset j (by have := HX.out.2 j hj; omega), ⟨(HF.out.2.setCell (p := ⟨w.heap.size + 1, 0, none⟩) (by simp) _).drew, ?_⟩, ?_⟩
      · show w2.heap.size ≤ (W.setCell ⟨w.heap.size + 1, 0, none⟩ (.int .i64 v)).heap.size
        simpa [World.setCell] using hZ
      · refine Fix.cons ((hset _ (by simp; omega)).trans HF.out.1.head) (Fix.cons ((hset _ (by simp)).trans HF.out.1.tail.head) (Fix.cons ?_ (Fix.nil _)))
        rw [HN.out, ← hv]
        exact Mem.box_set HF.out.1.tail.tail.head _
    have HG := Lib.hid hgo
    clear hgo
    refine wpStill_nil ?_
    gi_wp2
    · rename_i hlt
      exact HG.out _ _ _ (by omega) rfl
    · rename_i hlt
      exact HG.out _ _ _ (by omega) rfl
  case done =>
    rintro D W hD ⟨⟨hO, hZ⟩, hF⟩ hKD
    rw [Hash.several_len] at hF
    have hF' : Fix W (blocksC w.heap.size b k s.data.toList 4) := hF
    have c3 := Mem.box_cell hF'.tail.tail.head
    have HF := Lib.hid (And.intro hO hKD)
    clear hf ho hseq hK hKw hF hO hKD hF'
    gi_wp2
    refine ret1 rfl (v := .int .i64 (k.count s.data.toList : Nat)) HF.out.2 ?_ ⟨rfl, putObj_below HF.out.1 _ (by omega)⟩
    simp [results, Tryz.results167, go_sem]
    rfl
end Go.Proofs.YtpghckiochjogaaGreatDoor.Sketch

/- The walks over layer 5: Copy. -/
namespace Go.Proofs.YtpghckiochjogaaGreatDoor.Sketch
open Go Go.RowKit Go.Proofs.YtpghckiochjogaaGreatDoor.Mem
end Go.Proofs.YtpghckiochjogaaGreatDoor.Sketch

/- An argument that is a slice of structs, as a list: each element's cells by a function of one's own. -/
namespace Go.Proofs.YtpghckiochjogaaGreatDoor.Ops
open Go Go.ChangeShapes Go.WideShapes Go.Deep Go.RowKit
def Lies {α : Type} (w : World) (K : Nat) (enc : α → List Value) (x : Option Addr) (l : List α) : Prop :=
  ∀ i a, l[i]? = some a → ∃ B off, x = some ⟨B, off, none⟩ ∧ B < w.heap.size ∧ ∀ j u, (enc a)[j]? = some u → w.cell? ⟨B, off + i * K + j, none⟩ = some u
theorem Lies.same {α : Type} {w w' : World} {K : Nat} {enc : α → List Value} {x : Option Addr} {l : List α} (h : Lies w K enc x l) (hb : Below w.heap.size w w') : Lies w' K enc x l := fun i a ha => by
  obtain ⟨B, off, hx, hB, hc⟩ := h i a ha
  exact ⟨B, off, hx, Nat.lt_of_lt_of_le hB hb.size, fun j u hu => (World.cell?_of_block (hb.block B hB)).trans (hc j u hu)⟩
theorem block_of_cell {w : World} {a : Addr} {u : Value} (h : w.cell? a = some u) : a.block < w.heap.size := by
  unfold World.cell? at h
  rcases Nat.lt_or_ge a.block w.heap.size with h1 | h1
  · exact h1
  · rw [Array.getElem?_eq_none h1] at h; simp at h
section
variable {H : Type} {enc : TypeId × Value → H} {P : Program} {w : World} {base : Nat} {spare : Nat → Bool} {held : Bool}
theorem open_list {α : Type} (encA : α → List Value) (ok : α → Prop) {r : Reach} {b0 : Nat} {t e : TypeId} {K : Nat} {v : Value} {d : DataW H} {ps : List MemPlace} (ht : P.underlying t = some (.slice e)) (hK : P.cellsOf e = K) (hK0 : 0 < K)
    (hE : ∀ a, (encA a).length = K) (hel : ∀ n cs y, DataW.trod enc P w base spare held n e cs = some y → ∃ a, cs = encA a ∧ ok a)
    (hval : Value.okWide P w r b0 t v) (hd : DataW.Trod enc P w base spare held t v d ps) :
    ∃ (x : Option Addr) (n c : Nat) (l : List α), v = .slice x n c ∧ n = l.length ∧ n ≤ maxLen ∧ (∀ a ∈ l, ok a) ∧ Lies w K encA x l := by
  obtain ⟨x, n, c, rfl⟩ := okWide_slice ht hval
  obtain ⟨fuel, hf⟩ := hd
  rcases open_slice ht hf with ⟨h0, _⟩ | ⟨a, len, cap, m, n', D, Pl, hcs, hb, hl, hm, hmm, hx, hi⟩
  · simp [Value.cells] at h0
    obtain ⟨rfl, rfl, rfl⟩ := h0
    exact ⟨none, 0, 0, [], rfl, rfl, by unfold maxLen; omega, fun a ha => (by cases ha), fun i a ha => (by simp at ha)⟩
  · simp [Value.cells] at hcs
    obtain ⟨rfl, rfl, rfl⟩ := hcs
    have hlm : n ≤ m := by rw [hmm]; split <;> omega
    have hget : ∀ i, i < n → ∃ q : α, ok q ∧ ∃ B off, a = ⟨B, off, none⟩ ∧ B < w.heap.size ∧ ∀ j u, (encA q)[j]? = some u → w.cell? ⟨B, off + i * K + j, none⟩ = some u := fun i hin => by
      obtain ⟨cs', hc, ht'⟩ := hi i (by omega)
      obtain ⟨q, hq, hok⟩ := hel n' cs' _ ht'
      obtain ⟨_, hcl, hat⟩ := World.cells?_some hc
      rw [hK] at hcl hat
      refine ⟨q, hok, ?_⟩
      have h0 := hat 0 hK0
      obtain ⟨B, off, sp⟩ := a
      have hsp : sp = none := by
        obtain ⟨cs0, hc0, _⟩ := hi 0 (by omega)
        obtain ⟨_, hcl0, hat0⟩ := World.cells?_some hc0
        rw [hK] at hcl0 hat0
        have h00 := hat0 0 hK0
        rw [List.getElem?_eq_getElem (by omega)] at h00
        simpa [Addr.add] using World.cell?_spot h00
      subst hsp
      have hadd : ∀ k, (⟨B, off, none⟩ : Addr).add k = ⟨B, off + k, none⟩ := fun k => by unfold Addr.add; split <;> simp_all
      refine ⟨B, off, rfl, ?_, fun j u hu => ?_⟩
      · rw [List.getElem?_eq_getElem (by omega)] at h0
        have := block_of_cell h0
        rw [hadd] at this
        exact this
      · have hj : j < K := by
          have := (List.getElem?_eq_some_iff.1 hu).1
          rw [hE] at this; exact this
        have h1 := hat j hj
        rw [Go.Deep.add_add, hadd, hq, hu] at h1
        rw [Nat.add_assoc]; exact h1
    refine ⟨some a, n, c, List.ofFn fun i : Fin n => Classical.choose (hget i.1 i.2), rfl, by simp, by omega, fun q hq => ?_, fun i q hq => ?_⟩
    · obtain ⟨i, rfl⟩ := (List.mem_ofFn).1 hq
      exact (Classical.choose_spec (hget i.1 i.2)).1
    · have hin : i < n := by
        have := (List.getElem?_eq_some_iff.1 hq).1
        simpa using this
      rw [List.getElem?_ofFn, dif_pos hin] at hq
      injection hq with hq
      subst hq
      obtain ⟨B, off, e1, e2, e3⟩ := (Classical.choose_spec (hget i hin)).2
      exact ⟨B, off, congrArg some e1, e2, e3⟩
end
end Go.Proofs.YtpghckiochjogaaGreatDoor.Ops

/- Layer 5's list of calls, as an argument. -/
namespace Go.Proofs.YtpghckiochjogaaGreatDoor.Sketch
open Go Go.ChangeShapes Go.WideShapes Go.Deep Go.RowKit Go.Proofs.YtpghckiochjogaaGreatDoor.Ops
structure Op where
  kind : Int
  times : Int
  s : ByteArray
def encO (o : Op) : List Value := [.int .i64 o.kind, .int .i64 o.times, .string o.s]
def isI (n : Int) : Prop := -9223372036854775808 ≤ n ∧ n ≤ 9223372036854775807
structure OpOk (o : Op) : Prop where
  kind : isI o.kind
  times : isI o.times
  s : o.s.size ≤ maxLen
theorem isI_of {n : Int} (h : (Lit.int .i64 n).wf = true) : isI n := by simpa [isI, Lit.wf, IntKind.min, IntKind.max, IntKind.signed, IntKind.bits] using h
section
variable {H : Type} {enc : TypeId × Value → H} {w : World} {base : Nat} {spare : Nat → Bool} {held : Bool}
end
end Go.Proofs.YtpghckiochjogaaGreatDoor.Sketch

/- Layer 5's statements: the chapter's example, Short, a sketch in a run. -/
namespace Go.Proofs.YtpghckiochjogaaGreatDoor.Sketch
open Go Go.RowKit Go.Proofs.YtpghckiochjogaaGreatDoor.Mem Go.Proofs.YtpghckiochjogaaGreatDoor.Ops
structure Run (W w : World) (b : Nat) (k : St) : Prop where
  at_ : At w b k
  low : W.heap.size ≤ b
  below : Below W.heap.size W w
  ok : Ok k
section
variable {W w w' : World} {b : Nat} {k : St}
theorem At.lt (h : At w b k) : b < w.heap.size := (Array.getElem?_eq_some_iff.1 h).1
theorem At.below (h : At w b k) (hb : Below w.heap.size w w') : At w' b k := (hb.block b h.lt).trans h
theorem At.only (h : At w b k) {F : Nat → Prop} (ho : Only F w w') (hF : ¬ F b) : At w' b k := (ho.same b h.lt hF).trans h
theorem Run.step (h : Run W w b k) (hb : Below w.heap.size w w') : Run W w' b k := ⟨h.at_.below hb, h.low, Mem.tr h.below hb, h.ok⟩
theorem Run.add {s : List UInt8} (h : Run W w b k) (ha : At w' b (k.add s).2) (ho : Only (fun j => j = b) w w') : Run W w' b (k.add s).2 :=
  ⟨ha, h.low, h.below.trans (ho.below h.below.size (fun _ e => e ▸ h.low)), h.ok.add s⟩
theorem Run.other {F : Nat → Prop} (h : Run W w b k) (ho : Only F w w') (hF : ∀ j, F j → b ≠ j ∧ W.heap.size ≤ j) : Run W w' b k :=
  ⟨h.at_.only ho (fun e => (hF _ e).1 rfl), h.low, h.below.trans (ho.below h.below.size (fun _ e => (hF _ e).2)), h.ok⟩
end
theorem new_run {seed : Int} (h0 : 0 ≤ seed ∧ seed ≤ 18446744073709551615) {W w : World} (hb : Below W.heap.size W w) : Calls Tryz.prog 46 #[.int .u64 seed] w fun e w' =>
    ∃ b : Nat, e = .returned (.pointer (some ⟨b, 0, none⟩)) ∧ Run W w' b (new seed) ∧ w.heap.size ≤ b :=
  (new_gives seed w).mono fun _ _ ⟨b, he, ha, hl, hw⟩ => ⟨b, he, ⟨ha, Nat.le_trans hb.size hl, Mem.tr hb hw, Ok.new h0.1 (by omega)⟩, hl⟩
theorem add_run {W w : World} {b : Nat} {k : St} (h : Run W w b k) (s : ByteArray) (hs : s.size ≤ maxLen) : Calls Tryz.prog 72 #[.pointer (some ⟨b, 0, none⟩), .string s] w fun e w' =>
    e = .returned (.bool (k.add s.data.toList).1) ∧ Run W w' b (k.add s.data.toList).2 ∧ Only (fun j => j = b) w w' :=
  (add_any h.at_ h.ok s hs).mono fun _ _ ⟨he, ha, ho⟩ => ⟨he, h.add ha ho, ho⟩
theorem count_run {W w : World} {b : Nat} {k : St} (h : Run W w b k) (s : ByteArray) (hs : s.size ≤ maxLen) : Calls Tryz.prog 167 #[.pointer (some ⟨b, 0, none⟩), .string s] w fun e w' =>
    e = .returned (.int .i64 (k.count s.data.toList : Nat)) ∧ Run W w' b k ∧ Below w.heap.size w w' :=
  (count_any h.at_ h.ok s hs).mono fun _ _ ⟨he, hb⟩ => ⟨he, h.step hb, hb⟩
end Go.Proofs.YtpghckiochjogaaGreatDoor.Sketch

/- A bloom filter of layer 4 as plain functions: 8 words of 64 bits. -/
namespace Go.Proofs.YtpghckiochjogaaGreatDoor.Bloom
open Go Go.Proofs.YtpghckiochjogaaGreatDoor.Hash
structure St where
  seed : Int
  w : Nat → Nat
def new (seed : Int) : St := ⟨seed, fun _ => 0⟩
def pl (seed : Int) (s : List UInt8) (i : Nat) : Nat := (belowI (nthI seed s i) 512).toNat
theorem pl_lt (seed : Int) (s : List UInt8) (i : Nat) : pl seed s i < 512 := by
  have := (belowI_range (nthI seed s i) 512).2 (by omega)
  unfold pl; omega
theorem pl_int (seed : Int) (s : List UInt8) (i : Nat) : belowI (nthI seed s i) 512 = (pl seed s i : Nat) := by
  have := (belowI_range (nthI seed s i) 512).1
  unfold pl; omega
def bit (w : Nat → Nat) (p : Nat) : Bool := (w (p / 64)).testBit (p % 64)
def setB (w : Nat → Nat) (p : Nat) : Nat → Nat := fun j => if j = p / 64 then w j ||| 2 ^ (p % 64) else w j
def adds (seed : Int) (s : List UInt8) (w : Nat → Nat) : Nat → Nat → Nat
  | 0 => w
  | n + 1 => setB (adds seed s w n) (pl seed s n)
def hasTo (seed : Int) (s : List UInt8) (w : Nat → Nat) : Nat → Bool
  | 0 => true
  | n + 1 => hasTo seed s w n && bit w (pl seed s n)
theorem hasTo_iff (seed : Int) (s : List UInt8) (w : Nat → Nat) (n : Nat) : hasTo seed s w n = true ↔ ∀ i, i < n → bit w (pl seed s i) = true := by
  induction n with
  | zero => simp [hasTo]
  | succ n ih =>
    unfold hasTo
    rw [Bool.and_eq_true, ih]
    constructor
    · rintro ⟨h1, h2⟩ i hi
      by_cases h : i = n
      · exact h ▸ h2
      · exact h1 i (by omega)
    · exact fun h => ⟨fun i hi => h i (by omega), h n (by omega)⟩
def St.has (k : St) (s : List UInt8) : Bool := hasTo k.seed s k.w 3
def St.add (k : St) (s : List UInt8) : St := { k with w := adds k.seed s k.w 3 }
def St.clear (k : St) : St := { k with w := fun _ => 0 }
structure Ok (k : St) : Prop where
  w : ∀ j, k.w j < 18446744073709551616
  s0 : 0 ≤ k.seed
  s1 : k.seed < 18446744073709551616
theorem setB_lt {w : Nat → Nat} (h : ∀ j, w j < 18446744073709551616) (p : Nat) : ∀ j, setB w p j < 18446744073709551616 := fun j => by
  unfold setB
  split
  · exact Nat.or_lt_two_pow (n := 64) (h j) (Nat.pow_lt_pow_right (by omega) (by omega))
  · exact h j
theorem adds_lt {w : Nat → Nat} (h : ∀ j, w j < 18446744073709551616) (seed : Int) (s : List UInt8) (n : Nat) : ∀ j, adds seed s w n j < 18446744073709551616 := by
  induction n with
  | zero => exact h
  | succ n ih => exact setB_lt ih _
theorem Ok.new {seed : Int} (h0 : 0 ≤ seed) (h1 : seed < 18446744073709551616) : Ok (new seed) := ⟨fun _ => by simp [Bloom.new], h0, h1⟩
theorem Ok.add {k : St} (h : Ok k) (s : List UInt8) : Ok (k.add s) := ⟨adds_lt h.w _ _ _, h.s0, h.s1⟩
theorem Ok.clear {k : St} (h : Ok k) : Ok k.clear := ⟨fun _ => by simp [St.clear], h.s0, h.s1⟩
end Go.Proofs.YtpghckiochjogaaGreatDoor.Bloom

/- How many bits of a word are set: the sum over its bytes; the walk over math/bits.OnesCount64. -/
namespace Go.Proofs.YtpghckiochjogaaGreatDoor.Pop
open Go Go.RowKit
def val : List Nat → Nat
  | [] => 0
  | b :: l => b + 256 * val l
def p1 (b : Nat) : Nat := ((b / 2) &&& 85) + (b &&& 85)
def p2 (b : Nat) : Nat := ((b / 4) &&& 51) + (b &&& 51)
def p3 (b : Nat) : Nat := (b / 16 + b) &&& 15
theorem u64w {n : Nat} (h : n < 18446744073709551616) : IntKind.u64.wrap (n : Int) = n := by rw [IntKind.wrap_u64]; omega
end Go.Proofs.YtpghckiochjogaaGreatDoor.Pop

/- The walks over layer 4: New, Copy, Clear, Ones. -/
namespace Go.Proofs.YtpghckiochjogaaGreatDoor.Bloom
open Go Go.RowKit Go.Proofs.YtpghckiochjogaaGreatDoor.Mem
theorem ret_int {k : IntKind} {a b : Int} (h : a = b) : Ending.returned (.int k a) = .returned (.int k b) := by rw [h]
def cells (k : St) : Array Value := #[.int .u64 k.seed, .int .u64 (k.w 0 : Nat), .int .u64 (k.w 1 : Nat), .int .u64 (k.w 2 : Nat), .int .u64 (k.w 3 : Nat), .int .u64 (k.w 4 : Nat), .int .u64 (k.w 5 : Nat), .int .u64 (k.w 6 : Nat), .int .u64 (k.w 7 : Nat)]
def At (w : World) (b : Nat) (k : St) : Prop := w.heap[b]? = some (.cells (cells k) 144 (0, 0))
theorem cells_word (k : St) {j : Nat} (h : j < 8) : (cells k)[1 + j]? = some (.int .u64 (k.w j : Nat)) := by
  match j, h with
  | 0, _ | 1, _ | 2, _ | 3, _ | 4, _ | 5, _ | 6, _ | 7, _ => rfl
theorem cells_set {k k' : St} {j : Nat} {v : Nat} (hj : j < 8) (hs : k'.seed = k.seed) (hv : k'.w j = v) (ho : ∀ i, i ≠ j → k'.w i = k.w i) : (cells k).setIfInBounds (1 + j) (.int .u64 (v : Nat)) = cells k' := by
  unfold cells
  rw [hs, ← hv]
  match j, hj with
  | 0, _ => rw [ho 1 (by omega), ho 2 (by omega), ho 3 (by omega), ho 4 (by omega), ho 5 (by omega), ho 6 (by omega), ho 7 (by omega)]; rfl
  | 1, _ => rw [ho 0 (by omega), ho 2 (by omega), ho 3 (by omega), ho 4 (by omega), ho 5 (by omega), ho 6 (by omega), ho 7 (by omega)]; rfl
  | 2, _ => rw [ho 0 (by omega), ho 1 (by omega), ho 3 (by omega), ho 4 (by omega), ho 5 (by omega), ho 6 (by omega), ho 7 (by omega)]; rfl
  | 3, _ => rw [ho 0 (by omega), ho 1 (by omega), ho 2 (by omega), ho 4 (by omega), ho 5 (by omega), ho 6 (by omega), ho 7 (by omega)]; rfl
  | 4, _ => rw [ho 0 (by omega), ho 1 (by omega), ho 2 (by omega), ho 3 (by omega), ho 5 (by omega), ho 6 (by omega), ho 7 (by omega)]; rfl
  | 5, _ => rw [ho 0 (by omega), ho 1 (by omega), ho 2 (by omega), ho 3 (by omega), ho 4 (by omega), ho 6 (by omega), ho 7 (by omega)]; rfl
  | 6, _ => rw [ho 0 (by omega), ho 1 (by omega), ho 2 (by omega), ho 3 (by omega), ho 4 (by omega), ho 5 (by omega), ho 7 (by omega)]; rfl
  | 7, _ => rw [ho 0 (by omega), ho 1 (by omega), ho 2 (by omega), ho 3 (by omega), ho 4 (by omega), ho 5 (by omega), ho 6 (by omega)]; rfl
theorem new_any (seed : Int) (w : World) : Calls Tryz.prog 45 #[.int .u64 seed] w fun e w' =>
    e = .returned (.pointer (some ⟨w.heap.size, 0, none⟩)) ∧ w' = w.alloc (.cells (cells (new seed)) 144) := by
  go_enter Tryz.func45, Tryz.ntmps45
  go_wp2
  go_ret
  exact ⟨rfl, rfl⟩
theorem new_gives (seed : Int) (w : World) : Calls Tryz.prog 45 #[.int .u64 seed] w fun e w' =>
    ∃ b : Nat, e = .returned (.pointer (some ⟨b, 0, none⟩)) ∧ At w' b (new seed) ∧ w.heap.size ≤ b ∧ Below w.heap.size w w' :=
  (new_any seed w).mono fun e w' ⟨he, hw⟩ => by
    subst hw
    exact ⟨_, he, Mem.new_block w _, Nat.le_refl _, Mem.al (Below.refl _ _) _⟩
theorem setCells_row {b : Nat} {t : TypeId} : ∀ (vs : List Value) (o : Nat) (w : World) (cs : Array Value), w.heap[b]? = some (.cells cs t (0, 0)) → o + vs.length ≤ cs.size →
    (w.setCells b o vs).heap[b]? = some (.cells (cs.toList.take o ++ vs ++ cs.toList.drop (o + vs.length)).toArray t (0, 0))
  | [], o, w, cs, h, _ => by
    simp only [World.setCells, List.append_nil, List.length_nil, Nat.add_zero, List.take_append_drop, Array.toArray_toList]; exact h
  | v :: vs, o, w, cs, h, hl => by
    simp only [List.length_cons] at hl
    show ((w.setCell ⟨b, o, none⟩ v).setCells b (o + 1) vs).heap[b]? = _
    rw [setCells_row vs (o + 1) _ _ (Mem.row_set h o v) (by simp; omega)]
    congr 2
    simp only [Array.toList_setIfInBounds, List.length_cons]
    rw [List.drop_set_of_lt (by omega), show o + 1 + vs.length = o + (vs.length + 1) from by omega, List.take_succ_eq_append_getElem (by simp; omega), List.getElem_set_self, List.take_set_of_le (Nat.le_refl _)]
    simp
theorem setCells_only {b : Nat} : ∀ (vs : List Value) (o : Nat) (w : World), Only (fun j => j = b) w (w.setCells b o vs)
  | [], _, w => Only.refl _ w
  | v :: vs, o, w => ((Only.refl (fun j => j = b) w).setCell (p := ⟨b, o, none⟩) (.inl rfl) v).trans (setCells_only vs (o + 1) _) (fun _ e => .inl e)
theorem zero_word (w : World) : (zeroValue 22).run Tryz.prog w = .ok (.int .u64 0) w := by
  have h : Tryz.t22.zero = some (.int .u64 0) := by kernel_rfl
  unfold zeroValue
  go_simp
theorem clear_any {w : World} {b : Nat} {k : St} (h : At w b k) : Calls Tryz.prog 73 #[.pointer (some ⟨b, 0, none⟩)] w fun e w' => e = .returned (.tuple #[]) ∧ At w' b k.clear ∧ Only (fun j => j = b) w w' := by
  have hcl := fun ty => Lib.run_clear_slice (P := Tryz.prog) w 185 22 ty (.int .u64 0) Tryz.underlying185 zero_word rfl rfl b 1 8 8 (by omega)
    (fun j hj => by rw [Mem.row_cell h, cells_word k hj]; rfl) (fun j _ => Mem.row_free h _)
  have hfin : At (w.setCells b 1 (List.replicate 8 (.int .u64 0))) b k.clear := by
    have := setCells_row (List.replicate 8 (.int .u64 0)) 1 w _ h (by rw [List.length_replicate, show (cells k).size = 9 from rfl]; omega)
    exact this
  have HF := Lib.hid (And.intro hfin (setCells_only (b := b) (List.replicate 8 (.int .u64 0)) 1 w))
  clear h hfin
  generalize w.setCells b 1 (List.replicate 8 (.int .u64 0)) = w2 at *
  go_enter Tryz.func73, Tryz.ntmps73
  go_wp2
  go_end0
  exact ⟨rfl, HF.out⟩
end Go.Proofs.YtpghckiochjogaaGreatDoor.Bloom

/- The walks over layer 4: Has, Add. -/
namespace Go.Proofs.YtpghckiochjogaaGreatDoor.Bloom
open Go Go.RowKit Go.Shelf Go.Proofs.YtpghckiochjogaaGreatDoor.Mem Go.Proofs.YtpghckiochjogaaGreatDoor.Rng Go.Proofs.YtpghckiochjogaaGreatDoor.StillIn
attribute [local go_sem] Oper.semAt_some
theorem at_bit {k : St} (hk : Ok k) (p : Nat) : (bits BinOp.and IntKind.u64 (((k.w (p / 64) : Nat) : Int) / 2 ^ (p % 64)) 1 == 0) = !bit k.w p := by
  have h1 := hk.w (p / 64)
  have h2 : k.w (p / 64) / 2 ^ (p % 64) ≤ k.w (p / 64) := Nat.div_le_self _ _
  rw [show (((k.w (p / 64) : Nat) : Int) / 2 ^ (p % 64)) = ((k.w (p / 64) / 2 ^ (p % 64) : Nat) : Int) from by simp, show (1 : Int) = ((1 : Nat) : Int) from rfl, u64_and_nat _ _ (by omega) (by omega), Nat.and_one_is_mod]
  unfold bit
  rw [Nat.testBit_eq_decide_div_mod_eq]
  rcases Nat.mod_two_eq_zero_or_one (k.w (p / 64) / 2 ^ (p % 64)) with h | h <;> rw [h] <;> rfl
def blocks (B b : Nat) (k : St) : List (Nat × Obj) := [(b, .cells (cells k) 144 (0, 0)), Mem.box B 114 (.pointer (some ⟨b, 0, none⟩)), Mem.box (B + 1) 4 (.bool false)]
theorem blocks_cells (B b : Nat) (k : St) : ∀ p ∈ blocks B b k, p.2.isCells = true := by
  intro p hp
  simp only [blocks, List.mem_cons, List.not_mem_nil, or_false] at hp
  rcases hp with rfl | rfl | rfl <;> rfl
set_option maxRecDepth 100000 in
set_option maxHeartbeats 2000000 in
theorem has_any {w : World} {b : Nat} {k : St} (h : At w b k) (hk : Ok k) (s : ByteArray) (hs : s.size ≤ maxLen) :
    Calls Tryz.prog 104 #[.pointer (some ⟨b, 0, none⟩), .string s] w fun e w' => e = .returned (.bool (k.has s.data.toList)) ∧ Below w.heap.size w w' := by
  have hbl : b < w.heap.size := (Array.getElem?_eq_some_iff.1 h).1
  have c0 : ((w.alloc (.cells #[.pointer (some ⟨b, 0, none⟩)] 114)).alloc (.cells #[.bool false] 4)).cell? ⟨b, 0, none⟩ = some (.int .u64 k.seed) := Mem.row_cell (Mem.new_later (Mem.new_later h _) _) 0
  refine (callsIn_wide (n := 9)).1 (callsIn_of_wp_marks Tryz.func104 rfl trivial ?_ rfl)
  simp only [Tryz.ntmps104, List.size_toArray, List.length_cons, List.length_nil, Nat.reduceAdd, Nat.reduceSub, Array.replicate_succ, Array.replicate_zero, List.push_toArray, List.append_toArray, List.nil_append, List.cons_append]
  gi_wp2_with fail
  refine ⟨trivial, ?_⟩
  refine (callsIn_wide.2 (Hash.several_gives k.seed 3 s (by omega) hs _)).mono ?_
  rintro e w2 ⟨lb, K, rfl, hseq, hbel, hK⟩
  have hf : Fix w2 (blocks w.heap.size b k) :=
    (Fix.cons (Mem.new_later (Mem.new_later h _) _) (Fix.cons (Mem.new_later (Mem.new_block w _) _) (Fix.cons (Mem.new_block2 w _ _) (Fix.nil _)))).below hbel (Nat.le_refl _)
  have ho : Below w.heap.size w w2 := Mem.tr (Mem.al (Mem.al (Below.refl _ _) _) _) hbel
  have hs2 : w.heap.size + 1 < w2.heap.size := by have := hbel.size; simp at this; omega
  clear hbel c0 h
  gi_wp2_with fail
  refine outer rfl (Hash.enters) hseq (Below.refl _ _) (fun k hk => (hK k hk).2) (fun _ => rfl)
    (fun i W => (Below w.heap.size w W ∧ hasTo k.seed s.data.toList k.w i = true) ∧ Fix W (blocks w.heap.size b k))
    (fun c W => (c = .ret ∧ Below w.heap.size w W ∧ k.has s.data.toList = false) ∧ Fix W (blocks w.heap.size b k))
    (((ownFrom_below (Nat.le_refl _) (by omega)).and (ownFrom_pure _ (fun i : Nat => hasTo k.seed s.data.toList k.w i = true))).and (own_fix _ (fun _ : Nat => blocks w.heap.size b k) (fun _ => blocks_cells _ _ _)))
    (((ownFrom_pure _ (fun c : Code => c = .ret)).and ((ownFrom_below (Nat.le_refl _) (by omega)).and (ownFrom_pure _ (fun _ : Code => k.has s.data.toList = false)))).and (own_fix _ (fun _ : Code => blocks w.heap.size b k) (fun _ => blocks_cells _ _ _)))
    ⟨⟨ho, rfl⟩, hf⟩ ?a1 ?assign ?body ?done ?stop
  case assign =>
    intro l x W Kc hKc
    simp only [Hash.encIH]
    gi_wp2
    exact hKc
  case body =>
    rintro l i x W hl _ ⟨⟨hO, hH⟩, hF⟩ hx
    obtain ⟨hi, rfl⟩ := Hash.several_inv hx
    have c2 := Mem.box_cell hF.tail.head
    have c3 := Mem.box_cell hF.tail.tail.head
    have f3 := Mem.box_free hF.tail.tail.head
    have hpl := pl_lt k.seed s.data.toList i
    have hbit := at_bit hk (pl k.seed s.data.toList i)
    have cw : W.cell? ⟨b, 1 + pl k.seed s.data.toList i / 64, none⟩ = some (.int .u64 (k.w (pl k.seed s.data.toList i / 64) : Nat)) := (Mem.row_cell hF.head _).trans (cells_word k (by omega))
    have hbel := fun w => Hash.below_any (Hash.nthI k.seed s.data.toList i) 512 (Hash.nthI_range _ _ _).1 (Hash.nthI_range _ _ _).2 (by omega) w
    rw [pl_int] at hbel
    have hnext : hasTo k.seed s.data.toList k.w (i + 1) = (hasTo k.seed s.data.toList k.w i && bit k.w (pl k.seed s.data.toList i)) := rfl
    rw [hH, Bool.true_and] at hnext
    obtain ⟨p, hp⟩ : ∃ p, pl k.seed s.data.toList i = p := ⟨_, rfl⟩
    rw [hp] at hbel cw hnext hpl hbit
    have HN := Lib.hid (And.intro hnext hp)
    have HF := Lib.hid (And.intro hF hO)
    clear hF hO hx hf ho hseq hK hl hp hnext hH
    obtain ⟨q, hq⟩ : ∃ q, bit k.w p = q := ⟨_, rfl⟩
    rw [hq] at hbit
    have HQ := Lib.hid hq
    clear hq
    cases q
    · gi_wp2_with (refine ⟨trivial, ?_⟩; gi_at_call 23; refine (CallsIn.inRound l (callsIn_wide.2 (hbel _))).mono ?_; rintro e w' ⟨rfl, rfl⟩)
      have hno : k.has s.data.toList = false := by
        cases hh : k.has s.data.toList
        · rfl
        · have := (hasTo_iff _ _ _ _).1 hh i (by omega)
          rw [HN.out.2, HQ.out] at this
          cases this
      have hset : ∀ j, j ≠ w.heap.size + 1 → (W.setCell ⟨w.heap.size + 1, 0, none⟩ (.bool false)).heap[j]? = W.heap[j]? := fun j hj => Below.heap_setCell _ _ _ _ hj
      exact ⟨(KeepsOthers.setCell _ _ _).from _, ⟨rfl, HF.out.2.setCell (p := ⟨w.heap.size + 1, 0, none⟩) (by simp) _, hno⟩, Fix.cons ((hset _ (by simp; omega)).trans HF.out.1.head) (Fix.cons ((hset _ (by simp)).trans HF.out.1.tail.head) (Fix.cons (Mem.box_set HF.out.1.tail.tail.head _) (Fix.nil _)))⟩
    · gi_wp2_with (refine ⟨trivial, ?_⟩; gi_at_call 23; refine (CallsIn.inRound l (callsIn_wide.2 (hbel _))).mono ?_; rintro e w' ⟨rfl, rfl⟩)
      exact ⟨KeepsFrom.refl _ _, Keep.refl _ _, ⟨HF.out.2, by rw [HN.out.1, HQ.out]⟩, HF.out.1⟩
  case done =>
    rintro D W hD ⟨⟨hO, hH⟩, hF⟩ hKD
    rw [Hash.several_len] at hH
    have hH' : k.has s.data.toList = true := hH
    have c3 := Mem.box_cell hF.tail.tail.head
    have f3 := Mem.box_free hF.tail.tail.head
    have HD := Lib.hid (And.intro hKD (And.intro hO hH'))
    clear hf ho hseq hK hKD hH hH' hO hF
    gi_wp2
    refine ret1 rfl (v := .bool true) ?_ ?_ ⟨by rw [HD.out.2.2], putObj_below (HD.out.2.1.setCell (p := ⟨w.heap.size + 1, 0, none⟩) (by simp) _) _ (by omega)⟩
    · rw [Below.heap_setCell _ _ _ _ (by simp; omega)]; exact HD.out.1
    · have hc : ((W.setCell ⟨w.heap.size + 1, 0, none⟩ (.bool true)).putObj D (.deferred none)).cell? ⟨w.heap.size + 1, 0, none⟩ = some (.bool true) := by
        rw [putObj_cell _ (by simp; omega)]; exact World.cell?_setCell_same' _ _ _ (by rw [c3]; rfl)
      simp [results, Tryz.results104, go_sem, hc]
  case stop =>
    rintro D c W hD ⟨⟨rfl, hO, hno⟩, hF⟩ hKD
    have c3 := Mem.box_cell hF.tail.tail.head
    have HD := Lib.hid (And.intro hKD (And.intro hO hno))
    clear hf ho hseq hK hKD hO hno hF
    gi_wp2
    refine ret1 rfl (v := .bool false) HD.out.1 ?_ ⟨by rw [HD.out.2.2], putObj_below HD.out.2.1 _ (by omega)⟩
    have hc : (W.putObj D (.deferred none)).cell? ⟨w.heap.size + 1, 0, none⟩ = some (.bool false) := by
      rw [putObj_cell _ (by simp; omega)]; exact c3
    simp [results, Tryz.results104, go_sem, hc]
end Go.Proofs.YtpghckiochjogaaGreatDoor.Bloom

/- The walks over layer 4: Add. -/
namespace Go.Proofs.YtpghckiochjogaaGreatDoor.Bloom
open Go Go.RowKit Go.Shelf Go.Proofs.YtpghckiochjogaaGreatDoor.Mem Go.Proofs.YtpghckiochjogaaGreatDoor.Rng Go.Proofs.YtpghckiochjogaaGreatDoor.StillIn
attribute [local go_sem] Oper.semAt_some
def blocksA (B b : Nat) (k : St) (s : List UInt8) (i : Nat) : List (Nat × Obj) := [(b, .cells (cells { k with w := adds k.seed s k.w i }) 144 (0, 0)), Mem.box B 114 (.pointer (some ⟨b, 0, none⟩))]
theorem blocksA_cells (B b : Nat) (k : St) (s : List UInt8) (i : Nat) : ∀ p ∈ blocksA B b k s i, p.2.isCells = true := by
  intro p hp
  simp only [blocksA, List.mem_cons, List.not_mem_nil, or_false] at hp
  rcases hp with rfl | rfl <;> rfl
set_option maxRecDepth 100000 in
set_option maxHeartbeats 2000000 in
theorem add_any {w : World} {b : Nat} {k : St} (h : At w b k) (hk : Ok k) (s : ByteArray) (hs : s.size ≤ maxLen) :
    Calls Tryz.prog 71 #[.pointer (some ⟨b, 0, none⟩), .string s] w fun e w' => e = .returned (.bool (k.has s.data.toList)) ∧ At w' b (k.add s.data.toList) ∧ Only (fun j => j = b) w w' := by
  have hbl : b < w.heap.size := (Array.getElem?_eq_some_iff.1 h).1
  have h1 : At (w.alloc (.cells #[.pointer (some ⟨b, 0, none⟩)] 114)) b k := Mem.new_later h _
  have hhas := has_any h1 hk s hs
  refine (callsIn_wide (n := 9)).1 (callsIn_of_wp_marks Tryz.func71 rfl trivial ?_ rfl)
  simp only [Tryz.ntmps71, List.size_toArray, List.length_cons, List.length_nil, Nat.reduceAdd, Nat.reduceSub, Array.replicate_succ, Array.replicate_zero, List.push_toArray, List.append_toArray, List.nil_append, List.cons_append]
  gi_wp2_with fail
  refine ⟨trivial, ?_⟩
  refine (callsIn_wide.2 hhas).mono ?_
  rintro e w1 ⟨rfl, hb1⟩
  have hA1 : At w1 b k := (hb1.block b (by simp; omega)).trans h1
  have hbx : w1.heap[w.heap.size]? = some (.cells #[.pointer (some ⟨b, 0, none⟩)] 114 (0, 0)) := (hb1.block _ (by simp)).trans (Mem.new_block w _)
  have hO1 : Only (fun j => j = b) w w1 := Only.of_below (Mem.tr (Mem.al (Below.refl _ _) _) hb1) fun k h1 h2 => by omega
  have c0 : w1.cell? ⟨b, 0, none⟩ = some (.int .u64 k.seed) := Mem.row_cell hA1 0
  have cx := Mem.box_cell hbx
  have hz1 : w.heap.size < w1.heap.size := (Array.getElem?_eq_some_iff.1 hbx).1
  clear h h1 hhas hb1
  gi_wp2_with fail
  refine ⟨trivial, ?_⟩
  refine (callsIn_wide.2 (Hash.several_gives k.seed 3 s (by omega) hs _)).mono ?_
  rintro e w2 ⟨lb, K, rfl, hseq, hbel, hK⟩
  have hf : Fix w2 (blocksA w.heap.size b k s.data.toList 0) := (Fix.cons (p := (b, .cells (cells k) 144 (0, 0))) hA1 (Fix.cons hbx (Fix.nil _))).below hbel (Nat.le_refl _)
  have ho : Only (fun j => j = b) w w2 := hO1.trans (Only.of_below (F := fun j => j = b) hbel fun k h1 h2 => by omega) (fun _ e => .inl e)
  have hKw : ∀ j, K j → w.heap.size < j := fun j hj => by have := (hK j hj).1; omega
  have hs2 : w.heap.size < w2.heap.size := by have := hbel.size; omega
  clear hbel c0 hA1 hO1 hbx cx
  gi_wp2_with fail
  refine outer rfl (Hash.enters) hseq (Below.refl _ _) (fun k hk => (hK k hk).2) (fun _ => rfl)
    (fun i W => (Only (fun j => j = b) w W ∧ w2.heap.size ≤ W.heap.size) ∧ Fix W (blocksA w.heap.size b k s.data.toList i)) (fun _ _ => False)
    (((own_only (by omega)).and (own_size _ _)).and (own_fix _ _ (blocksA_cells _ _ _ _))) (fun _ _ _ _ h _ _ => h) ⟨⟨ho, Nat.le_refl _⟩, hf⟩ ?a1 ?assign ?body ?done ?stop
  case assign =>
    intro l x W Kc hKc
    simp only [Hash.encIH]
    gi_wp2
    exact hKc
  case stop => exact fun D c W _ h _ => h.elim
  case body =>
    rintro l i x W hl _ ⟨⟨hO, hZ⟩, hF⟩ hx
    obtain ⟨hi, rfl⟩ := Hash.several_inv hx
    have c2 := Mem.box_cell hF.tail.head
    have hpl := pl_lt k.seed s.data.toList i
    have hbel := fun w => Hash.below_any (Hash.nthI k.seed s.data.toList i) 512 (Hash.nthI_range _ _ _).1 (Hash.nthI_range _ _ _).2 (by omega) w
    rw [pl_int] at hbel
    have hnext : adds k.seed s.data.toList k.w (i + 1) = setB (adds k.seed s.data.toList k.w i) (pl k.seed s.data.toList i) := rfl
    obtain ⟨p, hp⟩ : ∃ p, pl k.seed s.data.toList i = p := ⟨_, rfl⟩
    rw [hp] at hbel hnext hpl
    have hlt := adds_lt hk.w k.seed s.data.toList i
    obtain ⟨wd, hwd⟩ : ∃ wd, adds k.seed s.data.toList k.w i = wd := ⟨_, rfl⟩
    have cw : W.cell? ⟨b, 1 + p / 64, none⟩ = some (.int .u64 (wd (p / 64) : Nat)) := by rw [← hwd]; exact (Mem.row_cell hF.head _).trans (cells_word _ (by omega))
    have fw : W.frozen? ⟨b, 1 + p / 64, none⟩ = false := Mem.row_free hF.head _
    rw [hwd] at hnext hlt
    have HN := Lib.hid (And.intro hnext hwd)
    have HF := Lib.hid (And.intro hF hO)
    have HX := Lib.hid (And.intro hK hKw)
    have HV := Lib.hid (hlt (p / 64))
    obtain ⟨v, hv⟩ : ∃ v, wd (p / 64) = v := ⟨_, rfl⟩
    obtain ⟨m, hm⟩ : ∃ m, p / 64 = m := ⟨_, rfl⟩
    obtain ⟨r, hr⟩ : ∃ r, p % 64 = r := ⟨_, rfl⟩
    rw [hv] at cw
    rw [hm] at cw fw
    have hd : (p : Int) / 64 = m := by omega
    have hd0 : (0 : Int) ≤ m := by omega
    have hd1 : (m : Int) < 8 := by omega
    have hdw : IntKind.i64.wrap (m : Int) = m := by rw [IntKind.wrap_i64]; omega
    have hr2 : (p : Int).tmod 64 = r := by rw [Int.tmod_eq_emod_of_nonneg (by omega)]; omega
    have hr0 : (0 : Int) ≤ r := by omega
    have hr1 : (r : Int) < 64 := by omega
    have HM := Lib.hid (And.intro hv (And.intro hm hr))
    clear hF hO hx hf ho hseq hK hKw hl hp hnext hwd hlt hv hm hr
    gi_wp2_with (refine ⟨trivial, ?_⟩; gi_at_call 23; refine (CallsIn.inRound l (callsIn_wide.2 (hbel _))).mono ?_; rintro e w' ⟨rfl, rfl⟩)
    refine wpIn_region_still_tail 14 (by kernel_rfl) (by kernel_rfl) ?_
    simp only [List.take_succ_cons, List.take_zero, List.drop_succ_cons, List.drop_zero]
    repeat still_step
    refine wpStill_nil ?_
    have hor : bits BinOp.or IntKind.u64 (v : Int) (IntKind.u64.wrap (2 ^ r)) = ((v ||| 2 ^ r : Nat) : Int) := by
      have h2 : 2 ^ r < 2 ^ 64 := Nat.pow_lt_pow_right (by omega) (by omega)
      have hv := HV.out
      rw [HM.out.1] at hv
      rw [show (2 : Int) ^ r = ((2 ^ r : Nat) : Int) from by simp, Pop.u64w (by omega), u64_or_nat _ _ (by omega) (by omega)]
    gi_wp2
    rw [hor]
    have hset : ∀ j, j ≠ b → (W.setCell ⟨b, 1 + m, none⟩ (.int .u64 ((v ||| 2 ^ r : Nat) : Int))).heap[j]? = W.heap[j]? := fun j hj => Below.heap_setCell _ _ _ _ hj
    have hO1 : Only (fun j => j = b) W (W.setCell ⟨b, 1 + m, none⟩ (.int .u64 ((v ||| 2 ^ r : Nat) : Int))).drew := ((Only.refl (fun j => j = b) W).setCell (p := ⟨b, 1 + m, none⟩) (.inl rfl) _).drew
    refine ⟨hO1.keepsFrom (fun j e => by omega), hO1.keep (fun j hj => ⟨by have := (HX.out.1 j hj).2; omega, by have := HX.out.2 j hj; omega⟩), ⟨HF.out.2.trans hO1 (fun _ e => .inl e), Nat.le_trans hZ hO1.size⟩, ?_⟩
    refine Fix.cons ?_ (Fix.cons ((hO1.same _ (HF.out.1.lt (p := Mem.box w.heap.size 114 (.pointer (some ⟨b, 0, none⟩))) (by simp [blocksA])) (by simp; omega)).trans HF.out.1.tail.head) (Fix.nil _))
    have h1 := Mem.row_set HF.out.1.head (1 + m) (.int .u64 ((v ||| 2 ^ r : Nat) : Int))
    have hcs : (cells { k with w := adds k.seed s.data.toList k.w i }).setIfInBounds (1 + m) (.int .u64 ((v ||| 2 ^ r : Nat) : Int)) = cells { k with w := adds k.seed s.data.toList k.w (i + 1) } := by
      refine cells_set (by omega) rfl ?_ fun j hj => ?_
      · simp only
        rw [HN.out.1]
        unfold setB
        rw [if_pos HM.out.2.1.symm, ← HM.out.2.1, HM.out.1, HM.out.2.2]
      · simp only
        rw [HN.out.1, HN.out.2]
        unfold setB
        rw [if_neg (fun e => hj (e.trans HM.out.2.1))]
    rw [hcs] at h1
    exact h1
  case done =>
    rintro D W hD ⟨⟨hO, hZ⟩, hF⟩ hKD
    rw [Hash.several_len] at hF
    have hF' : Fix W (blocksA w.heap.size b k s.data.toList 3) := hF
    have HD := Lib.hid (And.intro hKD (And.intro hO hF'))
    clear hf ho hseq hK hKw hF hF' hO hKD
    gi_wp2
    refine ret1 rfl (v := .bool (k.has s.data.toList)) HD.out.1 ?_ ⟨rfl, (World.putObj_heap_other (by omega)).trans HD.out.2.2.head, HD.out.2.1.putObj (.inr (by omega)) _⟩
    simp [results, Tryz.results71, go_sem]
end Go.Proofs.YtpghckiochjogaaGreatDoor.Bloom

/- Layer 4's list of calls, as an argument. -/
namespace Go.Proofs.YtpghckiochjogaaGreatDoor.Bloom
open Go Go.ChangeShapes Go.WideShapes Go.Deep Go.RowKit Go.Proofs.YtpghckiochjogaaGreatDoor.Ops
structure Op where
  kind : Int
  s : ByteArray
def encO (o : Op) : List Value := [.int .i64 o.kind, .string o.s]
def isI (n : Int) : Prop := -9223372036854775808 ≤ n ∧ n ≤ 9223372036854775807
structure OpOk (o : Op) : Prop where
  kind : isI o.kind
  s : o.s.size ≤ maxLen
theorem isI_of {n : Int} (h : (Lit.int .i64 n).wf = true) : isI n := by simpa [isI, Lit.wf, IntKind.min, IntKind.max, IntKind.signed, IntKind.bits] using h
section
variable {H : Type} {enc : TypeId × Value → H} {w : World} {base : Nat} {spare : Nat → Bool} {held : Bool}
end
end Go.Proofs.YtpghckiochjogaaGreatDoor.Bloom

/- Layer 4's statements: the chapter's example, short, a filter in a run. -/
namespace Go.Proofs.YtpghckiochjogaaGreatDoor.Bloom
open Go Go.RowKit Go.Proofs.YtpghckiochjogaaGreatDoor.Mem Go.Proofs.YtpghckiochjogaaGreatDoor.Ops
structure Run (W w : World) (b : Nat) (k : St) : Prop where
  at_ : At w b k
  low : W.heap.size ≤ b
  below : Below W.heap.size W w
  ok : Ok k
section
variable {W w w' : World} {b : Nat} {k : St}
theorem At.lt (h : At w b k) : b < w.heap.size := (Array.getElem?_eq_some_iff.1 h).1
theorem At.below (h : At w b k) (hb : Below w.heap.size w w') : At w' b k := (hb.block b h.lt).trans h
theorem At.only (h : At w b k) {F : Nat → Prop} (ho : Only F w w') (hF : ¬ F b) : At w' b k := (ho.same b h.lt hF).trans h
theorem Run.step (h : Run W w b k) (hb : Below w.heap.size w w') : Run W w' b k := ⟨h.at_.below hb, h.low, Mem.tr h.below hb, h.ok⟩
theorem Run.turn {k' : St} (h : Run W w b k) (ha : At w' b k') (ho : Only (fun j => j = b) w w') (hk : Ok k') : Run W w' b k' :=
  ⟨ha, h.low, h.below.trans (ho.below h.below.size (fun _ e => e ▸ h.low)), hk⟩
theorem Run.other {F : Nat → Prop} (h : Run W w b k) (ho : Only F w w') (hF : ∀ j, F j → b ≠ j ∧ W.heap.size ≤ j) : Run W w' b k :=
  ⟨h.at_.only ho (fun e => (hF _ e).1 rfl), h.low, h.below.trans (ho.below h.below.size (fun _ e => (hF _ e).2)), h.ok⟩
end
theorem new_run {seed : Int} (h0 : 0 ≤ seed ∧ seed ≤ 18446744073709551615) {W w : World} (hb : Below W.heap.size W w) : Calls Tryz.prog 45 #[.int .u64 seed] w fun e w' =>
    ∃ b : Nat, e = .returned (.pointer (some ⟨b, 0, none⟩)) ∧ Run W w' b (new seed) ∧ w.heap.size ≤ b ∧ Below w.heap.size w w' :=
  (new_gives seed w).mono fun _ _ ⟨b, he, ha, hl, hw⟩ => ⟨b, he, ⟨ha, Nat.le_trans hb.size hl, Mem.tr hb hw, Ok.new h0.1 (by omega)⟩, hl, hw⟩
theorem add_run {W w : World} {b : Nat} {k : St} (h : Run W w b k) (s : ByteArray) (hs : s.size ≤ maxLen) : Calls Tryz.prog 71 #[.pointer (some ⟨b, 0, none⟩), .string s] w fun e w' =>
    e = .returned (.bool (k.has s.data.toList)) ∧ Run W w' b (k.add s.data.toList) ∧ Only (fun j => j = b) w w' :=
  (add_any h.at_ h.ok s hs).mono fun _ _ ⟨he, ha, ho⟩ => ⟨he, h.turn ha ho (h.ok.add _), ho⟩
theorem has_run {W w : World} {b : Nat} {k : St} (h : Run W w b k) (s : ByteArray) (hs : s.size ≤ maxLen) : Calls Tryz.prog 104 #[.pointer (some ⟨b, 0, none⟩), .string s] w fun e w' =>
    e = .returned (.bool (k.has s.data.toList)) ∧ Run W w' b k ∧ Below w.heap.size w w' :=
  (has_any h.at_ h.ok s hs).mono fun _ _ ⟨he, hb⟩ => ⟨he, h.step hb, hb⟩
theorem clear_run {W w : World} {b : Nat} {k : St} (h : Run W w b k) : Calls Tryz.prog 73 #[.pointer (some ⟨b, 0, none⟩)] w fun e w' =>
    e = .returned (.tuple #[]) ∧ Run W w' b k.clear ∧ Only (fun j => j = b) w w' :=
  (clear_any h.at_).mono fun _ _ ⟨he, ha, ho⟩ => ⟨he, h.turn ha ho h.ok.clear, ho⟩
end Go.Proofs.YtpghckiochjogaaGreatDoor.Bloom

/- Layer 6: a judge of a filter and a sketch; the walks over New, Touch, Worth, Admit. -/
namespace Go.Proofs.YtpghckiochjogaaGreatDoor.Tiny
open Go Go.RowKit Go.Proofs.YtpghckiochjogaaGreatDoor.Mem
theorem ret_int {k : IntKind} {a b : Int} (h : a = b) : Ending.returned (.int k a) = .returned (.int k b) := by rw [h]
structure St where
  f : Bloom.St
  c : Sketch.St
def new (seed : Int) : St := ⟨Bloom.new seed, Sketch.new (IntKind.u64.wrap (seed + 1))⟩
def St.touch (j : St) (s : List UInt8) : St :=
  if j.f.has s then (if (j.c.add s).1 then ⟨(j.f.add s).clear, (j.c.add s).2⟩ else ⟨j.f.add s, (j.c.add s).2⟩) else ⟨j.f.add s, j.c⟩
def St.worth (j : St) (s : List UInt8) : Nat := j.c.count s + if j.f.has s then 1 else 0
def St.admit (j : St) (s t : List UInt8) : Bool := decide (j.worth t < j.worth s)
structure Run (W w : World) (b fb cb : Nat) (j : St) : Prop where
  blk : w.heap[b]? = some (.cells #[.pointer (some ⟨fb, 0, none⟩), .pointer (some ⟨cb, 0, none⟩)] 119 (0, 0))
  low : W.heap.size ≤ b
  f : Bloom.Run W w fb j.f
  c : Sketch.Run W w cb j.c
  ne : fb ≠ cb
  nf : b ≠ fb
  nc : b ≠ cb
section
variable {W w w' : World} {b fb cb : Nat} {j : St}
theorem Run.below (h : Run W w b fb cb j) : Below W.heap.size W w := h.f.below
theorem Run.lt (h : Run W w b fb cb j) : b < w.heap.size ∧ fb < w.heap.size ∧ cb < w.heap.size := ⟨(Array.getElem?_eq_some_iff.1 h.blk).1, h.f.at_.lt, h.c.at_.lt⟩
theorem Run.step (h : Run W w b fb cb j) (hb : Below w.heap.size w w') : Run W w' b fb cb j := ⟨(hb.block b h.lt.1).trans h.blk, h.low, h.f.step hb, h.c.step hb, h.ne, h.nf, h.nc⟩
theorem Run.other {F : Nat → Prop} (h : Run W w b fb cb j) (ho : Only F w w') (hF : ∀ k, F k → (b ≠ k ∧ fb ≠ k ∧ cb ≠ k) ∧ W.heap.size ≤ k) : Run W w' b fb cb j :=
  ⟨(ho.same b h.lt.1 (fun e => (hF _ e).1.1 rfl)).trans h.blk, h.low, h.f.other ho (fun k e => ⟨(hF k e).1.2.1, (hF k e).2⟩), h.c.other ho (fun k e => ⟨(hF k e).1.2.2, (hF k e).2⟩), h.ne, h.nf, h.nc⟩
theorem Run.turnF {f' : Bloom.St} (h : Run W w b fb cb j) (hf : Bloom.Run W w' fb f') (ho : Only (fun k => k = fb) w w') : Run W w' b fb cb ⟨f', j.c⟩ :=
  ⟨(ho.same b h.lt.1 h.nf).trans h.blk, h.low, hf, h.c.other ho (fun k e => by subst e; exact ⟨fun e => h.ne e.symm, h.f.low⟩), h.ne, h.nf, h.nc⟩
theorem Run.turnC {c' : Sketch.St} (h : Run W w b fb cb j) (hc : Sketch.Run W w' cb c') (ho : Only (fun k => k = cb) w w') : Run W w' b fb cb ⟨j.f, c'⟩ :=
  ⟨(ho.same b h.lt.1 h.nc).trans h.blk, h.low, h.f.other ho (fun k e => by subst e; exact ⟨h.ne, h.c.low⟩), hc, h.ne, h.nf, h.nc⟩
end
theorem sketch_new {seed : Int} (h0 : 0 ≤ seed ∧ seed ≤ 18446744073709551615) {W w : World} (hb : Below W.heap.size W w) : Calls Tryz.prog 46 #[.int .u64 seed] w fun e w' =>
    ∃ b : Nat, e = .returned (.pointer (some ⟨b, 0, none⟩)) ∧ Sketch.Run W w' b (Sketch.new seed) ∧ w.heap.size ≤ b ∧ Below w.heap.size w w' :=
  (Sketch.new_gives seed w).mono fun _ _ ⟨b, he, ha, hl, hw⟩ => ⟨b, he, ⟨ha, Nat.le_trans hb.size hl, Mem.tr hb hw, Sketch.Ok.new h0.1 (by omega)⟩, hl, hw⟩
set_option maxRecDepth 100000 in
set_option maxHeartbeats 400000 in
theorem new_run {seed : Int} (h0 : 0 ≤ seed ∧ seed ≤ 18446744073709551615) {W w : World} (hb : Below W.heap.size W w) : Calls Tryz.prog 31 #[.int .u64 seed] w fun e w' =>
    ∃ b fb cb : Nat, e = .returned (.pointer (some ⟨b, 0, none⟩)) ∧ Run W w' b fb cb (new seed) ∧ Below w.heap.size w w' ∧ (w.heap.size ≤ b ∧ w.heap.size ≤ fb ∧ w.heap.size ≤ cb) := by
  have hw := Hash.wrap_range (seed + 1)
  have hw' : 0 ≤ IntKind.u64.wrap (seed + 1) ∧ IntKind.u64.wrap (seed + 1) ≤ 18446744073709551615 := ⟨hw.1, by omega⟩
  go_enter Tryz.func31, Tryz.ntmps31
  go_wp2_with fail
  refine (Bloom.new_run h0 hb).mono ?_
  rintro e w1 ⟨fb, rfl, hf, hlf, hb1⟩
  have H1 := Lib.hid (And.intro hf (And.intro hlf hb1))
  clear hf hlf hb1
  go_wp2_with fail
  refine (sketch_new hw' H1.out.1.below).mono ?_
  rintro e w2 ⟨cb, rfl, hc, hlc, hb2⟩
  have H2 := Lib.hid (And.intro hc (And.intro hlc hb2))
  clear hc hlc hb2
  go_wp2_with fail
  go_ret
  have hlc := H2.out.1.at_.lt
  have hlf := H1.out.1.at_.lt
  have h21 := H2.out.2.1
  have hz1 := H1.out.2.2.size
  have hz2 := H2.out.2.2.size
  exact ⟨_, fb, cb, rfl, ⟨Mem.new_block w2 _, by have := H2.out.1.below.size; omega, (H1.out.1.step H2.out.2.2).step (Mem.al (Below.refl _ _) _), H2.out.1.step (Mem.al (Below.refl _ _) _), by omega, by omega, by omega⟩,
    Mem.al (Mem.tr H1.out.2.2 H2.out.2.2) _, by omega, H1.out.2.1, by omega⟩
set_option maxRecDepth 100000 in
set_option maxHeartbeats 1000000 in
theorem touch_run {W w : World} {b fb cb : Nat} {j : St} (h : Run W w b fb cb j) (s : ByteArray) (hs : s.size ≤ maxLen) : Calls Tryz.prog 49 #[.pointer (some ⟨b, 0, none⟩), .string s] w fun e w' =>
    e = .returned (.tuple #[]) ∧ Run W w' b fb cb (j.touch s.data.toList) ∧ Only (fun k => k = fb ∨ k = cb) w w' := by
  have H := Lib.hid h
  have c0 : w.cell? ⟨b, 0, none⟩ = some (.pointer (some ⟨fb, 0, none⟩)) := Mem.row_cell h.blk 0
  clear h
  obtain ⟨q, hq⟩ : ∃ q, j.f.has s.data.toList = q := ⟨_, rfl⟩
  have HQ := Lib.hid hq
  clear hq
  go_enter Tryz.func49, Tryz.ntmps49
  go_wp2_with fail
  refine (Bloom.add_run H.out.f s hs).mono ?_
  rintro e w1 ⟨rfl, hf, ho⟩
  rw [HQ.out]
  have H1 := Lib.hid (And.intro (H.out.turnF hf ho) ho)
  clear hf ho c0
  have c1 : w1.cell? ⟨b, 1, none⟩ = some (.pointer (some ⟨cb, 0, none⟩)) := Mem.row_cell H1.out.1.blk 1
  cases q
  · clear c1
    go_wp2_with fail
    go_end0
    refine ⟨rfl, ?_, H1.out.2.mono fun k e => .inl e⟩
    unfold St.touch
    rw [HQ.out, if_neg (by decide)]
    exact H1.out.1
  obtain ⟨v, hv⟩ : ∃ v, (j.c.add s.data.toList).1 = v := ⟨_, rfl⟩
  have HV := Lib.hid hv
  clear hv
  go_wp2_with fail
  refine (Sketch.add_run H1.out.1.c s hs).mono ?_
  rintro e w2 ⟨rfl, hc, ho⟩
  rw [HV.out]
  have H2 := Lib.hid (And.intro (H1.out.1.turnC hc ho) (H1.out.2.mono (F' := fun k => k = fb ∨ k = cb) (fun k e => .inl e) |>.trans (ho.mono (F' := fun k => k = fb ∨ k = cb) fun k e => .inr e) (Grows.refl _ _)))
  clear hc ho c1
  have c0 : w2.cell? ⟨b, 0, none⟩ = some (.pointer (some ⟨fb, 0, none⟩)) := Mem.row_cell H2.out.1.blk 0
  cases v
  · clear c0
    go_wp2_with fail
    go_end0
    refine ⟨rfl, ?_, H2.out.2⟩
    unfold St.touch
    rw [HQ.out, if_pos rfl, HV.out, if_neg (by decide)]
    exact H2.out.1
  go_wp2_with fail
  refine (Bloom.clear_run H2.out.1.f).mono ?_
  rintro e w3 ⟨rfl, hf, ho⟩
  have H3 := Lib.hid (And.intro (H2.out.1.turnF hf ho) (H2.out.2.trans (ho.mono (F' := fun k => k = fb ∨ k = cb) fun k e => .inl e) (Grows.refl _ _)))
  clear hf ho c0
  go_wp2_with fail
  go_end0
  refine ⟨rfl, ?_, H3.out.2⟩
  unfold St.touch
  rw [HQ.out, if_pos rfl, HV.out, if_pos rfl]
  exact H3.out.1
set_option maxRecDepth 100000 in
set_option maxHeartbeats 1000000 in
theorem worth_run {W w : World} {b fb cb : Nat} {j : St} (h : Run W w b fb cb j) (s : ByteArray) (hs : s.size ≤ maxLen) : Calls Tryz.prog 147 #[.pointer (some ⟨b, 0, none⟩), .string s] w fun e w' =>
    e = .returned (.int .i64 (j.worth s.data.toList : Nat)) ∧ Run W w' b fb cb j ∧ Below w.heap.size w w' := by
  have H := Lib.hid h
  have c1 : w.cell? ⟨b, 1, none⟩ = some (.pointer (some ⟨cb, 0, none⟩)) := Mem.row_cell h.blk 1
  clear h
  obtain ⟨q, hq⟩ : ∃ q, j.f.has s.data.toList = q := ⟨_, rfl⟩
  have h15 : j.c.count s.data.toList ≤ 15 := Sketch.cnt_le15 _ _ _ _
  obtain ⟨n, hn⟩ : ∃ n, j.c.count s.data.toList = n := ⟨_, rfl⟩
  rw [hn] at h15
  have HQ := Lib.hid (And.intro hq hn)
  clear hq hn
  go_enter Tryz.func147, Tryz.ntmps147
  go_wp2_with fail
  refine (Sketch.count_run H.out.c s hs).mono ?_
  rintro e w1 ⟨rfl, -, hb1⟩
  rw [HQ.out.2]
  have H1 := Lib.hid (And.intro (H.out.step hb1) hb1)
  clear hb1 c1
  have c0 : w1.cell? ⟨b, 0, none⟩ = some (.pointer (some ⟨fb, 0, none⟩)) := Mem.row_cell H1.out.1.blk 0
  go_wp2_with fail
  refine (Bloom.has_run H1.out.1.f s hs).mono ?_
  rintro e w2 ⟨rfl, -, hb2⟩
  rw [HQ.out.1]
  have H2 := Lib.hid (And.intro (H1.out.1.step hb2) (Mem.tr H1.out.2 hb2))
  clear hb2 c0
  cases q
  · go_wp2_with fail
    go_ret
    exact ⟨ret_int (by unfold St.worth; rw [HQ.out.1, HQ.out.2]; rfl), H2.out⟩
  · go_wp2_with fail
    go_ret
    exact ⟨ret_int (by unfold St.worth; rw [HQ.out.1, HQ.out.2]; rfl), H2.out⟩
theorem admit_run {W w : World} {b fb cb : Nat} {j : St} (h : Run W w b fb cb j) (s t : ByteArray) (hs : s.size ≤ maxLen) (ht : t.size ≤ maxLen) : Calls Tryz.prog 137 #[.pointer (some ⟨b, 0, none⟩), .string s, .string t] w fun e w' =>
    e = .returned (.bool (j.admit s.data.toList t.data.toList)) ∧ Run W w' b fb cb j ∧ Below w.heap.size w w' := by
  have H := Lib.hid h
  clear h
  obtain ⟨n, hn⟩ : ∃ n, j.worth s.data.toList = n := ⟨_, rfl⟩
  obtain ⟨m, hm⟩ : ∃ m, j.worth t.data.toList = m := ⟨_, rfl⟩
  have HQ := Lib.hid (And.intro hn hm)
  clear hn hm
  go_enter Tryz.func137, Tryz.ntmps137
  go_wp2_with fail
  refine (worth_run H.out s hs).mono ?_
  rintro e w1 ⟨rfl, hR1, hb1⟩
  rw [HQ.out.1]
  have H1 := Lib.hid (And.intro hR1 hb1)
  clear hR1 hb1
  go_wp2_with fail
  refine (worth_run H1.out.1 t ht).mono ?_
  rintro e w2 ⟨rfl, hR2, hb2⟩
  rw [HQ.out.2]
  have H2 := Lib.hid (And.intro hR2 (Mem.tr H1.out.2 hb2))
  clear hR2 hb2
  go_wp2_with fail
  go_ret
  refine ⟨?_, H2.out⟩
  unfold St.admit
  rw [HQ.out.1, HQ.out.2]
  rfl
end Go.Proofs.YtpghckiochjogaaGreatDoor.Tiny

/- Layer 9, plain: texts in rising order, and what they have; buckets, and what lies in them. -/
namespace Go.Proofs.YtpghckiochjogaaGreatDoor.Tab
open Go
theorem bl_irrefl : ∀ l : List UInt8, Op.bytesLess l l = false
  | [] => rfl
  | a :: l => by
    have h : ¬ a < a := UInt8.lt_irrefl a
    simp [Op.bytesLess, h, bl_irrefl l]
theorem bl_trans : ∀ a b c : List UInt8, Op.bytesLess a b = true → Op.bytesLess b c = true → Op.bytesLess a c = true
  | _, [], _, h, _ => by cases ‹List UInt8› <;> simp [Op.bytesLess] at h
  | _, _ :: _, [], _, h => by simp [Op.bytesLess] at h
  | [], _ :: _, _ :: _, _, _ => rfl
  | x :: a, y :: b, z :: c, h1, h2 => by
    simp only [Op.bytesLess, Bool.or_eq_true, decide_eq_true_eq, Bool.and_eq_true, beq_iff_eq] at *
    rcases h1 with h1 | ⟨rfl, h1⟩
    · rcases h2 with h2 | ⟨rfl, h2⟩
      · exact .inl (UInt8.lt_trans h1 h2)
      · exact .inl h1
    · rcases h2 with h2 | ⟨rfl, h2⟩
      · exact .inl h2
      · exact .inr ⟨rfl, bl_trans a b c h1 h2⟩
theorem bl_tri : ∀ a b : List UInt8, Op.bytesLess a b = false → Op.bytesLess b a = false → a = b
  | [], [], _, _ => rfl
  | [], _ :: _, h, _ => by simp [Op.bytesLess] at h
  | _ :: _, [], _, h => by simp [Op.bytesLess] at h
  | x :: a, y :: b, h1, h2 => by
    simp only [Op.bytesLess, Bool.or_eq_false_iff, decide_eq_false_iff_not, Bool.and_eq_false_imp, beq_iff_eq] at h1 h2
    have e : x = y := UInt8.le_antisymm (UInt8.not_lt.1 h2.1) (UInt8.not_lt.1 h1.1)
    subst e
    rw [bl_tri a b (h1.2 rfl) (h2.2 rfl)]
def ltK (a b : ByteArray) : Bool := Op.bytesLess a.data.toList b.data.toList
theorem ltK_irrefl (a : ByteArray) : ltK a a = false := bl_irrefl _
theorem ltK_trans {a b c : ByteArray} (h : ltK a b = true) (h' : ltK b c = true) : ltK a c = true := bl_trans _ _ _ h h'
theorem ltK_asymm {a b : ByteArray} (h : ltK a b = true) : ltK b a = false := by
  cases h' : ltK b a
  · rfl
  · have := ltK_trans h h'
    rw [ltK_irrefl] at this; cases this
theorem ltK_ne {a b : ByteArray} (h : ltK a b = true) : a ≠ b := fun e => by rw [e, ltK_irrefl] at h; cases h
theorem ltK_tri {a b : ByteArray} (h : ltK a b = false) (h' : ltK b a = false) : a = b := by
  have := bl_tri _ _ h h'
  obtain ⟨⟨a⟩⟩ := a
  obtain ⟨⟨b⟩⟩ := b
  simp at this
  rw [this]
theorem ltK_total {a b : ByteArray} (h : ltK a b = false) (hne : a ≠ b) : ltK b a = true := by
  cases h' : ltK b a
  · exact absurd (ltK_tri h h') hne
  · rfl
section
variable {β : Type}
abbrev Pairs (β : Type) := List (ByteArray × β)
def Rising (L : Pairs β) : Prop := L.Pairwise fun p q => ltK p.1 q.1 = true
def get : Pairs β → ByteArray → Option β
  | [], _ => none
  | p :: l, k => if p.1 = k then some p.2 else get l k
def put : Pairs β → ByteArray → β → Pairs β
  | [], k, v => [(k, v)]
  | p :: l, k, v => if p.1 = k then (k, v) :: l else if ltK k p.1 then (k, v) :: p :: l else p :: put l k v
def del (L : Pairs β) (k : ByteArray) : Pairs β := L.filter fun p => decide (p.1 ≠ k)
theorem Rising.nodup {L : Pairs β} (h : Rising L) : (L.map (·.1)).Nodup := by
  unfold Rising at h
  unfold List.Nodup
  rw [List.pairwise_map]
  exact h.imp fun h => ltK_ne h
theorem get_none {L : Pairs β} {k : ByteArray} : get L k = none ↔ k ∉ L.map (·.1) := by
  induction L with
  | nil => simp [get]
  | cons p l ih =>
    simp only [get, List.map_cons, List.mem_cons, not_or]
    by_cases h : p.1 = k
    · simp [h]
    · rw [if_neg h, ih]; simp [Ne.symm h]
theorem get_mem {L : Pairs β} (hn : (L.map (·.1)).Nodup) {k : ByteArray} {v : β} : get L k = some v ↔ (k, v) ∈ L := by
  induction L with
  | nil => simp [get]
  | cons p l ih =>
    have hn' := List.nodup_cons.1 hn
    simp only [get, List.mem_cons]
    by_cases h : p.1 = k
    · rw [if_pos h]
      constructor
      · intro e; injection e with e; left; rw [← h, ← e]
      · rintro (e | e)
        · rw [← e]
        · exact absurd (List.mem_map_of_mem (f := (·.1)) e) (h ▸ hn'.1)
    · rw [if_neg h, ih hn'.2]
      constructor
      · exact .inr
      · rintro (e | e)
        · exact absurd (by rw [← e]) h
        · exact e
theorem mem_put {L : Pairs β} (h : Rising L) (k : ByteArray) (v : β) (p : ByteArray × β) : p ∈ put L k v ↔ p = (k, v) ∨ (p ∈ L ∧ p.1 ≠ k) := by
  induction L with
  | nil => simp [put]
  | cons q l ih =>
    have h1 := List.pairwise_cons.1 h
    simp only [put]
    by_cases hk : q.1 = k
    · rw [if_pos hk]
      simp only [List.mem_cons]
      constructor
      · rintro (e | e)
        · exact .inl e
        · exact .inr ⟨.inr e, fun e' => by have := h1.1 p e; rw [hk, e', ltK_irrefl] at this; cases this⟩
      · rintro (e | ⟨rfl | e, hne⟩)
        · exact .inl e
        · exact absurd hk hne
        · exact .inr e
    · rw [if_neg hk]
      by_cases hl : ltK k q.1 = true
      · rw [if_pos hl]
        simp only [List.mem_cons]
        constructor
        · rintro (e | e | e)
          · exact .inl e
          · exact .inr ⟨.inl e, e ▸ hk⟩
          · exact .inr ⟨.inr e, fun e' => by have := ltK_trans hl (h1.1 p e); rw [e', ltK_irrefl] at this; cases this⟩
        · rintro (e | ⟨e | e, _⟩)
          · exact .inl e
          · exact .inr (.inl e)
          · exact .inr (.inr e)
      · rw [if_neg hl]
        simp only [List.mem_cons, ih h1.2]
        constructor
        · rintro (e | e | ⟨e, e'⟩)
          · exact .inr ⟨.inl e, e ▸ hk⟩
          · exact .inl e
          · exact .inr ⟨.inr e, e'⟩
        · rintro (e | ⟨e | e, e'⟩)
          · exact .inr (.inl e)
          · exact .inl e
          · exact .inr (.inr ⟨e, e'⟩)
theorem rising_put {L : Pairs β} (h : Rising L) (k : ByteArray) (v : β) : Rising (put L k v) := by
  induction L with
  | nil => exact List.pairwise_singleton _ _
  | cons q l ih =>
    have h1 := List.pairwise_cons.1 h
    simp only [put]
    by_cases hk : q.1 = k
    · rw [if_pos hk]; exact List.pairwise_cons.2 ⟨fun p hp => by have := h1.1 p hp; rw [hk] at this; exact this, h1.2⟩
    · rw [if_neg hk]
      by_cases hl : ltK k q.1 = true
      · rw [if_pos hl]
        refine List.pairwise_cons.2 ⟨fun p hp => ?_, h⟩
        rcases List.mem_cons.1 hp with rfl | hp
        · exact hl
        · exact ltK_trans hl (h1.1 p hp)
      · rw [if_neg hl]
        refine List.pairwise_cons.2 ⟨fun p hp => ?_, ih h1.2⟩
        rcases (mem_put h1.2 k v p).1 hp with rfl | ⟨hp, _⟩
        · exact ltK_total (by simpa using hl) (Ne.symm hk)
        · exact h1.1 p hp
theorem rising_del {L : Pairs β} (h : Rising L) (k : ByteArray) : Rising (del L k) := h.sublist List.filter_sublist
theorem mem_del {L : Pairs β} {k : ByteArray} {p : ByteArray × β} : p ∈ del L k ↔ p ∈ L ∧ p.1 ≠ k := by simp [del]
theorem get_del {L : Pairs β} (h : Rising L) (k k' : ByteArray) : get (del L k) k' = if k' = k then none else get L k' := by
  by_cases e : k' = k
  · rw [if_pos e, get_none, e]
    intro hm
    obtain ⟨p, hp, e⟩ := List.mem_map.1 hm
    exact (mem_del.1 hp).2 e
  · rw [if_neg e]
    rcases hg : get L k' with _ | u
    · rw [get_none] at hg ⊢
      intro hm
      obtain ⟨p, hp, rfl⟩ := List.mem_map.1 hm
      exact hg (List.mem_map_of_mem (mem_del.1 hp).1)
    · rw [get_mem (rising_del h k).nodup]
      exact mem_del.2 ⟨(get_mem h.nodup).1 hg, e⟩
theorem put_len {L : Pairs β} (k : ByteArray) (v : β) : (put L k v).length ≤ L.length + 1 ∧ L.length ≤ (put L k v).length := by
  induction L with
  | nil => simp [put]
  | cons q l ih =>
    simp only [put]
    split
    · simp
    · split
      · simp
      · simp only [List.length_cons]; omega
theorem put_len_new {L : Pairs β} (h : Rising L) {k : ByteArray} (v : β) (hk : k ∉ L.map (·.1)) : (put L k v).length = L.length + 1 := by
  induction L with
  | nil => rfl
  | cons q l ih =>
    have h1 := List.pairwise_cons.1 h
    simp only [List.map_cons, List.mem_cons, not_or] at hk
    simp only [put]
    rw [if_neg (Ne.symm hk.1)]
    split
    · rfl
    · simp only [List.length_cons]; rw [ih h1.2 hk.2]
theorem put_len_old {L : Pairs β} (h : Rising L) {k : ByteArray} (v : β) (hk : k ∈ L.map (·.1)) : (put L k v).length = L.length := by
  induction L with
  | nil => simp at hk
  | cons q l ih =>
    have h1 := List.pairwise_cons.1 h
    simp only [List.map_cons, List.mem_cons] at hk
    simp only [put]
    by_cases e : q.1 = k
    · rw [if_pos e]; rfl
    · rw [if_neg e]
      have hm : k ∈ l.map (·.1) := hk.elim (fun e' => absurd e'.symm e) id
      obtain ⟨p, hp, rfl⟩ := List.mem_map.1 hm
      rw [if_neg (by rw [ltK_asymm (h1.1 p hp)]; simp)]
      simp only [List.length_cons]; rw [ih h1.2 hm]
theorem del_none {L : Pairs β} {k : ByteArray} (hk : k ∉ L.map (·.1)) : del L k = L := by
  unfold del
  rw [List.filter_eq_self]
  intro p hp
  exact decide_eq_true fun e => hk (e ▸ List.mem_map_of_mem hp)
theorem del_len {L : Pairs β} (h : Rising L) {k : ByteArray} (hk : k ∈ L.map (·.1)) : (del L k).length + 1 = L.length := by
  induction L with
  | nil => simp at hk
  | cons q l ih =>
    have h1 := List.pairwise_cons.1 h
    simp only [List.map_cons, List.mem_cons] at hk
    by_cases e : q.1 = k
    · have hn : k ∉ l.map (·.1) := fun hm => by
        obtain ⟨p, hp, rfl⟩ := List.mem_map.1 hm
        have := h1.1 p hp
        rw [e, ltK_irrefl] at this; cases this
      have : del (q :: l) k = l := by
        have h2 := del_none hn
        unfold del at h2 ⊢
        rw [List.filter_cons, if_neg (by simp [e]), h2]
      rw [this]; rfl
    · have hm : k ∈ l.map (·.1) := hk.elim (fun e' => absurd e'.symm e) id
      have : del (q :: l) k = q :: del l k := by unfold del; rw [List.filter_cons, if_pos (by simp [e])]
      rw [this, List.length_cons, ih h1.2 hm]; rfl
theorem del_len_le (L : Pairs β) (k : ByteArray) : (del L k).length ≤ L.length := List.length_filter_le ..
structure St (β : Type) where
  L : Pairs β
  buckets : Nat
  left : Nat
def new : St β := ⟨[], 8, 0⟩
def St.tick (s : St β) : St β := { s with left := s.left - 1 }
def St.grown (s : St β) : St β := if 2 * s.buckets < s.L.length ∧ s.left = 0 then ⟨s.L, 2 * s.buckets, s.buckets⟩ else s
def St.put (s : St β) (k : ByteArray) (v : β) : St β := St.grown ⟨Tab.put s.L k v, s.buckets, s.left - 1⟩
def St.del (s : St β) (k : ByteArray) : St β := ⟨Tab.del s.L k, s.buckets, s.left - 1⟩
@[simp] theorem tick_L (s : St β) : s.tick.L = s.L := rfl
@[simp] theorem del_L (s : St β) (k : ByteArray) : (s.del k).L = Tab.del s.L k := rfl
@[simp] theorem put_L (s : St β) (k : ByteArray) (v : β) : (s.put k v).L = Tab.put s.L k v := by unfold St.put St.grown; split <;> rfl
structure Con (β : Type) where
  E : Nat
  N : Nat
  left : Nat
  bs : Nat → Pairs β
def upd (bs : Nat → Pairs β) (k : Nat) (x : Pairs β) : Nat → Pairs β := fun j => if j = k then x else bs j
@[simp] theorem upd_same (bs : Nat → Pairs β) (k : Nat) (x : Pairs β) : upd bs k x k = x := by simp [upd]
theorem upd_other (bs : Nat → Pairs β) {k j : Nat} (x : Pairs β) (h : j ≠ k) : upd bs k x j = bs j := by simp [upd, h]
def Con.idx (H : ByteArray → Nat) (c : Con β) (k : ByteArray) : Nat := if 0 < c.left ∧ c.E - c.left ≤ H k % c.E then H k % c.E else c.E + H k % c.N
def Con.set (c : Con β) (k : Nat) (x : Pairs β) : Con β := { c with bs := upd c.bs k x }
def Con.push (H : ByteArray → Nat) (c : Con β) (p : ByteArray × β) : Con β := c.set (c.E + H p.1 % c.N) (c.bs (c.E + H p.1 % c.N) ++ [p])
def Con.pop (c : Con β) : Con β := { c with left := c.left - 1, bs := upd c.bs (c.E - c.left) [] }
def Con.step (H : ByteArray → Nat) (c : Con β) : Con β := if c.left = 0 then c else (c.bs (c.E - c.left)).foldl (Con.push H) c.pop
def Con.grow (c : Con β) : Con β := ⟨c.N, 2 * c.N, c.N, fun j => if j < c.N then c.bs (c.E + j) else []⟩
structure Abs (H : ByteArray → Nat) (c : Con β) (L : Pairs β) : Prop where
  rise : Rising L
  home : ∀ k p, p ∈ c.bs k → k = c.idx H p.1
  nd : ∀ k, ((c.bs k).map (·.1)).Nodup
  mem : ∀ p, p ∈ L ↔ p ∈ c.bs (c.idx H p.1)
  le : c.left ≤ c.E
  pos : 0 < c.N
section
variable {H : ByteArray → Nat} {c : Con β} {L : Pairs β}
theorem idx_lt (h : c.left ≤ c.E) (hp : 0 < c.N) (k : ByteArray) : c.idx H k < c.E + c.N := by
  unfold Con.idx
  split
  · rename_i h1
    have := Nat.mod_lt (H k) (show 0 < c.E by omega)
    omega
  · have := Nat.mod_lt (H k) hp
    omega
theorem Abs.idx_lt (h : Abs H c L) (k : ByteArray) : c.idx H k < c.E + c.N := Tab.idx_lt h.le h.pos k
theorem push_fold (l : Pairs β) : ∀ c : Con β, (l.foldl (Con.push H) c).E = c.E ∧ (l.foldl (Con.push H) c).N = c.N ∧ (l.foldl (Con.push H) c).left = c.left ∧
    ∀ j, (l.foldl (Con.push H) c).bs j = c.bs j ++ l.filter fun p => decide (c.E + H p.1 % c.N = j) := by
  induction l with
  | nil => intro c; exact ⟨rfl, rfl, rfl, fun j => by simp⟩
  | cons p l ih =>
    intro c
    obtain ⟨h1, h2, h3, h4⟩ := ih (c.push H p)
    refine ⟨h1, h2, h3, fun j => ?_⟩
    rw [List.foldl_cons, h4 j, List.filter_cons]
    show upd c.bs (c.E + H p.1 % c.N) _ j ++ l.filter (fun p => decide (c.E + H p.1 % c.N = j)) = _
    by_cases hj : c.E + H p.1 % c.N = j
    · subst hj
      rw [upd_same, if_pos (by simp)]
      simp
    · rw [upd_other _ _ (Ne.symm hj), if_neg (by simpa using hj)]
theorem step_shape (c : Con β) : (c.step H).E = c.E ∧ (c.step H).N = c.N ∧ (c.step H).left = c.left - 1 := by
  unfold Con.step
  by_cases h : c.left = 0
  · rw [if_pos h]; exact ⟨rfl, rfl, by omega⟩
  · rw [if_neg h]
    obtain ⟨h1, h2, h3, _⟩ := push_fold (H := H) (c.bs (c.E - c.left)) c.pop
    exact ⟨h1, h2, h3⟩
theorem Abs.step (h : Abs H c L) : Abs H (c.step H) L := by
  by_cases h0 : c.left = 0
  · have : c.step H = c := by unfold Con.step; rw [if_pos h0]
    rw [this]; exact h
  obtain ⟨hE, hN, hl⟩ := step_shape (H := H) c
  have hle := h.le
  have hb : ∀ j, (c.step H).bs j = (if j = c.E - c.left then [] else c.bs j) ++ (c.bs (c.E - c.left)).filter fun p => decide (c.E + H p.1 % c.N = j) := fun j => by
    unfold Con.step
    rw [if_neg h0]
    exact (push_fold (H := H) (c.bs (c.E - c.left)) c.pop).2.2.2 j
  have hidx : ∀ k, (c.step H).idx H k = if c.idx H k = c.E - c.left then c.E + H k % c.N else c.idx H k := fun k => by
    unfold Con.idx
    rw [hE, hN, hl]
    have hm := Nat.mod_lt (H k) (show 0 < c.E by omega)
    by_cases h1 : c.E - c.left ≤ H k % c.E
    · rw [if_pos (show 0 < c.left ∧ _ from ⟨by omega, h1⟩)]
      by_cases h2 : H k % c.E = c.E - c.left
      · rw [if_pos h2, if_neg (by omega)]
      · rw [if_neg h2, if_pos (by omega)]
    · rw [if_neg (show ¬ (0 < c.left ∧ _) from fun e => h1 e.2), if_neg (by omega), if_neg (by omega)]
  have hmem : ∀ p j, p ∈ (c.step H).bs j ↔ (j ≠ c.E - c.left ∧ p ∈ c.bs j) ∨ (p ∈ c.bs (c.E - c.left) ∧ c.E + H p.1 % c.N = j) := fun p j => by
    rw [hb, List.mem_append, List.mem_filter]
    by_cases hj : j = c.E - c.left
    · simp [hj]
    · simp [hj]
  have hpos := h.pos
  refine ⟨h.rise, fun k p hp => ?_, fun k => ?_, fun p => ?_, by rw [hl, hE]; omega, by rw [hN]; exact hpos⟩
  · rw [hidx]
    rcases (hmem p k).1 hp with ⟨h1, h2⟩ | ⟨h1, h2⟩
    · have := h.home k p h2
      rw [← this, if_neg h1]
    · have := h.home _ p h1
      rw [← this, if_pos rfl, h2]
  · rw [hb, List.map_append, List.nodup_append]
    refine ⟨by split; exact List.nodup_nil; exact h.nd k, (h.nd _).sublist (List.Sublist.map _ List.filter_sublist), ?_⟩
    rintro a ha b hb' rfl
    obtain ⟨p, hp, rfl⟩ := List.mem_map.1 ha
    obtain ⟨q, hq, e⟩ := List.mem_map.1 hb'
    split at hp
    · simp at hp
    · rename_i hk
      have h1 := h.home k p hp
      have h2 := h.home _ q (List.mem_filter.1 hq).1
      rw [e] at h2
      exact hk (h1.trans h2.symm)
  · rw [h.mem p, hmem, hidx]
    by_cases e : c.idx H p.1 = c.E - c.left
    · rw [if_pos e, e]
      constructor
      · exact fun hp => .inr ⟨hp, rfl⟩
      · rintro (⟨h1, h2⟩ | ⟨h1, _⟩)
        · have := h.home _ p h2
          rw [e] at this; exact absurd this h1
        · exact h1
    · rw [if_neg e]
      constructor
      · exact fun hp => .inl ⟨e, hp⟩
      · rintro (⟨_, h2⟩ | ⟨h1, _⟩)
        · exact h2
        · exact absurd (h.home _ p h1).symm e
theorem Abs.setBucket (h : Abs H c L) (k : ByteArray) {x : Pairs β} {M : Pairs β} (hM : Rising M) (hx : ∀ p ∈ x, p.1 = k ∨ p ∈ c.bs (c.idx H k)) (hn : (x.map (·.1)).Nodup)
    (hm : ∀ p, p ∈ M ↔ (if c.idx H p.1 = c.idx H k then p ∈ x else p ∈ L)) : Abs H (c.set (c.idx H k) x) M := by
  have hi : ∀ k', (c.set (c.idx H k) x).idx H k' = c.idx H k' := fun _ => rfl
  refine ⟨hM, fun j p hp => ?_, fun j => ?_, fun p => ?_, h.le, h.pos⟩
  · rw [hi]
    by_cases hj : j = c.idx H k
    · subst hj
      have hp' : p ∈ x := by simpa [Con.set] using hp
      rcases hx p hp' with e | e
      · rw [e]
      · exact h.home _ p e
    · exact h.home _ p (by simpa [Con.set, upd_other _ _ hj] using hp)
  · by_cases hj : j = c.idx H k
    · subst hj; simpa [Con.set] using hn
    · simpa [Con.set, upd_other _ _ hj] using h.nd j
  · rw [hi, hm]
    by_cases hj : c.idx H p.1 = c.idx H k
    · rw [if_pos hj]; simp [Con.set, hj]
    · rw [if_neg hj, h.mem]; simp [Con.set, upd_other _ _ hj]
theorem Abs.find (h : Abs H c L) (k : ByteArray) : k ∈ (c.bs (c.idx H k)).map (·.1) ↔ k ∈ L.map (·.1) := by
  constructor
  · intro hk
    obtain ⟨p, hp, rfl⟩ := List.mem_map.1 hk
    exact List.mem_map_of_mem ((h.mem p).2 hp)
  · intro hk
    obtain ⟨p, hp, rfl⟩ := List.mem_map.1 hk
    exact List.mem_map_of_mem ((h.mem p).1 hp)
theorem Abs.add (h : Abs H c L) {k : ByteArray} (v : β) (hk : k ∉ L.map (·.1)) : Abs H (c.set (c.idx H k) (c.bs (c.idx H k) ++ [(k, v)])) (put L k v) := by
  have hk' : k ∉ (c.bs (c.idx H k)).map (·.1) := fun e => hk ((h.find k).1 e)
  refine h.setBucket k (rising_put h.rise k v) (fun p hp => ?_) ?_ (fun p => ?_)
  · rcases List.mem_append.1 hp with e | e
    · exact .inr e
    · exact .inl (by simp at e; rw [e])
  · rw [List.map_append, List.nodup_append]
    refine ⟨h.nd _, by simp, ?_⟩
    rintro a ha b hb rfl
    have : a = k := by simpa using hb
    exact hk' (this ▸ ha)
  · rw [mem_put h.rise]
    by_cases hj : c.idx H p.1 = c.idx H k
    · rw [if_pos hj, List.mem_append, h.mem, hj]
      constructor
      · rintro (e | ⟨e, _⟩)
        · exact .inr (by simp [e])
        · exact .inl e
      · rintro (e | e)
        · exact .inr ⟨e, fun e' => hk' (List.mem_map.2 ⟨p, e, e'⟩)⟩
        · exact .inl (by simpa using e)
    · rw [if_neg hj]
      constructor
      · rintro (e | ⟨e, _⟩)
        · rw [e] at hj; exact absurd rfl hj
        · exact e
      · exact fun e => .inr ⟨e, fun e' => hj (by rw [e'])⟩
theorem mem_set_iff {x : Pairs β} {i : Nat} {p u : ByteArray × β} (hn : (x.map (·.1)).Nodup) (hi : x[i]? = some p) (q : ByteArray × β) : q ∈ x.set i u ↔ q = u ∨ (q ∈ x ∧ q.1 ≠ p.1) := by
  have hil := (List.getElem?_eq_some_iff.1 hi).1
  constructor
  · intro hq
    obtain ⟨j, hj⟩ := List.mem_iff_getElem?.1 hq
    rw [List.getElem?_set] at hj
    split at hj
    · rename_i e
      subst e
      first | (rw [if_pos hil] at hj; injection hj with hj; exact .inl hj.symm) | (injection hj with hj; exact .inl hj.symm)
    · rename_i e
      refine .inr ⟨List.mem_of_getElem? hj, fun e' => e ?_⟩
      have h1 : (x.map (·.1))[i]? = some p.1 := by rw [List.getElem?_map, hi]; rfl
      have h2 : (x.map (·.1))[j]? = some p.1 := by rw [List.getElem?_map, hj, ← e']; rfl
      exact (List.getElem?_inj (List.getElem?_eq_some_iff.1 h1).1 hn).1 (h1.trans h2.symm)
  · rintro (rfl | ⟨hq, hne⟩)
    · exact List.mem_iff_getElem?.2 ⟨i, by rw [List.getElem?_set]; simp [hil]⟩
    · obtain ⟨j, hj⟩ := List.mem_iff_getElem?.1 hq
      refine List.mem_iff_getElem?.2 ⟨j, ?_⟩
      rw [List.getElem?_set, if_neg (fun e => hne (by subst e; rw [hi] at hj; injection hj with hj; rw [hj]))]
      exact hj
theorem Abs.change (h : Abs H c L) {k : ByteArray} {i : Nat} {u : β} (v : β) (hi : (c.bs (c.idx H k))[i]? = some (k, u)) : Abs H (c.set (c.idx H k) ((c.bs (c.idx H k)).set i (k, v))) (put L k v) := by
  have hms := mem_set_iff (u := (k, v)) (h.nd (c.idx H k)) hi
  refine h.setBucket k (rising_put h.rise k v) (fun p hp => ?_) ?_ (fun p => ?_)
  · rcases (hms p).1 hp with e | ⟨e, _⟩
    · exact .inl (by rw [e])
    · exact .inr e
  · have : ((c.bs (c.idx H k)).set i (k, v)).map (·.1) = (c.bs (c.idx H k)).map (·.1) := by
      rw [List.map_set]
      have h1 : ((c.bs (c.idx H k)).map (·.1))[i]? = some k := by rw [List.getElem?_map, hi]; rfl
      refine List.ext_getElem? fun j => ?_
      rw [List.getElem?_set]
      split
      · rename_i e; subst e
        rw [h1]; simp; exact (List.getElem?_eq_some_iff.1 hi).1
      · rfl
    rw [this]; exact h.nd _
  · rw [mem_put h.rise]
    by_cases hj : c.idx H p.1 = c.idx H k
    · rw [if_pos hj, hms, h.mem, hj]
    · rw [if_neg hj]
      constructor
      · rintro (e | ⟨e, _⟩)
        · rw [e] at hj; exact absurd rfl hj
        · exact e
      · exact fun e => .inr ⟨e, fun e' => hj (by rw [e'])⟩
theorem mem_erase_iff {x : Pairs β} {i : Nat} {p : ByteArray × β} (hn : (x.map (·.1)).Nodup) (hi : x[i]? = some p) (q : ByteArray × β) : q ∈ x.eraseIdx i ↔ q ∈ x ∧ q.1 ≠ p.1 := by
  obtain ⟨hl, e⟩ := List.getElem?_eq_some_iff.1 hi
  rw [List.mem_eraseIdx_iff_getElem?]
  constructor
  · rintro ⟨j, hne, hj⟩
    refine ⟨List.mem_of_getElem? hj, fun e' => hne ?_⟩
    have h1 : (x.map (·.1))[i]? = some p.1 := by rw [List.getElem?_map, hi]; rfl
    have h2 : (x.map (·.1))[j]? = some p.1 := by rw [List.getElem?_map, hj, ← e']; rfl
    exact ((List.getElem?_inj (List.getElem?_eq_some_iff.1 h1).1 hn).1 (h1.trans h2.symm)).symm
  · rintro ⟨hq, hne⟩
    obtain ⟨j, hj⟩ := List.mem_iff_getElem?.1 hq
    exact ⟨j, fun e' => hne (by subst e'; rw [hi] at hj; injection hj with hj; rw [hj]), hj⟩
theorem Abs.erase (h : Abs H c L) {k : ByteArray} {i : Nat} {u : β} (hi : (c.bs (c.idx H k))[i]? = some (k, u)) : Abs H (c.set (c.idx H k) ((c.bs (c.idx H k)).eraseIdx i)) (del L k) := by
  have hms := mem_erase_iff (h.nd (c.idx H k)) hi
  refine h.setBucket k (rising_del h.rise k) (fun p hp => .inr ((hms p).1 hp).1) ?_ (fun p => ?_)
  · exact (h.nd _).sublist (List.Sublist.map _ (List.eraseIdx_sublist _ _))
  · rw [mem_del]
    by_cases hj : c.idx H p.1 = c.idx H k
    · rw [if_pos hj, hms, h.mem, hj]
    · rw [if_neg hj]
      exact ⟨fun e => e.1, fun e => ⟨e, fun e' => hj (by rw [e'])⟩⟩
theorem Abs.grow (h : Abs H c L) (h0 : c.left = 0) : Abs H c.grow L := by
  have hpos := h.pos
  have hold : ∀ k, c.idx H k = c.E + H k % c.N := fun k => by unfold Con.idx; rw [if_neg (by omega)]
  have hnew : ∀ k, c.grow.idx H k = H k % c.N := fun k => by
    show (if 0 < c.N ∧ c.N - c.N ≤ H k % c.N then H k % c.N else _) = _
    rw [if_pos ⟨hpos, by omega⟩]
  refine ⟨h.rise, fun k p hp => ?_, fun k => ?_, fun p => ?_, Nat.le_refl _, by show 0 < 2 * c.N; omega⟩
  · rw [hnew]
    replace hp : p ∈ (if k < c.N then c.bs (c.E + k) else []) := hp
    split at hp
    · have := h.home _ p hp
      rw [hold] at this; omega
    · simp at hp
  · show ((if k < c.N then c.bs (c.E + k) else []).map (·.1)).Nodup
    split
    · exact h.nd _
    · exact List.nodup_nil
  · rw [h.mem, hnew, hold]
    show _ ↔ p ∈ (if H p.1 % c.N < c.N then c.bs (c.E + H p.1 % c.N) else [])
    rw [if_pos (Nat.mod_lt _ hpos)]
theorem nodup_of_keys {l : Pairs β} (h : (l.map (·.1)).Nodup) : l.Nodup := List.Pairwise.imp (fun h e => h (by rw [e])) (List.pairwise_map.1 h)
theorem abs_new (H : ByteArray → Nat) : Abs H (⟨0, 8, 0, fun _ => []⟩ : Con β) [] :=
  ⟨List.Pairwise.nil, fun _ _ h => by simp at h, fun _ => by simp, fun p => by simp, Nat.le_refl _, Nat.zero_lt_succ 7⟩
end
end
end Go.Proofs.YtpghckiochjogaaGreatDoor.Tab

/- Layer 11, plain: a shard's state, and what its calls do to it. -/
namespace Go.Proofs.YtpghckiochjogaaGreatDoor.Shard
open Go
structure Ent where
  it : Item
  chunk : Int × Int
structure St where
  tab : Tab.St Nat
  ent : Nat → Ent
  slab : Slab.St
  order : Slru.St
  judge : Tiny.St
  drops : List ByteArray
def upd {α : Type} (f : Nat → α) (k : Nat) (v : α) : Nat → α := fun j => if j = k then v else f j
@[simp] theorem upd_same {α : Type} (f : Nat → α) (k : Nat) (v : α) : upd f k v k = v := if_pos rfl
theorem upd_other {α : Type} (f : Nat → α) {k j : Nat} (v : α) (h : j ≠ k) : upd f k v j = f j := if_neg h
def St.remove (s : St) (k : ByteArray) : Bool × St := match Tab.get s.tab.L k with
  | some n => (true, { s with tab := s.tab.tick.del k, slab := (s.slab.free (s.ent n).chunk).2, order := (s.order.remove k).2 })
  | none => (false, { s with tab := s.tab.tick })
def St.drop (s : St) (k : ByteArray) : St := { (s.remove k).2 with drops := (s.remove k).2.drops ++ [k] }
def St.tick (s : St) : St := { s with tab := s.tab.tick }
def St.find (s : St) (k : ByteArray) (env : Env) : Option Nat × St := match Tab.get s.tab.L k with
  | some x => if (s.ent x).it.live env then (some x, s.tick) else (none, s.tick.drop k)
  | none => (none, s.tick)
end Go.Proofs.YtpghckiochjogaaGreatDoor.Shard

