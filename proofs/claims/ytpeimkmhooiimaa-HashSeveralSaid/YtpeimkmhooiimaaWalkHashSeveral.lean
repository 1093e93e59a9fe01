/- The walk of the law HashSeveral: for all arguments of its types the call returns true, and nothing that was in memory before is changed. Conditions: none beside the types' own bounds. -/
import Derived.Test.YtpeimkmhooiimaaSeveral
import Derived.Test.YtpeimkmhooiimaaHashAwake
import Derived.Test.YtpeimkmhooiimaaHashRef
import Derived.Test.YtpeimkmhooiimaaMem
namespace Go.Proofs.Ytpeimkmhooiimaa.HashSeveral
open Go.RowKit Go.Shelf Go.Proofs.Ytpeimkmhooiimaa.Rng
attribute [local go_sem] Oper.semAt_some

set_option maxHeartbeats 1000000 in
theorem early (a many most : Int) (s : ByteArray) (ha : 0 ≤ a ∧ a ≤ 18446744073709551615) (hs : s.size ≤ maxLen) (hm : -9223372036854775808 ≤ many ∧ many ≤ 9223372036854775807) (hn : -9223372036854775808 ≤ most ∧ most ≤ 9223372036854775807) (w : World)
    (h : 1000 < s.size ∨ 100 < many ∨ most < 1 ∨ 100 < most) :
    Calls Try.prog 8 #[.int .u64 a, .string s, .int .i64 many, .int .i64 most] w fun e w' => e = .returned (.bool true) ∧ Below w.heap.size w w' := by
  obtain ⟨a0, a1⟩ := ha
  obtain ⟨m0, m1⟩ := hm
  obtain ⟨n0, n1⟩ := hn
  unfold maxLen at hs
  by_cases h1 : 1000 < s.size
  · go_enter Try.func8, Try.ntmps8
    go_wp2_with (go_at_call 10; refine (Hash.awake_any _).mono ?_; rintro e w' ⟨rfl, rfl⟩)
    refine bodyPost_ret (v := .bool true) (by simp [results, Try.results8, go_sem]) rfl ⟨rfl, ?_⟩
    repeat (first | exact Below.refl _ _ | refine Below.drew ?_ | refine Mem.al ?_ _ | refine Below.setCell ?_ (by first | omega | (simp; omega) | simp) _)
  by_cases h2 : 100 < many
  · clear h
    go_enter Try.func8, Try.ntmps8
    go_wp2_with (go_at_call 10; refine (Hash.awake_any _).mono ?_; rintro e w' ⟨rfl, rfl⟩)
    refine bodyPost_ret (v := .bool true) (by simp [results, Try.results8, go_sem]) rfl ⟨rfl, ?_⟩
    repeat (first | exact Below.refl _ _ | refine Below.drew ?_ | refine Mem.al ?_ _ | refine Below.setCell ?_ (by first | omega | (simp; omega) | simp) _)
  by_cases h3 : most < 1
  · clear h
    go_enter Try.func8, Try.ntmps8
    go_wp2_with (go_at_call 10; refine (Hash.awake_any _).mono ?_; rintro e w' ⟨rfl, rfl⟩)
    refine bodyPost_ret (v := .bool true) (by simp [results, Try.results8, go_sem]) rfl ⟨rfl, ?_⟩
    repeat (first | exact Below.refl _ _ | refine Below.drew ?_ | refine Mem.al ?_ _ | refine Below.setCell ?_ (by first | omega | (simp; omega) | simp) _)
  have h4 : 100 < most := by omega
  clear h
  go_enter Try.func8, Try.ntmps8
  go_wp2_with (go_at_call 10; refine (Hash.awake_any _).mono ?_; rintro e w' ⟨rfl, rfl⟩)
  refine bodyPost_ret (v := .bool true) (by simp [results, Try.results8, go_sem]) rfl ⟨rfl, ?_⟩
  repeat (first | exact Below.refl _ _ | refine Below.drew ?_ | refine Mem.al ?_ _ | refine Below.setCell ?_ (by first | omega | (simp; omega) | simp) _)

theorem of_nth (seed : Int) (s : ByteArray) (k : Nat) (hs : s.size ≤ maxLen) (w : World) :
    Calls Try.prog 14 #[.int .u64 (IntKind.u64.wrap (seed + (k : Int))), .string s] w fun e w' => e = .returned (.int .u64 (Hash.nthI seed s.data.toList k)) ∧ w = w' :=
  HashRef.of_any _ s (Hash.wrap_range _).1 (Hash.wrap_range _).2 hs w

theorem res_cell (W : World) (D b : Nat) (hb : b ≠ D) (v : Value) (hs : (W.cell? ⟨b, 0, none⟩).isSome = true) : ((W.setCell ⟨b, 0, none⟩ v).putObj D (.deferred none)).cell? ⟨b, 0, none⟩ = some v := by
  rw [putObj_cell _ hb]; exact World.cell?_setCell_same' _ _ _ hs

/-- The call's own boxes. -/
def boxes (B : Nat) (a : Int) (s : ByteArray) (most n : Int) : List (Nat × Obj) :=
  [Mem.box B 22 (.int .u64 a), Mem.box (B + 1) 9 (.string s), Mem.box (B + 1 + 1) 3 (.int .i64 most), Mem.box (B + 1 + 1 + 1) 4 (.bool false), Mem.box (B + 1 + 1 + 1 + 1) 3 (.int .i64 n)]

theorem boxes_set {W : World} {B : Nat} {a : Int} {s : ByteArray} {most n : Int} (h : Mem.Fix W (boxes B a s most n)) (m : Int) : Mem.Fix (W.setCell ⟨B + 1 + 1 + 1 + 1, 0, none⟩ (.int .i64 m)) (boxes B a s most m) :=
  .cons ((Below.heap_setCell _ _ _ _ (by first | (simp; done) | (simp; omega))).trans h.head) (.cons ((Below.heap_setCell _ _ _ _ (by first | (simp; done) | (simp; omega))).trans h.tail.head) (.cons ((Below.heap_setCell _ _ _ _ (by simp)).trans h.tail.tail.head)
    (.cons ((Below.heap_setCell _ _ _ _ (by simp)).trans h.tail.tail.tail.head) (.cons (Mem.box_set h.tail.tail.tail.tail.head _) (.nil _)))))

def boxesWorld (w : World) (a : Int) (s : ByteArray) (most : Int) : World :=
  ((((w.alloc (.cells #[.int .u64 a] 22)).alloc (.cells #[.string s] 9)).alloc (.cells #[.int .i64 most] 3)).alloc (.cells #[.bool false] 4)).alloc (.cells #[.int .i64 0] 3)
theorem boxes_made (w : World) (a : Int) (s : ByteArray) (most : Int) : Mem.Fix (boxesWorld w a s most) (boxes w.heap.size a s most 0) := by
  have h0 := Mem.new_block w (.cells #[.int .u64 a] 22)
  have h1 := Mem.new_block (w.alloc (.cells #[.int .u64 a] 22)) (.cells #[.string s] 9)
  have h2 := Mem.new_block ((w.alloc (.cells #[.int .u64 a] 22)).alloc (.cells #[.string s] 9)) (.cells #[.int .i64 most] 3)
  have h3 := Mem.new_block (((w.alloc (.cells #[.int .u64 a] 22)).alloc (.cells #[.string s] 9)).alloc (.cells #[.int .i64 most] 3)) (.cells #[.bool false] 4)
  have h4 := Mem.new_block ((((w.alloc (.cells #[.int .u64 a] 22)).alloc (.cells #[.string s] 9)).alloc (.cells #[.int .i64 most] 3)).alloc (.cells #[.bool false] 4)) (.cells #[.int .i64 0] 3)
  simp only [World.size_alloc] at h1 h2 h3 h4
  exact .cons (Mem.new_later (Mem.new_later (Mem.new_later (Mem.new_later h0 _) _) _) _) (.cons (Mem.new_later (Mem.new_later (Mem.new_later h1 _) _) _) (.cons (Mem.new_later (Mem.new_later h2 _) _) (.cons (Mem.new_later h3 _) (.cons h4 (.nil _)))))
theorem boxes_below (w : World) (a : Int) (s : ByteArray) (most : Int) : Below w.heap.size w (boxesWorld w a s most) := Mem.al (Mem.al (Mem.al (Mem.al (Mem.al (Below.refl _ _) _) _) _) _) _

set_option maxRecDepth 100000 in
set_option maxHeartbeats 1000000 in
theorem main (a many most : Int) (s : ByteArray) (ha : 0 ≤ a ∧ a ≤ 18446744073709551615) (hs : ¬ 1000 < s.size) (hm : -9223372036854775808 ≤ many) (hm' : ¬ 100 < many) (hn : ¬ most < 1) (hn' : ¬ 100 < most) (w : World) :
    Calls Try.prog 8 #[.int .u64 a, .string s, .int .i64 many, .int .i64 most] w fun e w' => e = .returned (.bool true) ∧ Below w.heap.size w w' := by
  obtain ⟨a0, a1⟩ := ha
  refine (callsIn_wide (n := 9)).1 (callsIn_of_wp_marks Try.func8 rfl trivial ?_ rfl)
  simp only [Try.ntmps8, List.size_toArray, List.length_cons, List.length_nil, Nat.reduceAdd, Nat.reduceSub, Array.replicate_succ, Array.replicate_zero, List.push_toArray, List.append_toArray, List.nil_append, List.cons_append]
  gi_wp2_with (refine ⟨trivial, ?_⟩; gi_at_call 10; refine (callsIn_wide.2 (Hash.awake_any _)).mono ?_; rintro e w' ⟨rfl, rfl⟩)
  refine ⟨trivial, ?_⟩
  have hf0 := boxes_made w a s most
  have hb0 := boxes_below w a s most
  unfold boxesWorld at hf0 hb0
  refine (callsIn_wide.2 (Hash.several_gives a many s (by omega) (by unfold maxLen; omega) _)).mono ?_
  rintro e w2 ⟨lb, K, rfl, hseq, hbel, hK⟩
  have hf := hf0.below hbel (Nat.le_refl _)
  have hb := Mem.tr hb0 hbel
  have hKw : ∀ j, K j → w.heap.size + 5 ≤ j := fun j hj => by have := (hK j hj).1; simp at this; omega
  clear hf0 hb0
  gi_wp2_with fail
  refine outer rfl (Hash.enters) hseq (Below.refl _ _) (fun k hk => (hK k hk).2) (fun _ => rfl)
    (fun k W => ((k : Int) < most ∧ Below w.heap.size w W) ∧ Mem.Fix W (boxes w.heap.size a s most k))
    (fun c W => (c = .exit 0 ∧ most ≤ many ∧ Below w.heap.size w W) ∧ Mem.Fix W (boxes w.heap.size a s most most))
    ?hI ?hIx ?h0 ?a1 ?assign ?body ?done ?stop
  case assign =>
    intro l x W Kc hKc
    simp only [Hash.encIH]
    gi_wp2
    exact hKc
  case hI => exact ((ownFrom_pure _ (fun k : Nat => (k : Int) < most)).and (ownFrom_below (Nat.le_refl _) hb.size)).and (Mem.own_fix _ (fun k : Nat => boxes w.heap.size a s most k) (by intro k p hp; simp [boxes] at hp; rcases hp with rfl | rfl | rfl | rfl | rfl <;> rfl))
  case hIx => exact ((ownFrom_pure _ (fun c : Code => c = .exit 0)).and ((ownFrom_pure _ (fun _ : Code => most ≤ many)).and (ownFrom_below (Nat.le_refl _) hb.size))).and (Mem.own_fix _ (fun _ : Code => boxes w.heap.size a s most most) (by intro k p hp; simp [boxes] at hp; rcases hp with rfl | rfl | rfl | rfl | rfl <;> rfl))
  case h0 => exact ⟨⟨by simp; omega, hb⟩, hf⟩
  case body =>
    rintro l k x W hl _ ⟨⟨hk, hbk⟩, hfk⟩ hx
    obtain ⟨hkm, rfl⟩ := Hash.several_inv hx
    have c0 := Mem.box_cell (hfk.head)
    have c1 := Mem.box_cell (hfk.tail.head)
    have c2 := Mem.box_cell (hfk.tail.tail.head)
    have c4 := Mem.box_cell (hfk.tail.tail.tail.tail.head)
    have f4 := Mem.box_free (hfk.tail.tail.tail.tail.head)
    have HX := Lib.hid hx
    have HL := Lib.hid hl
    have HK := Lib.hid hKw
    clear hx hf hb hbel hseq hK hKw
    have e1 : (Hash.nthI a s.data.toList k != Hash.nthI a s.data.toList k) = false := bne_self_eq_false _
    have hkm' : (k : Int) < many := by omega
    by_cases hlast : (k : Int) + 1 = most
    · have hl1 : ((k : Int) + 1 == most) = true := beq_iff_eq.2 hlast
      clear hlast
      gi_wp2_with (refine ⟨trivial, ?_⟩; gi_at_call 14; refine (CallsIn.inRound l (callsIn_wide.2 (of_nth a s k (by unfold maxLen; omega) _))).mono ?_; rintro e w' ⟨rfl, rfl⟩)
      have e2 : (k : Int) + 1 = most := beq_iff_eq.1 hl1
      refine ⟨(KeepsOthers.setCell _ _ _).from _, ⟨rfl, by omega, hbk.setCell (by simp; omega) _⟩, ?_⟩
      rw [e2]
      exact boxes_set hfk most
    · have hl1 : ((k : Int) + 1 == most) = false := beq_eq_false_iff_ne.2 hlast
      have hl2 : (k : Int) + 1 < most := by omega
      clear hlast
      gi_wp2_with (refine ⟨trivial, ?_⟩; gi_at_call 14; refine (CallsIn.inRound l (callsIn_wide.2 (of_nth a s k (by unfold maxLen; omega) _))).mono ?_; rintro e w' ⟨rfl, rfl⟩)
      refine ⟨(KeepsOthers.setCell _ _ _).from _, ?_, ⟨by omega, hbk.setCell (by simp; omega) _⟩, ?_⟩
      · exact fun j hj => Below.heap_setCell _ _ _ _ (fun e => by have := HK.out j hj; simp at e; omega)
      · exact boxes_set hfk _
  case done =>
    rintro D W hD ⟨⟨hk, hbk⟩, hfk⟩ hKD
    rw [Hash.several_len] at hk hfk
    obtain ⟨n, hn0⟩ : ∃ n, many.toNat = n := ⟨_, rfl⟩
    rw [hn0] at hk hfk
    have c2 := Mem.box_cell (hfk.tail.tail.head)
    have c3 := Mem.box_cell (hfk.tail.tail.tail.head)
    have f3 := Mem.box_free (hfk.tail.tail.tail.head)
    have c4 := Mem.box_cell (hfk.tail.tail.tail.tail.head)
    have HD := Lib.hid hKD
    have hlt := hf.lt (p := Mem.box (w.heap.size + 1 + 1 + 1 + 1) 3 (.int .i64 0)) (by simp [boxes])
    clear hf hb hbel hseq hK hKw hKD
    by_cases h0 : many < 0
    · have t0 : ((n : Int) == 0) = true := beq_iff_eq.2 (by omega)
      clear hn0
      gi_wp2
      refine ret1 rfl (v := .bool true) ?_ ?_ ⟨rfl, ?_⟩
      · rw [Below.heap_setCell _ _ _ _ (by simp; omega)]; exact HD.out
      · have hc := res_cell W D (w.heap.size + 1 + 1 + 1) (by omega) (.bool true) (by rw [c3]; rfl)
        simp [results, Try.results8, go_sem, hc]
      · exact putObj_below (hbk.setCell (by simp; omega) _) _ (by omega)
    · have t0 : ((n : Int) == many) = true := beq_iff_eq.2 (by omega)
      have t1 : ¬ most < many := by omega
      clear hn0
      gi_wp2
      refine ret1 rfl (v := .bool true) ?_ ?_ ⟨rfl, ?_⟩
      · rw [Below.heap_setCell _ _ _ _ (by simp; omega)]; exact HD.out
      · have hc := res_cell W D (w.heap.size + 1 + 1 + 1) (by omega) (.bool true) (by rw [c3]; rfl)
        simp [results, Try.results8, go_sem, hc]
      · exact putObj_below (hbk.setCell (by simp; omega) _) _ (by omega)
  case stop =>
    rintro D c W hD ⟨⟨rfl, hmm, hbk⟩, hfk⟩ hKD
    have c2 := Mem.box_cell (hfk.tail.tail.head)
    have c3 := Mem.box_cell (hfk.tail.tail.tail.head)
    have f3 := Mem.box_free (hfk.tail.tail.tail.head)
    have c4 := Mem.box_cell (hfk.tail.tail.tail.tail.head)
    have HD := Lib.hid hKD
    have hlt := hf.lt (p := Mem.box (w.heap.size + 1 + 1 + 1 + 1) 3 (.int .i64 0)) (by simp [boxes])
    clear hf hb hbel hseq hK hKw hKD
    have t2 : ¬ many < 0 := by omega
    by_cases h0 : most < many
    · gi_wp2
      refine ret1 rfl (v := .bool true) ?_ ?_ ⟨rfl, ?_⟩
      · rw [Below.heap_setCell _ _ _ _ (by simp; omega)]; exact HD.out
      · have hc := res_cell W D (w.heap.size + 1 + 1 + 1) (by omega) (.bool true) (by rw [c3]; rfl)
        simp [results, Try.results8, go_sem, hc]
      · exact putObj_below (hbk.setCell (by simp; omega) _) _ (by omega)
    · have t0 : (most == many) = true := beq_iff_eq.2 (by omega)
      gi_wp2
      refine ret1 rfl (v := .bool true) ?_ ?_ ⟨rfl, ?_⟩
      · rw [Below.heap_setCell _ _ _ _ (by simp; omega)]; exact HD.out
      · have hc := res_cell W D (w.heap.size + 1 + 1 + 1) (by omega) (.bool true) (by rw [c3]; rfl)
        simp [results, Try.results8, go_sem, hc]
      · exact putObj_below (hbk.setCell (by simp; omega) _) _ (by omega)

theorem walk (a : Int) (s : ByteArray) (many most : Int) (ha : 0 ≤ a ∧ a ≤ 18446744073709551615) (hs : s.size ≤ maxLen) (hm : -9223372036854775808 ≤ many ∧ many ≤ 9223372036854775807) (hn : -9223372036854775808 ≤ most ∧ most ≤ 9223372036854775807) (w : World) :
    Calls Try.prog 8 #[.int .u64 a, .string s, .int .i64 many, .int .i64 most] w fun e w' => e = .returned (.bool true) ∧ Below w.heap.size w w' := by
  by_cases h : 1000 < s.size ∨ 100 < many ∨ most < 1 ∨ 100 < most
  · exact early a many most s ha hs hm hn w h
  · exact main a many most s ha (by omega) hm.1 (by omega) (by omega) (by omega) w
end Go.Proofs.Ytpeimkmhooiimaa.HashSeveral
