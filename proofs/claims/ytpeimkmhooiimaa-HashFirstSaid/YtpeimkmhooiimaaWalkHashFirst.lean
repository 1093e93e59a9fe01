/- The walk of the law HashFirst: for all arguments of its types the call returns true, and nothing that was in memory before is changed. Conditions: none beside the types' own bounds. -/
import Derived.Test.YtpeimkmhooiimaaSeveral
import Derived.Test.YtpeimkmhooiimaaHashAwake
import Derived.Test.YtpeimkmhooiimaaMem
import Derived.Maps.AppendAt
import Derived.StillTailTactics
namespace Go.Proofs.Ytpeimkmhooiimaa.HashFirst
open Go.RowKit Go.Shelf Go.Proofs.Ytpeimkmhooiimaa.Rng
attribute [local go_sem] Oper.semAt_some

set_option maxHeartbeats 1000000 in
theorem early (a many more : Int) (s : ByteArray) (ha : 0 ≤ a ∧ a ≤ 18446744073709551615) (hs : s.size ≤ maxLen) (hm : -9223372036854775808 ≤ many ∧ many ≤ 9223372036854775807) (hn : -9223372036854775808 ≤ more ∧ more ≤ 9223372036854775807) (w : World)
    (h : 1000 < s.size ∨ many < 1 ∨ 100 < many ∨ more < many ∨ 100 < more) :
    Calls Try.prog 9 #[.int .u64 a, .string s, .int .i64 many, .int .i64 more] w fun e w' => e = .returned (.bool true) ∧ Below w.heap.size w w' := by
  obtain ⟨a0, a1⟩ := ha
  obtain ⟨m0, m1⟩ := hm
  obtain ⟨n0, n1⟩ := hn
  unfold maxLen at hs
  by_cases h1 : 1000 < s.size
  · clear h
    go_enter Try.func9, Try.ntmps9
    go_wp2_with (go_at_call 10; refine (Hash.awake_any _).mono ?_; rintro e w' ⟨rfl, rfl⟩)
    refine bodyPost_ret (v := .bool true) (by simp [results, Try.results9, go_sem]) rfl ⟨rfl, ?_⟩
    repeat (first | exact Below.refl _ _ | refine Below.drew ?_ | refine Mem.al ?_ _ | refine Below.setCell ?_ (by first | omega | (simp; omega) | simp) _)
  by_cases h2 : many < 1
  · clear h
    go_enter Try.func9, Try.ntmps9
    go_wp2_with (go_at_call 10; refine (Hash.awake_any _).mono ?_; rintro e w' ⟨rfl, rfl⟩)
    refine bodyPost_ret (v := .bool true) (by simp [results, Try.results9, go_sem]) rfl ⟨rfl, ?_⟩
    repeat (first | exact Below.refl _ _ | refine Below.drew ?_ | refine Mem.al ?_ _ | refine Below.setCell ?_ (by first | omega | (simp; omega) | simp) _)
  by_cases h3 : 100 < many
  · clear h
    go_enter Try.func9, Try.ntmps9
    go_wp2_with (go_at_call 10; refine (Hash.awake_any _).mono ?_; rintro e w' ⟨rfl, rfl⟩)
    refine bodyPost_ret (v := .bool true) (by simp [results, Try.results9, go_sem]) rfl ⟨rfl, ?_⟩
    repeat (first | exact Below.refl _ _ | refine Below.drew ?_ | refine Mem.al ?_ _ | refine Below.setCell ?_ (by first | omega | (simp; omega) | simp) _)
  by_cases h4 : more < many
  · clear h
    go_enter Try.func9, Try.ntmps9
    go_wp2_with (go_at_call 10; refine (Hash.awake_any _).mono ?_; rintro e w' ⟨rfl, rfl⟩)
    refine bodyPost_ret (v := .bool true) (by simp [results, Try.results9, go_sem]) rfl ⟨rfl, ?_⟩
    repeat (first | exact Below.refl _ _ | refine Below.drew ?_ | refine Mem.al ?_ _ | refine Below.setCell ?_ (by first | omega | (simp; omega) | simp) _)
  have h5 : 100 < more := by omega
  clear h
  go_enter Try.func9, Try.ntmps9
  go_wp2_with (go_at_call 10; refine (Hash.awake_any _).mono ?_; rintro e w' ⟨rfl, rfl⟩)
  refine bodyPost_ret (v := .bool true) (by simp [results, Try.results9, go_sem]) rfl ⟨rfl, ?_⟩
  repeat (first | exact Below.refl _ _ | refine Below.drew ?_ | refine Mem.al ?_ _ | refine Below.setCell ?_ (by first | omega | (simp; omega) | simp) _)

theorem infoE : (Try.prog.info? 22).map (fun i => (i.zero, i.size, i.bytes)) = some (some (.int .u64 0), 1, 8) := by kernel_rfl

def vals (a : Int) (l : List UInt8) (k : Nat) : List Value := (List.range k).map fun i => .int .u64 (Hash.nthI a l i)
theorem vals_succ (a : Int) (l : List UInt8) (k : Nat) : vals a l (k + 1) = vals a l k ++ [.int .u64 (Hash.nthI a l k)] := by simp [vals, List.range_succ]
theorem vals_at {a : Int} {l : List UInt8} {n k : Nat} (h : k < n) : (vals a l n)[k]? = some (.int .u64 (Hash.nthI a l k)) := by simp [vals, h]

/-- What holds behind k rounds of the first loop: the result's box, and the list. -/
def I1 (w : World) (S0 : Nat) (a : Int) (l : List UInt8) (k : Nat) (W : World) : Prop :=
  ((Below w.heap.size w W ∧ S0 ≤ W.heap.size) ∧ Boxed W w.heap.size 4 (.bool false)) ∧ (∃ v, Boxed W (w.heap.size + 1) 37 v ∧ W.ownsRow S0 22 1 v k (vals a l k) ∧ True)
theorem I1_own (w : World) (S0 : Nat) (a : Int) (l : List UInt8) (S : Nat) (hS : w.heap.size ≤ S) : OwnFrom S (I1 w S0 a l) :=
  (((ownFrom_below (Nat.le_refl _) hS).and (Mem.own_size _ _)).and ((boxed_own _ _ _).from _)).and ((holdsRow_own S0 (w.heap.size + 1) 37 22 1 (fun k => k) (fun k => vals a l k) (fun _ _ => True)).from _)

/-- The call's own blocks in the second loop: the result, the list, its cells, the count. -/
def blocks (B g N n cap : Nat) (cur : Array Value) (k : Nat) : List (Nat × Obj) :=
  [Mem.box B 4 (.bool false), Mem.box (B + 1) 37 (.slice (some ⟨g, 0, none⟩) n cap), (g, .cells cur 22 (0, 0)), Mem.box N 3 (.int .i64 (k : Int))]
theorem blocks_cells (B g N n cap : Nat) (cur : Array Value) (k : Nat) : ∀ p ∈ blocks B g N n cap cur k, p.2.isCells = true := by
  intro p hp
  simp only [blocks, List.mem_cons, List.not_mem_nil, or_false] at hp
  rcases hp with rfl | rfl | rfl | rfl <;> rfl
theorem blocks_set {W : World} {B g N n cap : Nat} {cur : Array Value} {k : Nat} (h : Mem.Fix W (blocks B g N n cap cur k)) (hB : B ≠ N) (hB1 : B + 1 ≠ N) (hg : g ≠ N) (m : Nat) : Mem.Fix (W.setCell ⟨N, 0, none⟩ (.int .i64 (m : Int))) (blocks B g N n cap cur m) :=
  .cons ((Below.heap_setCell _ _ _ _ hB).trans h.head) (.cons ((Below.heap_setCell _ _ _ _ hB1).trans h.tail.head) (.cons ((Below.heap_setCell _ _ _ _ hg).trans h.tail.tail.head) (.cons (Mem.box_set h.tail.tail.tail.head _) (.nil _))))
def I2 (w : World) (D g N n cap : Nat) (cur : Array Value) (k : Nat) (W : World) : Prop :=
  (Below w.heap.size w W ∧ W.heap[D]? = some (.deferred (some []))) ∧ Mem.Fix W (blocks w.heap.size g N n cap cur k)
theorem I2_own (w : World) (D g N n cap : Nat) (cur : Array Value) (S : Nat) (hS : w.heap.size ≤ S) (hD : D < S) : OwnFrom S (I2 w D g N n cap cur) :=
  ((ownFrom_below (Nat.le_refl _) hS).and (Mem.own_low _ hD)).and (Mem.own_fix _ _ (blocks_cells w.heap.size g N n cap cur))

set_option maxRecDepth 100000 in
set_option maxHeartbeats 1000000 in
theorem main (a many more : Int) (s : ByteArray) (ha : 0 ≤ a ∧ a ≤ 18446744073709551615) (hs : ¬ 1000 < s.size) (hm : ¬ many < 1) (hm' : ¬ 100 < many) (hn : ¬ more < many) (hn' : ¬ 100 < more) (w : World) :
    Calls Try.prog 9 #[.int .u64 a, .string s, .int .i64 many, .int .i64 more] w fun e w' => e = .returned (.bool true) ∧ Below w.heap.size w w' := by
  obtain ⟨a0, a1⟩ := ha
  obtain ⟨i0, hi, hz0, hz1, hz2⟩ := info_parts infoE
  refine (callsIn_wide (n := 9)).1 (callsIn_of_wp_marks Try.func9 rfl trivial ?_ rfl)
  simp only [Try.ntmps9, List.size_toArray, List.length_cons, List.length_nil, Nat.reduceAdd, Nat.reduceSub, Array.replicate_succ, Array.replicate_zero, List.push_toArray, List.append_toArray, List.nil_append, List.cons_append]
  gi_wp2_with (refine ⟨trivial, ?_⟩; gi_at_call 10; refine (callsIn_wide.2 (Hash.awake_any _)).mono ?_; rintro e w' ⟨rfl, rfl⟩)
  refine ⟨trivial, ?_⟩
  refine (callsIn_wide.2 (Hash.several_gives a many s (by omega) (by unfold maxLen; omega) _)).mono ?_
  rintro e w2 ⟨lb, K, rfl, hseq, hbel, hK⟩
  have hb0 : I1 w w2.heap.size a s.data.toList 0 w2 := by
    have h1 := Boxed.new w 4 (.bool false)
    have h2 := Boxed.new (w.alloc (.cells #[.bool false] 4)) 37 (.slice none 0 0)
    simp only [World.size_alloc] at h2
    refine ⟨⟨⟨Mem.tr (Mem.al (Mem.al (Below.refl _ _) _) _) hbel, Nat.le_refl _⟩, (hbel.block _ (by simp; omega)).trans (h1.alloc _)⟩, _, (hbel.block _ (by simp)).trans h2, World.ownsRow_nil _ _ _ _, trivial⟩
  have hKw : ∀ j, K j → w.heap.size + 2 ≤ j := fun j hj => by have := (hK j hj).1; simp at this; omega
  clear hbel
  gi_wp2_with fail
  refine outer rfl (Hash.enters) hseq (Below.refl _ _) (fun k hk => (hK k hk).2) (fun _ => rfl) (I1 w w2.heap.size a s.data.toList) (fun _ _ => False)
    (I1_own w _ a _ _ hb0.1.1.1.size) (fun _ _ _ _ h _ _ => h) hb0 ?a1 ?assign ?body ?done ?stop
  case assign =>
    intro l x W Kc hKc
    simp only [Hash.encIH]
    gi_wp2
    exact hKc
  case stop => exact fun D c W _ h _ => h.elim
  case body =>
    rintro l k x W hl _ ⟨⟨⟨hB, hS0⟩, hres⟩, v, hv, hrow, _⟩ hx
    obtain ⟨hkm, rfl⟩ := Hash.several_inv hx
    have hc := hv.cell
    have hB2 : w.heap.size + 1 ≤ W.heap.size := Nat.le_of_lt hv.lt
    have hlw := hres.lt
    have hlow : w.heap.size + 1 < w2.heap.size := by have := hb0.2; obtain ⟨_, h, _⟩ := this; exact h.lt
    have hle1 := Nat.le_of_lt hlow
    have hK2 := Lib.hid hK
    clear hx hb0 hseq hK
    have HKw := Lib.hid hKw
    clear hKw
    gi_wp2_with (gi_at_builtin; refine wpListIn_append_own _ rfl _ _ 37 rfl w2.heap.size 22 i0 (.int .u64 0) 1 8 Try.underlying37 hi hz0 hz1 hz2 rfl (by decide) _ _ _ rfl (hrow.alloc _) ⟨W.heap.size, 0, none⟩ 1 1 [.int .u64 (Hash.nthI a s.data.toList k)] rfl rfl (cell_one_new _ _ _) (by simp [Value.oneCell']) (by unfold maxLen; omega) (by omega) (by simp; omega) ?_; intro v' w1 hown' hgrow _; obtain ⟨g', cap', rfl⟩ := ownsRow_succ hown'; obtain ⟨hv1, hv2, hr2, hk2, hb2⟩ := hv.appended (by decide) (Mem.row_less hrow hle1) hB2 (Nat.le_refl _) (Mem.row_less hown' hle1) hgrow; have hc1 := hv1.cell; have hf1 := hv1.frozen)
    have hjw : ∀ j, j < w2.heap.size → j ≠ w.heap.size + 1 → (w1.setCell ⟨w.heap.size + 1, 0, none⟩ (.slice (some ⟨g', 0, none⟩) (k + 1) cap')).heap[j]? = W.heap[j]? := fun j h1 h2 => Mem.append_far hrow hgrow h1 (by omega) h2
    have hr2' := hown'.kept (grownBy_setCell' w1 (w.heap.size + 1) (.slice (some ⟨g', 0, none⟩) (k + 1) cap')) (.inr (hv1.not_row (by decide) hown').symm)
    exact ⟨hk2.from _, fun j hj => hjw j (hK2.out j hj).2 (by have := HKw.out j hj; omega), ⟨⟨hB.trans (hb2.mono (by omega)), Nat.le_trans hS0 hk2.size⟩, (hjw _ (by omega) (by omega)).trans hres⟩, _, hv2, by rw [vals_succ]; exact hr2', trivial⟩
  case done =>
    rintro D W hD ⟨⟨⟨hB, hS0⟩, hres⟩, v, hv, hrow, _⟩ hKD
    rw [Hash.several_len] at hrow
    obtain ⟨n, hn0⟩ : ∃ n, many.toNat = n + 1 := ⟨many.toNat - 1, by omega⟩
    rw [hn0] at hrow
    obtain ⟨g, cap, cur, rfl, hg0, hgb, hcap, hcap', hcur⟩ := Mem.row_block hrow
    have hmn : many = ((n + 1 : Nat) : Int) := by omega
    have hlow : w.heap.size + 1 < w2.heap.size := by have := hb0.2; obtain ⟨_, h, _⟩ := this; exact h.lt
    have hN := Lib.hid hn0
    have hM := Lib.hid hmn
    have HKD := Lib.hid hKD
    clear hb0 hseq hK hKw hrow hn0 hmn hKD
    gi_wp2_with fail
    refine ⟨trivial, ?_⟩
    refine (callsIn_wide.2 (Hash.several_gives a more s (by omega) (by unfold maxLen; omega) _)).mono ?_
    rintro e w3 ⟨lb3, K3, rfl, hseq3, hbel3, hK3⟩
    have hKD := HKD.out
    have hDlt : D < W.heap.size := (Array.getElem?_eq_some_iff.1 hKD).1
    have hgl : g < W.heap.size := (Array.getElem?_eq_some_iff.1 hgb).1
    have hs3 : W.heap.size < w3.heap.size := by have := hbel3.size; simp at this; omega
    have hold : ∀ j o, W.heap[j]? = some o → w3.heap[j]? = some o := fun j o h => by
      have hj := (Array.getElem?_eq_some_iff.1 h).1
      exact ((hbel3.block j (by simp; omega)).trans (Below.heap_alloc _ _ _ hj)).trans h
    have h0 : I2 w D g W.heap.size (n + 1) cap cur 0 w3 :=
      ⟨⟨Mem.tr (Mem.al hB _) hbel3, hold _ _ hKD⟩, .cons (hold _ _ hres) (.cons (hold _ _ hv) (.cons (hold _ _ hgb) (.cons ((hbel3.block _ (by simp)).trans (Mem.new_block W _)) (.nil _))))⟩
    have hK3w : ∀ j, K3 j → W.heap.size < j := fun j hj => by have := (hK3 j hj).1; simp at this; omega
    clear hold hbel3 hres hv hgb HKD hKD hB
    gi_wp2_with fail
    refine outer rfl (Hash.enters) hseq3 (Below.refl _ _) (fun k hk => (hK3 k hk).2) (fun _ => rfl) (I2 w D g W.heap.size (n + 1) cap cur) (fun _ _ => False)
      (I2_own _ _ _ _ _ _ _ _ (by omega) (by omega)) (fun _ _ _ _ h _ _ => h) h0 ?a2 ?assign2 ?body2 ?done2 ?stop2
    case assign2 =>
      intro l x W Kc hKc
      simp only [Hash.encIH]
      gi_wp2
      exact hKc
    case stop2 => exact fun D c W _ h _ => h.elim
    case body2 =>
      rintro l k x W3 hl _ ⟨⟨hB, hD3⟩, hf⟩ hx
      obtain ⟨hkm, rfl⟩ := Hash.several_inv hx
      have c1 := Mem.box_cell hf.tail.head
      have c2 := Mem.row_cell hf.tail.tail.head k
      have c3 := Mem.box_cell hf.tail.tail.tail.head
      have f3 := Mem.box_free hf.tail.tail.tail.head
      have hset := blocks_set hf (by omega) (by omega) (by omega) (k + 1)
      have hgo : ∀ W', W' = W3.setCell ⟨W.heap.size, 0, none⟩ (.int .i64 ((k : Int) + 1)) → rpost w3.heap.size K3 (I2 w D g W.heap.size (n + 1) cap cur (k + 1)) (fun _ _ => False) W3 .normal { tmps := #[], defers := [] } W' := fun W' e => by
        subst e
        refine ⟨(KeepsOthers.setCell _ _ _).from _, fun j hj => Below.heap_setCell _ _ _ _ (fun e => by have := hK3w j hj; simp at e; omega), ⟨hB.setCell (by simp; omega) _, (Below.heap_setCell _ _ _ _ (by simp; omega)).trans hD3⟩, hset⟩
      have HG := Lib.hid hgo
      clear hgo hset hf hx h0 hK3w hK3 hseq3 hl
      by_cases hkn : k < n + 1
      · rw [hcur k _ (vals_at hkn)] at c2
        have e1 : (Hash.nthI a s.data.toList k != Hash.nthI a s.data.toList k) = false := bne_self_eq_false _
        clear hcur
        gi_wp2
        exact HG.out _ rfl
      · clear c2 hcur
        gi_wp2
        exact HG.out _ rfl
    case done2 =>
      rintro D3 W3 hD3l ⟨⟨hB, hD3⟩, hf⟩ hK3D
      rw [Hash.several_len] at hf
      obtain ⟨m, hm0⟩ : ∃ m, more.toNat = m := ⟨_, rfl⟩
      rw [hm0] at hf
      have c0 := Mem.box_cell hf.head
      have f0 := Mem.box_free hf.head
      have c1 := Mem.box_cell hf.tail.head
      have c2 := Mem.row_cell hf.tail.tail.head 0
      rw [hcur 0 _ (vals_at (by omega))] at c2
      have c3 := Mem.box_cell hf.tail.tail.tail.head
      have e0 : Hash.nthI a s.data.toList 0 = Hash.ofI a s.data.toList := Hash.nthI_zero _ a0 (by omega)
      rw [e0] at c2
      have hmn := hM.out
      have t0 : (((n : Int) + 1) == many) = true := beq_iff_eq.2 (by omega)
      have t1 : ((m : Int) == more) = true := beq_iff_eq.2 (by omega)
      have t2 : (Hash.ofI a s.data.toList == Hash.ofI a s.data.toList) = true := beq_self_eq_true _
      have HF := Lib.hid hf
      have HD3 := Lib.hid hD3
      have HK3 := Lib.hid hK3D
      have hlwB : w.heap.size < D := by omega
      clear hf hD3 hK3D e0 hm0 hmn hcur h0 hK3w hK3 hseq3
      gi_wp2_with fail
      refine wpIn_wide.2 ?_
      refine wp_region_still_tail 18 (by kernel_rfl) (by kernel_rfl) ?_
      simp only [List.take_succ_cons, List.take_zero, List.drop_succ_cons, List.drop_zero]
      repeat (first | still_step | still_call ((Hash.of_any a s a0 (by omega) (by unfold maxLen; omega) _).mono fun _ _ ⟨h, e⟩ => ⟨h, e.symm⟩))
      refine wpStill_nil ?_
      change wpList _ _ _ _ _ W3.drew
      go_wp2
      have hD3' := HD3.out
      have hK3' := HK3.out
      have hDl3 : D < w3.heap.size := by omega
      gi_wp2
      refine ret2 (D := D3) (D' := D) (v := .bool true) rfl ?_ ?_ (by omega) ?_ ?_
      · exact (Below.heap_setCell W3 ⟨w.heap.size, 0, none⟩ (.bool true) D3 (by simp; omega)).trans hK3'
      · exact (Below.heap_setCell W3 ⟨w.heap.size, 0, none⟩ (.bool true) D (by simp; omega)).trans hD3'
      · have hc : ((((W3.setCell ⟨w.heap.size, 0, none⟩ (.bool true)).drew).putObj D3 (.deferred none)).putObj D (.deferred none)).cell? ⟨w.heap.size, 0, none⟩ = some (.bool true) := by
          rw [putObj_cell _ (by simp; omega), putObj_cell _ (by simp; omega)]
          exact World.cell?_setCell_same' W3 _ _ (by rw [c0]; rfl)
        simp [results, Try.results9, go_sem, hc]
      · refine ⟨rfl, ?_⟩
        exact putObj_below (putObj_below (hB.setCell (p := ⟨w.heap.size, 0, none⟩) (Nat.le_refl _) _).drew _ (by omega)) _ (by omega)

theorem walk (a : Int) (s : ByteArray) (many more : Int) (ha : 0 ≤ a ∧ a ≤ 18446744073709551615) (hs : s.size ≤ maxLen) (hm : -9223372036854775808 ≤ many ∧ many ≤ 9223372036854775807) (hn : -9223372036854775808 ≤ more ∧ more ≤ 9223372036854775807) (w : World) :
    Calls Try.prog 9 #[.int .u64 a, .string s, .int .i64 many, .int .i64 more] w fun e w' => e = .returned (.bool true) ∧ Below w.heap.size w w' := by
  by_cases h : 1000 < s.size ∨ many < 1 ∨ 100 < many ∨ more < many ∨ 100 < more
  · exact early a many more s ha hs hm hn w h
  · exact main a many more s ha (by omega) (by omega) (by omega) (by omega) (by omega) w
end Go.Proofs.Ytpeimkmhooiimaa.HashFirst
