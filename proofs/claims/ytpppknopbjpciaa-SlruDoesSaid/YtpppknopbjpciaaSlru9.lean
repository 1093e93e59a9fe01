/- Layer 8, the law's own functions: all (the keys as a slice). -/
import Derived.Test.YtpppknopbjpciaaSlru8
import Derived.Maps.AppendAt
namespace Go.Proofs.Ytpppknopbjpciaa.Slru
open Go Go.RowKit Go.Shelf Go.Proofs.Ytpppknopbjpciaa.Mem Go.Proofs.Ytpppknopbjpciaa.Rng
attribute [local go_sem] Oper.semAt_some

def cellsK (xs : List ByteArray) : List Value := xs.map Value.string
/-- Between two rounds: what came lies in a row of the loop's own. -/
def OutAt (B : Nat) (w2 : World) (most : Int) (xs : List ByteArray) (W : World) : Prop :=
  Only (fun j => B ≤ j) w2 W ∧ W.heap[B]? = some (.cells #[.int .i64 most] 3 (0, 0)) ∧ ∃ v, W.heap[B + 1]? = some (.cells #[v] 31 (0, 0)) ∧ W.ownsRow w2.heap.size 9 1 v xs.length (cellsK xs)
theorem row_kept {W W' : World} {row : Option Nat} {base : Nat} {e : TypeId} {size n : Nat} {v : Value} {xs : List Value} (h : W.ownsRow base e size v n xs) (hg : W.grownBy W' row) (hr : ∀ r, row = some r → ∃ o : Obj, W.heap[r]? = some o ∧ o.isCells = false) : W'.ownsRow base e size v n xs := by
  refine h.kept hg ?_
  rcases h.2 with ⟨rfl, _⟩ | ⟨g, cap, cur, rfl, _, hgb, _⟩
  · exact .inl rfl
  · refine .inr fun e' => ?_
    obtain ⟨o, ho, hw⟩ := hr g (by simpa [Value.ownBlock] using e'.symm)
    rw [hgb] at ho; cases ho; cases hw
theorem own_out (B : Nat) (w2 : World) (most : Int) (f : Nat → List ByteArray) : OwnFrom w2.heap.size (fun i W => OutAt B w2 most (f i) W) := fun s W W' row h hg hr => by
  obtain ⟨h1, h2, v, h3, h4⟩ := h
  have hf := own_fix (β := Unit) w2.heap.size (fun _ => [(B, .cells #[.int .i64 most] 3 (0, 0)), (B + 1, .cells #[v] 31 (0, 0))]) (fun _ p hp => by
    simp only [List.mem_cons, List.not_mem_nil, or_false] at hp
    rcases hp with rfl | rfl <;> rfl) () W W' row (Fix.cons (p := (B, .cells #[.int .i64 most] 3 (0, 0))) h2 (Fix.cons (p := (B + 1, .cells #[v] 31 (0, 0))) h3 (Fix.nil _))) hg hr
  exact ⟨own_only (β := Unit) (Nat.le_refl _) () W W' row h1 hg hr, hf.head, v, hf.tail.head, row_kept h4 hg fun r e => (hr r e).2⟩
theorem infoStr : (Try.prog.info? 9).map (fun i => (i.zero, i.size, i.bytes)) = some (some (.string ⟨#[]⟩), 1, 16) := by kernel_rfl
def allN (s : St) (most : Int) : List ByteArray := s.all.take most.toNat
theorem notNil (lb : Array Value) (w : World) : (binOp BinOp.eql 56 (.func (.func 30) #[] lb) .nilFunc).run Try.prog w = .ok (.bool false) w := by kernel_rfl
/-- A list of keys handed back in a row of the call's own. -/
def AllPost (w : World) (xs : List ByteArray) (e : Ending) (w' : World) : Prop := ∃ v, e = .returned v ∧ w'.ownsRow w.heap.size 9 1 v xs.length (cellsK xs) ∧ Below w.heap.size w w'

set_option maxRecDepth 20000 in
set_option maxHeartbeats 2000000 in
theorem all_law {w : World} {b : Nat} {F : Nat → Prop} {s : St} (h : At w b F s) (most : Int) (hl : s.all.length ≤ 1000000000000) :
    Calls Try.prog 13 #[.pointer (some ⟨b, 0, none⟩), .int .i64 most] w (AllPost w (allN s most)) := by
  have hFl := h.lt
  obtain ⟨i0, hi, hz0, hz1, hz2⟩ := info_parts infoStr
  obtain ⟨w1, hw1⟩ : ∃ w1, (w.alloc (.cells #[.int .i64 most] 3)).alloc (.cells #[.slice none 0 0] 31) = w1 := ⟨_, rfl⟩
  have hb1 : Below w.heap.size w w1 := by rw [← hw1]; exact Mem.al (Mem.al (Below.refl _ _) _) _
  have hf1 : Fix w1 [(w.heap.size, .cells #[.int .i64 most] 3 (0, 0)), (w.heap.size + 1, .cells #[.slice none 0 0] 31 (0, 0))] := by
    rw [← hw1]
    exact Fix.cons (p := (w.heap.size, .cells #[.int .i64 most] 3 (0, 0))) (Mem.new_later (Mem.new_block w _) _) (Fix.cons (p := (w.heap.size + 1, .cells #[.slice none 0 0] 31 (0, 0))) (Mem.new_block2 w _ _) (Fix.nil _))
  have hz1' : w1.heap.size = w.heap.size + 2 := by rw [← hw1]; simp
  have hall := all_gives (h.below hb1)
  refine (callsIn_wide (n := 9)).1 (callsIn_of_wp_marks Try.func13 rfl trivial ?_ rfl)
  simp only [Try.ntmps13, List.size_toArray, List.length_cons, List.length_nil, Nat.reduceAdd, Nat.reduceSub, Array.replicate_succ, Array.replicate_zero, List.push_toArray, List.append_toArray, List.nil_append, List.cons_append]
  clear h
  gi_wp2_with fail
  refine ⟨trivial, ?_⟩
  refine (callsIn_wide.2 hall).mono ?_
  rintro e w2 ⟨lb, K, rfl, hseq, hbel, hK⟩
  have hb2 : Below w.heap.size w w2 := hb1.trans (hbel.mono hb1.size)
  have hf2 := hf1.below hbel (Nat.le_refl _)
  have hKw : ∀ j, K j → ¬ (w.heap.size ≤ j ∧ j < w.heap.size + 2) := fun j hj e => by
    have := hK j hj
    exact this.1.elim (fun e2 => by have := hFl j e2; omega) (fun e2 => by omega)
  have hz2' : w.heap.size + 2 ≤ w2.heap.size := by have := hbel.size; omega
  have cm := Mem.box_cell hf2.head
  clear hbel hb1 hf1 hall hw1
  have hnf := notNil lb w2
  by_cases hmo : most < 1
  · have hn : allN s most = [] := by unfold allN; rw [show most.toNat = 0 from by omega]; rfl
    clear hseq hK hKw hf2
    gi_wp2_with fail
    refine ret0 rfl (v := .slice none 0 0) (by simp [results, Try.results13, go_sem]) ?_
    rw [hn]
    exact ⟨_, rfl, World.ownsRow_nil _ _ _ _, hb2⟩
  gi_wp2_with fail
  refine outer rfl enters hseq (Below.refl _ _) (fun k hk => (hK k hk).2) (fun _ => rfl)
    (fun i W => OutAt w.heap.size w2 most (s.all.take i) W ∧ (i : Int) < most) (fun c W => c = .exit 0 ∧ OutAt w.heap.size w2 most (s.all.take most.toNat) W)
    ((own_out _ _ _ (fun i => s.all.take i)).and (fun _ _ _ _ h _ _ => h))
    (fun c W W' row h hg hr => ⟨h.1, own_out _ _ _ (fun _ => s.all.take most.toNat) 0 W W' row h.2 hg hr⟩)
    ⟨⟨Only.refl _ _, hf2.head, _, hf2.tail.head, World.ownsRow_nil _ _ _ _⟩, by omega⟩ ?a1 ?assign ?body ?done ?stop
  case assign =>
    intro l x W Kc hKc
    simp only [encS]
    gi_wp2
    exact hKc
  case stop =>
    rintro D c W hD ⟨rfl, hO⟩ hKD
    clear hseq hK hKw cm hf2
    obtain ⟨hO, hm, v, hv, hrow⟩ := hO
    have cv := Mem.box_cell hv
    have HX := Lib.hid (And.intro hO (And.intro hv (And.intro hrow hKD)))
    clear hO hm hv hrow hKD
    gi_wp2
    obtain ⟨hO, hv, hrow, hKD⟩ := HX.out
    refine ret1 rfl (v := v) hKD (by simp [results, Try.results13, go_sem]) ?_
    refine ⟨v, rfl, Mem.row_less (row_kept hrow (row := some D) ⟨rfl, rfl, rfl, by simp, fun k _ hk => World.putObj_heap_other (fun e => hk (by rw [e]))⟩ fun r e => by cases e; exact ⟨_, hKD, rfl⟩) hb2.size, putObj_below (hb2.trans (hO.below hb2.size (fun _ e => e))) _ (by omega)⟩
  case done =>
    rintro D W hD ⟨hO, hlt⟩ hKD
    clear hseq hK hKw cm hf2
    have hn : allN s most = s.all.take s.all.length := by unfold allN; rw [List.take_of_length_le (Nat.le_refl _), List.take_of_length_le (by omega)]
    obtain ⟨hO, hm, v, hv, hrow⟩ := hO
    have cv := Mem.box_cell hv
    have HX := Lib.hid (And.intro hO (And.intro hv (And.intro hrow (And.intro hKD hn))))
    clear hO hm hv hrow hKD hn
    gi_wp2
    obtain ⟨hO, hv, hrow, hKD, hn⟩ := HX.out
    refine ret1 rfl (v := v) hKD (by simp [results, Try.results13, go_sem]) ?_
    rw [hn]
    refine ⟨v, rfl, Mem.row_less (row_kept hrow (row := some D) ⟨rfl, rfl, rfl, by simp, fun k _ hk => World.putObj_heap_other (fun e => hk (by rw [e]))⟩ fun r e => by cases e; exact ⟨_, hKD, rfl⟩) hb2.size, putObj_below (hb2.trans (hO.below hb2.size (fun _ e => e))) _ (by omega)⟩
  case body =>
    rintro l i x W hl _ ⟨⟨hO, hm, v, hv, hrow⟩, hlt⟩ hx
    have hil : i < s.all.length := (List.getElem?_eq_some_iff.1 hx).1
    have hti : s.all.take (i + 1) = s.all.take i ++ [x] := by rw [List.take_add_one, hx]; rfl
    have hlen : (s.all.take i).length = i := by rw [List.length_take]; omega
    rw [hlen] at hrow
    have c0 := Mem.box_cell hm
    have c1 := Mem.box_cell hv
    have hlB : w.heap.size + 1 < W.heap.size := (Array.getElem?_eq_some_iff.1 hv).1
    have hWz := hO.size
    have hne : ∀ {j : Nat} {o : Obj}, W.heap[j]? = some o → (∀ cur, o ≠ .cells cur 9 (0, 0)) → some j ≠ v.ownBlock := fun {j o} hj ho e => by
      rcases hrow.2 with ⟨rfl, _⟩ | ⟨g, cap, cur, rfl, _, hgb, _⟩
      · cases e
      · have : j = g := by simpa [Value.ownBlock] using e
        subst this
        rw [hgb] at hj
        injection hj with hj
        exact ho cur hj.symm
    have hbase : ∀ g, v.ownBlock = some g → w2.heap.size ≤ g := fun g e => by
      rcases hrow.2 with ⟨rfl, _⟩ | ⟨g', cap, cur, rfl, hb', _, _⟩
      · cases e
      · have : g' = g := by simpa [Value.ownBlock] using e
        omega
    have hafter : ∀ v' (w3 : World), w3.ownsRow w2.heap.size 9 1 v' (i + 1) (cellsK (s.all.take i) ++ [.string x]) → (W.alloc (.cells #[.string x] 9)).grownBy w3 v.ownBlock →
        (∃ g cap, v' = .slice (some ⟨g, 0, none⟩) (i + 1) cap) ∧ w3.heap[w.heap.size + 1]? = some (.cells #[v] 31 (0, 0)) ∧ w3.heap[w.heap.size]? = some (.cells #[.int .i64 most] 3 (0, 0)) := fun v' w3 hown hg => by
      refine ⟨?_, (hg.block _ (by simp; omega) (hne hv (fun cur e => by cases e))).trans ((Below.heap_alloc _ _ _ hlB).trans hv), (hg.block _ (by simp; omega) (hne hm (fun cur e => by cases e))).trans ((Below.heap_alloc _ _ _ (by omega)).trans hm)⟩
      rcases hown.2 with ⟨_, h0⟩ | ⟨g', cap', cur', e, _⟩
      · exact absurd h0 (by omega)
      · exact ⟨g', cap', e⟩
    have hdone : ∀ v' (w3 : World), w3.ownsRow w2.heap.size 9 1 v' (i + 1) (cellsK (s.all.take i) ++ [.string x]) → (W.alloc (.cells #[.string x] 9)).grownBy w3 v.ownBlock →
        KeepsFrom w2.heap.size W (w3.setCell ⟨w.heap.size + 1, 0, none⟩ v') ∧ Keep K W (w3.setCell ⟨w.heap.size + 1, 0, none⟩ v') ∧ OutAt w.heap.size w2 most (s.all.take (i + 1)) (w3.setCell ⟨w.heap.size + 1, 0, none⟩ v') := fun v' w3 hown hg => by
      have hs3 : W.heap.size + 1 ≤ w3.heap.size := by have := hg.size; simp at this; omega
      have hsm : ∀ j, j < W.heap.size → some j ≠ v.ownBlock → w3.heap[j]? = W.heap[j]? := fun j hj hn => (hg.block j (by simp; omega) hn).trans (Below.heap_alloc _ _ _ hj)
      have hv3 := (hafter v' w3 hown hg).2.1
      have hm3 := (hafter v' w3 hown hg).2.2
      refine ⟨⟨by rw [set_size]; omega, fun k o hk ho hc => ?_⟩, fun k hk => ?_, ?_, (set_far (by simp)).trans hm3, v', Mem.box_set hv3 v', ?_⟩
      · have hkl := (Array.getElem?_eq_some_iff.1 ho).1
        refine (set_far (by simp; omega)).trans ((hsm k hkl (hne ho (fun cur e => ?_))).trans ho)
        subst e; cases hc
      · have h1 := hK k hk
        have h2 := hKw k hk
        refine (set_far (by simp; omega)).trans (hsm k (by omega) (fun e => by have := hbase k e.symm; omega))
      · refine Only.setCell ?_ (.inl (by simp)) _
        exact (hO.alloc _).grown hg fun g e => .inl (by have := hbase g e; omega)
      · rw [hti, List.length_append, hlen, cellsK, List.map_append]
        refine hown.kept (row := some (w.heap.size + 1)) ⟨rfl, rfl, rfl, by rw [set_size]; exact Nat.le_refl _, fun k _ hk => set_far (fun e => hk (by rw [e]))⟩ ?_
        rcases hown.2 with ⟨rfl, _⟩ | ⟨g, cap, cur, rfl, _, hgb, _⟩
        · exact .inl rfl
        · refine .inr fun e' => ?_
          have : g = w.heap.size + 1 := by simpa [Value.ownBlock] using e'
          subst this
          rw [hv3] at hgb
          cases hgb
    have hafter := Lib.hid hafter
    have hdone := Lib.hid hdone
    have hrowA := Lib.hid (hrow.alloc (.cells #[.string x] 9))
    have hi1 : (i : Int) + 1 ≤ most := by omega
    clear hO hm hv hrow hti hlen hne hbase hx hseq hK hKw hl hf2 cm
    by_cases hmi : (i : Int) + 1 = most
    · have hmb : (((i + 1 : Nat) : Int) == most) = true := by simp; omega
      gi_wp2_with (gi_at_builtin; refine wpListIn_append_own _ rfl _ _ 31 rfl w2.heap.size 9 i0 (.string ⟨#[]⟩) 1 16 Try.underlying31 hi hz0 hz1 hz2 rfl (by decide) v i _ rfl hrowA.out ⟨W.heap.size, 0, none⟩ 1 1 [.string x] rfl rfl (cell_one_new _ _ _) (by simp [Value.oneCell']) (by unfold maxLen; omega) (by omega) (by simp; omega) ?_; intro v' w3 hown' hg3 hnil3; obtain ⟨⟨g', cap', rfl⟩, hv3, hm3⟩ := hafter.out v' w3 hown' hg3; have c3 := Mem.box_cell hv3; have f3 := Mem.box_free hv3; have c4 := Mem.box_cell hm3)
      obtain ⟨h1, h2, h3⟩ := hdone.out _ w3 hown' hg3
      exact ⟨h1, rfl, by rw [show most.toNat = i + 1 from by omega]; exact h3⟩
    · have hmb : (((i + 1 : Nat) : Int) == most) = false := by simp; omega
      gi_wp2_with (gi_at_builtin; refine wpListIn_append_own _ rfl _ _ 31 rfl w2.heap.size 9 i0 (.string ⟨#[]⟩) 1 16 Try.underlying31 hi hz0 hz1 hz2 rfl (by decide) v i _ rfl hrowA.out ⟨W.heap.size, 0, none⟩ 1 1 [.string x] rfl rfl (cell_one_new _ _ _) (by simp [Value.oneCell']) (by unfold maxLen; omega) (by omega) (by simp; omega) ?_; intro v' w3 hown' hg3 hnil3; obtain ⟨⟨g', cap', rfl⟩, hv3, hm3⟩ := hafter.out v' w3 hown' hg3; have c3 := Mem.box_cell hv3; have f3 := Mem.box_free hv3; have c4 := Mem.box_cell hm3)
      obtain ⟨h1, h2, h3⟩ := hdone.out _ w3 hown' hg3
      exact ⟨h1, h2, h3, by omega⟩
end Go.Proofs.Ytpppknopbjpciaa.Slru
