/- Layer 9, the law's own functions: all (the pairs as a slice). -/
import Derived.Test.YtekcogoijlbmnaaTabI15
import Derived.Test.YtekcogoijlbmnaaAppendIn
namespace Go.Proofs.Ytekcogoijlbmnaa.TabL
open Go Go.RowKit Go.Shelf Go.Proofs.Ytekcogoijlbmnaa.Mem Go.Proofs.Ytekcogoijlbmnaa.Tab Go.Proofs.Ytekcogoijlbmnaa.TabI Go.Proofs.Ytekcogoijlbmnaa.App Go.Proofs.Ytekcogoijlbmnaa.Rng
attribute [local go_sem] Oper.semAt_some

theorem set_far {w : World} {p : Addr} {v : Value} {j : Nat} (h : j ≠ p.block) : (w.setCell p v).heap[j]? = w.heap[j]? := Below.heap_setCell _ _ _ _ h
theorem set_size (w : World) (p : Addr) (v : Value) : (w.setCell p v).heap.size = w.heap.size := by simp [World.setCell]
/-- Between two rounds: what came lies in a row of the loop's own, which is none of S. -/
def OutAt (B : Nat) (w2 : World) (most : Int) (S : Nat → Prop) (xs : Pairs V) (W : World) : Prop :=
  Only (fun j => B ≤ j) w2 W ∧ W.heap[B]? = some (.cells #[.int .i64 most] 3 (0, 0)) ∧ (∀ j, S j → B + 2 ≤ j ∧ j < W.heap.size) ∧ ∃ v, W.heap[B + 1]? = some (.cells #[v] 35 (0, 0)) ∧ W.ownsRow w2.heap.size 48 2 v xs.length (cellsP xs) ∧ ∀ g, v.ownBlock = some g → ¬ S g
theorem row_kept {W W' : World} {row : Option Nat} {base : Nat} {e : TypeId} {size n : Nat} {v : Value} {xs : List Value} (h : W.ownsRow base e size v n xs) (hg : W.grownBy W' row) (hr : ∀ r, row = some r → ∃ o : Obj, W.heap[r]? = some o ∧ o.isCells = false) : W'.ownsRow base e size v n xs := by
  refine h.kept hg ?_
  rcases h.2 with ⟨rfl, _⟩ | ⟨g, cap, cur, rfl, _, hgb, _⟩
  · exact .inl rfl
  · refine .inr fun e' => ?_
    obtain ⟨o, ho, hw⟩ := hr g (by simpa [Value.ownBlock] using e'.symm)
    rw [hgb] at ho; cases ho; cases hw
theorem own_out (B : Nat) (w2 : World) (most : Int) (S : Nat → Prop) (f : Nat → Pairs V) : OwnFrom w2.heap.size (fun i W => OutAt B w2 most S (f i) W) := fun s W W' row h hg hr => by
  obtain ⟨h1, h2, hS, v, h3, h4, h5⟩ := h
  have hf := own_fix (β := Unit) w2.heap.size (fun _ => [(B, .cells #[.int .i64 most] 3 (0, 0)), (B + 1, .cells #[v] 35 (0, 0))]) (fun _ p hp => by
    simp only [List.mem_cons, List.not_mem_nil, or_false] at hp
    rcases hp with rfl | rfl <;> rfl) () W W' row (Fix.cons (p := (B, .cells #[.int .i64 most] 3 (0, 0))) h2 (Fix.cons (p := (B + 1, .cells #[v] 35 (0, 0))) h3 (Fix.nil _))) hg hr
  exact ⟨own_only (β := Unit) (Nat.le_refl _) () W W' row h1 hg hr, hf.head, fun j hj => ⟨(hS j hj).1, Nat.lt_of_lt_of_le (hS j hj).2 hg.size⟩, v, hf.tail.head, row_kept h4 hg fun r e => (hr r e).2, h5⟩
theorem infoP : (Try.prog.info? 48).map (fun i => (i.zero, i.size, i.bytes)) = some (some (.agg #[.string ⟨#[]⟩, .int .i64 0]), 2, 24) := by kernel_rfl
def allN (L : Pairs V) (most : Int) : Pairs V := L.take most.toNat
theorem notNil (lb : Array Value) (w : World) : (binOp BinOp.eql 62 (.func (.func 33) #[] lb) .nilFunc).run Try.prog w = .ok (.bool false) w := by kernel_rfl
/-- A list of pairs handed back in a row of the call's own. -/
def AllPost (w : World) (xs : Pairs V) (e : Ending) (w' : World) : Prop := ∃ v, e = .returned v ∧ w'.ownsRow w.heap.size 48 2 v xs.length (cellsP xs) ∧ Below w.heap.size w w'

set_option maxRecDepth 20000 in
set_option maxHeartbeats 2000000 in
theorem all_law {w : World} {b : Nat} {F : Nat → Prop} {seed : Int} {s : St V} {n : Nat} (h : At w b F seed s) (hs : Sm n seed s) (most : Int) :
    Calls Try.prog 14 #[.pointer (some ⟨b, 0, none⟩), .int .i64 most] w (AllPost w (allN s.L most)) := by
  have hFl := h.lt
  have hl1 := hs.len
  have hl2 := hs.nle
  obtain ⟨i0, hi, hz0, hz1, hz2⟩ := info_parts infoP
  obtain ⟨w1, hw1⟩ : ∃ w1, (w.alloc (.cells #[.int .i64 most] 3)).alloc (.cells #[.slice none 0 0] 35) = w1 := ⟨_, rfl⟩
  have hb1 : Below w.heap.size w w1 := by rw [← hw1]; exact Mem.al (Mem.al (Below.refl _ _) _) _
  have hf1 : Fix w1 [(w.heap.size, .cells #[.int .i64 most] 3 (0, 0)), (w.heap.size + 1, .cells #[.slice none 0 0] 35 (0, 0))] := by
    rw [← hw1]
    exact Fix.cons (p := (w.heap.size, .cells #[.int .i64 most] 3 (0, 0))) (Mem.new_later (Mem.new_block w _) _) (Fix.cons (p := (w.heap.size + 1, .cells #[.slice none 0 0] 35 (0, 0))) (Mem.new_block2 w _ _) (Fix.nil _))
  have hz1' : w1.heap.size = w.heap.size + 2 := by rw [← hw1]; simp
  have hall := all_gives (h.below hb1) hs
  refine (callsIn_wide (n := 9)).1 (callsIn_of_wp_marks Try.func14 rfl trivial ?_ rfl)
  simp only [Try.ntmps14, List.size_toArray, List.length_cons, List.length_nil, Nat.reduceAdd, Nat.reduceSub, Array.replicate_succ, Array.replicate_zero, List.push_toArray, List.append_toArray, List.nil_append, List.cons_append]
  clear h hs
  gi_wp2_with fail
  refine ⟨trivial, ?_⟩
  refine (callsIn_wide.2 hall).mono ?_
  rintro e w2 ⟨lb, K, rfl, hseq, hbel, hK⟩
  have hb2 : Below w.heap.size w w2 := hb1.trans (hbel.mono hb1.size)
  have hf2 := hf1.below hbel (Nat.le_refl _)
  have hKw : ∀ j, K j → ¬ (w.heap.size ≤ j ∧ j < w.heap.size + 2) := fun j hj e => by
    have := hK j hj
    exact this.1.elim (fun e2 => by have := hFl j e2; omega) (fun e2 => by omega)
  have hz2' : w.heap.size + 2 ≤ w2.heap.size := by have := hbel.size; omega
  have cm := Mem.box_cell hf2.head
  clear hbel hb1 hf1 hall hw1
  have hnf := notNil lb w2
  by_cases hmo : most < 1
  · have hn : allN s.L most = [] := by unfold allN; rw [show most.toNat = 0 from by omega]; rfl
    clear hseq hK hKw hf2
    gi_wp2_with fail
    refine ret0 rfl (v := .slice none 0 0) (by simp [results, Try.results14, go_sem]) ?_
    rw [hn]
    exact ⟨_, rfl, World.ownsRow_nil _ _ _ _, hb2⟩
  gi_wp2_with fail
  refine outerS rfl TabI.enters hseq (Below.refl _ _) (fun k hk => (hK k hk).2) (fun _ => rfl)
    (fun S i W => OutAt w.heap.size w2 most S (s.L.take i) W ∧ (i : Int) < most) (fun S c W => c = .exit 0 ∧ OutAt w.heap.size w2 most S (s.L.take most.toNat) W)
    (fun S => (own_out _ _ _ S (fun i => s.L.take i)).and (fun _ _ _ _ h _ _ => h))
    (fun S c W W' row h hg hr => ⟨h.1, own_out _ _ _ S (fun _ => s.L.take most.toNat) 0 W W' row h.2 hg hr⟩)
    (fun S W hb hS => ⟨⟨Only.of_below hb (fun k h1 h2 => by omega), (hb.block _ (by omega)).trans hf2.head, fun j hj => ⟨by have := (hS j hj).1; omega, (hS j hj).2⟩, _, (hb.block _ (by omega)).trans hf2.tail.head, World.ownsRow_nil _ _ _ _, fun g e => by cases e⟩, by omega⟩) ?a1 ?assign ?body ?done ?stop
  case assign =>
    intro l x W Kc hKc
    simp only [encIt]
    gi_wp2
    exact hKc
  case stop =>
    rintro S D c W hD ⟨rfl, hO⟩ hKD
    clear hseq hK hKw cm hf2
    obtain ⟨hO, hm, -, v, hv, hrow, -⟩ := hO
    have cv := Mem.box_cell hv
    have HX := Lib.hid (And.intro hO (And.intro hv (And.intro hrow hKD)))
    clear hO hm hv hrow hKD
    gi_wp2
    obtain ⟨hO, hv, hrow, hKD⟩ := HX.out
    refine ret1 rfl (v := v) hKD (by simp [results, Try.results14, go_sem]) ?_
    refine ⟨v, rfl, Mem.row_less (row_kept hrow (row := some D) ⟨rfl, rfl, rfl, by simp, fun k _ hk => World.putObj_heap_other (fun e => hk (by rw [e]))⟩ fun r e => by cases e; exact ⟨_, hKD, rfl⟩) hb2.size, putObj_below (hb2.trans (hO.below hb2.size (fun _ e => e))) _ (by omega)⟩
  case done =>
    rintro S D W hD ⟨hO, hlt⟩ hKD
    clear hseq hK hKw cm hf2
    have hn : allN s.L most = s.L.take s.L.length := by unfold allN; rw [List.take_of_length_le (Nat.le_refl _), List.take_of_length_le (by omega)]
    obtain ⟨hO, hm, -, v, hv, hrow, -⟩ := hO
    have cv := Mem.box_cell hv
    have HX := Lib.hid (And.intro hO (And.intro hv (And.intro hrow (And.intro hKD hn))))
    clear hO hm hv hrow hKD hn
    gi_wp2
    obtain ⟨hO, hv, hrow, hKD, hn⟩ := HX.out
    refine ret1 rfl (v := v) hKD (by simp [results, Try.results14, go_sem]) ?_
    rw [hn]
    refine ⟨v, rfl, Mem.row_less (row_kept hrow (row := some D) ⟨rfl, rfl, rfl, by simp, fun k _ hk => World.putObj_heap_other (fun e => hk (by rw [e]))⟩ fun r e => by cases e; exact ⟨_, hKD, rfl⟩) hb2.size, putObj_below (hb2.trans (hO.below hb2.size (fun _ e => e))) _ (by omega)⟩
  case body =>
    rintro S l i ⟨xk, xv⟩ W hl _ ⟨⟨hO, hm, hSS, v, hv, hrow, hvS⟩, hlt⟩ hx
    have hil : i < s.L.length := (List.getElem?_eq_some_iff.1 hx).1
    have hti : s.L.take (i + 1) = s.L.take i ++ [(xk, xv)] := by rw [List.take_add_one, hx]; rfl
    have hlen : (s.L.take i).length = i := by rw [List.length_take]; omega
    rw [hlen] at hrow
    have c0 := Mem.box_cell hm
    have c1 := Mem.box_cell hv
    have hlB : w.heap.size + 1 < W.heap.size := (Array.getElem?_eq_some_iff.1 hv).1
    have hWz := hO.size
    have hne : ∀ {j : Nat} {o : Obj}, W.heap[j]? = some o → (∀ cur, o ≠ .cells cur 48 (0, 0)) → some j ≠ v.ownBlock := fun {j o} hj ho e => by
      rcases hrow.2 with ⟨rfl, _⟩ | ⟨g, cap, cur, rfl, _, hgb, _⟩
      · cases e
      · have : j = g := by simpa [Value.ownBlock] using e
        subst this
        rw [hgb] at hj
        injection hj with hj
        exact ho cur hj.symm
    have hbase : ∀ g, v.ownBlock = some g → w2.heap.size ≤ g := fun g e => (own_block_lt hrow g e).1
    have hafter : ∀ v' (w3 : World), w3.ownsRow w2.heap.size 48 2 v' (i + 1) (cellsP (s.L.take i) ++ [.string xk, .int .i64 xv]) → (W.alloc (.cells #[.string xk, .int .i64 xv] 48)).grownBy w3 v.ownBlock →
        (∃ g cap, v' = .slice (some ⟨g, 0, none⟩) (i + 1) cap) ∧ w3.heap[w.heap.size + 1]? = some (.cells #[v] 35 (0, 0)) ∧ w3.heap[w.heap.size]? = some (.cells #[.int .i64 most] 3 (0, 0)) := fun v' w3 hown hg => by
      refine ⟨?_, (hg.block _ (by simp; omega) (hne hv (fun cur e => by cases e))).trans ((Below.heap_alloc _ _ _ hlB).trans hv), (hg.block _ (by simp; omega) (hne hm (fun cur e => by cases e))).trans ((Below.heap_alloc _ _ _ (by omega)).trans hm)⟩
      rcases hown.2 with ⟨_, h0⟩ | ⟨g', cap', cur', e, _⟩
      · exact absurd h0 (by omega)
      · exact ⟨g', cap', e⟩
    have hdone : ∀ v' (w3 : World), w3.ownsRow w2.heap.size 48 2 v' (i + 1) (cellsP (s.L.take i) ++ [.string xk, .int .i64 xv]) → (W.alloc (.cells #[.string xk, .int .i64 xv] 48)).grownBy w3 v.ownBlock → (v'.ownBlock = v.ownBlock ∨ v'.ownBlock = some (W.heap.size + 1)) →
        KeepsFrom w2.heap.size W (w3.setCell ⟨w.heap.size + 1, 0, none⟩ v') ∧ Keep (fun j => K j ∨ S j) W (w3.setCell ⟨w.heap.size + 1, 0, none⟩ v') ∧ OutAt w.heap.size w2 most S (s.L.take (i + 1)) (w3.setCell ⟨w.heap.size + 1, 0, none⟩ v') := fun v' w3 hown hg hat => by
      have hs3 : W.heap.size + 1 ≤ w3.heap.size := by have := hg.size; simp at this; omega
      have hsm : ∀ j, j < W.heap.size → some j ≠ v.ownBlock → w3.heap[j]? = W.heap[j]? := fun j hj hn => (hg.block j (by simp; omega) hn).trans (Below.heap_alloc _ _ _ hj)
      have hv3 := (hafter v' w3 hown hg).2.1
      have hm3 := (hafter v' w3 hown hg).2.2
      refine ⟨⟨by rw [set_size]; omega, fun k o hk ho hc => ?_⟩, fun k hk => ?_, ?_, (set_far (by simp)).trans hm3, fun j hj => ⟨(hSS j hj).1, by rw [set_size]; have := (hSS j hj).2; omega⟩, v', Mem.box_set hv3 v', ?_, fun g e hgS => ?_⟩
      · have hkl := (Array.getElem?_eq_some_iff.1 ho).1
        refine (set_far (by simp; omega)).trans ((hsm k hkl (hne ho (fun cur e => ?_))).trans ho)
        subst e; cases hc
      · rcases hk with hk | hk
        · have h1 := hK k hk
          have h2 := hKw k hk
          refine (set_far (by simp; omega)).trans (hsm k (by omega) (fun e => by have := hbase k e.symm; omega))
        · have h1 := hSS k hk
          exact (set_far (by simp; omega)).trans (hsm k h1.2 (fun e => hvS k e.symm hk))
      · refine Only.setCell ?_ (.inl (by simp)) _
        exact (hO.alloc _).grown hg fun g e => .inl (by have := hbase g e; omega)
      · rw [hti, List.length_append, hlen, cellsP_app]
        refine hown.kept (row := some (w.heap.size + 1)) ⟨rfl, rfl, rfl, by rw [set_size]; exact Nat.le_refl _, fun k _ hk => set_far (fun e => hk (by rw [e]))⟩ ?_
        rcases hown.2 with ⟨rfl, _⟩ | ⟨g, cap, cur, rfl, _, hgb, _⟩
        · exact .inl rfl
        · refine .inr fun e' => ?_
          have : g = w.heap.size + 1 := by simpa [Value.ownBlock] using e'
          subst this
          rw [hv3] at hgb
          cases hgb
      · rcases hat with e1 | e1
        · rw [e] at e1; exact hvS g e1.symm hgS
        · rw [e] at e1; injection e1 with e1
          have := (hSS g hgS).2
          omega
    have hafter := Lib.hid hafter
    have hdone := Lib.hid hdone
    have hrowA := Lib.hid (And.intro (hrow.alloc (.cells #[.string xk, .int .i64 xv] 48)) (show Src (W.alloc (.cells #[.string xk, .int .i64 xv] 48)) 2 (.slice (some ⟨W.heap.size, 0, none⟩) 1 1) 1 [.string xk, .int .i64 xv] from .inr ⟨W.heap.size, 0, 1, rfl, rfl, by simp, fun j u hu => by rw [Nat.zero_add, Mem.row_cell (Mem.new_block W _)]; simpa using hu⟩))
    have hi1 : (i : Int) + 1 ≤ most := by omega
    clear hO hm hv hrow hti hlen hne hbase hx hseq hK hKw hf2 cm hvS hSS
    by_cases hmi : (i : Int) + 1 = most
    · have hmb : (((i + 1 : Nat) : Int) == most) = true := by simp; omega
      gi_wp2_with (gi_at_builtin; refine wpListIn_append_src _ _ 35 35 48 48 i0 _ 2 24 w2.heap.size v _ i 1 _ [.string xk, .int .i64 xv] rfl rfl Try.underlying35 Try.underlying35 hi hz0 hz1 hz2 rfl (by decide) rfl rfl hrowA.out.1 hrowA.out.2 (by simp [Value.oneCell']) (by unfold maxLen; omega) (by omega) (by simp; omega) ?_; intro v' w3 hown' hg3 hat3; obtain ⟨⟨g', cap', rfl⟩, hv3, hm3⟩ := hafter.out v' w3 hown' hg3; have c3 := Mem.box_cell hv3; have f3 := Mem.box_free hv3; have c4 := Mem.box_cell hm3)
      obtain ⟨h1, h2, h3⟩ := hdone.out _ w3 hown' hg3 (by simpa using hat3)
      exact ⟨h1, rfl, by rw [show most.toNat = i + 1 from by omega]; exact h3⟩
    · have hmb : (((i + 1 : Nat) : Int) == most) = false := by simp; omega
      gi_wp2_with (gi_at_builtin; refine wpListIn_append_src _ _ 35 35 48 48 i0 _ 2 24 w2.heap.size v _ i 1 _ [.string xk, .int .i64 xv] rfl rfl Try.underlying35 Try.underlying35 hi hz0 hz1 hz2 rfl (by decide) rfl rfl hrowA.out.1 hrowA.out.2 (by simp [Value.oneCell']) (by unfold maxLen; omega) (by omega) (by simp; omega) ?_; intro v' w3 hown' hg3 hat3; obtain ⟨⟨g', cap', rfl⟩, hv3, hm3⟩ := hafter.out v' w3 hown' hg3; have c3 := Mem.box_cell hv3; have f3 := Mem.box_free hv3; have c4 := Mem.box_cell hm3)
      obtain ⟨h1, h2, h3⟩ := hdone.out _ w3 hown' hg3 (by simpa using hat3)
      exact ⟨h1, h2, h3, by omega⟩
end Go.Proofs.Ytekcogoijlbmnaa.TabL
