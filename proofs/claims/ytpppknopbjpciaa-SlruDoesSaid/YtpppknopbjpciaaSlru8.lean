/- Layer 8: All's call, Victim. -/
import Derived.Test.YtpppknopbjpciaaSlru7
namespace Go.Proofs.Ytpppknopbjpciaa.Slru
open Go Go.RowKit Go.Shelf Go.Proofs.Ytpppknopbjpciaa.Mem Go.Proofs.Ytpppknopbjpciaa.Rng
attribute [local go_sem] Oper.semAt_some

theorem all_any (b : Nat) (w : World) : Calls Try.prog 27 #[.pointer (some ⟨b, 0, none⟩)] w fun e w' =>
    e = .returned (.func (.func 30) #[] #[.pointer (some ⟨w.heap.size, 0, none⟩)]) ∧ w' = w.alloc (.cells #[.pointer (some ⟨b, 0, none⟩)] 25) := by
  go_enter Try.func27, Try.ntmps27
  go_wp2
  go_ret
  exact ⟨rfl, rfl⟩
/-- All: an iterator over the keys, in a world that has grown alone. -/
theorem all_gives {w : World} {b : Nat} {F : Nat → Prop} {s : St} (h : At w b F s) : Calls Try.prog 27 #[.pointer (some ⟨b, 0, none⟩)] w fun e w' =>
    ∃ (lb : Array Value) (K : Nat → Prop), e = .returned (.func (.func 30) #[] lb) ∧ SeqI Try.prog 30 lb encS K s.all w' ∧ Below w.heap.size w w' ∧ (∀ k, K k → (F k ∨ w.heap.size ≤ k) ∧ k < w'.heap.size) :=
  (all_any b w).mono fun e w' ⟨he, hw⟩ => by
    subst hw
    obtain ⟨mb, ts, ss, ps, h⟩ := h
    refine ⟨_, fun k => k = w.heap.size ∨ F k, he, all_seq (h.same (fun k hk => Below.heap_alloc _ _ _ (h.lt k hk)) (by simp)) (Mem.new_block w _), Mem.al (Below.refl _ _) _, fun k hk => ⟨?_, ?_⟩⟩
    · exact hk.elim (fun e => .inr (by omega)) .inl
    · rw [World.size_alloc]; exact hk.elim (fun e => by omega) (fun e => Nat.lt_succ_of_lt (h.lt k e))
theorem enters (args : Array Value) (w : World) : (callFunc 30 args).run Try.prog w = .ok (.enter 30 args) w := enters_of Try.func30 (by kernel_rfl) rfl args w

/-- What Victim answers. -/
def vic (s : St) (but : ByteArray) : ByteArray × Bool := match s.victim but with
  | some k => (k, true)
  | none => (ByteArray.empty, false)
def vblocks (B : Nat) (but k : ByteArray) (q : Bool) : List (Nat × Obj) := [Mem.box B 9 (.string but), Mem.box (B + 1) 9 (.string k), Mem.box (B + 1 + 1) 4 (.bool q)]
theorem vblocks_cells (B : Nat) (but k : ByteArray) (q : Bool) : ∀ p ∈ vblocks B but k q, p.2.isCells = true := by
  intro p hp
  simp only [vblocks, List.mem_cons, List.not_mem_nil, or_false] at hp
  rcases hp with rfl | rfl | rfl <;> rfl
theorem str_ne {a b : ByteArray} (h : a ≠ b) : (a.toList == b.toList) = false := by
  have := Maps.bytes_beq a b
  rw [← beq_toListBytes, this]; simpa using h
theorem str_eq (a : ByteArray) : (a.toList == a.toList) = true := by simp
theorem vic_some {s : St} {but k : ByteArray} {i : Nat} (h : s.all[i]? = some k) (hb : ∀ x ∈ s.all.take i, x = but) (hk : k ≠ but) : vic s but = (k, true) := by
  have hi := (List.getElem?_eq_some_iff.1 h).1
  have e : s.all = s.all.take i ++ k :: s.all.drop (i + 1) := by
    conv => lhs; rw [← List.take_append_drop i s.all, List.drop_eq_getElem_cons hi, (List.getElem?_eq_some_iff.1 h).2]
  have hv : s.victim but = some k := by
    unfold St.victim
    rw [e, List.find?_append, List.find?_eq_none.2 (fun x hx => by simpa using hb x hx)]
    simp [hk]
  unfold vic; rw [hv]
theorem vic_none {s : St} {but : ByteArray} (hb : ∀ x ∈ s.all, x = but) : vic s but = (ByteArray.empty, false) := by
  have hv : s.victim but = none := by
    unfold St.victim
    exact List.find?_eq_none.2 (fun x hx => by simpa using hb x hx)
  unfold vic; rw [hv]

set_option maxHeartbeats 1000000 in
theorem victim_any {w : World} {b : Nat} {F : Nat → Prop} {s : St} (h : At w b F s) (but : ByteArray) :
    Calls Try.prog 20 #[.pointer (some ⟨b, 0, none⟩), .string but] w fun e w' => e = .returned (.tuple #[.string (vic s but).1, .bool (vic s but).2]) ∧ Below w.heap.size w w' := by
  have hFl := h.lt
  obtain ⟨w1, hw1⟩ : ∃ w1, ((w.alloc (.cells #[.string but] 9)).alloc (.cells #[.string ⟨#[]⟩] 9)).alloc (.cells #[.bool false] 4) = w1 := ⟨_, rfl⟩
  have hb1 : Below w.heap.size w w1 := by rw [← hw1]; exact Mem.al (Mem.al (Mem.al (Below.refl _ _) _) _) _
  have hf1 : Fix w1 (vblocks w.heap.size but ⟨#[]⟩ false) := by
    rw [← hw1]
    exact Fix.cons (Mem.new_later (Mem.new_later (Mem.new_block w _) _) _) (Fix.cons (Mem.new_later (Mem.new_block2 w _ _) _) (Fix.cons (by
      have := Mem.new_block ((w.alloc (.cells #[.string but] 9)).alloc (.cells #[.string ⟨#[]⟩] 9)) (.cells #[.bool false] 4)
      simp only [World.size_alloc] at this
      exact this) (Fix.nil _)))
  have hz1 : w1.heap.size = w.heap.size + 3 := by rw [← hw1]; simp
  have hall := all_gives (h.below hb1)
  refine (callsIn_wide (n := 9)).1 (callsIn_of_wp_marks Try.func20 rfl trivial ?_ rfl)
  simp only [Try.ntmps20, List.size_toArray, List.length_cons, List.length_nil, Nat.reduceAdd, Nat.reduceSub, Array.replicate_succ, Array.replicate_zero, List.push_toArray, List.append_toArray, List.nil_append, List.cons_append]
  clear h
  gi_wp2_with fail
  refine ⟨trivial, ?_⟩
  refine (callsIn_wide.2 hall).mono ?_
  rintro e w2 ⟨lb, K, rfl, hseq, hbel, hK⟩
  have hb2 : Below w.heap.size w w2 := hb1.trans (hbel.mono hb1.size)
  have hf2 : Fix w2 (vblocks w.heap.size but ⟨#[]⟩ false) := hf1.below hbel (Nat.le_refl _)
  have hKw : ∀ j, K j → ¬ (w.heap.size ≤ j ∧ j < w.heap.size + 3) := fun j hj e => by
    have := hK j hj
    exact this.1.elim (fun e2 => by have := hFl j e2; omega) (fun e2 => by omega)
  have hz2 : w.heap.size + 3 ≤ w2.heap.size := by have := hbel.size; omega
  clear hbel hb1 hf1 hall hw1
  gi_wp2_with fail
  refine outer rfl enters hseq (Below.refl _ _) (fun k hk => (hK k hk).2) (fun _ => rfl)
    (fun i W => (Only (fun j => w.heap.size ≤ j) w2 W ∧ w2.heap.size ≤ W.heap.size) ∧ (Fix W (vblocks w.heap.size but ⟨#[]⟩ false) ∧ ∀ x ∈ s.all.take i, x = but))
    (fun c W => c = .ret ∧ Only (fun j => w.heap.size ≤ j) w2 W ∧ Fix W (vblocks w.heap.size but (vic s but).1 (vic s but).2))
    (((own_only (Nat.le_refl _)).and (own_size _ _)).and ((own_fix _ (fun _ => vblocks w.heap.size but ⟨#[]⟩ false) (fun _ => vblocks_cells _ _ _ _)).and (fun _ _ _ _ h _ _ => h)))
    (fun c W W' row h hg hr => ⟨h.1, own_only (β := Unit) (Nat.le_refl _) () W W' row h.2.1 hg hr, own_fix (β := Unit) _ (fun _ => vblocks w.heap.size but (vic s but).1 (vic s but).2) (fun _ => vblocks_cells _ _ _ _) () W W' row h.2.2 hg hr⟩)
    ⟨⟨Only.refl _ _, Nat.le_refl _⟩, hf2, by simp⟩ ?a1 ?assign ?body ?done ?stop
  case assign =>
    intro l x W Kc hKc
    simp only [encS]
    gi_wp2
    exact hKc
  case stop =>
    rintro D c W hD ⟨rfl, hO, hF⟩ hKD
    have HX := Lib.hid (And.intro hF (And.intro hO hKD))
    have c1 := Mem.box_cell hF.tail.head
    have c2 := Mem.box_cell hF.tail.tail.head
    clear hF hO hKD hseq hK hKw
    gi_wp2
    obtain ⟨hF, hO, hKD⟩ := HX.out
    refine ret1 rfl (v := .tuple #[.string (vic s but).1, .bool (vic s but).2]) hKD ?_ ⟨rfl, putObj_below (hb2.trans (hO.below hb2.size (fun _ e => e))) _ (by omega)⟩
    have q1 : (W.putObj D (.deferred none)).cell? ⟨w.heap.size + 1, 0, none⟩ = some (.string (vic s but).1) := by
      rw [putObj_cell _ (by simp; omega)]; exact c1
    have q2 : (W.putObj D (.deferred none)).cell? ⟨w.heap.size + 1 + 1, 0, none⟩ = some (.bool (vic s but).2) := by
      rw [putObj_cell _ (by simp; omega)]; exact c2
    simp [results, Try.results20, go_sem, q1, q2]
  case body =>
    rintro l i x W hl _ ⟨⟨hO, hZ⟩, hF, hT⟩ hx
    have c0 := Mem.box_cell hF.head
    have c1 := Mem.box_cell hF.tail.head
    have c2 := Mem.box_cell hF.tail.tail.head
    have f1 := Mem.box_free hF.tail.head
    have f2 := Mem.box_free hF.tail.tail.head
    have HX := Lib.hid (And.intro hF (And.intro hT (And.intro hx (And.intro hO hZ))))
    clear hF hT hx hO hZ hl
    by_cases hxb : x = but
    · have hse := str_eq but
      subst hxb
      gi_wp2
      obtain ⟨hF, hT, hx, hO, hZ⟩ := HX.out
      refine ⟨⟨Nat.le_refl _, fun _ _ _ h _ => h⟩, Keep.refl _ _, ⟨hO, hZ⟩, hF, fun y hy => ?_⟩
      rw [List.take_add_one, hx] at hy
      rcases List.mem_append.1 hy with hy | hy
      · exact hT y hy
      · simpa using hy
    · have hse := str_ne hxb
      have HN := Lib.hid hxb
      clear hxb
      gi_wp2
      obtain ⟨hF, hT, hx, hO, hZ⟩ := HX.out
      have hv := vic_some hx hT HN.out
      have hO1 : Only (fun j => j = w.heap.size + 1 ∨ j = w.heap.size + 1 + 1) W ((W.setCell ⟨w.heap.size + 1, 0, none⟩ (.string x)).setCell ⟨w.heap.size + 1 + 1, 0, none⟩ (.bool true)) :=
        ((Only.refl _ W).setCell (p := ⟨w.heap.size + 1, 0, none⟩) (.inl (.inl rfl)) _).setCell (p := ⟨w.heap.size + 1 + 1, 0, none⟩) (.inl (.inr rfl)) _
      refine ⟨hO1.keepsFrom (fun j e => by omega), rfl, hO.trans (hO1.mono fun j e => by omega) (Grows.refl _ _), ?_⟩
      rw [hv]
      have h0 : (W.setCell ⟨w.heap.size + 1, 0, none⟩ (.string x)).setCell ⟨w.heap.size + 1 + 1, 0, none⟩ (.bool true) = (W.setCell ⟨w.heap.size + 1, 0, none⟩ (.string x)).setCell ⟨w.heap.size + 1 + 1, 0, none⟩ (.bool true) := rfl
      refine Fix.cons ((set_far (by simp; omega)).trans ((set_far (by simp)).trans hF.head)) (Fix.cons ((set_far (by simp)).trans (Mem.box_set hF.tail.head (.string x))) (Fix.cons ?_ (Fix.nil _)))
      exact Mem.box_set (W := W.setCell ⟨w.heap.size + 1, 0, none⟩ (.string x)) ((set_far (by simp)).trans hF.tail.tail.head) (.bool true)
  case done =>
    rintro D W hD ⟨⟨hO, hZ⟩, hF, hT⟩ hKD
    rw [List.take_of_length_le (Nat.le_refl _)] at hT
    have hv := vic_none hT
    have c1 := Mem.box_cell hF.tail.head
    have c2 := Mem.box_cell hF.tail.tail.head
    have f1 := Mem.box_free hF.tail.head
    have f2 := Mem.box_free hF.tail.tail.head
    have HX := Lib.hid (And.intro hF (And.intro hO (And.intro hv hKD)))
    clear hF hT hO hv hKD hseq hK hKw
    gi_wp2
    obtain ⟨hF, hO, hv, hKD⟩ := HX.out
    have hO1 : Only (fun j => w.heap.size ≤ j) w2 ((W.setCell ⟨w.heap.size + 1, 0, none⟩ (.string ⟨#[]⟩)).setCell ⟨w.heap.size + 1 + 1, 0, none⟩ (.bool false)) :=
      (hO.setCell (p := ⟨w.heap.size + 1, 0, none⟩) (.inl (by simp)) _).setCell (p := ⟨w.heap.size + 1 + 1, 0, none⟩) (.inl (by simp; omega)) _
    have d1 : ((W.setCell ⟨w.heap.size + 1, 0, none⟩ (.string ⟨#[]⟩)).setCell ⟨w.heap.size + 1 + 1, 0, none⟩ (.bool false)).heap[w.heap.size + 1]? = some (.cells #[.string ⟨#[]⟩] 9 (0, 0)) := (set_far (by simp)).trans (Mem.box_set hF.tail.head _)
    have d2 : ((W.setCell ⟨w.heap.size + 1, 0, none⟩ (.string ⟨#[]⟩)).setCell ⟨w.heap.size + 1 + 1, 0, none⟩ (.bool false)).heap[w.heap.size + 1 + 1]? = some (.cells #[.bool false] 4 (0, 0)) :=
      Mem.box_set (W := W.setCell ⟨w.heap.size + 1, 0, none⟩ (.string ⟨#[]⟩)) ((set_far (by simp)).trans hF.tail.tail.head) _
    have d3 : ((W.setCell ⟨w.heap.size + 1, 0, none⟩ (.string ⟨#[]⟩)).setCell ⟨w.heap.size + 1 + 1, 0, none⟩ (.bool false)).heap[D]? = some (.deferred (some [])) := (set_far (by simp; omega)).trans ((set_far (by simp; omega)).trans hKD)
    generalize (W.setCell ⟨w.heap.size + 1, 0, none⟩ (.string ⟨#[]⟩)).setCell ⟨w.heap.size + 1 + 1, 0, none⟩ (.bool false) = W9 at *
    refine ret1 rfl (v := .tuple #[.string ⟨#[]⟩, .bool false]) d3 ?_ ⟨by rw [hv]; rfl, putObj_below (hb2.trans (hO1.below hb2.size (fun _ e => e))) _ (by omega)⟩
    have q1 : (W9.putObj D (.deferred none)).cell? ⟨w.heap.size + 1, 0, none⟩ = some (.string ⟨#[]⟩) := by
      rw [putObj_cell _ (by simp; omega)]; exact Mem.box_cell d1
    have q2 : (W9.putObj D (.deferred none)).cell? ⟨w.heap.size + 1 + 1, 0, none⟩ = some (.bool false) := by
      rw [putObj_cell _ (by simp; omega)]; exact Mem.box_cell d2
    simp [results, Try.results20, go_sem, q1, q2]
end Go.Proofs.Ytpppknopbjpciaa.Slru
