/- Part3: Tiny1, Tab1, ShardS, ShardP, ShardQ, ExecS, Append, Item2, one behind the other. -/
import Derived.Test.YtodoglljjhdbeaaGreatDoorPart2
import Derived.Test.YtodoglljjhdbeaaGreatDoorPart1
import Derived.Lib.Bytealg
import Derived.Lib.ParseIntB
import Derived.Lib.ItoaNum
import Derived.Deep.AppendLies
import Derived.Laws.OwnMore
import Derived.WalkKit
import Derived.RegionTactic
import Derived.Deep.WholeRow
import Derived.Laws.CopyOwn
/- Layer 6: a judge of a filter and a sketch; the walks over New, Touch, Worth, Admit. -/
namespace Go.Proofs.YtodoglljjhdbeaaGreatDoor.Tiny
open Go Go.RowKit Go.Proofs.YtodoglljjhdbeaaGreatDoor.Mem

theorem ret_int {k : IntKind} {a b : Int} (h : a = b) : Ending.returned (.int k a) = .returned (.int k b) := by rw [h]
structure St where
  f : Bloom.St
  c : Sketch.St
def new (seed : Int) : St := ⟨Bloom.new seed, Sketch.new (IntKind.u64.wrap (seed + 1))⟩
def St.touch (j : St) (s : List UInt8) : St :=
  if j.f.has s then (if (j.c.add s).1 then ⟨(j.f.add s).clear, (j.c.add s).2⟩ else ⟨j.f.add s, (j.c.add s).2⟩) else ⟨j.f.add s, j.c⟩
def St.worth (j : St) (s : List UInt8) : Nat := j.c.count s + if j.f.has s then 1 else 0
def St.admit (j : St) (s t : List UInt8) : Bool := decide (j.worth t < j.worth s)

/-- A judge in a run that began at W: its block, its filter's, its sketch's. -/
structure Run (W w : World) (b fb cb : Nat) (j : St) : Prop where
  blk : w.heap[b]? = some (.cells #[.pointer (some ⟨fb, 0, none⟩), .pointer (some ⟨cb, 0, none⟩)] 111 (0, 0))
  low : W.heap.size ≤ b
  f : Bloom.Run W w fb j.f
  c : Sketch.Run W w cb j.c
  ne : fb ≠ cb
  nf : b ≠ fb
  nc : b ≠ cb
section
variable {W w w' : World} {b fb cb : Nat} {j : St}
theorem Run.below (h : Run W w b fb cb j) : Below W.heap.size W w := h.f.below
theorem Run.lt (h : Run W w b fb cb j) : b < w.heap.size ∧ fb < w.heap.size ∧ cb < w.heap.size := ⟨(Array.getElem?_eq_some_iff.1 h.blk).1, h.f.at_.lt, h.c.at_.lt⟩
theorem Run.step (h : Run W w b fb cb j) (hb : Below w.heap.size w w') : Run W w' b fb cb j := ⟨(hb.block b h.lt.1).trans h.blk, h.low, h.f.step hb, h.c.step hb, h.ne, h.nf, h.nc⟩
/-- Something of another one's was turned. -/
theorem Run.other {F : Nat → Prop} (h : Run W w b fb cb j) (ho : Only F w w') (hF : ∀ k, F k → (b ≠ k ∧ fb ≠ k ∧ cb ≠ k) ∧ W.heap.size ≤ k) : Run W w' b fb cb j :=
  ⟨(ho.same b h.lt.1 (fun e => (hF _ e).1.1 rfl)).trans h.blk, h.low, h.f.other ho (fun k e => ⟨(hF k e).1.2.1, (hF k e).2⟩), h.c.other ho (fun k e => ⟨(hF k e).1.2.2, (hF k e).2⟩), h.ne, h.nf, h.nc⟩
theorem Run.turnF {f' : Bloom.St} (h : Run W w b fb cb j) (hf : Bloom.Run W w' fb f') (ho : Only (fun k => k = fb) w w') : Run W w' b fb cb ⟨f', j.c⟩ :=
  ⟨(ho.same b h.lt.1 h.nf).trans h.blk, h.low, hf, h.c.other ho (fun k e => by subst e; exact ⟨fun e => h.ne e.symm, h.f.low⟩), h.ne, h.nf, h.nc⟩
theorem Run.turnC {c' : Sketch.St} (h : Run W w b fb cb j) (hc : Sketch.Run W w' cb c') (ho : Only (fun k => k = cb) w w') : Run W w' b fb cb ⟨j.f, c'⟩ :=
  ⟨(ho.same b h.lt.1 h.nc).trans h.blk, h.low, h.f.other ho (fun k e => by subst e; exact ⟨h.ne, h.c.low⟩), hc, h.ne, h.nf, h.nc⟩
end

theorem sketch_new {seed : Int} (h0 : 0 ≤ seed ∧ seed ≤ 18446744073709551615) {W w : World} (hb : Below W.heap.size W w) : Calls Tryz.prog 44 #[.int .u64 seed] w fun e w' =>
    ∃ b : Nat, e = .returned (.pointer (some ⟨b, 0, none⟩)) ∧ Sketch.Run W w' b (Sketch.new seed) ∧ w.heap.size ≤ b ∧ Below w.heap.size w w' :=
  (Sketch.new_gives seed w).mono fun _ _ ⟨b, he, ha, hl, hw⟩ => ⟨b, he, ⟨ha, Nat.le_trans hb.size hl, Mem.tr hb hw, Sketch.Ok.new h0.1 (by omega)⟩, hl, hw⟩
set_option maxRecDepth 100000 in
set_option maxHeartbeats 400000 in
theorem new_run {seed : Int} (h0 : 0 ≤ seed ∧ seed ≤ 18446744073709551615) {W w : World} (hb : Below W.heap.size W w) : Calls Tryz.prog 27 #[.int .u64 seed] w fun e w' =>
    ∃ b fb cb : Nat, e = .returned (.pointer (some ⟨b, 0, none⟩)) ∧ Run W w' b fb cb (new seed) ∧ Below w.heap.size w w' ∧ (w.heap.size ≤ b ∧ w.heap.size ≤ fb ∧ w.heap.size ≤ cb) := by
  have hw := Hash.wrap_range (seed + 1)
  have hw' : 0 ≤ IntKind.u64.wrap (seed + 1) ∧ IntKind.u64.wrap (seed + 1) ≤ 18446744073709551615 := ⟨hw.1, by omega⟩
  go_enter Tryz.func27, Tryz.ntmps27
  go_wp2_with fail
  refine (Bloom.new_run h0 hb).mono ?_
  rintro e w1 ⟨fb, rfl, hf, hlf, hb1⟩
  have H1 := Lib.hid (And.intro hf (And.intro hlf hb1))
  clear hf hlf hb1
  go_wp2_with fail
  refine (sketch_new hw' H1.out.1.below).mono ?_
  rintro e w2 ⟨cb, rfl, hc, hlc, hb2⟩
  have H2 := Lib.hid (And.intro hc (And.intro hlc hb2))
  clear hc hlc hb2
  go_wp2_with fail
  go_ret
  have hlc := H2.out.1.at_.lt
  have hlf := H1.out.1.at_.lt
  have h21 := H2.out.2.1
  have hz1 := H1.out.2.2.size
  have hz2 := H2.out.2.2.size
  exact ⟨_, fb, cb, rfl, ⟨Mem.new_block w2 _, by have := H2.out.1.below.size; omega, (H1.out.1.step H2.out.2.2).step (Mem.al (Below.refl _ _) _), H2.out.1.step (Mem.al (Below.refl _ _) _), by omega, by omega, by omega⟩,
    Mem.al (Mem.tr H1.out.2.2 H2.out.2.2) _, by omega, H1.out.2.1, by omega⟩

set_option maxRecDepth 100000 in
set_option maxHeartbeats 1000000 in
theorem touch_run {W w : World} {b fb cb : Nat} {j : St} (h : Run W w b fb cb j) (s : ByteArray) (hs : s.size ≤ maxLen) : Calls Tryz.prog 30 #[.pointer (some ⟨b, 0, none⟩), .string s] w fun e w' =>
    e = .returned (.tuple #[]) ∧ Run W w' b fb cb (j.touch s.data.toList) ∧ Only (fun k => k = fb ∨ k = cb) w w' := by
  have H := Lib.hid h
  have c0 : w.cell? ⟨b, 0, none⟩ = some (.pointer (some ⟨fb, 0, none⟩)) := Mem.row_cell h.blk 0
  clear h
  obtain ⟨q, hq⟩ : ∃ q, j.f.has s.data.toList = q := ⟨_, rfl⟩
  have HQ := Lib.hid hq
  clear hq
  go_enter Tryz.func30, Tryz.ntmps30
  go_wp2_with fail
  refine (Bloom.add_run H.out.f s hs).mono ?_
  rintro e w1 ⟨rfl, hf, ho⟩
  rw [HQ.out]
  have H1 := Lib.hid (And.intro (H.out.turnF hf ho) ho)
  clear hf ho c0
  have c1 : w1.cell? ⟨b, 1, none⟩ = some (.pointer (some ⟨cb, 0, none⟩)) := Mem.row_cell H1.out.1.blk 1
  cases q
  · clear c1
    go_wp2_with fail
    go_end0
    refine ⟨rfl, ?_, H1.out.2.mono fun k e => .inl e⟩
    unfold St.touch
    rw [HQ.out, if_neg (by decide)]
    exact H1.out.1
  obtain ⟨v, hv⟩ : ∃ v, (j.c.add s.data.toList).1 = v := ⟨_, rfl⟩
  have HV := Lib.hid hv
  clear hv
  go_wp2_with fail
  refine (Sketch.add_run H1.out.1.c s hs).mono ?_
  rintro e w2 ⟨rfl, hc, ho⟩
  rw [HV.out]
  have H2 := Lib.hid (And.intro (H1.out.1.turnC hc ho) (H1.out.2.mono (F' := fun k => k = fb ∨ k = cb) (fun k e => .inl e) |>.trans (ho.mono (F' := fun k => k = fb ∨ k = cb) fun k e => .inr e) (Grows.refl _ _)))
  clear hc ho c1
  have c0 : w2.cell? ⟨b, 0, none⟩ = some (.pointer (some ⟨fb, 0, none⟩)) := Mem.row_cell H2.out.1.blk 0
  cases v
  · clear c0
    go_wp2_with fail
    go_end0
    refine ⟨rfl, ?_, H2.out.2⟩
    unfold St.touch
    rw [HQ.out, if_pos rfl, HV.out, if_neg (by decide)]
    exact H2.out.1
  go_wp2_with fail
  refine (Bloom.clear_run H2.out.1.f).mono ?_
  rintro e w3 ⟨rfl, hf, ho⟩
  have H3 := Lib.hid (And.intro (H2.out.1.turnF hf ho) (H2.out.2.trans (ho.mono (F' := fun k => k = fb ∨ k = cb) fun k e => .inl e) (Grows.refl _ _)))
  clear hf ho c0
  go_wp2_with fail
  go_end0
  refine ⟨rfl, ?_, H3.out.2⟩
  unfold St.touch
  rw [HQ.out, if_pos rfl, HV.out, if_pos rfl]
  exact H3.out.1

set_option maxRecDepth 100000 in
set_option maxHeartbeats 1000000 in
theorem worth_run {W w : World} {b fb cb : Nat} {j : St} (h : Run W w b fb cb j) (s : ByteArray) (hs : s.size ≤ maxLen) : Calls Tryz.prog 105 #[.pointer (some ⟨b, 0, none⟩), .string s] w fun e w' =>
    e = .returned (.int .i64 (j.worth s.data.toList : Nat)) ∧ Run W w' b fb cb j ∧ Below w.heap.size w w' := by
  have H := Lib.hid h
  have c1 : w.cell? ⟨b, 1, none⟩ = some (.pointer (some ⟨cb, 0, none⟩)) := Mem.row_cell h.blk 1
  clear h
  obtain ⟨q, hq⟩ : ∃ q, j.f.has s.data.toList = q := ⟨_, rfl⟩
  have h15 : j.c.count s.data.toList ≤ 15 := Sketch.cnt_le15 _ _ _ _
  obtain ⟨n, hn⟩ : ∃ n, j.c.count s.data.toList = n := ⟨_, rfl⟩
  rw [hn] at h15
  have HQ := Lib.hid (And.intro hq hn)
  clear hq hn
  go_enter Tryz.func105, Tryz.ntmps105
  go_wp2_with fail
  refine (Sketch.count_run H.out.c s hs).mono ?_
  rintro e w1 ⟨rfl, -, hb1⟩
  rw [HQ.out.2]
  have H1 := Lib.hid (And.intro (H.out.step hb1) hb1)
  clear hb1 c1
  have c0 : w1.cell? ⟨b, 0, none⟩ = some (.pointer (some ⟨fb, 0, none⟩)) := Mem.row_cell H1.out.1.blk 0
  go_wp2_with fail
  refine (Bloom.has_run H1.out.1.f s hs).mono ?_
  rintro e w2 ⟨rfl, -, hb2⟩
  rw [HQ.out.1]
  have H2 := Lib.hid (And.intro (H1.out.1.step hb2) (Mem.tr H1.out.2 hb2))
  clear hb2 c0
  cases q
  · go_wp2_with fail
    go_ret
    exact ⟨ret_int (by unfold St.worth; rw [HQ.out.1, HQ.out.2]; rfl), H2.out⟩
  · go_wp2_with fail
    go_ret
    exact ⟨ret_int (by unfold St.worth; rw [HQ.out.1, HQ.out.2]; rfl), H2.out⟩
theorem admit_run {W w : World} {b fb cb : Nat} {j : St} (h : Run W w b fb cb j) (s t : ByteArray) (hs : s.size ≤ maxLen) (ht : t.size ≤ maxLen) : Calls Tryz.prog 97 #[.pointer (some ⟨b, 0, none⟩), .string s, .string t] w fun e w' =>
    e = .returned (.bool (j.admit s.data.toList t.data.toList)) ∧ Run W w' b fb cb j ∧ Below w.heap.size w w' := by
  have H := Lib.hid h
  clear h
  obtain ⟨n, hn⟩ : ∃ n, j.worth s.data.toList = n := ⟨_, rfl⟩
  obtain ⟨m, hm⟩ : ∃ m, j.worth t.data.toList = m := ⟨_, rfl⟩
  have HQ := Lib.hid (And.intro hn hm)
  clear hn hm
  go_enter Tryz.func97, Tryz.ntmps97
  go_wp2_with fail
  refine (worth_run H.out s hs).mono ?_
  rintro e w1 ⟨rfl, hR1, hb1⟩
  rw [HQ.out.1]
  have H1 := Lib.hid (And.intro hR1 hb1)
  clear hR1 hb1
  go_wp2_with fail
  refine (worth_run H1.out.1 t ht).mono ?_
  rintro e w2 ⟨rfl, hR2, hb2⟩
  rw [HQ.out.2]
  have H2 := Lib.hid (And.intro hR2 (Mem.tr H1.out.2 hb2))
  clear hR2 hb2
  go_wp2_with fail
  go_ret
  refine ⟨?_, H2.out⟩
  unfold St.admit
  rw [HQ.out.1, HQ.out.2]
  rfl
end Go.Proofs.YtodoglljjhdbeaaGreatDoor.Tiny

/- Layer 9, plain: texts in rising order, and what they have; buckets, and what lies in them. -/
namespace Go.Proofs.YtodoglljjhdbeaaGreatDoor.Tab
open Go

/-! ### the order of texts -/
theorem bl_irrefl : ∀ l : List UInt8, Op.bytesLess l l = false
  | [] => rfl
  | a :: l => by
    have h : ¬ a < a := UInt8.lt_irrefl a
    simp [Op.bytesLess, h, bl_irrefl l]
theorem bl_trans : ∀ a b c : List UInt8, Op.bytesLess a b = true → Op.bytesLess b c = true → Op.bytesLess a c = true
  | _, [], _, h, _ => by cases ‹List UInt8› <;> simp [Op.bytesLess] at h
  | _, _ :: _, [], _, h => by simp [Op.bytesLess] at h
  | [], _ :: _, _ :: _, _, _ => rfl
  | x :: a, y :: b, z :: c, h1, h2 => by
    simp only [Op.bytesLess, Bool.or_eq_true, decide_eq_true_eq, Bool.and_eq_true, beq_iff_eq] at *
    rcases h1 with h1 | ⟨rfl, h1⟩
    · rcases h2 with h2 | ⟨rfl, h2⟩
      · exact .inl (UInt8.lt_trans h1 h2)
      · exact .inl h1
    · rcases h2 with h2 | ⟨rfl, h2⟩
      · exact .inl h2
      · exact .inr ⟨rfl, bl_trans a b c h1 h2⟩
theorem bl_tri : ∀ a b : List UInt8, Op.bytesLess a b = false → Op.bytesLess b a = false → a = b
  | [], [], _, _ => rfl
  | [], _ :: _, h, _ => by simp [Op.bytesLess] at h
  | _ :: _, [], _, h => by simp [Op.bytesLess] at h
  | x :: a, y :: b, h1, h2 => by
    simp only [Op.bytesLess, Bool.or_eq_false_iff, decide_eq_false_iff_not, Bool.and_eq_false_imp, beq_iff_eq] at h1 h2
    have e : x = y := UInt8.le_antisymm (UInt8.not_lt.1 h2.1) (UInt8.not_lt.1 h1.1)
    subst e
    rw [bl_tri a b (h1.2 rfl) (h2.2 rfl)]

def ltK (a b : ByteArray) : Bool := Op.bytesLess a.data.toList b.data.toList
theorem ltK_irrefl (a : ByteArray) : ltK a a = false := bl_irrefl _
theorem ltK_trans {a b c : ByteArray} (h : ltK a b = true) (h' : ltK b c = true) : ltK a c = true := bl_trans _ _ _ h h'
theorem ltK_asymm {a b : ByteArray} (h : ltK a b = true) : ltK b a = false := by
  cases h' : ltK b a
  · rfl
  · have := ltK_trans h h'
    rw [ltK_irrefl] at this; cases this
theorem ltK_ne {a b : ByteArray} (h : ltK a b = true) : a ≠ b := fun e => by rw [e, ltK_irrefl] at h; cases h
theorem ltK_tri {a b : ByteArray} (h : ltK a b = false) (h' : ltK b a = false) : a = b := by
  have := bl_tri _ _ h h'
  obtain ⟨⟨a⟩⟩ := a
  obtain ⟨⟨b⟩⟩ := b
  simp at this
  rw [this]
theorem ltK_total {a b : ByteArray} (h : ltK a b = false) (hne : a ≠ b) : ltK b a = true := by
  cases h' : ltK b a
  · exact absurd (ltK_tri h h') hne
  · rfl

/-! ### pairs by rising texts -/
section
variable {β : Type}
abbrev Pairs (β : Type) := List (ByteArray × β)
def Rising (L : Pairs β) : Prop := L.Pairwise fun p q => ltK p.1 q.1 = true
def get : Pairs β → ByteArray → Option β
  | [], _ => none
  | p :: l, k => if p.1 = k then some p.2 else get l k
def put : Pairs β → ByteArray → β → Pairs β
  | [], k, v => [(k, v)]
  | p :: l, k, v => if p.1 = k then (k, v) :: l else if ltK k p.1 then (k, v) :: p :: l else p :: put l k v
def del (L : Pairs β) (k : ByteArray) : Pairs β := L.filter fun p => decide (p.1 ≠ k)

theorem Rising.nodup {L : Pairs β} (h : Rising L) : (L.map (·.1)).Nodup := by
  unfold Rising at h
  unfold List.Nodup
  rw [List.pairwise_map]
  exact h.imp fun h => ltK_ne h
theorem get_none {L : Pairs β} {k : ByteArray} : get L k = none ↔ k ∉ L.map (·.1) := by
  induction L with
  | nil => simp [get]
  | cons p l ih =>
    simp only [get, List.map_cons, List.mem_cons, not_or]
    by_cases h : p.1 = k
    · simp [h]
    · rw [if_neg h, ih]; simp [Ne.symm h]
theorem get_mem {L : Pairs β} (hn : (L.map (·.1)).Nodup) {k : ByteArray} {v : β} : get L k = some v ↔ (k, v) ∈ L := by
  induction L with
  | nil => simp [get]
  | cons p l ih =>
    have hn' := List.nodup_cons.1 hn
    simp only [get, List.mem_cons]
    by_cases h : p.1 = k
    · rw [if_pos h]
      constructor
      · intro e; injection e with e; left; rw [← h, ← e]
      · rintro (e | e)
        · rw [← e]
        · exact absurd (List.mem_map_of_mem (f := (·.1)) e) (h ▸ hn'.1)
    · rw [if_neg h, ih hn'.2]
      constructor
      · exact .inr
      · rintro (e | e)
        · exact absurd (by rw [← e]) h
        · exact e
theorem get_isSome {L : Pairs β} {k : ByteArray} : (get L k).isSome = true ↔ k ∈ L.map (·.1) := by
  rcases h : get L k with _ | v
  · have := get_none.1 h; simpa using this
  · simp only [Option.isSome_some, true_iff]
    apply Classical.byContradiction
    intro e
    rw [get_none.2 e] at h; cases h
theorem mem_put {L : Pairs β} (h : Rising L) (k : ByteArray) (v : β) (p : ByteArray × β) : p ∈ put L k v ↔ p = (k, v) ∨ (p ∈ L ∧ p.1 ≠ k) := by
  induction L with
  | nil => simp [put]
  | cons q l ih =>
    have h1 := List.pairwise_cons.1 h
    simp only [put]
    by_cases hk : q.1 = k
    · rw [if_pos hk]
      simp only [List.mem_cons]
      constructor
      · rintro (e | e)
        · exact .inl e
        · exact .inr ⟨.inr e, fun e' => by have := h1.1 p e; rw [hk, e', ltK_irrefl] at this; cases this⟩
      · rintro (e | ⟨rfl | e, hne⟩)
        · exact .inl e
        · exact absurd hk hne
        · exact .inr e
    · rw [if_neg hk]
      by_cases hl : ltK k q.1 = true
      · rw [if_pos hl]
        simp only [List.mem_cons]
        constructor
        · rintro (e | e | e)
          · exact .inl e
          · exact .inr ⟨.inl e, e ▸ hk⟩
          · exact .inr ⟨.inr e, fun e' => by have := ltK_trans hl (h1.1 p e); rw [e', ltK_irrefl] at this; cases this⟩
        · rintro (e | ⟨e | e, _⟩)
          · exact .inl e
          · exact .inr (.inl e)
          · exact .inr (.inr e)
      · rw [if_neg hl]
        simp only [List.mem_cons, ih h1.2]
        constructor
        · rintro (e | e | ⟨e, e'⟩)
          · exact .inr ⟨.inl e, e ▸ hk⟩
          · exact .inl e
          · exact .inr ⟨.inr e, e'⟩
        · rintro (e | ⟨e | e, e'⟩)
          · exact .inr (.inl e)
          · exact .inl e
          · exact .inr (.inr ⟨e, e'⟩)
theorem rising_put {L : Pairs β} (h : Rising L) (k : ByteArray) (v : β) : Rising (put L k v) := by
  induction L with
  | nil => exact List.pairwise_singleton _ _
  | cons q l ih =>
    have h1 := List.pairwise_cons.1 h
    simp only [put]
    by_cases hk : q.1 = k
    · rw [if_pos hk]; exact List.pairwise_cons.2 ⟨fun p hp => by have := h1.1 p hp; rw [hk] at this; exact this, h1.2⟩
    · rw [if_neg hk]
      by_cases hl : ltK k q.1 = true
      · rw [if_pos hl]
        refine List.pairwise_cons.2 ⟨fun p hp => ?_, h⟩
        rcases List.mem_cons.1 hp with rfl | hp
        · exact hl
        · exact ltK_trans hl (h1.1 p hp)
      · rw [if_neg hl]
        refine List.pairwise_cons.2 ⟨fun p hp => ?_, ih h1.2⟩
        rcases (mem_put h1.2 k v p).1 hp with rfl | ⟨hp, _⟩
        · exact ltK_total (by simpa using hl) (Ne.symm hk)
        · exact h1.1 p hp
theorem rising_del {L : Pairs β} (h : Rising L) (k : ByteArray) : Rising (del L k) := h.sublist List.filter_sublist
theorem mem_del {L : Pairs β} {k : ByteArray} {p : ByteArray × β} : p ∈ del L k ↔ p ∈ L ∧ p.1 ≠ k := by simp [del]
theorem get_put {L : Pairs β} (h : Rising L) (k k' : ByteArray) (v : β) : get (put L k v) k' = if k' = k then some v else get L k' := by
  by_cases e : k' = k
  · rw [if_pos e, e]; exact (get_mem (rising_put h k v).nodup).2 ((mem_put h k v _).2 (.inl rfl))
  · rw [if_neg e]
    rcases hg : get L k' with _ | u
    · rw [get_none] at hg ⊢
      intro hm
      obtain ⟨p, hp, rfl⟩ := List.mem_map.1 hm
      rcases (mem_put h k v p).1 hp with rfl | ⟨hp, _⟩
      · exact e rfl
      · exact hg (List.mem_map_of_mem hp)
    · rw [get_mem (rising_put h k v).nodup]
      exact (mem_put h k v _).2 (.inr ⟨(get_mem h.nodup).1 hg, e⟩)
theorem get_del {L : Pairs β} (h : Rising L) (k k' : ByteArray) : get (del L k) k' = if k' = k then none else get L k' := by
  by_cases e : k' = k
  · rw [if_pos e, get_none, e]
    intro hm
    obtain ⟨p, hp, e⟩ := List.mem_map.1 hm
    exact (mem_del.1 hp).2 e
  · rw [if_neg e]
    rcases hg : get L k' with _ | u
    · rw [get_none] at hg ⊢
      intro hm
      obtain ⟨p, hp, rfl⟩ := List.mem_map.1 hm
      exact hg (List.mem_map_of_mem (mem_del.1 hp).1)
    · rw [get_mem (rising_del h k).nodup]
      exact mem_del.2 ⟨(get_mem h.nodup).1 hg, e⟩
theorem put_len {L : Pairs β} (k : ByteArray) (v : β) : (put L k v).length ≤ L.length + 1 ∧ L.length ≤ (put L k v).length := by
  induction L with
  | nil => simp [put]
  | cons q l ih =>
    simp only [put]
    split
    · simp
    · split
      · simp
      · simp only [List.length_cons]; omega
theorem put_len_new {L : Pairs β} (h : Rising L) {k : ByteArray} (v : β) (hk : k ∉ L.map (·.1)) : (put L k v).length = L.length + 1 := by
  induction L with
  | nil => rfl
  | cons q l ih =>
    have h1 := List.pairwise_cons.1 h
    simp only [List.map_cons, List.mem_cons, not_or] at hk
    simp only [put]
    rw [if_neg (Ne.symm hk.1)]
    split
    · rfl
    · simp only [List.length_cons]; rw [ih h1.2 hk.2]
theorem put_len_old {L : Pairs β} (h : Rising L) {k : ByteArray} (v : β) (hk : k ∈ L.map (·.1)) : (put L k v).length = L.length := by
  induction L with
  | nil => simp at hk
  | cons q l ih =>
    have h1 := List.pairwise_cons.1 h
    simp only [List.map_cons, List.mem_cons] at hk
    simp only [put]
    by_cases e : q.1 = k
    · rw [if_pos e]; rfl
    · rw [if_neg e]
      have hm : k ∈ l.map (·.1) := hk.elim (fun e' => absurd e'.symm e) id
      obtain ⟨p, hp, rfl⟩ := List.mem_map.1 hm
      rw [if_neg (by rw [ltK_asymm (h1.1 p hp)]; simp)]
      simp only [List.length_cons]; rw [ih h1.2 hm]
theorem del_none {L : Pairs β} {k : ByteArray} (hk : k ∉ L.map (·.1)) : del L k = L := by
  unfold del
  rw [List.filter_eq_self]
  intro p hp
  exact decide_eq_true fun e => hk (e ▸ List.mem_map_of_mem hp)
theorem del_len {L : Pairs β} (h : Rising L) {k : ByteArray} (hk : k ∈ L.map (·.1)) : (del L k).length + 1 = L.length := by
  induction L with
  | nil => simp at hk
  | cons q l ih =>
    have h1 := List.pairwise_cons.1 h
    simp only [List.map_cons, List.mem_cons] at hk
    by_cases e : q.1 = k
    · have hn : k ∉ l.map (·.1) := fun hm => by
        obtain ⟨p, hp, rfl⟩ := List.mem_map.1 hm
        have := h1.1 p hp
        rw [e, ltK_irrefl] at this; cases this
      have : del (q :: l) k = l := by
        have h2 := del_none hn
        unfold del at h2 ⊢
        rw [List.filter_cons, if_neg (by simp [e]), h2]
      rw [this]; rfl
    · have hm : k ∈ l.map (·.1) := hk.elim (fun e' => absurd e'.symm e) id
      have : del (q :: l) k = q :: del l k := by unfold del; rw [List.filter_cons, if_pos (by simp [e])]
      rw [this, List.length_cons, ih h1.2 hm]; rfl
theorem del_len_le (L : Pairs β) (k : ByteArray) : (del L k).length ≤ L.length := List.length_filter_le ..
theorem rising_ext : ∀ {L M : Pairs β}, Rising L → Rising M → (∀ p, p ∈ L ↔ p ∈ M) → L = M
  | [], [], _, _, _ => rfl
  | [], q :: _, _, _, h => by have := (h q).2 (by simp); simp at this
  | p :: _, [], _, _, h => by have := (h p).1 (by simp); simp at this
  | p :: l, q :: m, hl, hm, h => by
    have h1 := List.pairwise_cons.1 hl
    have h2 := List.pairwise_cons.1 hm
    have e : p = q := by
      rcases List.mem_cons.1 ((h p).1 (by simp)) with e | e
      · exact e
      · rcases List.mem_cons.1 ((h q).2 (by simp)) with e' | e'
        · exact e'.symm
        · have a := h2.1 p e
          have b := h1.1 q e'
          rw [ltK_asymm a] at b; cases b
    subst e
    have hr : ∀ {x}, x ∈ l ↔ x ∈ m := fun {x} => by
      constructor
      · intro hx
        rcases List.mem_cons.1 ((h x).1 (by simp [hx])) with e | e
        · exact absurd (h1.1 x hx) (by rw [e, ltK_irrefl]; simp)
        · exact e
      · intro hx
        rcases List.mem_cons.1 ((h x).2 (by simp [hx])) with e | e
        · exact absurd (h2.1 x hx) (by rw [e, ltK_irrefl]; simp)
        · exact e
    rw [rising_ext h1.2 h2.2 fun x => hr]

/-! ### the table as the document has it -/
structure St (β : Type) where
  L : Pairs β
  buckets : Nat
  left : Nat
def new : St β := ⟨[], 8, 0⟩
def St.tick (s : St β) : St β := { s with left := s.left - 1 }
def St.grown (s : St β) : St β := if 2 * s.buckets < s.L.length ∧ s.left = 0 then ⟨s.L, 2 * s.buckets, s.buckets⟩ else s
def St.put (s : St β) (k : ByteArray) (v : β) : St β := St.grown ⟨Tab.put s.L k v, s.buckets, s.left - 1⟩
def St.del (s : St β) (k : ByteArray) : St β := ⟨Tab.del s.L k, s.buckets, s.left - 1⟩
@[simp] theorem tick_L (s : St β) : s.tick.L = s.L := rfl
@[simp] theorem del_L (s : St β) (k : ByteArray) : (s.del k).L = Tab.del s.L k := rfl
@[simp] theorem put_L (s : St β) (k : ByteArray) (v : β) : (s.put k v).L = Tab.put s.L k v := by unfold St.put St.grown; split <;> rfl

/-! ### buckets -/
structure Con (β : Type) where
  E : Nat
  N : Nat
  left : Nat
  bs : Nat → Pairs β
def upd (bs : Nat → Pairs β) (k : Nat) (x : Pairs β) : Nat → Pairs β := fun j => if j = k then x else bs j
@[simp] theorem upd_same (bs : Nat → Pairs β) (k : Nat) (x : Pairs β) : upd bs k x k = x := by simp [upd]
theorem upd_other (bs : Nat → Pairs β) {k j : Nat} (x : Pairs β) (h : j ≠ k) : upd bs k x j = bs j := by simp [upd, h]
def Con.idx (H : ByteArray → Nat) (c : Con β) (k : ByteArray) : Nat := if 0 < c.left ∧ c.E - c.left ≤ H k % c.E then H k % c.E else c.E + H k % c.N
def Con.set (c : Con β) (k : Nat) (x : Pairs β) : Con β := { c with bs := upd c.bs k x }
def Con.push (H : ByteArray → Nat) (c : Con β) (p : ByteArray × β) : Con β := c.set (c.E + H p.1 % c.N) (c.bs (c.E + H p.1 % c.N) ++ [p])
def Con.pop (c : Con β) : Con β := { c with left := c.left - 1, bs := upd c.bs (c.E - c.left) [] }
def Con.step (H : ByteArray → Nat) (c : Con β) : Con β := if c.left = 0 then c else (c.bs (c.E - c.left)).foldl (Con.push H) c.pop
def Con.grow (c : Con β) : Con β := ⟨c.N, 2 * c.N, c.N, fun j => if j < c.N then c.bs (c.E + j) else []⟩

structure Abs (H : ByteArray → Nat) (c : Con β) (L : Pairs β) : Prop where
  rise : Rising L
  home : ∀ k p, p ∈ c.bs k → k = c.idx H p.1
  nd : ∀ k, ((c.bs k).map (·.1)).Nodup
  mem : ∀ p, p ∈ L ↔ p ∈ c.bs (c.idx H p.1)
  le : c.left ≤ c.E
  pos : 0 < c.N

section
variable {H : ByteArray → Nat} {c : Con β} {L : Pairs β}
theorem idx_lt (h : c.left ≤ c.E) (hp : 0 < c.N) (k : ByteArray) : c.idx H k < c.E + c.N := by
  unfold Con.idx
  split
  · rename_i h1
    have := Nat.mod_lt (H k) (show 0 < c.E by omega)
    omega
  · have := Nat.mod_lt (H k) hp
    omega
theorem Abs.idx_lt (h : Abs H c L) (k : ByteArray) : c.idx H k < c.E + c.N := Tab.idx_lt h.le h.pos k
theorem Abs.out (h : Abs H c L) {k : Nat} (hk : c.E + c.N ≤ k) : c.bs k = [] := by
  rcases hb : c.bs k with _ | ⟨p, l⟩
  · rfl
  · have := h.home k p (by rw [hb]; simp)
    have := h.idx_lt p.1
    omega
theorem push_fold (l : Pairs β) : ∀ c : Con β, (l.foldl (Con.push H) c).E = c.E ∧ (l.foldl (Con.push H) c).N = c.N ∧ (l.foldl (Con.push H) c).left = c.left ∧
    ∀ j, (l.foldl (Con.push H) c).bs j = c.bs j ++ l.filter fun p => decide (c.E + H p.1 % c.N = j) := by
  induction l with
  | nil => intro c; exact ⟨rfl, rfl, rfl, fun j => by simp⟩
  | cons p l ih =>
    intro c
    obtain ⟨h1, h2, h3, h4⟩ := ih (c.push H p)
    refine ⟨h1, h2, h3, fun j => ?_⟩
    rw [List.foldl_cons, h4 j, List.filter_cons]
    show upd c.bs (c.E + H p.1 % c.N) _ j ++ l.filter (fun p => decide (c.E + H p.1 % c.N = j)) = _
    by_cases hj : c.E + H p.1 % c.N = j
    · subst hj
      rw [upd_same, if_pos (by simp)]
      simp
    · rw [upd_other _ _ (Ne.symm hj), if_neg (by simpa using hj)]
theorem step_shape (c : Con β) : (c.step H).E = c.E ∧ (c.step H).N = c.N ∧ (c.step H).left = c.left - 1 := by
  unfold Con.step
  by_cases h : c.left = 0
  · rw [if_pos h]; exact ⟨rfl, rfl, by omega⟩
  · rw [if_neg h]
    obtain ⟨h1, h2, h3, _⟩ := push_fold (H := H) (c.bs (c.E - c.left)) c.pop
    exact ⟨h1, h2, h3⟩
theorem Abs.step (h : Abs H c L) : Abs H (c.step H) L := by
  by_cases h0 : c.left = 0
  · have : c.step H = c := by unfold Con.step; rw [if_pos h0]
    rw [this]; exact h
  obtain ⟨hE, hN, hl⟩ := step_shape (H := H) c
  have hle := h.le
  have hb : ∀ j, (c.step H).bs j = (if j = c.E - c.left then [] else c.bs j) ++ (c.bs (c.E - c.left)).filter fun p => decide (c.E + H p.1 % c.N = j) := fun j => by
    unfold Con.step
    rw [if_neg h0]
    exact (push_fold (H := H) (c.bs (c.E - c.left)) c.pop).2.2.2 j
  have hidx : ∀ k, (c.step H).idx H k = if c.idx H k = c.E - c.left then c.E + H k % c.N else c.idx H k := fun k => by
    unfold Con.idx
    rw [hE, hN, hl]
    have hm := Nat.mod_lt (H k) (show 0 < c.E by omega)
    by_cases h1 : c.E - c.left ≤ H k % c.E
    · rw [if_pos (show 0 < c.left ∧ _ from ⟨by omega, h1⟩)]
      by_cases h2 : H k % c.E = c.E - c.left
      · rw [if_pos h2, if_neg (by omega)]
      · rw [if_neg h2, if_pos (by omega)]
    · rw [if_neg (show ¬ (0 < c.left ∧ _) from fun e => h1 e.2), if_neg (by omega), if_neg (by omega)]
  have hmem : ∀ p j, p ∈ (c.step H).bs j ↔ (j ≠ c.E - c.left ∧ p ∈ c.bs j) ∨ (p ∈ c.bs (c.E - c.left) ∧ c.E + H p.1 % c.N = j) := fun p j => by
    rw [hb, List.mem_append, List.mem_filter]
    by_cases hj : j = c.E - c.left
    · simp [hj]
    · simp [hj]
  have hpos := h.pos
  refine ⟨h.rise, fun k p hp => ?_, fun k => ?_, fun p => ?_, by rw [hl, hE]; omega, by rw [hN]; exact hpos⟩
  · rw [hidx]
    rcases (hmem p k).1 hp with ⟨h1, h2⟩ | ⟨h1, h2⟩
    · have := h.home k p h2
      rw [← this, if_neg h1]
    · have := h.home _ p h1
      rw [← this, if_pos rfl, h2]
  · rw [hb, List.map_append, List.nodup_append]
    refine ⟨by split; exact List.nodup_nil; exact h.nd k, (h.nd _).sublist (List.Sublist.map _ List.filter_sublist), ?_⟩
    rintro a ha b hb' rfl
    obtain ⟨p, hp, rfl⟩ := List.mem_map.1 ha
    obtain ⟨q, hq, e⟩ := List.mem_map.1 hb'
    split at hp
    · simp at hp
    · rename_i hk
      have h1 := h.home k p hp
      have h2 := h.home _ q (List.mem_filter.1 hq).1
      rw [e] at h2
      exact hk (h1.trans h2.symm)
  · rw [h.mem p, hmem, hidx]
    by_cases e : c.idx H p.1 = c.E - c.left
    · rw [if_pos e, e]
      constructor
      · exact fun hp => .inr ⟨hp, rfl⟩
      · rintro (⟨h1, h2⟩ | ⟨h1, _⟩)
        · have := h.home _ p h2
          rw [e] at this; exact absurd this h1
        · exact h1
    · rw [if_neg e]
      constructor
      · exact fun hp => .inl ⟨e, hp⟩
      · rintro (⟨_, h2⟩ | ⟨h1, _⟩)
        · exact h2
        · exact absurd (h.home _ p h1).symm e
/-- One bucket changes. -/
theorem Abs.setBucket (h : Abs H c L) (k : ByteArray) {x : Pairs β} {M : Pairs β} (hM : Rising M) (hx : ∀ p ∈ x, p.1 = k ∨ p ∈ c.bs (c.idx H k)) (hn : (x.map (·.1)).Nodup)
    (hm : ∀ p, p ∈ M ↔ (if c.idx H p.1 = c.idx H k then p ∈ x else p ∈ L)) : Abs H (c.set (c.idx H k) x) M := by
  have hi : ∀ k', (c.set (c.idx H k) x).idx H k' = c.idx H k' := fun _ => rfl
  refine ⟨hM, fun j p hp => ?_, fun j => ?_, fun p => ?_, h.le, h.pos⟩
  · rw [hi]
    by_cases hj : j = c.idx H k
    · subst hj
      have hp' : p ∈ x := by simpa [Con.set] using hp
      rcases hx p hp' with e | e
      · rw [e]
      · exact h.home _ p e
    · exact h.home _ p (by simpa [Con.set, upd_other _ _ hj] using hp)
  · by_cases hj : j = c.idx H k
    · subst hj; simpa [Con.set] using hn
    · simpa [Con.set, upd_other _ _ hj] using h.nd j
  · rw [hi, hm]
    by_cases hj : c.idx H p.1 = c.idx H k
    · rw [if_pos hj]; simp [Con.set, hj]
    · rw [if_neg hj, h.mem]; simp [Con.set, upd_other _ _ hj]
theorem Abs.find (h : Abs H c L) (k : ByteArray) : k ∈ (c.bs (c.idx H k)).map (·.1) ↔ k ∈ L.map (·.1) := by
  constructor
  · intro hk
    obtain ⟨p, hp, rfl⟩ := List.mem_map.1 hk
    exact List.mem_map_of_mem ((h.mem p).2 hp)
  · intro hk
    obtain ⟨p, hp, rfl⟩ := List.mem_map.1 hk
    exact List.mem_map_of_mem ((h.mem p).1 hp)
theorem Abs.add (h : Abs H c L) {k : ByteArray} (v : β) (hk : k ∉ L.map (·.1)) : Abs H (c.set (c.idx H k) (c.bs (c.idx H k) ++ [(k, v)])) (put L k v) := by
  have hk' : k ∉ (c.bs (c.idx H k)).map (·.1) := fun e => hk ((h.find k).1 e)
  refine h.setBucket k (rising_put h.rise k v) (fun p hp => ?_) ?_ (fun p => ?_)
  · rcases List.mem_append.1 hp with e | e
    · exact .inr e
    · exact .inl (by simp at e; rw [e])
  · rw [List.map_append, List.nodup_append]
    refine ⟨h.nd _, by simp, ?_⟩
    rintro a ha b hb rfl
    have : a = k := by simpa using hb
    exact hk' (this ▸ ha)
  · rw [mem_put h.rise]
    by_cases hj : c.idx H p.1 = c.idx H k
    · rw [if_pos hj, List.mem_append, h.mem, hj]
      constructor
      · rintro (e | ⟨e, _⟩)
        · exact .inr (by simp [e])
        · exact .inl e
      · rintro (e | e)
        · exact .inr ⟨e, fun e' => hk' (List.mem_map.2 ⟨p, e, e'⟩)⟩
        · exact .inl (by simpa using e)
    · rw [if_neg hj]
      constructor
      · rintro (e | ⟨e, _⟩)
        · rw [e] at hj; exact absurd rfl hj
        · exact e
      · exact fun e => .inr ⟨e, fun e' => hj (by rw [e'])⟩
theorem nodup_key {x : Pairs β} (hn : (x.map (·.1)).Nodup) {i : Nat} {p q : ByteArray × β} (hi : x[i]? = some p) (hq : q ∈ x) (hk : q.1 = p.1) : q = p := by
  obtain ⟨j, hj⟩ := List.mem_iff_getElem?.1 hq
  have h1 : (x.map (·.1))[i]? = some p.1 := by rw [List.getElem?_map, hi]; rfl
  have h2 : (x.map (·.1))[j]? = some p.1 := by rw [List.getElem?_map, hj, ← hk]; rfl
  have : i = j := (List.getElem?_inj (List.getElem?_eq_some_iff.1 h1).1 hn).1 (h1.trans h2.symm)
  subst this
  rw [hi] at hj; injection hj with hj; exact hj.symm
theorem mem_set_iff {x : Pairs β} {i : Nat} {p u : ByteArray × β} (hn : (x.map (·.1)).Nodup) (hi : x[i]? = some p) (q : ByteArray × β) : q ∈ x.set i u ↔ q = u ∨ (q ∈ x ∧ q.1 ≠ p.1) := by
  have hil := (List.getElem?_eq_some_iff.1 hi).1
  constructor
  · intro hq
    obtain ⟨j, hj⟩ := List.mem_iff_getElem?.1 hq
    rw [List.getElem?_set] at hj
    split at hj
    · rename_i e
      subst e
      first | (rw [if_pos hil] at hj; injection hj with hj; exact .inl hj.symm) | (injection hj with hj; exact .inl hj.symm)
    · rename_i e
      refine .inr ⟨List.mem_of_getElem? hj, fun e' => e ?_⟩
      have h1 : (x.map (·.1))[i]? = some p.1 := by rw [List.getElem?_map, hi]; rfl
      have h2 : (x.map (·.1))[j]? = some p.1 := by rw [List.getElem?_map, hj, ← e']; rfl
      exact (List.getElem?_inj (List.getElem?_eq_some_iff.1 h1).1 hn).1 (h1.trans h2.symm)
  · rintro (rfl | ⟨hq, hne⟩)
    · exact List.mem_iff_getElem?.2 ⟨i, by rw [List.getElem?_set]; simp [hil]⟩
    · obtain ⟨j, hj⟩ := List.mem_iff_getElem?.1 hq
      refine List.mem_iff_getElem?.2 ⟨j, ?_⟩
      rw [List.getElem?_set, if_neg (fun e => hne (by subst e; rw [hi] at hj; injection hj with hj; rw [hj]))]
      exact hj
theorem Abs.change (h : Abs H c L) {k : ByteArray} {i : Nat} {u : β} (v : β) (hi : (c.bs (c.idx H k))[i]? = some (k, u)) : Abs H (c.set (c.idx H k) ((c.bs (c.idx H k)).set i (k, v))) (put L k v) := by
  have hms := mem_set_iff (u := (k, v)) (h.nd (c.idx H k)) hi
  refine h.setBucket k (rising_put h.rise k v) (fun p hp => ?_) ?_ (fun p => ?_)
  · rcases (hms p).1 hp with e | ⟨e, _⟩
    · exact .inl (by rw [e])
    · exact .inr e
  · have : ((c.bs (c.idx H k)).set i (k, v)).map (·.1) = (c.bs (c.idx H k)).map (·.1) := by
      rw [List.map_set]
      have h1 : ((c.bs (c.idx H k)).map (·.1))[i]? = some k := by rw [List.getElem?_map, hi]; rfl
      refine List.ext_getElem? fun j => ?_
      rw [List.getElem?_set]
      split
      · rename_i e; subst e
        rw [h1]; simp; exact (List.getElem?_eq_some_iff.1 hi).1
      · rfl
    rw [this]; exact h.nd _
  · rw [mem_put h.rise]
    by_cases hj : c.idx H p.1 = c.idx H k
    · rw [if_pos hj, hms, h.mem, hj]
    · rw [if_neg hj]
      constructor
      · rintro (e | ⟨e, _⟩)
        · rw [e] at hj; exact absurd rfl hj
        · exact e
      · exact fun e => .inr ⟨e, fun e' => hj (by rw [e'])⟩
theorem mem_erase_iff {x : Pairs β} {i : Nat} {p : ByteArray × β} (hn : (x.map (·.1)).Nodup) (hi : x[i]? = some p) (q : ByteArray × β) : q ∈ x.eraseIdx i ↔ q ∈ x ∧ q.1 ≠ p.1 := by
  obtain ⟨hl, e⟩ := List.getElem?_eq_some_iff.1 hi
  rw [List.mem_eraseIdx_iff_getElem?]
  constructor
  · rintro ⟨j, hne, hj⟩
    refine ⟨List.mem_of_getElem? hj, fun e' => hne ?_⟩
    have h1 : (x.map (·.1))[i]? = some p.1 := by rw [List.getElem?_map, hi]; rfl
    have h2 : (x.map (·.1))[j]? = some p.1 := by rw [List.getElem?_map, hj, ← e']; rfl
    exact ((List.getElem?_inj (List.getElem?_eq_some_iff.1 h1).1 hn).1 (h1.trans h2.symm)).symm
  · rintro ⟨hq, hne⟩
    obtain ⟨j, hj⟩ := List.mem_iff_getElem?.1 hq
    exact ⟨j, fun e' => hne (by subst e'; rw [hi] at hj; injection hj with hj; rw [hj]), hj⟩
theorem Abs.erase (h : Abs H c L) {k : ByteArray} {i : Nat} {u : β} (hi : (c.bs (c.idx H k))[i]? = some (k, u)) : Abs H (c.set (c.idx H k) ((c.bs (c.idx H k)).eraseIdx i)) (del L k) := by
  have hms := mem_erase_iff (h.nd (c.idx H k)) hi
  refine h.setBucket k (rising_del h.rise k) (fun p hp => .inr ((hms p).1 hp).1) ?_ (fun p => ?_)
  · exact (h.nd _).sublist (List.Sublist.map _ (List.eraseIdx_sublist _ _))
  · rw [mem_del]
    by_cases hj : c.idx H p.1 = c.idx H k
    · rw [if_pos hj, hms, h.mem, hj]
    · rw [if_neg hj]
      exact ⟨fun e => e.1, fun e => ⟨e, fun e' => hj (by rw [e'])⟩⟩
theorem Abs.grow (h : Abs H c L) (h0 : c.left = 0) : Abs H c.grow L := by
  have hpos := h.pos
  have hold : ∀ k, c.idx H k = c.E + H k % c.N := fun k => by unfold Con.idx; rw [if_neg (by omega)]
  have hnew : ∀ k, c.grow.idx H k = H k % c.N := fun k => by
    show (if 0 < c.N ∧ c.N - c.N ≤ H k % c.N then H k % c.N else _) = _
    rw [if_pos ⟨hpos, by omega⟩]
  refine ⟨h.rise, fun k p hp => ?_, fun k => ?_, fun p => ?_, Nat.le_refl _, by show 0 < 2 * c.N; omega⟩
  · rw [hnew]
    replace hp : p ∈ (if k < c.N then c.bs (c.E + k) else []) := hp
    split at hp
    · have := h.home _ p hp
      rw [hold] at this; omega
    · simp at hp
  · show ((if k < c.N then c.bs (c.E + k) else []).map (·.1)).Nodup
    split
    · exact h.nd _
    · exact List.nodup_nil
  · rw [h.mem, hnew, hold]
    show _ ↔ p ∈ (if H p.1 % c.N < c.N then c.bs (c.E + H p.1 % c.N) else [])
    rw [if_pos (Nat.mod_lt _ hpos)]
/-- All pairs that lie in buckets. -/
def Con.flat (c : Con β) : Pairs β := (List.range (c.E + c.N)).flatMap c.bs
theorem flat_keys : ∀ (n : Nat), (h : Abs H c L) → (((List.range n).flatMap c.bs).map (·.1)).Nodup := fun n h => by
  induction n with
  | zero => simp
  | succ n ih =>
    rw [List.range_succ, List.flatMap_append, List.map_append, List.nodup_append]
    refine ⟨ih, by simpa using h.nd n, ?_⟩
    rintro a ha b hb rfl
    obtain ⟨p, hp, rfl⟩ := List.mem_map.1 ha
    obtain ⟨q, hq, e⟩ := List.mem_map.1 hb
    obtain ⟨j, hj, hp⟩ := List.mem_flatMap.1 hp
    have h1 := h.home j p hp
    have h2 := h.home n q (by simpa using hq)
    rw [e, ← h1] at h2
    have := List.mem_range.1 hj
    omega
theorem Abs.flat_mem (h : Abs H c L) (p : ByteArray × β) : p ∈ c.flat ↔ p ∈ L := by
  unfold Con.flat
  rw [List.mem_flatMap, h.mem]
  constructor
  · rintro ⟨j, _, hp⟩
    rw [← h.home j p hp]; exact hp
  · exact fun hp => ⟨_, List.mem_range.2 (h.idx_lt p.1), hp⟩
theorem nodup_of_keys {l : Pairs β} (h : (l.map (·.1)).Nodup) : l.Nodup := List.Pairwise.imp (fun h e => h (by rw [e])) (List.pairwise_map.1 h)
theorem Abs.flat_len [DecidableEq β] (h : Abs H c L) : c.flat.length = L.length := by
  refine List.Perm.length_eq ((List.perm_ext_iff_of_nodup ?_ ?_).2 h.flat_mem)
  · exact nodup_of_keys (flat_keys _ h)
  · exact nodup_of_keys h.rise.nodup
/-- What is sorted of it is L. -/
theorem Abs.sorted (h : Abs H c L) {M : Pairs β} (hM : Rising M) (hp : M.Perm c.flat) : M = L :=
  rising_ext hM h.rise fun p => (hp.mem_iff).trans (h.flat_mem p)
theorem abs_new (H : ByteArray → Nat) : Abs H (⟨0, 8, 0, fun _ => []⟩ : Con β) [] :=
  ⟨List.Pairwise.nil, fun _ _ h => by simp at h, fun _ => by simp, fun p => by simp, Nat.le_refl _, Nat.zero_lt_succ 7⟩
end
end
end Go.Proofs.YtodoglljjhdbeaaGreatDoor.Tab

/- Layer 11, plain: a shard's state, and what its calls do to it. -/
namespace Go.Proofs.YtodoglljjhdbeaaGreatDoor.Shard
open Go

structure Ent where
  it : Item
  chunk : Int × Int
structure St where
  tab : Tab.St Nat
  ent : Nat → Ent
  slab : Slab.St
  order : Slru.St
  judge : Tiny.St
  drops : List ByteArray
def upd {α : Type} (f : Nat → α) (k : Nat) (v : α) : Nat → α := fun j => if j = k then v else f j
@[simp] theorem upd_same {α : Type} (f : Nat → α) (k : Nat) (v : α) : upd f k v k = v := if_pos rfl
theorem upd_other {α : Type} (f : Nat → α) {k j : Nat} (v : α) (h : j ≠ k) : upd f k v j = f j := if_neg h
def St.remove (s : St) (k : ByteArray) : Bool × St := match Tab.get s.tab.L k with
  | some n => (true, { s with tab := s.tab.tick.del k, slab := (s.slab.free (s.ent n).chunk).2, order := (s.order.remove k).2 })
  | none => (false, { s with tab := s.tab.tick })
def St.drop (s : St) (k : ByteArray) : St := { (s.remove k).2 with drops := (s.remove k).2.drops ++ [k] }
def St.tick (s : St) : St := { s with tab := s.tab.tick }
def St.find (s : St) (k : ByteArray) (env : Env) : Option Nat × St := match Tab.get s.tab.L k with
  | some x => if (s.ent x).it.live env then (some x, s.tick) else (none, s.tick.drop k)
  | none => (none, s.tick)
end Go.Proofs.YtodoglljjhdbeaaGreatDoor.Shard

/- Layer 11, plain: room, Store, Update, and what stays true of a shard. -/
namespace Go.Proofs.YtodoglljjhdbeaaGreatDoor.Shard
open Go

theorem remove_ent (s : St) (k : ByteArray) : (s.remove k).2.ent = s.ent := by unfold St.remove; split <;> rfl
theorem remove_drops (s : St) (k : ByteArray) : (s.remove k).2.drops = s.drops := by unfold St.remove; split <;> rfl
theorem remove_judge (s : St) (k : ByteArray) : (s.remove k).2.judge = s.judge := by unfold St.remove; split <;> rfl
theorem remove_L (s : St) (k : ByteArray) (hr : Tab.Rising s.tab.L) : (s.remove k).2.tab.L = Tab.del s.tab.L k := by
  unfold St.remove
  rcases hg : Tab.get s.tab.L k with _ | x
  · show s.tab.L = _
    refine (List.filter_eq_self.2 fun p hp => ?_).symm
    refine decide_eq_true fun e => ?_
    have := (Tab.get_mem hr.nodup (k := k) (v := p.2)).2 (by rw [← e]; exact hp)
    rw [hg] at this; cases this
  · rfl
theorem find_ent (s : St) (k : ByteArray) (env : Env) : (s.find k env).2.ent = s.ent := by
  unfold St.find
  split
  · split
    · rfl
    · show (s.tick.remove k).2.ent = s.ent
      rw [remove_ent]; rfl
  · rfl
/-- What was found is there. -/
theorem find_some {s : St} {k : ByteArray} {env : Env} {x : Nat} (h : (s.find k env).1 = some x) : Tab.get s.tab.L k = some x ∧ (s.ent x).it.live env = true ∧ (s.find k env).2 = s.tick := by
  unfold St.find at h ⊢
  rcases hg : Tab.get s.tab.L k with _ | y
  · rw [hg] at h; cases h
  · rw [hg] at h
    simp only at h ⊢
    by_cases hl : (s.ent y).it.live env = true
    · rw [if_pos hl] at h ⊢
      injection h with h
      subst h
      exact ⟨rfl, hl, rfl⟩
    · rw [if_neg hl] at h; cases h
/-- What was not found is not there behind it. -/
theorem find_none {s : St} {k : ByteArray} {env : Env} (h : (s.find k env).1 = none) : (Tab.get s.tab.L k = none ∧ (s.find k env).2 = s.tick) ∨ (∃ x, Tab.get s.tab.L k = some x ∧ (s.ent x).it.live env = false ∧ (s.find k env).2 = s.tick.drop k) := by
  unfold St.find at h ⊢
  rcases hg : Tab.get s.tab.L k with _ | y
  · exact .inl ⟨rfl, rfl⟩
  · rw [hg] at h
    simp only at h ⊢
    by_cases hl : (s.ent y).it.live env = true
    · rw [if_pos hl] at h; cases h
    · rw [if_neg hl]
      exact .inr ⟨y, rfl, by simpa using hl, rfl⟩

/-- What stays true of a shard: at most n keys, at most N calls. -/
structure Inv (n N : Nat) (s : St) : Prop where
  slab : Slab.Good N s.slab
  rise : Tab.Rising s.tab.L
  keys : ∀ k, k ∈ s.order.all ↔ k ∈ s.tab.L.map (·.1)
  ond : s.order.all.Nodup
  ents : ∀ p ∈ s.tab.L, (s.ent p.2).it.key = p.1 ∧ p.1.size ≤ 2048 ∧ (s.ent p.2).it.size ≤ 2048 ∧ (s.ent p.2).chunk.1 = (Slab.classN (s.ent p.2).it.size : Nat)
  mem : s.slab.inn.Perm (s.tab.L.map fun p => (s.ent p.2).chunk)
  len : s.tab.L.length ≤ n
  dl : s.drops.length ≤ N
section
variable {n m N M : Nat} {s : St}
theorem Inv.mono (h : Inv n N s) (h1 : n ≤ m) (h2 : N ≤ M) : Inv m M s := ⟨h.slab.mono h2, h.rise, h.keys, h.ond, h.ents, h.mem, Nat.le_trans h.len h1, Nat.le_trans h.dl h2⟩
theorem Inv.olen (h : Inv n N s) : s.order.all.length = s.tab.L.length := by
  have := ((List.perm_ext_iff_of_nodup h.ond h.rise.nodup).2 h.keys).length_eq
  simpa using this
theorem Inv.tick (h : Inv n N s) : Inv n N s.tick := ⟨h.slab, h.rise, h.keys, h.ond, h.ents, h.mem, h.len, h.dl⟩
theorem Inv.emptied (h : Inv n N s) : Inv n N { s with drops := [] } := ⟨h.slab, h.rise, h.keys, h.ond, h.ents, h.mem, h.len, Nat.zero_le _⟩
theorem without_app (l m : List ByteArray) (k : ByteArray) : Slru.without (l ++ m) k = Slru.without l k ++ Slru.without m k := by unfold Slru.without; exact List.filter_append ..
theorem mem_without {l : List ByteArray} {k x : ByteArray} : x ∈ Slru.without l k ↔ x ∈ l ∧ x ≠ k := by unfold Slru.without; simp
theorem oremove_all {o : Slru.St} {k : ByteArray} (h : k ∈ o.all) : (o.remove k).2.all = Slru.without o.all k := by
  unfold Slru.St.remove
  rw [if_pos h]
  show Slru.without o.trial k ++ Slru.without o.safe k = _
  rw [← without_app]; rfl
theorem Rising.nd {L : Tab.Pairs Nat} (h : Tab.Rising L) : L.Nodup := by
  unfold Tab.Rising at h
  exact h.imp fun {a b} h (e : a = b) => Tab.ltK_ne h (by rw [e])
theorem del_perm {L : Tab.Pairs Nat} (h : Tab.Rising L) {k : ByteArray} {x : Nat} (hm : (k, x) ∈ L) : L.Perm ((k, x) :: Tab.del L k) := by
  refine (List.perm_ext_iff_of_nodup (Rising.nd h) (List.nodup_cons.2 ⟨fun e => (Tab.mem_del.1 e).2 rfl, (Rising.nd h).sublist List.filter_sublist⟩)).2 fun p => ?_
  rw [List.mem_cons, Tab.mem_del]
  constructor
  · intro hp
    by_cases e : p.1 = k
    · refine .inl ?_
      have h1 := (Tab.get_mem h.nodup (k := k) (v := x)).2 hm
      have h2 := (Tab.get_mem h.nodup (k := k) (v := p.2)).2 (by rw [← e]; exact hp)
      rw [h1] at h2
      injection h2 with h2
      rw [h2, ← e]
    · exact .inr ⟨hp, e⟩
  · rintro (rfl | hp)
    · exact hm
    · exact hp.1
/-- The chunks behind a remove. -/
theorem Inv.rest (h : Inv n N s) {k : ByteArray} {x : Nat} (hm : (k, x) ∈ s.tab.L) : (s.ent x).chunk ∈ s.slab.inn ∧ (s.slab.inn.erase (s.ent x).chunk).Perm ((Tab.del s.tab.L k).map fun p => (s.ent p.2).chunk) := by
  have hp := h.mem.trans ((del_perm h.rise hm).map fun p => (s.ent p.2).chunk)
  refine ⟨hp.mem_iff.2 (by simp), ?_⟩
  have := hp.erase (s.ent x).chunk
  simpa using this
theorem Inv.remove (h : Inv n N s) (k : ByteArray) : Inv n (N + 1) (s.remove k).2 := by
  unfold St.remove
  rcases hg : Tab.get s.tab.L k with _ | x
  · exact h.tick.mono (Nat.le_refl _) (by omega)
  · have hm := (Tab.get_mem h.rise.nodup).1 hg
    obtain ⟨h1, h2⟩ := h.rest hm
    have hk : k ∈ s.order.all := (h.keys k).2 (List.mem_map.2 ⟨_, hm, rfl⟩)
    obtain ⟨-, f1, -⟩ := Slab.free_in h1
    refine ⟨h.slab.free _, Tab.rising_del h.rise k, fun j => ?_, ?_, fun p hp => h.ents p (Tab.mem_del.1 hp).1, ?_, Nat.le_trans (List.length_filter_le _ _) h.len, Nat.le_succ_of_le h.dl⟩
    · show j ∈ (s.order.remove k).2.all ↔ j ∈ (Tab.del s.tab.L k).map (·.1)
      rw [oremove_all hk, mem_without, h.keys]
      simp only [List.mem_map, Tab.mem_del]
      constructor
      · rintro ⟨⟨p, hp, rfl⟩, hne⟩; exact ⟨p, ⟨hp, hne⟩, rfl⟩
      · rintro ⟨p, ⟨hp, hne⟩, rfl⟩; exact ⟨⟨p, hp, rfl⟩, hne⟩
    · show (s.order.remove k).2.all.Nodup
      rw [oremove_all hk]
      exact h.ond.sublist List.filter_sublist
    · show (s.slab.free (s.ent x).chunk).2.inn.Perm _
      rw [f1]; exact h2
theorem Inv.drop (h : Inv n N s) (k : ByteArray) : Inv n (N + 1) (s.drop k) := by
  have h1 := h.remove k
  have e := remove_drops s k
  exact ⟨h1.slab, h1.rise, h1.keys, h1.ond, h1.ents, h1.mem, h1.len, by show ((s.remove k).2.drops ++ [k]).length ≤ _; rw [e, List.length_append]; have := h.dl; simp; omega⟩
theorem Inv.find (h : Inv n N s) (k : ByteArray) (env : Env) : Inv n (N + 1) (s.find k env).2 := by
  unfold St.find
  split
  · split
    · exact h.tick.mono (Nat.le_refl _) (by omega)
    · exact h.tick.drop k
  · exact h.tick.mono (Nat.le_refl _) (by omega)
end

/-- room: at most f rounds. -/
def St.room (it : Item) (old : Bool) (less : Int) (env : Env) : Nat → St → Int × St
  | 0, s => (5, s)
  | f + 1, s => if s.slab.fits it.size less = true then (0, s) else
    match s.order.victim it.key with
    | none => (5, s)
    | some v => match Tab.get s.tab.L v with
      | none => (5, s)
      | some x => if old = true ∨ (s.ent x).it.live env = false then St.room it old less env f (s.tick.drop v)
        else if s.judge.admit it.key.data.toList v.data.toList = true then St.room it old less env f (s.tick.drop v) else (8, s.tick)
def St.less (s : St) (old : Option Nat) : Int := match old with
  | some x => Slab.bytesI (s.ent x).chunk.1
  | none => 0
/-- An entry is filled. -/
def St.fill (s : St) (x : Nat) (it : Item) : St := { s with slab := (s.slab.take it.size).2, ent := upd s.ent x ⟨it, (s.slab.take it.size).1.1⟩ }
def St.freed (s : St) (x : Nat) : St := { s with slab := (s.slab.free (s.ent x).chunk).2 }
def St.added (s : St) (k : ByteArray) (x : Nat) : St := { s with tab := s.tab.put k x, order := (s.order.add k).2 }
def St.stored (s : St) (old : Option Nat) (fresh : Nat) (it : Item) : St := match old with
  | some x => (s.freed x).fill x it
  | none => (s.added it.key fresh).fill fresh it
def St.store (s : St) (fresh : Nat) (it : Item) (env : Env) : Int × St :=
  if Slab.classN it.size = 6 then (4, s) else
    if (St.room it (s.find it.key env).1.isSome ((s.find it.key env).2.less (s.find it.key env).1) env ((s.find it.key env).2.order.all.length + 1) (s.find it.key env).2).1 = 0 then
      (0, (St.room it (s.find it.key env).1.isSome ((s.find it.key env).2.less (s.find it.key env).1) env ((s.find it.key env).2.order.all.length + 1) (s.find it.key env).2).2.stored (s.find it.key env).1 fresh it)
    else St.room it (s.find it.key env).1.isSome ((s.find it.key env).2.less (s.find it.key env).1) env ((s.find it.key env).2.order.all.length + 1) (s.find it.key env).2
def St.update (s : St) (it : Item) : Int × St := match Tab.get s.tab.L it.key with
  | none => (6, s.tick)
  | some x => if (s.ent x).it.val.length = it.val.length then (0, { s.tick with ent := upd s.ent x ⟨it, (s.ent x).chunk⟩ }) else (1, s.tick)
section
variable {n m N M : Nat} {s : St} {it : Item} {old : Bool} {less : Int} {env : Env}
/-- One round of room. -/
theorem room_cases (f : Nat) (s : St) : (s.slab.fits it.size less = true ∧ St.room it old less env (f + 1) s = (0, s)) ∨ (s.slab.fits it.size less = false ∧ s.order.victim it.key = none ∧ St.room it old less env (f + 1) s = (5, s)) ∨
    (s.slab.fits it.size less = false ∧ ∃ v, s.order.victim it.key = some v ∧ v ≠ it.key ∧ v ∈ s.order.all ∧ ((Tab.get s.tab.L v = none ∧ St.room it old less env (f + 1) s = (5, s)) ∨ ∃ x, Tab.get s.tab.L v = some x ∧
      (((old = true ∨ (s.ent x).it.live env = false ∨ s.judge.admit it.key.data.toList v.data.toList = true) ∧ St.room it old less env (f + 1) s = St.room it old less env f (s.tick.drop v)) ∨
       (old = false ∧ (s.ent x).it.live env = true ∧ s.judge.admit it.key.data.toList v.data.toList = false ∧ St.room it old less env (f + 1) s = (8, s.tick))))) := by
  rw [St.room]
  by_cases hf : s.slab.fits it.size less = true
  · exact .inl ⟨hf, by rw [if_pos hf]⟩
  rw [if_neg hf]
  have hf' : s.slab.fits it.size less = false := by simpa using hf
  rcases hv : s.order.victim it.key with _ | v
  · exact .inr (.inl ⟨hf', rfl, rfl⟩)
  refine .inr (.inr ⟨hf', v, rfl, ?_, ?_, ?_⟩)
  · have := List.find?_some hv; simpa using this
  · exact List.mem_of_find?_eq_some hv
  · simp only
    rcases hg : Tab.get s.tab.L v with _ | x
    · exact .inl ⟨rfl, rfl⟩
    · refine .inr ⟨x, rfl, ?_⟩
      simp only
      by_cases h1 : old = true ∨ (s.ent x).it.live env = false
      · rw [if_pos h1]; exact .inl ⟨h1.elim .inl (fun h => .inr (.inl h)), rfl⟩
      · rw [if_neg h1]
        by_cases h2 : s.judge.admit it.key.data.toList v.data.toList = true
        · rw [if_pos h2]; exact .inl ⟨.inr (.inr h2), rfl⟩
        · rw [if_neg h2]
          refine .inr ⟨?_, ?_, by simpa using h2, rfl⟩
          · cases old <;> simp_all
          · cases hl : (s.ent x).it.live env <;> simp_all
/-- What holds through a room. -/
theorem room_ind {P : Nat → St → Prop} (htick : ∀ f s, P f s → P f s.tick) (hdown : ∀ f s, P (f + 1) s → P f s)
    (hdrop : ∀ f s v x, P (f + 1) s → s.slab.fits it.size less = false → v ≠ it.key → v ∈ s.order.all → Tab.get s.tab.L v = some x → P f (s.tick.drop v)) : ∀ f s, P f s → P 0 (St.room it old less env f s).2
  | 0, s, h => h
  | f + 1, s, h => by
    have hz : ∀ f s, P f s → P 0 s := fun f => by
      induction f with
      | zero => exact fun s h => h
      | succ f ih => exact fun s h => ih s (hdown f s h)
    rcases room_cases (it := it) (old := old) (less := less) (env := env) f s with ⟨_, e⟩ | ⟨_, _, e⟩ | ⟨hf, v, hv, hne, hm, ⟨_, e⟩ | ⟨x, hx, ⟨_, e⟩ | ⟨_, _, _, e⟩⟩⟩
    · rw [e]; exact hz _ _ h
    · rw [e]; exact hz _ _ h
    · rw [e]; exact hz _ _ h
    · rw [e]; exact room_ind htick hdown hdrop f _ (hdrop f s v x h hf hne hm hx)
    · rw [e]; exact hz _ _ (htick _ _ h)
theorem Inv.room (h : Inv n N s) (f : Nat) : Inv n (N + f) (St.room it old less env f s).2 := by
  have := room_ind (it := it) (old := old) (less := less) (env := env) (P := fun g t => g ≤ f ∧ Inv n (N + (f - g)) t) (fun g t ht => ⟨ht.1, ht.2.tick⟩) (fun g t ht => ⟨by omega, ht.2.mono (Nat.le_refl _) (by omega)⟩)
    (fun g t v x ht _ _ _ _ => ⟨by omega, (ht.2.tick.drop v).mono (Nat.le_refl _) (by omega)⟩) f s ⟨Nat.le_refl _, by rw [Nat.sub_self]; exact h⟩
  exact this.2.mono (Nat.le_refl _) (by omega)
/-- room tells that it fits only if so. -/
theorem room_fits : ∀ (f : Nat) (s : St), (St.room it old less env f s).1 = 0 → (St.room it old less env f s).2.slab.fits it.size less = true
  | 0, s, h => by cases h
  | f + 1, s, h => by
    rcases room_cases (it := it) (old := old) (less := less) (env := env) f s with ⟨h1, e⟩ | ⟨_, _, e⟩ | ⟨hf, v, hv, hne, hm, ⟨_, e⟩ | ⟨x, hx, ⟨_, e⟩ | ⟨_, _, _, e⟩⟩⟩
    · rw [e]; exact h1
    · rw [e] at h; cases h
    · rw [e] at h; cases h
    · rw [e] at h ⊢; exact room_fits f _ h
    · rw [e] at h; cases h
theorem drop_ent (s : St) (k : ByteArray) : (s.drop k).ent = s.ent := remove_ent s k
theorem drop_L (s : St) (k : ByteArray) (hr : Tab.Rising s.tab.L) : (s.drop k).tab.L = Tab.del s.tab.L k := remove_L s k hr
theorem room_ent (f : Nat) (s : St) : (St.room it old less env f s).2.ent = s.ent :=
  room_ind (it := it) (old := old) (less := less) (env := env) (P := fun _ t => t.ent = s.ent) (fun _ _ h => h) (fun _ _ h => h) (fun _ t v _ h _ _ _ _ => (drop_ent t.tick v).trans h) f s rfl
/-- What room leaves of the key itself, and of the others. -/
theorem room_key (f : Nat) (s : St) (hr : Tab.Rising s.tab.L) : Tab.Rising (St.room it old less env f s).2.tab.L ∧ (∀ p : ByteArray × Nat, p ∈ (St.room it old less env f s).2.tab.L → p ∈ s.tab.L) ∧ (∀ p : ByteArray × Nat, p.1 = it.key → p ∈ s.tab.L → p ∈ (St.room it old less env f s).2.tab.L) :=
  room_ind (it := it) (old := old) (less := less) (env := env) (P := fun _ t => Tab.Rising t.tab.L ∧ (∀ p : ByteArray × Nat, p ∈ t.tab.L → p ∈ s.tab.L) ∧ (∀ p : ByteArray × Nat, p.1 = it.key → p ∈ s.tab.L → p ∈ t.tab.L)) (fun _ _ h => h) (fun _ _ h => h)
    (fun _ t v _ ⟨h1, h2, h3⟩ _ hne _ _ => by
      rw [drop_L t.tick v h1]
      exact ⟨Tab.rising_del h1 v, fun p hp => h2 p (Tab.mem_del.1 hp).1, fun p e hp => Tab.mem_del.2 ⟨h3 p e hp, fun e1 => hne (e1.symm.trans e)⟩⟩) f s ⟨hr, fun _ h => h, fun _ _ h => h⟩
theorem fits_true {t : Slab.St} {size less : Int} (h : t.fits size less = true) : Slab.classN size < 6 ∧ 0 ≤ less ∧ less ≤ t.used ∧ t.used - less + Slab.bytesI (Slab.classN size) ≤ t.budget := by
  unfold Slab.St.fits at h
  exact of_decide_eq_true h
theorem take_ok {t : Slab.St} (h : Slab.Good N t) {size : Int} (h6 : Slab.classN size < 6) (hu : t.used + Slab.bytesI (Slab.classN size) ≤ t.budget) : ∃ nn, (t.take size).1 = ((((Slab.classN size : Nat) : Int), nn), 0) ∧ (t.take size).2.inn = t.inn ++ [(((Slab.classN size : Nat) : Int), nn)] ∧ (t.take size).2.used = t.used + Slab.bytesI (Slab.classN size) ∧ (t.take size).2.budget = t.budget := by
  obtain ⟨cc, nn, ee, h1, ⟨h2, -⟩ | ⟨h2, h3, h4, h5, h6', h7, h8, h9⟩⟩ := h.take_two size
  · exfalso
    rcases Slab.take_cases t size with ⟨e6, _⟩ | ⟨_, hx, _⟩ | ⟨_, _, e⟩
    · omega
    · omega
    · rw [e] at h1
      injection h1 with _ h1
      rw [← h1] at h2
      rcases h2 with h2 | h2 <;> cases h2
  · subst h4 h2
    exact ⟨nn, h1, h7, h8, h9⟩
theorem put_perm {L : Tab.Pairs Nat} (h : Tab.Rising L) {k : ByteArray} {x : Nat} (hk : k ∉ L.map (·.1)) : (Tab.put L k x).Perm ((k, x) :: L) := by
  refine (List.perm_ext_iff_of_nodup (Rising.nd (Tab.rising_put h k x)) (List.nodup_cons.2 ⟨fun e => hk (List.mem_map.2 ⟨_, e, rfl⟩), Rising.nd h⟩)).2 fun p => ?_
  rw [Tab.mem_put h, List.mem_cons]
  exact ⟨fun e => e.elim .inl (fun e => .inr e.1), fun e => e.elim .inl (fun e => .inr ⟨e, fun e1 => hk (List.mem_map.2 ⟨p, e, e1⟩)⟩)⟩
theorem size_class {z : Int} (h : Slab.classN z < 6) : z ≤ 2048 := by
  unfold Slab.classN at h
  repeat' split at h
  all_goals omega
theorem map_upd {L : Tab.Pairs Nat} {f : Nat → Ent} {x : Nat} {v : Ent} (h : ∀ p ∈ L, p.2 ≠ x) : (L.map fun p => (upd f x v p.2).chunk) = L.map fun p => (f p.2).chunk :=
  List.map_congr_left fun p hp => by rw [upd_other _ _ (h p hp)]
/-- A new entry. -/
theorem Inv.fillNew (h : Inv n N s) {x : Nat} (hx : ∀ p ∈ s.tab.L, p.2 ≠ x) (hk : it.key ∉ s.tab.L.map (·.1)) (hks : it.key.size ≤ 2000000) (h6 : Slab.classN it.size < 6) (hu : s.slab.used + Slab.bytesI (Slab.classN it.size) ≤ s.slab.budget) :
    Inv (n + 1) (N + 1) ((s.added it.key x).fill x it) := by
  obtain ⟨nn, h1, h2, h3, h4⟩ := take_ok h.slab h6 hu
  have hka : it.key ∉ s.order.all := fun e => hk ((h.keys _).1 e)
  have hall : (s.order.add it.key).2.all.Perm (it.key :: s.order.all) := by
    unfold Slru.St.add
    rw [if_neg hka]
    show ((s.order.trial ++ [it.key]) ++ s.order.safe).Perm _
    rw [List.append_assoc]
    exact List.perm_middle
  have hL : ((s.added it.key x).fill x it).tab.L = Tab.put s.tab.L it.key x := Tab.put_L _ _ _
  refine ⟨h.slab.take it.size, by rw [hL]; exact Tab.rising_put h.rise _ _, fun j => ?_, hall.nodup_iff.2 (List.nodup_cons.2 ⟨hka, h.ond⟩), fun p hp => ?_, ?_, ?_, Nat.le_succ_of_le h.dl⟩
  · rw [hL, ((put_perm h.rise hk).map (·.1)).mem_iff]
    show j ∈ (s.order.add it.key).2.all ↔ _
    rw [hall.mem_iff, List.mem_cons, List.map_cons, List.mem_cons, h.keys]
  · rw [hL, Tab.mem_put h.rise] at hp
    show (upd s.ent x _ p.2).it.key = p.1 ∧ _ ∧ (upd s.ent x _ p.2).it.size ≤ 2048 ∧ (upd s.ent x _ p.2).chunk.1 = (Slab.classN (upd s.ent x _ p.2).it.size : Nat)
    rcases hp with rfl | ⟨hp, _⟩
    · rw [upd_same]
      refine ⟨rfl, (by show it.key.size ≤ 2048; have := size_class h6; unfold Item.size at this; omega), size_class h6, ?_⟩
      show (s.slab.take it.size).1.1.1 = _
      rw [h1]
    · rw [upd_other _ _ (hx p hp)]; exact h.ents p hp
  · rw [hL]
    show (s.slab.take it.size).2.inn.Perm ((Tab.put s.tab.L it.key x).map fun p => (upd s.ent x ⟨it, (s.slab.take it.size).1.1⟩ p.2).chunk)
    refine List.Perm.trans ?_ ((put_perm h.rise hk).map _).symm
    rw [List.map_cons, map_upd hx, h2, h1]
    simp only [upd_same]
    exact (List.perm_append_singleton _ _).trans (h.mem.cons _)
  · rw [hL, Tab.put_len_new h.rise x hk]; have := h.len; omega
/-- Blocks of two keys are two. -/
theorem Inv.apart (h : Inv n N s) {k : ByteArray} {x : Nat} (hm : (k, x) ∈ s.tab.L) : ∀ p ∈ Tab.del s.tab.L k, p.2 ≠ x := fun p hp e => by
  rw [Tab.mem_del] at hp
  have h1 := (h.ents p hp.1).1
  have h2 := (h.ents _ hm).1
  simp only at h2
  rw [e, h2] at h1
  exact hp.2 h1.symm
/-- An elder entry. -/
theorem Inv.fillOld (h : Inv n N s) {x : Nat} (hm : (it.key, x) ∈ s.tab.L) (h6 : Slab.classN it.size < 6) (hu : s.slab.used - Slab.bytesI (s.ent x).chunk.1 + Slab.bytesI (Slab.classN it.size) ≤ s.slab.budget) :
    Inv n (N + 2) ((s.freed x).fill x it) := by
  obtain ⟨g1, g2⟩ := h.rest hm
  obtain ⟨-, f1, f2, f3⟩ := Slab.free_in g1
  obtain ⟨nn, h1, h2, h3, h4⟩ := take_ok (h.slab.free (s.ent x).chunk) h6 (by rw [f2, f3]; exact hu)
  have hap := h.apart hm
  refine ⟨(h.slab.free _).take it.size, h.rise, h.keys, h.ond, fun p hp => ?_, ?_, h.len, Nat.le_trans h.dl (by omega)⟩
  · show (upd s.ent x ⟨it, ((s.slab.free (s.ent x).chunk).2.take it.size).1.1⟩ p.2).it.key = p.1 ∧ _ ∧ (upd s.ent x ⟨it, ((s.slab.free (s.ent x).chunk).2.take it.size).1.1⟩ p.2).it.size ≤ 2048 ∧ (upd s.ent x ⟨it, ((s.slab.free (s.ent x).chunk).2.take it.size).1.1⟩ p.2).chunk.1 = (Slab.classN (upd s.ent x ⟨it, ((s.slab.free (s.ent x).chunk).2.take it.size).1.1⟩ p.2).it.size : Nat)
    have h0 := h.ents p hp
    by_cases e : p.2 = x
    · rw [e, upd_same]
      have hk := (h.ents _ hm).1
      simp only at hk
      rw [e, hk] at h0
      exact ⟨h0.1, h0.2.1, size_class h6, by rw [h1]⟩
    · rw [upd_other _ _ e]; exact h0
  · show ((s.slab.free (s.ent x).chunk).2.take it.size).2.inn.Perm (s.tab.L.map fun p => (upd s.ent x ⟨it, ((s.slab.free (s.ent x).chunk).2.take it.size).1.1⟩ p.2).chunk)
    refine List.Perm.trans ?_ ((del_perm h.rise hm).map _).symm
    rw [List.map_cons, map_upd hap, h2, f1, h1]
    simp only [upd_same]
    exact (List.perm_append_singleton _ _).trans (g2.cons _)
theorem less_at (s t : St) (he : t.ent = s.ent) (o : Option Nat) : t.less o = s.less o := by unfold St.less; rw [he]
/-- What room leaves for the store. -/
theorem Inv.stored (h : Inv n N s) (hks : it.key.size ≤ 2000000) {old : Option Nat} {fresh : Nat} (hold : ∀ x, old = some x → (it.key, x) ∈ s.tab.L) (hnew : old = none → it.key ∉ s.tab.L.map (·.1)) (hf : ∀ p ∈ s.tab.L, p.2 ≠ fresh) (hfit : s.slab.fits it.size (s.less old) = true) :
    Inv (n + 1) (N + 2) (s.stored old fresh it) := by
  obtain ⟨h6, h0, h1, h2⟩ := fits_true hfit
  cases old with
  | some x => exact (h.fillOld (hold x rfl) h6 (by simpa [St.less] using h2)).mono (by omega) (Nat.le_refl _)
  | none => exact (h.fillNew hf (hnew rfl) hks h6 (by simpa [St.less] using h2)).mono (Nat.le_refl _) (by omega)
theorem get_none {L : Tab.Pairs Nat} (h : Tab.Rising L) {k : ByteArray} (hg : Tab.get L k = none) : k ∉ L.map (·.1) := fun hm => by
  obtain ⟨p, hp, rfl⟩ := List.mem_map.1 hm
  have := (Tab.get_mem h.nodup (k := p.1) (v := p.2)).2 hp
  rw [hg] at this; cases this
/-- What find leaves of the key. -/
theorem find_key (h : Inv n N s) (k : ByteArray) (env : Env) : (∀ x, (s.find k env).1 = some x → (k, x) ∈ (s.find k env).2.tab.L) ∧ ((s.find k env).1 = none → k ∉ (s.find k env).2.tab.L.map (·.1)) ∧ (∀ p, p ∈ (s.find k env).2.tab.L → p ∈ s.tab.L) := by
  refine ⟨fun x hx => ?_, fun hx => ?_, fun p hp => ?_⟩
  · obtain ⟨h1, h2, h3⟩ := find_some hx
    rw [h3]
    exact (Tab.get_mem h.rise.nodup).1 h1
  · rcases find_none hx with ⟨h1, h2⟩ | ⟨x, h1, h2, h3⟩
    · rw [h2]; exact get_none h.rise h1
    · rw [h3, drop_L s.tick k h.rise]
      intro hm
      obtain ⟨p, hp, rfl⟩ := List.mem_map.1 hm
      exact (Tab.mem_del.1 hp).2 rfl
  · rcases hx : (s.find k env).1 with _ | x
    · rcases find_none hx with ⟨h1, h2⟩ | ⟨x, h1, h2, h3⟩
      · rw [h2] at hp; exact hp
      · rw [h3, drop_L s.tick k h.rise] at hp; exact (Tab.mem_del.1 hp).1
    · obtain ⟨h1, h2, h3⟩ := find_some hx
      rw [h3] at hp; exact hp
theorem Inv.store (h : Inv n N s) (hks : it.key.size ≤ 2000000) {fresh : Nat} (hf : ∀ p ∈ s.tab.L, p.2 ≠ fresh) : Inv (n + 1) (N + n + 4) (s.store fresh it env).2 := by
  unfold St.store
  by_cases h6 : Slab.classN it.size = 6
  · rw [if_pos h6]; exact h.mono (by omega) (by omega)
  rw [if_neg h6]
  have h1 := h.find it.key env
  obtain ⟨k1, k2, k3⟩ := find_key h it.key env
  have hlen := h1.olen
  have hl1 := h1.len
  generalize s.find it.key env = y at *
  have h2 := h1.room (it := it) (old := y.1.isSome) (less := y.2.less y.1) (env := env) (y.2.order.all.length + 1)
  have hft := room_fits (it := it) (old := y.1.isSome) (less := y.2.less y.1) (env := env) (y.2.order.all.length + 1) y.2
  have hke := room_key (it := it) (old := y.1.isSome) (less := y.2.less y.1) (env := env) (y.2.order.all.length + 1) y.2 h1.rise
  have hen := room_ent (it := it) (old := y.1.isSome) (less := y.2.less y.1) (env := env) (y.2.order.all.length + 1) y.2
  generalize St.room it y.1.isSome (y.2.less y.1) env (y.2.order.all.length + 1) y.2 = z at *
  by_cases h0 : z.1 = 0
  · rw [if_pos h0]
    refine (h2.stored hks (fun x e => hke.2.2 _ rfl (k1 x e)) (fun e hm => ?_) (fun p hp => hf p (k3 p (hke.2.1 p hp))) (by rw [less_at y.2 z.2 hen]; exact hft h0)).mono (Nat.le_refl _) (by omega)
    obtain ⟨p, hp, e1⟩ := List.mem_map.1 hm
    exact k2 e (List.mem_map.2 ⟨p, hke.2.1 p hp, e1⟩)
  · rw [if_neg h0]
    exact h2.mono (by omega) (by omega)
theorem Inv.update (h : Inv n N s) (it : Item) : Inv n N (s.update it).2 := by
  unfold St.update
  rcases hg : Tab.get s.tab.L it.key with _ | x
  · exact h.tick
  · simp only
    have hm := (Tab.get_mem h.rise.nodup).1 hg
    by_cases hl : (s.ent x).it.val.length = it.val.length
    · rw [if_pos hl]
      have hz : it.size = (s.ent x).it.size := by
        have hk := (h.ents _ hm).1
        simp only at hk
        unfold Item.size
        rw [hk, hl]
      refine ⟨h.slab, h.rise, h.keys, h.ond, fun p hp => ?_, ?_, h.len, h.dl⟩
      · have h0 := h.ents p hp
        show (upd s.ent x ⟨it, (s.ent x).chunk⟩ p.2).it.key = p.1 ∧ _ ∧ (upd s.ent x ⟨it, (s.ent x).chunk⟩ p.2).it.size ≤ 2048 ∧ (upd s.ent x ⟨it, (s.ent x).chunk⟩ p.2).chunk.1 = (Slab.classN (upd s.ent x ⟨it, (s.ent x).chunk⟩ p.2).it.size : Nat)
        by_cases e : p.2 = x
        · rw [e, upd_same]
          have hk := (h.ents _ hm).1
          simp only at hk
          rw [e, hk] at h0
          exact ⟨h0.1, h0.2.1, by rw [hz]; exact h0.2.2.1, by rw [hz]; exact h0.2.2.2⟩
        · rw [upd_other _ _ e]; exact h0
      · refine h.mem.trans (List.Perm.of_eq (List.map_congr_left fun p hp => ?_))
        show _ = (upd s.ent x ⟨it, (s.ent x).chunk⟩ p.2).chunk
        by_cases e : p.2 = x
        · rw [e, upd_same]
        · rw [upd_other _ _ e]
    · rw [if_neg hl]; exact h.tick
end
end Go.Proofs.YtodoglljjhdbeaaGreatDoor.Shard

/- Layer 11, plain: what a store comes to; budgets; drops. -/
namespace Go.Proofs.YtodoglljjhdbeaaGreatDoor.Shard
open Go

def St.new (seed budget protect : Int) : St := ⟨Tab.new, fun _ => ⟨⟨ByteArray.empty, [], 0, 0, 0, 0, 0, false, false, false⟩, (0, 0)⟩, Slab.new budget, Slru.new protect, Tiny.new seed, []⟩
def St.items (s : St) : List Item := s.tab.L.map fun p => (s.ent p.2).it
theorem Inv.new (seed budget protect : Int) (h : -9223372036854775808 ≤ budget ∧ budget ≤ 9223372036854775807) : Inv 0 0 (St.new seed budget protect) :=
  ⟨Slab.Good.new budget h, List.Pairwise.nil, fun k => ⟨fun h => (by cases h), fun h => (by cases h)⟩, List.nodup_nil, fun p h => (by cases h), List.Perm.refl _, Nat.le_refl _, Nat.le_refl _⟩
section
variable {n m N M : Nat} {s t : St} {it : Item} {old : Option Nat} {less : Int} {env : Env} {fresh : Nat} {B : Int} {k : ByteArray}
theorem items_len (s : St) : s.items.length = s.tab.L.length := by simp [St.items]
/-- What a store has, right ahead of its end. -/
structure Ready (n N : Nat) (it : Item) (old : Option Nat) (t : St) : Prop where
  inv : Inv n N t
  hold : ∀ x, old = some x → (it.key, x) ∈ t.tab.L
  hnew : old = none → it.key ∉ t.tab.L.map (·.1)
  fits : t.slab.fits it.size (t.less old) = true
def St.roomed (s : St) (it : Item) (env : Env) : Int × St := St.room it (s.find it.key env).1.isSome ((s.find it.key env).2.less (s.find it.key env).1) env ((s.find it.key env).2.order.all.length + 1) (s.find it.key env).2
/-- A store, parted. -/
theorem store_two (h : Inv n N s) (it : Item) (env : Env) (fresh : Nat) : (Slab.classN it.size = 6 ∧ s.store fresh it env = (4, s)) ∨
    (Slab.classN it.size < 6 ∧ Inv n (N + n + 2) (s.roomed it env).2 ∧ (∀ p, p ∈ (s.roomed it env).2.tab.L → p ∈ s.tab.L) ∧
      (((s.roomed it env).1 = 0 ∧ Ready n (N + n + 2) it (s.find it.key env).1 (s.roomed it env).2 ∧ s.store fresh it env = (0, (s.roomed it env).2.stored (s.find it.key env).1 fresh it)) ∨
       ((s.roomed it env).1 ≠ 0 ∧ s.store fresh it env = s.roomed it env))) := by
  have hc := Slab.class_six it.size
  have e0 : s.store fresh it env = if Slab.classN it.size = 6 then (4, s) else if (s.roomed it env).1 = 0 then (0, (s.roomed it env).2.stored (s.find it.key env).1 fresh it) else s.roomed it env := rfl
  rw [e0]
  by_cases h6 : Slab.classN it.size = 6
  · rw [if_pos h6]; exact .inl ⟨h6, rfl⟩
  rw [if_neg h6]
  refine .inr ⟨by omega, ?_⟩
  unfold St.roomed
  have h1 := h.find it.key env
  obtain ⟨k1, k2, k3⟩ := find_key h it.key env
  have hlen := h1.olen
  have hl1 := h1.len
  generalize s.find it.key env = y at *
  have h2 := h1.room (it := it) (old := y.1.isSome) (less := y.2.less y.1) (env := env) (y.2.order.all.length + 1)
  have hft := room_fits (it := it) (old := y.1.isSome) (less := y.2.less y.1) (env := env) (y.2.order.all.length + 1) y.2
  have hke := room_key (it := it) (old := y.1.isSome) (less := y.2.less y.1) (env := env) (y.2.order.all.length + 1) y.2 h1.rise
  have hen := room_ent (it := it) (old := y.1.isSome) (less := y.2.less y.1) (env := env) (y.2.order.all.length + 1) y.2
  generalize St.room it y.1.isSome (y.2.less y.1) env (y.2.order.all.length + 1) y.2 = z at *
  have h3 : Inv n (N + n + 2) z.2 := h2.mono (Nat.le_refl _) (by omega)
  refine ⟨h3, fun p hp => k3 p (hke.2.1 p hp), ?_⟩
  by_cases h0 : z.1 = 0
  · rw [if_pos h0]
    refine .inl ⟨h0, ⟨h3, fun x e => hke.2.2 _ rfl (k1 x e), fun e hm => ?_, by rw [less_at y.2 z.2 hen]; exact hft h0⟩, rfl⟩
    obtain ⟨p, hp, e1⟩ := List.mem_map.1 hm
    exact k2 e (List.mem_map.2 ⟨p, hke.2.1 p hp, e1⟩)
  · rw [if_neg h0]; exact .inr ⟨h0, rfl⟩
/-- What is stored is there. -/
theorem Ready.there (h : Ready n N it old t) : ∃ y, (it.key, y) ∈ (t.stored old fresh it).tab.L ∧ ((t.stored old fresh it).ent y).it = it := by
  cases old with
  | some x =>
    refine ⟨x, h.hold x rfl, ?_⟩
    show (upd t.ent x _ x).it = it
    rw [upd_same]
  | none =>
    refine ⟨fresh, ?_, ?_⟩
    · show _ ∈ (t.tab.put it.key fresh).L
      rw [Tab.put_L, Tab.mem_put h.inv.rise]
      exact .inl rfl
    · show (upd t.ent fresh _ fresh).it = it
      rw [upd_same]
theorem store_there (h : Inv n N s) (h0 : (s.store fresh it env).1 = 0) : it ∈ (s.store fresh it env).2.items := by
  rcases store_two h it env fresh with ⟨_, e⟩ | ⟨_, _, _, ⟨_, hr, e⟩ | ⟨h1, e⟩⟩
  · rw [e] at h0; cases h0
  · rw [e]
    obtain ⟨y, h1, h2⟩ := hr.there (fresh := fresh)
    exact List.mem_map.2 ⟨_, h1, h2⟩
  · rw [e] at h0; exact absurd h0 h1

/-! ### the budget -/
structure Cap (B : Int) (s : St) : Prop where
  budget : s.slab.budget = B
  used : s.slab.used ≤ max B 0
theorem slab_free_le (x : Slab.St) (c : Int × Int) : (x.free c).2.budget = x.budget ∧ (x.free c).2.used ≤ x.used := by
  unfold Slab.St.free
  split
  · have := (Slab.bytes_range c.1).1
    exact ⟨rfl, by show x.used - _ ≤ x.used; omega⟩
  · exact ⟨rfl, Int.le_refl _⟩
theorem Cap.new (seed budget protect : Int) : Cap budget (St.new seed budget protect) := ⟨rfl, by show (0 : Int) ≤ _; omega⟩
theorem Cap.tick (h : Cap B s) : Cap B s.tick := ⟨h.budget, h.used⟩
theorem Cap.remove (h : Cap B s) (k : ByteArray) : Cap B (s.remove k).2 := by
  unfold St.remove
  split
  · rename_i x _
    obtain ⟨h1, h2⟩ := slab_free_le s.slab (s.ent x).chunk
    exact ⟨h1.trans h.budget, Int.le_trans h2 h.used⟩
  · exact h.tick
theorem Cap.drop (h : Cap B s) (k : ByteArray) : Cap B (s.drop k) := ⟨(h.remove k).budget, (h.remove k).used⟩
theorem Cap.find (h : Cap B s) (k : ByteArray) (env : Env) : Cap B (s.find k env).2 := by
  unfold St.find
  split
  · split
    · exact h.tick
    · exact h.tick.drop k
  · exact h.tick
theorem Cap.roomed (h : Cap B s) : Cap B (s.roomed it env).2 :=
  room_ind (P := fun _ t => Cap B t) (fun _ _ h => h.tick) (fun _ _ h => h) (fun _ _ v _ h _ _ _ _ => h.tick.drop v) _ _ (h.find it.key env)
theorem Cap.store (hi : Inv n N s) (h : Cap B s) : Cap B (s.store fresh it env).2 := by
  rcases store_two hi it env fresh with ⟨_, e⟩ | ⟨_, _, _, ⟨_, hr, e⟩ | ⟨h1, e⟩⟩
  · rw [e]; exact h
  · rw [e]
    have hc := h.roomed (it := it) (env := env)
    generalize (s.roomed it env).2 = t at *
    obtain ⟨f6, f0, f1, f2⟩ := fits_true hr.fits
    have hb := hc.budget
    rcases ho : (s.find it.key env).1 with _ | x
    · rw [ho] at f2 hr
      replace f2 : t.slab.used - 0 + Slab.bytesI (Slab.classN it.size) ≤ t.slab.budget := f2
      obtain ⟨nn, h1, h2, h3, h4⟩ := take_ok hr.inv.slab f6 (by omega)
      exact ⟨h4.trans hb, by show (t.slab.take it.size).2.used ≤ _; rw [h3]; omega⟩
    · rw [ho] at f2 hr
      replace f2 : t.slab.used - Slab.bytesI (t.ent x).chunk.1 + Slab.bytesI (Slab.classN it.size) ≤ t.slab.budget := f2
      obtain ⟨g1, g2⟩ := hr.inv.rest (hr.hold x rfl)
      obtain ⟨-, f1, f2', f3⟩ := Slab.free_in g1
      obtain ⟨nn, h1, h2, h3, h4⟩ := take_ok (hr.inv.slab.free (t.ent x).chunk) f6 (by rw [f2', f3]; exact f2)
      exact ⟨(h4.trans f3).trans hb, by show ((t.slab.free (t.ent x).chunk).2.take it.size).2.used ≤ _; rw [h3, f2']; omega⟩
  · rw [e]; exact h.roomed

/-! ### drops of one key -/
def cnt (l : List ByteArray) (k : ByteArray) : Nat := (l.filter fun x => decide (x = k)).length
theorem cnt_app (l m : List ByteArray) (k : ByteArray) : cnt (l ++ m) k = cnt l k + cnt m k := by unfold cnt; rw [List.filter_append, List.length_append]
theorem drop_drops (s : St) (k : ByteArray) : (s.drop k).drops = s.drops ++ [k] := by
  show (s.remove k).2.drops ++ [k] = _
  rw [remove_drops]
theorem find_cnt (s : St) (k : ByteArray) (env : Env) : cnt (s.find k env).2.drops k ≤ cnt s.drops k + 1 := by
  unfold St.find
  split
  · split
    · show cnt s.drops k ≤ _; omega
    · show cnt (s.tick.drop k).drops k ≤ _
      rw [drop_drops, cnt_app]
      show cnt s.drops k + cnt [k] k ≤ _
      have : cnt [k] k = 1 := by simp [cnt]
      omega
  · show cnt s.drops k ≤ _; omega
theorem roomed_cnt (s : St) : cnt (s.roomed it env).2.drops it.key ≤ cnt s.drops it.key + 1 :=
  room_ind (P := fun _ t => cnt t.drops it.key ≤ cnt s.drops it.key + 1) (fun _ _ h => h) (fun _ _ h => h) (fun _ t v _ h _ hne _ _ => by
    rw [drop_drops, cnt_app]
    show cnt t.drops it.key + cnt [v] it.key ≤ _
    have : cnt [v] it.key = 0 := by simp [cnt, hne]
    omega) _ _ (find_cnt s it.key env)
theorem stored_drops (t : St) (old : Option Nat) (fresh : Nat) (it : Item) : (t.stored old fresh it).drops = t.drops := by cases old <;> rfl
theorem store_cnt (h : Inv n N s) : cnt (s.store fresh it env).2.drops it.key ≤ cnt s.drops it.key + 1 := by
  rcases store_two h it env fresh with ⟨_, e⟩ | ⟨_, _, _, ⟨_, hr, e⟩ | ⟨h1, e⟩⟩
  · rw [e]; show cnt s.drops _ ≤ _; omega
  · rw [e]; show cnt (St.drops (St.stored _ _ _ _)) _ ≤ _; rw [stored_drops]; exact roomed_cnt s
  · rw [e]; exact roomed_cnt s

/-! ### as long as there is room -/
structure Keeps (i : Nat) (K : ByteArray → Prop) (B : Int) (s : St) : Prop where
  budget : s.slab.budget = B
  len : s.tab.L.length ≤ i
  exp : ∀ p ∈ s.tab.L, (s.ent p.2).it.exp = 0
  drops : s.drops = []
  keys : ∀ k, k ∈ s.tab.L.map (·.1) ↔ K k
theorem live_ever {it : Item} {env : Env} (h1 : it.exp = 0) (h2 : env.flush = 0) : it.live env = true := by
  unfold Item.live
  rw [if_neg (fun e => e.1 h1), if_neg (fun e => e.1 h2)]
theorem total_some (l : List (Int × Int)) : Slab.total l ≤ 2048 * l.length := by
  induction l with
  | nil => exact Int.le_refl _
  | cons c l ih =>
    rw [Slab.total_cons]
    have := (Slab.bytes_range c.1).2
    simp only [List.length_cons]
    omega
theorem Inv.usedLe (h : Inv n N s) : s.slab.used ≤ 2048 * s.tab.L.length := by
  have h1 := total_some s.slab.inn
  rw [h.slab.sum]
  have := h.mem.length_eq
  rw [List.length_map] at this
  omega
theorem Keeps.find {i : Nat} {K : ByteArray → Prop} (h : Keeps i K B s) (hi : Inv n N s) (he : env.flush = 0) (k : ByteArray) : s.find k env = (Tab.get s.tab.L k, s.tick) := by
  unfold St.find
  rcases hg : Tab.get s.tab.L k with _ | x
  · rfl
  · have hm := (Tab.get_mem hi.rise.nodup).1 hg
    show (if (s.ent x).it.live env = true then _ else _) = _
    rw [if_pos (live_ever (h.exp _ hm) he)]
theorem Keeps.found {i : Nat} {K : ByteArray → Prop} (h : Keeps i K B s) (hi : Inv n N s) (k : ByteArray) : (Tab.get s.tab.L k).isSome = true ↔ K k := by
  rw [← h.keys k]
  constructor
  · intro h1
    obtain ⟨x, hx⟩ := Option.isSome_iff_exists.1 h1
    exact List.mem_map.2 ⟨_, (Tab.get_mem hi.rise.nodup).1 hx, rfl⟩
  · intro h1
    obtain ⟨p, hp, rfl⟩ := List.mem_map.1 h1
    rw [(Tab.get_mem hi.rise.nodup (k := p.1) (v := p.2)).2 hp]; rfl
theorem Keeps.store {i : Nat} {K : ByteArray → Prop} (h : Keeps i K B s) (hi : Inv n N s) (he : env.flush = 0) (hx : it.exp = 0) (hB : 2048 * ((i : Int) + 1) ≤ B) (hf : ∀ p ∈ s.tab.L, p.2 ≠ fresh) :
    (Slab.classN it.size = 6 ∧ s.store fresh it env = (4, s)) ∨ (Slab.classN it.size < 6 ∧ (s.store fresh it env).1 = 0 ∧ Keeps (i + 1) (fun k => K k ∨ k = it.key) B (s.store fresh it env).2) := by
  rcases store_two hi it env fresh with ⟨h6, e⟩ | ⟨h6, hir, hsub, h3⟩
  · exact .inl ⟨h6, e⟩
  have hfind := h.find hi he it.key
  have hfit : s.slab.fits it.size (s.less (Tab.get s.tab.L it.key)) = true := by
    have hu := hi.usedLe
    have hl := h.len
    have hb := h.budget
    have u0 := hi.slab.small.u0
    have hc := Slab.bytes_range (Slab.classN it.size : Nat)
    have h0 : 0 ≤ s.less (Tab.get s.tab.L it.key) ∧ s.less (Tab.get s.tab.L it.key) ≤ s.slab.used := by
      unfold St.less
      split
      · rename_i x hg
        obtain ⟨g1, -⟩ := hi.rest ((Tab.get_mem hi.rise.nodup).1 hg)
        exact ⟨(Slab.bytes_range _).1, by rw [hi.slab.sum]; exact Slab.total_mem g1⟩
      · exact ⟨Int.le_refl _, u0⟩
    unfold Slab.St.fits
    exact decide_eq_true ⟨h6, h0.1, h0.2, by omega⟩
  have hro : s.roomed it env = (0, s.tick) := by
    unfold St.roomed
    rw [hfind, St.room]
    exact if_pos hfit
  rw [hro] at h3
  obtain ⟨hr, e⟩ : Ready n (N + n + 2) it (s.find it.key env).1 s.tick ∧ s.store fresh it env = (0, s.tick.stored (s.find it.key env).1 fresh it) := h3.elim (fun h => h.2) (fun h => absurd rfl h.1)
  refine .inr ⟨h6, by rw [e], ?_⟩
  rw [e]
  simp only
  rw [hfind] at hr ⊢
  obtain ⟨f6, f0, f1, f2⟩ := fits_true hfit
  rcases ho : Tab.get s.tab.L it.key with _ | x
  · rw [ho] at hr f2
    replace f2 : s.slab.used - 0 + Slab.bytesI (Slab.classN it.size) ≤ s.slab.budget := f2
    obtain ⟨nn, h1, h2, h3, h4⟩ := take_ok hi.slab f6 (by omega)
    have hL : (s.tick.stored none fresh it).tab.L = Tab.put s.tab.L it.key fresh := Tab.put_L _ _ _
    have hk : it.key ∉ s.tab.L.map (·.1) := hr.hnew rfl
    refine ⟨h4.trans h.budget, by rw [hL, Tab.put_len_new hi.rise fresh hk]; have := h.len; omega, fun p hp => ?_, h.drops, fun k => ?_⟩
    · rw [hL, Tab.mem_put hi.rise] at hp
      show (upd s.ent fresh _ p.2).it.exp = 0
      rcases hp with rfl | ⟨hp, _⟩
      · rw [upd_same]; exact hx
      · rw [upd_other _ _ (hf p hp)]; exact h.exp p hp
    · rw [hL, ((put_perm hi.rise hk).map (·.1)).mem_iff, List.map_cons, List.mem_cons, h.keys]
      exact or_comm
  · rw [ho] at hr f2
    replace f2 : s.slab.used - Slab.bytesI (s.ent x).chunk.1 + Slab.bytesI (Slab.classN it.size) ≤ s.slab.budget := f2
    have hm : (it.key, x) ∈ s.tab.L := hr.hold x rfl
    obtain ⟨g1, g2⟩ := hi.rest hm
    obtain ⟨-, f1, f2', f3⟩ := Slab.free_in g1
    obtain ⟨nn, h1, h2, h3, h4⟩ := take_ok (hi.slab.free (s.ent x).chunk) f6 (by rw [f2', f3]; exact f2)
    refine ⟨(h4.trans f3).trans h.budget, Nat.le_succ_of_le h.len, fun p hp => ?_, h.drops, fun k => ?_⟩
    · show (upd s.ent x ⟨it, ((s.slab.free (s.ent x).chunk).2.take it.size).1.1⟩ p.2).it.exp = 0
      by_cases e : p.2 = x
      · rw [e, upd_same]; exact hx
      · rw [upd_other _ _ e]; exact h.exp p hp
    · show k ∈ s.tab.L.map (·.1) ↔ _
      rw [h.keys]
      refine ⟨.inl, fun e1 => e1.elim id (fun e1 => ?_)⟩
      rw [← h.keys, e1]
      exact List.mem_map.2 ⟨_, hm, rfl⟩

/-! ### what an update, a remove, a look leave -/
theorem items_at (s : St) (i : Nat) : s.items[i]? = (s.tab.L[i]?).map fun p => (s.ent p.2).it := by simp [St.items]
theorem update_items (h : Inv n N s) (it : Item) : (s.update it).2.slab = s.slab ∧ (s.update it).2.items.length = s.items.length ∧
    (∀ (i : Nat) (a : Item), s.items[i]? = some a → (s.update it).2.items[i]? = some (if (s.update it).1 = 0 ∧ a.key = it.key then it else a) ∧ (a.key = it.key → ((s.update it).1 = 0 ↔ a.val.length = it.val.length))) := by
  have hk : ∀ (i : Nat) (a : Item), s.items[i]? = some a → ∃ p, s.tab.L[i]? = some p ∧ a = (s.ent p.2).it ∧ a.key = p.1 := fun i a ha => by
    rw [items_at, Option.map_eq_some_iff] at ha
    obtain ⟨p, hp, rfl⟩ := ha
    exact ⟨p, hp, rfl, (h.ents p (List.mem_of_getElem? hp)).1⟩
  unfold St.update
  rcases hg : Tab.get s.tab.L it.key with _ | x
  · refine ⟨rfl, rfl, fun i a ha => ⟨?_, fun e => ?_⟩⟩
    · rw [if_neg (fun e => by cases e.1)]; exact ha
    · exfalso
      obtain ⟨p, hp, rfl, h1⟩ := hk i a ha
      exact get_none h.rise hg (List.mem_map.2 ⟨p, List.mem_of_getElem? hp, by rw [← h1, e]⟩)
  · have hm := (Tab.get_mem h.rise.nodup).1 hg
    have hx : ∀ p ∈ s.tab.L, p.1 = it.key → p.2 = x := fun p hp e => by
      have := (Tab.get_mem h.rise.nodup (k := p.1) (v := p.2)).2 hp
      rw [e, hg] at this
      injection this with this
      exact this.symm
    simp only
    by_cases hl : (s.ent x).it.val.length = it.val.length
    · rw [if_pos hl]
      refine ⟨rfl, by simp [St.items, St.tick], fun i a ha => ?_⟩
      obtain ⟨p, hp, rfl, h1⟩ := hk i a ha
      have hpm := List.mem_of_getElem? hp
      refine ⟨?_, fun e => ?_⟩
      · rw [items_at]
        show (s.tab.L[i]?).map _ = _
        rw [hp]
        show some (upd s.ent x _ p.2).it = _
        by_cases e : p.1 = it.key
        · rw [hx p hpm e, upd_same, if_pos ⟨rfl, by rw [← hx p hpm e, h1, e]⟩]
        · have hne : p.2 ≠ x := fun e1 => e (by
            have h2 := (h.ents _ hm).1
            simp only at h2
            rw [← h1, e1, h2])
          rw [upd_other _ _ hne, if_neg (fun e2 => e (h1.symm.trans e2.2))]
      · have e1 : p.2 = x := hx p hpm (h1.symm.trans e)
        rw [e1]
        exact ⟨fun _ => hl, fun _ => rfl⟩
    · rw [if_neg hl]
      refine ⟨rfl, rfl, fun i a ha => ⟨?_, fun e => ?_⟩⟩
      · rw [if_neg (fun e => by cases e.1)]; exact ha
      · obtain ⟨p, hp, rfl, h1⟩ := hk i a ha
        have e1 : p.2 = x := hx p (List.mem_of_getElem? hp) (h1.symm.trans e)
        rw [e1]
        exact ⟨fun e => (by cases e), fun e => absurd e hl⟩
theorem remove_two (h : Inv n N s) (k : ByteArray) : ((s.remove k).1 = false ∧ (s.remove k).2 = s.tick ∧ ∀ a ∈ s.items, a.key ≠ k) ∨
    ((s.remove k).1 = true ∧ ∃ a, a ∈ s.items ∧ a.key = k ∧ a.size ≤ 2048 ∧ (∀ b ∈ s.items, b.key = k → b = a) ∧ (s.remove k).2.items = s.items.filter (fun a => decide (a.key ≠ k)) ∧ (s.remove k).2.items.length + 1 = s.items.length ∧ (s.remove k).2.slab.used = s.slab.used - Slab.bytesI (Slab.classN a.size) ∧ (∀ b ∈ (s.remove k).2.items, b.key ≠ k)) := by
  have hk : ∀ a ∈ s.items, ∃ p ∈ s.tab.L, a = (s.ent p.2).it ∧ a.key = p.1 := fun a ha => by
    obtain ⟨p, hp, rfl⟩ := List.mem_map.1 ha
    exact ⟨p, hp, rfl, (h.ents p hp).1⟩
  have e1 := remove_L s k h.rise
  have e2 := remove_ent s k
  have hf : (s.remove k).2.items = s.items.filter (fun a => decide (a.key ≠ k)) := by
    unfold St.items
    rw [e1, e2, List.filter_map]
    unfold Tab.del
    refine congrArg _ (List.filter_congr fun p hp => ?_)
    show decide (p.1 ≠ k) = decide ((s.ent p.2).it.key ≠ k)
    rw [(h.ents p hp).1]
  rcases hg : Tab.get s.tab.L k with _ | x
  · have e : s.remove k = (false, s.tick) := by unfold St.remove; rw [hg]; rfl
    refine .inl ⟨by rw [e], by rw [e], fun a ha e3 => ?_⟩
    obtain ⟨p, hp, rfl, h1⟩ := hk a ha
    exact get_none h.rise hg (List.mem_map.2 ⟨p, hp, by rw [← h1, e3]⟩)
  · have hm := (Tab.get_mem h.rise.nodup).1 hg
    obtain ⟨g1, -⟩ := h.rest hm
    obtain ⟨-, -, f2, -⟩ := Slab.free_in g1
    have hee := h.ents _ hm
    simp only at hee
    refine .inr ⟨by unfold St.remove; rw [hg], (s.ent x).it, List.mem_map.2 ⟨_, hm, rfl⟩, hee.1, hee.2.2.1, fun b hb e3 => ?_, hf, ?_, ?_, fun b hb e3 => ?_⟩
    · obtain ⟨p, hp, rfl, h1⟩ := hk b hb
      have := (Tab.get_mem h.rise.nodup (k := p.1) (v := p.2)).2 hp
      rw [← h1, e3, hg] at this
      injection this with this
      rw [← this]
    · rw [items_len, items_len, e1]
      exact Tab.del_len h.rise (List.mem_map.2 ⟨_, hm, rfl⟩)
    · have e : (s.remove k).2.slab = (s.slab.free (s.ent x).chunk).2 := by unfold St.remove; rw [hg]
      rw [e, f2, hee.2.2.2]
    · rw [hf] at hb
      exact (of_decide_eq_true (List.mem_filter.1 hb).2) e3
/-- A key that is there, and what finds it. -/
theorem there_iff (h : Inv n N s) (k : ByteArray) : (∃ a ∈ s.items, a.key = k) ↔ (Tab.get s.tab.L k).isSome = true := by
  constructor
  · rintro ⟨a, ha, e⟩
    obtain ⟨p, hp, rfl⟩ := List.mem_map.1 ha
    have := (Tab.get_mem h.rise.nodup (k := p.1) (v := p.2)).2 hp
    rw [← (h.ents p hp).1, e] at this
    rw [this]; rfl
  · intro h1
    obtain ⟨x, hx⟩ := Option.isSome_iff_exists.1 h1
    have hm := (Tab.get_mem h.rise.nodup).1 hx
    exact ⟨_, List.mem_map.2 ⟨_, hm, rfl⟩, (h.ents _ hm).1⟩
/-- Two looks, one behind the other. -/
theorem look_law (h : Inv n N s) (k : ByteArray) (env : Env) (hd : s.drops = []) :
    let f := s.find k env
    let g := ({ f.2 with drops := [] } : St).find k env
    (f.1.isSome = true → (∃ a ∈ s.items, a.key = k) ∧ g.1.isSome = true ∧ f.2.drops = [] ∧ g.2.items.length = s.items.length) ∧
    (f.1.isSome = false → (∃ a ∈ s.items, a.key = k) → g.1.isSome = false ∧ f.2.drops = [k] ∧ g.2.items.length + 1 = s.items.length ∧ g.2.drops = []) ∧
    (f.1.isSome = false → ¬ (∃ a ∈ s.items, a.key = k) → g.1.isSome = false ∧ f.2.drops = [] ∧ g.2.items.length = s.items.length) := by
  have hnone : ∀ t : St, Tab.get t.tab.L k = none → t.find k env = (none, t.tick) := fun t e => by unfold St.find; rw [e]
  simp only
  rcases hf : (s.find k env).1 with _ | x
  · rcases find_none hf with ⟨h1, h2⟩ | ⟨x, h1, h2, h3⟩
    · have hnt : ¬ (∃ a ∈ s.items, a.key = k) := fun e => by have := (there_iff h k).1 e; rw [h1] at this; cases this
      rw [h2, hnone { s.tick with drops := [] } h1]
      exact ⟨fun e => (by cases e), fun _ e => absurd e hnt, fun _ _ => ⟨rfl, hd, rfl⟩⟩
    · have hyt : ∃ a ∈ s.items, a.key = k := (there_iff h k).2 (by rw [h1]; rfl)
      have hL := drop_L s.tick k h.rise
      have hg : Tab.get (Tab.del s.tab.L k) k = none := by rw [Tab.get_del h.rise, if_pos rfl]
      have hm := (Tab.get_mem h.rise.nodup).1 h1
      rw [h3, hnone { s.tick.drop k with drops := [] } (by show Tab.get (s.tick.drop k).tab.L k = none; rw [hL]; exact hg)]
      refine ⟨fun e => (by cases e), fun _ _ => ⟨rfl, ?_, ?_, rfl⟩, fun _ e => absurd hyt e⟩
      · rw [drop_drops]; show s.drops ++ [k] = _; rw [hd]; rfl
      · rw [items_len, items_len]
        show (s.tick.drop k).tab.L.length + 1 = _
        rw [hL]
        exact Tab.del_len h.rise (List.mem_map.2 ⟨_, hm, rfl⟩)
  · obtain ⟨h1, h2, h3⟩ := find_some hf
    have hyt : ∃ a ∈ s.items, a.key = k := (there_iff h k).2 (by rw [h1]; rfl)
    have hg : ({ s.tick with drops := [] } : St).find k env = (some x, ({ s.tick with drops := [] } : St).tick) := by
      unfold St.find
      show (match Tab.get s.tab.L k with | some x => _ | none => _) = _
      rw [h1]
      exact if_pos h2
    rw [h3, hg]
    exact ⟨fun _ => ⟨hyt, rfl, hd, rfl⟩, fun e => (by cases e), fun e => (by cases e)⟩
end
end Go.Proofs.YtodoglljjhdbeaaGreatDoor.Shard

/- Layer 12, plain: what a command does to a shard. -/
namespace Go.Proofs.YtodoglljjhdbeaaGreatDoor.Exec
open Go Go.Proofs.YtodoglljjhdbeaaGreatDoor.Shard

structure Cmd where
  op : Int
  key : ByteArray
  val : List UInt8
  flags : Int
  exp : Int
  cas : Int
  delta : Int
  initial : Int
  makes : Bool
  sets : Bool
structure Res where
  status : Int
  val : List UInt8
  flags : Int
  cas : Int
  ttl : Int
  number : Int
  stale : Bool
  won : Bool
  lost : Bool
deriving DecidableEq
def Cmd.arr (c : Cmd) (v : Value) : Array Value := #[.int .i64 c.op, .string c.key, v, .int .u32 c.flags, .int .i64 c.exp, .int .u64 c.cas, .int .u64 c.delta, .int .u64 c.initial, .bool c.makes, .bool c.sets]
def Res.arr (r : Res) (v : Value) : Array Value := #[.int .i64 r.status, v, .int .u32 r.flags, .int .u64 r.cas, .int .i64 r.ttl, .int .u64 r.number, .bool r.stale, .bool r.won, .bool r.lost]
def only (k : Int) : Res := ⟨k, [], 0, 0, 0, 0, false, false, false⟩
/-- The second that a time means. -/
def atS (exp now : Int) : Int := if exp = 0 then 0 else if exp < 0 then max now 1 else if exp ≤ 2592000 then IntKind.i64.wrap (max now 1 + exp) else exp
def ttlS (it : Shard.Item) (now : Int) : Int := if it.exp = 0 then -1 else if it.exp ≤ now then 0 else IntKind.i64.wrap (it.exp - now)
def view (it : Shard.Item) (env : Env) : Res := ⟨0, it.val, it.flags, it.cas, ttlS it env.now, 0, it.stale, false, false⟩
def freshI (c : Cmd) (env : Env) (v : List UInt8) (flags exp : Int) : Shard.Item := ⟨c.key, v, flags, exp, IntKind.u64.wrap (env.seq + 1), env.now, env.seq, false, false, false⟩
def storeR (it : Shard.Item) (z : Int) : Res := if z = 0 then { only 2 with cas := it.cas } else if z = 8 then only 3 else only 9
def doStore (env : Env) (it : Shard.Item) (f : Nat) (s : St) : Res × St := (storeR it (s.store f it env).1, (s.store f it env).2)
/-- The digits of a number. -/
def showS (n : Nat) : List UInt8 := Lib.decDigits n
/-- The number of digits. -/
def decS (l : List UInt8) : Option Nat := if 40 < l.length ∨ l.head? = some 43 then none else match Lib.parseUintB 64 l with
  | .ok v => some v
  | _ => none
def number (c : Cmd) (env : Env) (n : Nat) (flags exp : Int) (f : Nat) (s : St) : Res × St :=
  if (doStore env (freshI c env (showS n) flags exp) f s).1.status = 2 then ({ (doStore env (freshI c env (showS n) flags exp) f s).1 with status := 7, number := n }, (doStore env (freshI c env (showS n) flags exp) f s).2) else doStore env (freshI c env (showS n) flags exp) f s
def winI (c : Cmd) (env : Env) : Shard.Item := freshI c env [] 0 (atS c.exp env.now)
def win (c : Cmd) (env : Env) (f : Nat) (s : St) : Res × St :=
  if (doStore env (winI c env) f s).1.status = 2 then ({ view { winI c env with won := true } env with won := true }, ((doStore env (winI c env) f s).2.update { winI c env with won := true }).2) else (only 1, (doStore env (winI c env) f s).2)
/-- If the key has nothing. -/
def without (c : Cmd) (env : Env) (f : Nat) (s : St) : Res × St :=
  if c.op = 5 ∨ c.op = 6 ∨ c.op = 7 then (only 3, s)
  else if c.op = 3 ∧ c.cas ≠ 0 then (only 1, s)
  else if c.op = 3 ∨ c.op = 4 then doStore env (freshI c env c.val c.flags (atS c.exp env.now)) f s
  else if (c.op = 10 ∨ c.op = 11) ∧ c.makes = true then number c env c.initial.toNat 0 (atS c.exp env.now) f s
  else if c.op = 12 ∧ c.makes = true then win c env f s
  else (only 1, s)
def metaI (c : Cmd) (env : Env) (it : Shard.Item) : Shard.Item := if c.sets then { it with exp := atS c.exp env.now } else it
def metaS (c : Cmd) (env : Env) (it : Shard.Item) (s : St) : Res × St :=
  ({ view (metaI c env it) env with lost := it.won, won := it.stale && !it.won }, (s.update { metaI c env it with seen := true, won := it.won || it.stale }).2)
def reckon (c : Cmd) (env : Env) (it : Shard.Item) (f : Nat) (s : St) : Res × St := match decS it.val with
  | none => (only 8, s)
  | some n => if 20 < it.val.length then (only 8, s) else if c.op = 10 then number c env (IntKind.u64.wrap (n + c.delta)).toNat it.flags it.exp f s else number c env (n - min n c.delta.toNat) it.flags it.exp f s
def join (c : Cmd) (env : Env) (it : Shard.Item) (a b : List UInt8) (f : Nat) (s : St) : Res × St :=
  if 1000 < a.length + b.length then (only 9, s) else doStore env (freshI c env (a ++ b) it.flags it.exp) f s
def staleI (c : Cmd) (env : Env) (it : Shard.Item) : Shard.Item := { it with stale := true, won := false, cas := IntKind.u64.wrap (env.seq + 1), exp := if c.sets then atS c.exp env.now else it.exp }
/-- If the key has an item. -/
def withI (c : Cmd) (env : Env) (it : Shard.Item) (f : Nat) (s : St) : Res × St :=
  if c.op = 0 then (view { it with seen := true } env, (s.update { it with seen := true }).2)
  else if c.op = 1 then (view { it with seen := true, exp := atS c.exp env.now } env, (s.update { it with seen := true, exp := atS c.exp env.now }).2)
  else if c.op = 2 then (only 6, (s.update { it with exp := atS c.exp env.now }).2)
  else if c.op = 12 then metaS c env it s
  else if c.op = 4 then (only 3, s)
  else if c.cas ≠ 0 ∧ c.cas ≠ it.cas then (only 4, s)
  else if c.op = 3 ∨ c.op = 5 then doStore env (freshI c env c.val c.flags (atS c.exp env.now)) f s
  else if c.op = 6 then join c env it it.val c.val f s
  else if c.op = 7 then join c env it c.val it.val f s
  else if c.op = 9 then (only 5, (s.update (staleI c env it)).2)
  else if c.op = 8 then (only 5, (s.remove c.key).2)
  else reckon c env it f s
def keyed (op : Int) : Bool := decide (0 ≤ op ∧ op ≤ 12)
def used (s : St) (k : ByteArray) : St := { s with judge := s.judge.touch k.data.toList, order := (s.order.hit k).2 }
/-- What a command does. -/
def run (c : Cmd) (env : Env) (f : Nat) (s : St) : Res × St :=
  if c.op = 15 then (only 11, s)
  else if keyed c.op = false then (only 10, s)
  else match (s.find c.key env).1 with
    | none => without c env f (used (s.find c.key env).2 c.key)
    | some x => withI c env (s.ent x).it f (used (s.find c.key env).2 c.key)
end Go.Proofs.YtodoglljjhdbeaaGreatDoor.Exec

/- append of whatever lies behind a slice (of none of it, too) onto a row of the call's own. -/
namespace Go.Proofs.YtodoglljjhdbeaaGreatDoor.App
open Go Go.RowKit

/-- The cells ys lie behind the slice y of m elements. -/
def Src (w : World) (size : Nat) (y : Value) (m : Nat) (ys : List Value) : Prop := (y = .slice none 0 0 ∧ ys = [] ∧ m = 0) ∨
  ∃ g off c, y = .slice (some ⟨g, off, none⟩) m c ∧ ys.length = m * size ∧ g < w.heap.size ∧ ∀ j u, ys[j]? = some u → w.cell? ⟨g, off + j, none⟩ = some u
theorem Src.same {w w' : World} {size m : Nat} {y : Value} {ys : List Value} (h : Src w size y m ys) (hs : ∀ g, y.ownBlock = some g → w'.heap[g]? = w.heap[g]?) (hz : w.heap.size ≤ w'.heap.size) : Src w' size y m ys := by
  rcases h with h | ⟨g, off, c, rfl, h1, h2, h3⟩
  · exact .inl h
  · exact .inr ⟨g, off, c, rfl, h1, Nat.lt_of_lt_of_le h2 hz, fun j u hu => (World.cell?_of_block (hs g rfl)).trans (h3 j u hu)⟩
theorem Src.lt {w : World} {size m : Nat} {y : Value} {ys : List Value} (h : Src w size y m ys) : ∀ g, y.ownBlock = some g → g < w.heap.size := fun g e => by
  rcases h with ⟨rfl, _⟩ | ⟨g', off, c, rfl, _, h2, _⟩
  · cases e
  · have : g' = g := by simpa [Value.ownBlock] using e
    omega
theorem Src.below {w w' : World} {size m : Nat} {y : Value} {ys : List Value} (h : Src w size y m ys) (hb : Below w.heap.size w w') : Src w' size y m ys := h.same (fun g e => hb.block g (h.lt g e)) hb.size
theorem Src.of_row {w : World} {base size n : Nat} {e : TypeId} {v : Value} {xs : List Value} (h : w.ownsRow base e size v n xs) : Src w size v n xs := by
  rcases h.2 with ⟨e1, e2⟩ | ⟨g, cap, cur, e1, _, e2, e3, _, e4, e5⟩
  · refine .inl ⟨e1, List.eq_nil_of_length_eq_zero ?_, e2⟩
    rw [h.1, e2, Nat.zero_mul]
  · refine .inr ⟨g, 0, cap, e1, h.1, (Array.getElem?_eq_some_iff.1 e2).1, fun j u hu => ?_⟩
    rw [Nat.zero_add, Mem.row_cell e2 j]
    have hj := (List.getElem?_eq_some_iff.1 hu).1
    rw [h.1] at hj
    rw [← e5, List.getElem?_take, if_pos hj, Array.getElem?_toList] at hu
    exact hu
theorem Src.shape {w : World} {size m : Nat} {y : Value} {ys : List Value} (h : Src w size y m ys) : ∃ a c, y = .slice a m c := by
  rcases h with ⟨rfl, _, rfl⟩ | ⟨g, off, c, rfl, _⟩
  · exact ⟨none, 0, rfl⟩
  · exact ⟨_, c, rfl⟩
theorem grown_refl (w : World) (row : Option Nat) : w.grownBy w row := ⟨rfl, rfl, rfl, Nat.le_refl _, fun _ _ _ => rfl⟩
theorem addr_add (g off j : Nat) : (⟨g, off, none⟩ : Addr).add j = ⟨g, off + j, none⟩ := by
  unfold Addr.add
  by_cases h : j = 0
  · subst h; rfl
  · rw [if_neg h]
theorem own_block_lt {w : World} {base : Nat} {e : TypeId} {size n : Nat} {v : Value} {xs : List Value} (h : w.ownsRow base e size v n xs) : ∀ g, v.ownBlock = some g → base ≤ g ∧ g < w.heap.size := fun g e => by
  rcases h.2 with ⟨e1, _⟩ | ⟨g', cap, cur, e1, h2, e2, _⟩
  · rw [e1] at e; cases e
  · rw [e1] at e
    have : g' = g := by simpa [Value.ownBlock] using e
    subst this
    exact ⟨h2, (Array.getElem?_eq_some_iff.1 e2).1⟩
/-- What the second type says is that it is a slice's. -/
theorem append_types {P : Program} {t t' ty e e' : TypeId} {v y : Value} {w : World} (ht : P.underlying t = some (.slice e)) (ht' : P.underlying t' = some (.slice e')) : (Builtin.append_ #[t, t'] ty #[v, y]).run P w = (Builtin.append_ #[t, t] ty #[v, y]).run P w := by
  cases v <;> simp [Builtin.append_, run_underlying ht, run_underlying ht']
/-- at a plain region. -/
theorem wpList_append_src {P : Program} {w : World} {ops : Array Oper} {rest : List Oper} {o : Oper} {a : Act} {Q : Exit → Act → World → Prop} (s x : Operand) (t t' e e' : TypeId) (i : TypeInfo) (z : Value) (size bytes base : Nat) (v y : Value) (n m : Nat) (xs ys : List Value) (hgd : o.guard = none)
    (ho : o.op = .call { callee := .builtin .append, args := #[s, x], argTypes := #[t, t'] }) (ht : P.underlying t = some (.slice e)) (ht' : P.underlying t' = some (.slice e')) (hi : P.info? e = some i) (hz : i.zero = some z) (hsize : i.size = size) (hby : i.bytes = bytes) (hzs : z.cells.size = size) (hsz : 0 < size)
    (hs : a.eval s = v) (hx : a.eval x = y) (hown : w.ownsRow base e size v n xs) (hr : Src w size y m ys) (h1 : ∀ u ∈ ys, u.oneCell' = true) (h63 : n + m ≤ maxLen) (hbytes : (n + m) * bytes ≤ 140737488355328) (hbase : base ≤ w.heap.size)
    (hK : ∀ v' w', w'.ownsRow base e size v' (n + m) (xs ++ ys) → w.grownBy w' v.ownBlock → (v'.ownBlock = v.ownBlock ∨ v'.ownBlock = some w.heap.size) → wpList P ops Q rest (a.put o.dst v') w') :
    wpList P ops Q (o :: rest) a w := by
  have hrun0 := append_types (P := P) (ty := o.type) (v := v) (y := y) (w := w) ht ht'
  refine wpList_plain hgd fun K hKK => ?_
  rcases hr with ⟨e1, rfl, rfl⟩ | ⟨g, off, c, e1, h2, h3, h4⟩
  · have hrun := run_append_owned_none (P := P) (w := w) base t o.type e i size ht hi v n xs hown
    rw [← e1, ← hrun0] at hrun
    unfold Oper.wp
    simp [execOp, ho, resolve, invoke, builtin, hs, hx, hrun, Result.andThen]
    exact hKK _ _ (hK v w (by rw [List.append_nil]; exact hown) (grown_refl _ _) (.inl rfl))
  · obtain ⟨v', w', hrun, h5, h6, _, h7⟩ := run_append_own_at (P := P) w base t o.type e i z size bytes ht hi hz hsize hby hzs hsz v n xs hown ⟨g, off, none⟩ m c ys h2
      (fun j u hu => by rw [addr_add]; exact h4 j u hu) h1 h63 hbytes hbase
    rw [← e1, ← hrun0] at hrun
    unfold Oper.wp
    simp [execOp, ho, resolve, invoke, builtin, hs, hx, hrun, Result.andThen]
    exact hKK _ _ (hK v' w' h5 h6 h7)
end Go.Proofs.YtodoglljjhdbeaaGreatDoor.App

/- slices.Clone of bytes; an item with a value of its own. -/
namespace Go.Proofs.YtodoglljjhdbeaaGreatDoor.Shard
open Go Go.RowKit Go.Proofs.YtodoglljjhdbeaaGreatDoor.Mem Go.Proofs.YtodoglljjhdbeaaGreatDoor.App

theorem row_keep {w w' : World} {base : Nat} {e : TypeId} {size n : Nat} {v : Value} {xs : List Value} (h : w.ownsRow base e size v n xs) (hs : ∀ g, v.ownBlock = some g → w'.heap[g]? = w.heap[g]?) : w'.ownsRow base e size v n xs := by
  refine ⟨h.1, ?_⟩
  rcases h.2 with h1 | ⟨g, cap, cur, h1, h2, h3, h4⟩
  · exact .inl h1
  · exact .inr ⟨g, cap, cur, h1, h2, (hs g (by rw [h1]; rfl)).trans h3, h4⟩
def cellsB (xs : List UInt8) : List Value := xs.map fun b => .int .u8 (b.toNat : Nat)
theorem cellsB_len (xs : List UInt8) : (cellsB xs).length = xs.length := by simp [cellsB]
theorem one_cellsB (xs : List UInt8) : ∀ u ∈ cellsB xs, u.oneCell' = true := fun u hu => by
  simp only [cellsB, List.mem_map] at hu
  obtain ⟨k, _, rfl⟩ := hu
  rfl
theorem infoByte : (Tryz.prog.info? 5).map (fun i => (i.zero, i.size, i.bytes)) = some (some (.int .u8 0), 1, 1) := by kernel_rfl
/-- Bytes in a row. -/
abbrev OwnB (w : World) (base : Nat) (v : Value) (xs : List UInt8) : Prop := w.ownsRow base 5 1 v xs.length (cellsB xs)
/-- Bytes behind a slice; of none, wherever it points. -/
def SrcB (w : World) (v : Value) (xs : List UInt8) : Prop := (xs = [] ∧ ∃ a c, v = .slice (some a) 0 c) ∨ Src w 1 v xs.length (cellsB xs)
theorem SrcB.of_row {w : World} {base : Nat} {v : Value} {xs : List UInt8} (h : OwnB w base v xs) : SrcB w v xs := .inr (Src.of_row h)
theorem SrcB.shape {w : World} {v : Value} {xs : List UInt8} (h : SrcB w v xs) : ∃ a c, v = .slice a xs.length c := by
  rcases h with ⟨rfl, a, c, rfl⟩ | h
  · exact ⟨_, c, rfl⟩
  · exact h.shape
theorem SrcB.same {w w' : World} {v : Value} {xs : List UInt8} (h : SrcB w v xs) (hs : xs ≠ [] → ∀ g, v.ownBlock = some g → g < w.heap.size → w'.heap[g]? = w.heap[g]?) (hz : w.heap.size ≤ w'.heap.size) : SrcB w' v xs := by
  rcases h with h | h
  · exact .inl h
  by_cases hx : xs = []
  · subst hx
    rcases h with h | ⟨g, off, c, rfl, _⟩
    · exact .inr (.inl h)
    · exact .inl ⟨rfl, _, _, rfl⟩
  · exact .inr (h.same (fun g e => hs hx g e (h.lt g e)) hz)
theorem SrcB.below {w w' : World} {v : Value} {xs : List UInt8} (h : SrcB w v xs) (hb : Below w.heap.size w w') : SrcB w' v xs := h.same (fun _ g _ hg => hb.block g hg) hb.size
/-- append of none, at a plain region. -/
theorem wpList_append_none {P : Program} {w : World} {ops : Array Oper} {rest : List Oper} {o : Oper} {a : Act} {Q : Exit → Act → World → Prop} (s x : Operand) (t t' e e' : TypeId) (i : TypeInfo) (z : Value) (size bytes base : Nat) (v : Value) (y : Addr) (c : Nat) (n : Nat) (xs : List Value) (hgd : o.guard = none)
    (ho : o.op = .call { callee := .builtin .append, args := #[s, x], argTypes := #[t, t'] }) (ht : P.underlying t = some (.slice e)) (ht' : P.underlying t' = some (.slice e')) (hi : P.info? e = some i) (hz : i.zero = some z) (hsize : i.size = size) (hby : i.bytes = bytes) (hzs : z.cells.size = size) (hsz : 0 < size)
    (hs : a.eval s = v) (hx : a.eval x = .slice (some y) 0 c) (hown : w.ownsRow base e size v n xs) (h63 : n + 0 ≤ maxLen) (hbytes : (n + 0) * bytes ≤ 140737488355328) (hbase : base ≤ w.heap.size)
    (hK : ∀ v' w', w'.ownsRow base e size v' (n + 0) (xs ++ []) → w.grownBy w' v.ownBlock → (v'.ownBlock = v.ownBlock ∨ v'.ownBlock = some w.heap.size) → wpList P ops Q rest (a.put o.dst v') w') :
    wpList P ops Q (o :: rest) a w := by
  have hrun0 := append_types (P := P) (ty := o.type) (v := v) (y := .slice (some y) 0 c) (w := w) ht ht'
  refine wpList_plain hgd fun K hKK => ?_
  obtain ⟨v', w', hrun, h5, h6, _, h7⟩ := run_append_own_at (P := P) w base t o.type e i z size bytes ht hi hz hsize hby hzs hsz v n xs hown y 0 c [] (by simp)
    (fun j u hu => by simp at hu) (fun u hu => by simp at hu) h63 hbytes hbase
  rw [← hrun0] at hrun
  unfold Oper.wp
  simp [execOp, ho, resolve, invoke, builtin, hs, hx, hrun, Result.andThen]
  exact hKK _ _ (hK v' w' h5 h6 h7)
theorem own_empty (w : World) : (w.alloc (.cells #[] 5)).ownsRow w.heap.size 5 1 (.slice (some ⟨w.heap.size, 0, none⟩) 0 0) 0 [] :=
  ⟨rfl, .inr ⟨w.heap.size, 0, #[], rfl, Nat.le_refl _, Mem.new_block w _, Nat.le_refl _, Nat.zero_le _, rfl, rfl⟩⟩
theorem own_le (w : World) : ∀ g, (Value.slice (some ⟨w.heap.size, 0, none⟩) 0 0).ownBlock = some g → w.heap.size ≤ g := fun g e => by
  have e9 : w.heap.size = g := by simpa [Value.ownBlock] using e
  omega
set_option maxRecDepth 100000 in
theorem clone_any {w : World} {v : Value} {xs : List UInt8} (h : SrcB w v xs) (hl : xs.length ≤ 100000000) :
    Calls Tryz.prog 48 #[v] w fun e w' => ∃ v', e = .returned v' ∧ OwnB w' w.heap.size v' xs ∧ Below w.heap.size w w' := by
  obtain ⟨i0, hi, hz0, hz1, hz2⟩ := info_parts infoByte
  rcases h with ⟨rfl, ⟨g, off, sp⟩, c, rfl⟩ | h
  · have he : ∀ w : World, (binOp .eql 23 (.slice (some ⟨g, off, sp⟩) 0 c) (.slice none 0 0)).run Tryz.prog w = .ok (.bool false) w := fun _ => rfl
    go_enter Tryz.func48, Tryz.ntmps48
    go_wp2_with (at_builtin; refine wpList_append_none _ _ _ _ _ _ i0 _ 1 1 w.heap.size _ ⟨g, off, sp⟩ c 0 [] rfl rfl Tryz.underlying23 Tryz.underlying23 hi hz0 hz1 hz2 rfl (by decide) rfl rfl (own_empty w) (by unfold maxLen; omega) (by omega) (by simp) ?_; intro v3 w3 hown3 hgr3 hat3; have H3 := Lib.hid (And.intro hown3 ((Mem.al (Below.refl w.heap.size w) (.cells #[] 5)).grown hgr3 (by simp) (own_le w))); clear hown3 hgr3 hat3)
    go_ret
    exact ⟨_, rfl, H3.out.1, H3.out.2⟩
  have HH := Lib.hid h
  rcases h with ⟨rfl, e1, e2⟩ | ⟨g, off, c, rfl, e1, e2, e3⟩
  · have hx : xs = [] := List.eq_nil_of_length_eq_zero e2
    subst hx
    clear e1 e2 HH
    have he : ∀ w : World, (binOp .eql 23 (.slice none 0 0) (.slice none 0 0)).run Tryz.prog w = .ok (.bool true) w := fun _ => rfl
    go_enter Tryz.func48, Tryz.ntmps48
    go_wp2_with fail
    go_ret
    exact ⟨_, rfl, World.ownsRow_nil _ _ _ _, Below.refl _ _⟩
  · have HL := Lib.hid e2
    clear e1 e2 e3
    have he : ∀ w : World, (binOp .eql 23 (.slice (some ⟨g, off, none⟩) xs.length c) (.slice none 0 0)).run Tryz.prog w = .ok (.bool false) w := fun _ => rfl
    go_enter Tryz.func48, Tryz.ntmps48
    go_wp2_with (at_builtin; refine wpList_append_src _ _ _ _ _ _ i0 _ 1 1 w.heap.size _ _ 0 xs.length [] (cellsB xs) rfl rfl Tryz.underlying23 Tryz.underlying23 hi hz0 hz1 hz2 rfl (by decide) rfl rfl (own_empty w) (HH.out.below (Mem.al (Below.refl _ _) _)) (one_cellsB _) (by unfold maxLen; omega) (by omega) (by simp) ?_; intro v3 w3 hown3 hgr3 hat3; have H3 := Lib.hid (And.intro hown3 ((Mem.al (Below.refl w.heap.size w) (.cells #[] 5)).grown hgr3 (by simp) (own_le w))); clear hown3 hgr3 hat3)
    go_ret
    have hq := H3.out.1
    rw [Nat.zero_add, List.nil_append] at hq
    exact ⟨_, rfl, hq, H3.out.2⟩
theorem item_size (it : Item) (v : Value) : (Tryz.prog.info? 55).map (·.size) = some (it.arr v).size := by
  rw [show (it.arr v).size = 10 from rfl]; kernel_rfl
theorem item_one (it : Item) {w : World} {base : Nat} {v : Value} (h : OwnB w base v it.val) : (it.arr v).all (·.oneCell') = true := by
  unfold Item.arr
  rw [List.all_toArray]
  rcases h.2 with ⟨e, _⟩ | ⟨g, cap, cur, e, _⟩ <;> rw [e] <;> simp [Value.oneCell']
def zeroI : Array Value := #[.string ⟨#[]⟩, .slice none 0 0, .int .u32 0, .int .i64 0, .int .u64 0, .int .i64 0, .int .u64 0, .bool false, .bool false, .bool false]
set_option maxRecDepth 100000 in
theorem owned_any {w : World} {v : Value} (it : Item) (h : SrcB w v it.val) (hl : it.val.length ≤ 100000000) :
    Calls Tryz.prog 29 #[.agg (it.arr v)] w fun e w' => ∃ v', e = .returned (.agg (it.arr v')) ∧ OwnB w' w.heap.size v' it.val ∧ Below w.heap.size w w' := by
  have hb2 : Below w.heap.size w ((w.alloc (.cells (it.arr v) 55)).alloc (.cells zeroI 55)) := Mem.al (Mem.al (Below.refl _ _) _) _
  have n1 : ((w.alloc (.cells (it.arr v) 55)).alloc (.cells zeroI 55)).heap[w.heap.size]? = some (.cells (it.arr v) 55 (0, 0)) := Mem.new_later (Mem.new_block w _) _
  have n2 : ((w.alloc (.cells (it.arr v) 55)).alloc (.cells zeroI 55)).heap[w.heap.size + 1]? = some (.cells zeroI 55 (0, 0)) := Mem.new_block2 w _ _
  have hcl := clone_any (h.below hb2) hl
  have hsz : ((w.alloc (.cells (it.arr v) 55)).alloc (.cells zeroI 55)).heap.size = w.heap.size + 2 := by simp
  have HB := Lib.hid hb2
  have HN := Lib.hid (And.intro n1 (And.intro n2 hsz))
  clear hb2 n1 n2 h hsz
  unfold Item.arr zeroI at hcl
  unfold Item.arr
  go_enter Tryz.func29, Tryz.ntmps29
  go_wp2_with fail
  refine hcl.mono ?_
  rintro e w2 ⟨v0, rfl, hown, hb⟩
  obtain ⟨ya, yc, hv'⟩ := Src.shape (Src.of_row hown)
  subst hv'
  have m1 : w2.heap[w.heap.size]? = some (.cells (it.arr v) 55 (0, 0)) := (hb.block _ (by simp; omega)).trans HN.out.1
  have m2 : w2.heap[w.heap.size + 1]? = some (.cells zeroI 55 (0, 0)) := (hb.block _ (by simp)).trans HN.out.2.1
  have c1 : w2.cell? ⟨w.heap.size, 1, none⟩ = some v := Mem.row_cell m1 1
  have f1 := Mem.row_free m1 1
  have k1 : (w2.setCell ⟨w.heap.size, 1, none⟩ (.slice ya it.val.length yc)).heap[w.heap.size]? = some (.cells (it.arr (.slice ya it.val.length yc)) 55 (0, 0)) := Mem.row_set m1 1 _
  have k2 : (w2.setCell ⟨w.heap.size, 1, none⟩ (.slice ya it.val.length yc)).heap[w.heap.size + 1]? = some (.cells zeroI 55 (0, 0)) := (Below.heap_setCell _ _ _ _ (by simp)).trans m2
  have HM := Lib.hid (And.intro hown (And.intro hb (And.intro k1 k2)))
  clear hcl hown hb m1 m2 k1 k2
  go_wp2_with (first
    | (refine wpList_store_row rfl 55 _ _ rfl (w.heap.size + 1) (it.arr (.slice ya it.val.length yc)) rfl rfl 55 zeroI HM.out.2.2.2 (item_size it _) rfl (item_one it HM.out.1) ?_)
    | (refine wpList_load_row rfl 55 _ rfl w.heap.size rfl 55 (it.arr (.slice ya it.val.length yc)) (0, 0) _ HM.out.2.2.1 Tryz.underlying55 rfl (item_size it _) ?_)
    | fail)
  obtain ⟨hown, hb, k1, k2⟩ := HM.out
  have hrow := setRow_heap _ _ _ (it.arr (.slice ya it.val.length yc)) _ _ k2
  refine bodyPost_ret (results_cell_row Tryz.results29 _ _ (w.heap.size + 1) _ _ _ _ rfl hrow Tryz.underlying55 rfl (item_size it _)) rfl ?_
  have hfar : ∀ g, (Value.slice ya it.val.length yc).ownBlock = some g → w.heap.size + 2 ≤ g := fun g e => by
    have := (own_block_lt hown g e).1
    simp at this; omega
  refine ⟨_, rfl, ?_, below_setRow ((HB.out.trans (hb.mono (by simp; omega))).setCell (p := ⟨w.heap.size, 1, none⟩) (Nat.le_refl _) _) (by omega) _⟩
  have hle := Mem.row_less hown (show w.heap.size ≤ _ by simp; omega)
  refine row_keep hle fun g e => ?_
  have := hfar g e
  exact (setRow_other _ _ _ _ (by omega)).trans (Below.heap_setCell _ _ _ _ (by show g ≠ w.heap.size; omega))
end Go.Proofs.YtodoglljjhdbeaaGreatDoor.Shard

