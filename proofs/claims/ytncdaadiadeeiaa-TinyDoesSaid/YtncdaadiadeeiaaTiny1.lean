/- Layer 6: a judge of a filter and a sketch; the walks over New, Touch, Worth, Admit. -/
import Derived.Test.YtncdaadiadeeiaaSketch4
import Derived.Test.YtncdaadiadeeiaaBloom4
namespace Go.Proofs.Ytncdaadiadeeiaa.Tiny
open Go Go.RowKit Go.Proofs.Ytncdaadiadeeiaa.Mem

theorem ret_int {k : IntKind} {a b : Int} (h : a = b) : Ending.returned (.int k a) = .returned (.int k b) := by rw [h]
structure St where
  f : Bloom.St
  c : Sketch.St
def new (seed : Int) : St := ⟨Bloom.new seed, Sketch.new (IntKind.u64.wrap (seed + 1))⟩
def St.touch (j : St) (s : List UInt8) : St :=
  if j.f.has s then (if (j.c.add s).1 then ⟨(j.f.add s).clear, (j.c.add s).2⟩ else ⟨j.f.add s, (j.c.add s).2⟩) else ⟨j.f.add s, j.c⟩
def St.worth (j : St) (s : List UInt8) : Nat := j.c.count s + if j.f.has s then 1 else 0
def St.admit (j : St) (s t : List UInt8) : Bool := decide (j.worth t < j.worth s)

/-- A judge in a run that began at W: its block, its filter's, its sketch's. -/
structure Run (W w : World) (b fb cb : Nat) (j : St) : Prop where
  blk : w.heap[b]? = some (.cells #[.pointer (some ⟨fb, 0, none⟩), .pointer (some ⟨cb, 0, none⟩)] 82 (0, 0))
  low : W.heap.size ≤ b
  f : Bloom.Run W w fb j.f
  c : Sketch.Run W w cb j.c
  ne : fb ≠ cb
  nf : b ≠ fb
  nc : b ≠ cb
section
variable {W w w' : World} {b fb cb : Nat} {j : St}
theorem Run.below (h : Run W w b fb cb j) : Below W.heap.size W w := h.f.below
theorem Run.lt (h : Run W w b fb cb j) : b < w.heap.size ∧ fb < w.heap.size ∧ cb < w.heap.size := ⟨(Array.getElem?_eq_some_iff.1 h.blk).1, h.f.at_.lt, h.c.at_.lt⟩
theorem Run.step (h : Run W w b fb cb j) (hb : Below w.heap.size w w') : Run W w' b fb cb j := ⟨(hb.block b h.lt.1).trans h.blk, h.low, h.f.step hb, h.c.step hb, h.ne, h.nf, h.nc⟩
/-- Something of another one's was turned. -/
theorem Run.other {F : Nat → Prop} (h : Run W w b fb cb j) (ho : Only F w w') (hF : ∀ k, F k → (b ≠ k ∧ fb ≠ k ∧ cb ≠ k) ∧ W.heap.size ≤ k) : Run W w' b fb cb j :=
  ⟨(ho.same b h.lt.1 (fun e => (hF _ e).1.1 rfl)).trans h.blk, h.low, h.f.other ho (fun k e => ⟨(hF k e).1.2.1, (hF k e).2⟩), h.c.other ho (fun k e => ⟨(hF k e).1.2.2, (hF k e).2⟩), h.ne, h.nf, h.nc⟩
theorem Run.turnF {f' : Bloom.St} (h : Run W w b fb cb j) (hf : Bloom.Run W w' fb f') (ho : Only (fun k => k = fb) w w') : Run W w' b fb cb ⟨f', j.c⟩ :=
  ⟨(ho.same b h.lt.1 h.nf).trans h.blk, h.low, hf, h.c.other ho (fun k e => by subst e; exact ⟨fun e => h.ne e.symm, h.f.low⟩), h.ne, h.nf, h.nc⟩
theorem Run.turnC {c' : Sketch.St} (h : Run W w b fb cb j) (hc : Sketch.Run W w' cb c') (ho : Only (fun k => k = cb) w w') : Run W w' b fb cb ⟨j.f, c'⟩ :=
  ⟨(ho.same b h.lt.1 h.nc).trans h.blk, h.low, h.f.other ho (fun k e => by subst e; exact ⟨h.ne, h.c.low⟩), hc, h.ne, h.nf, h.nc⟩
end

theorem sketch_new {seed : Int} (h0 : 0 ≤ seed ∧ seed ≤ 18446744073709551615) {W w : World} (hb : Below W.heap.size W w) : Calls Try.prog 20 #[.int .u64 seed] w fun e w' =>
    ∃ b : Nat, e = .returned (.pointer (some ⟨b, 0, none⟩)) ∧ Sketch.Run W w' b (Sketch.new seed) ∧ w.heap.size ≤ b ∧ Below w.heap.size w w' :=
  (Sketch.new_gives seed w).mono fun _ _ ⟨b, he, ha, hl, hw⟩ => ⟨b, he, ⟨ha, Nat.le_trans hb.size hl, Mem.tr hb hw, Sketch.Ok.new h0.1 (by omega)⟩, hl, hw⟩
set_option maxHeartbeats 400000 in
theorem new_run {seed : Int} (h0 : 0 ≤ seed ∧ seed ≤ 18446744073709551615) {W w : World} (hb : Below W.heap.size W w) : Calls Try.prog 39 #[.int .u64 seed] w fun e w' =>
    ∃ b fb cb : Nat, e = .returned (.pointer (some ⟨b, 0, none⟩)) ∧ Run W w' b fb cb (new seed) ∧ Below w.heap.size w w' ∧ (w.heap.size ≤ b ∧ w.heap.size ≤ fb ∧ w.heap.size ≤ cb) := by
  have hw := Hash.wrap_range (seed + 1)
  have hw' : 0 ≤ IntKind.u64.wrap (seed + 1) ∧ IntKind.u64.wrap (seed + 1) ≤ 18446744073709551615 := ⟨hw.1, by omega⟩
  go_enter Try.func39, Try.ntmps39
  go_wp2_with fail
  refine (Bloom.new_run h0 hb).mono ?_
  rintro e w1 ⟨fb, rfl, hf, hlf, hb1⟩
  have H1 := Lib.hid (And.intro hf (And.intro hlf hb1))
  clear hf hlf hb1
  go_wp2_with fail
  refine (sketch_new hw' H1.out.1.below).mono ?_
  rintro e w2 ⟨cb, rfl, hc, hlc, hb2⟩
  have H2 := Lib.hid (And.intro hc (And.intro hlc hb2))
  clear hc hlc hb2
  go_wp2_with fail
  go_ret
  have hlc := H2.out.1.at_.lt
  have hlf := H1.out.1.at_.lt
  have h21 := H2.out.2.1
  have hz1 := H1.out.2.2.size
  have hz2 := H2.out.2.2.size
  exact ⟨_, fb, cb, rfl, ⟨Mem.new_block w2 _, by have := H2.out.1.below.size; omega, (H1.out.1.step H2.out.2.2).step (Mem.al (Below.refl _ _) _), H2.out.1.step (Mem.al (Below.refl _ _) _), by omega, by omega, by omega⟩,
    Mem.al (Mem.tr H1.out.2.2 H2.out.2.2) _, by omega, H1.out.2.1, by omega⟩

set_option maxHeartbeats 1000000 in
theorem touch_run {W w : World} {b fb cb : Nat} {j : St} (h : Run W w b fb cb j) (s : ByteArray) (hs : s.size ≤ maxLen) : Calls Try.prog 40 #[.pointer (some ⟨b, 0, none⟩), .string s] w fun e w' =>
    e = .returned (.tuple #[]) ∧ Run W w' b fb cb (j.touch s.data.toList) ∧ Only (fun k => k = fb ∨ k = cb) w w' := by
  have H := Lib.hid h
  have c0 : w.cell? ⟨b, 0, none⟩ = some (.pointer (some ⟨fb, 0, none⟩)) := Mem.row_cell h.blk 0
  clear h
  obtain ⟨q, hq⟩ : ∃ q, j.f.has s.data.toList = q := ⟨_, rfl⟩
  have HQ := Lib.hid hq
  clear hq
  go_enter Try.func40, Try.ntmps40
  go_wp2_with fail
  refine (Bloom.add_run H.out.f s hs).mono ?_
  rintro e w1 ⟨rfl, hf, ho⟩
  rw [HQ.out]
  have H1 := Lib.hid (And.intro (H.out.turnF hf ho) ho)
  clear hf ho c0
  have c1 : w1.cell? ⟨b, 1, none⟩ = some (.pointer (some ⟨cb, 0, none⟩)) := Mem.row_cell H1.out.1.blk 1
  cases q
  · clear c1
    go_wp2_with fail
    go_end0
    refine ⟨rfl, ?_, H1.out.2.mono fun k e => .inl e⟩
    unfold St.touch
    rw [HQ.out, if_neg (by decide)]
    exact H1.out.1
  obtain ⟨v, hv⟩ : ∃ v, (j.c.add s.data.toList).1 = v := ⟨_, rfl⟩
  have HV := Lib.hid hv
  clear hv
  go_wp2_with fail
  refine (Sketch.add_run H1.out.1.c s hs).mono ?_
  rintro e w2 ⟨rfl, hc, ho⟩
  rw [HV.out]
  have H2 := Lib.hid (And.intro (H1.out.1.turnC hc ho) (H1.out.2.mono (F' := fun k => k = fb ∨ k = cb) (fun k e => .inl e) |>.trans (ho.mono (F' := fun k => k = fb ∨ k = cb) fun k e => .inr e) (Grows.refl _ _)))
  clear hc ho c1
  have c0 : w2.cell? ⟨b, 0, none⟩ = some (.pointer (some ⟨fb, 0, none⟩)) := Mem.row_cell H2.out.1.blk 0
  cases v
  · clear c0
    go_wp2_with fail
    go_end0
    refine ⟨rfl, ?_, H2.out.2⟩
    unfold St.touch
    rw [HQ.out, if_pos rfl, HV.out, if_neg (by decide)]
    exact H2.out.1
  go_wp2_with fail
  refine (Bloom.clear_run H2.out.1.f).mono ?_
  rintro e w3 ⟨rfl, hf, ho⟩
  have H3 := Lib.hid (And.intro (H2.out.1.turnF hf ho) (H2.out.2.trans (ho.mono (F' := fun k => k = fb ∨ k = cb) fun k e => .inl e) (Grows.refl _ _)))
  clear hf ho c0
  go_wp2_with fail
  go_end0
  refine ⟨rfl, ?_, H3.out.2⟩
  unfold St.touch
  rw [HQ.out, if_pos rfl, HV.out, if_pos rfl]
  exact H3.out.1

set_option maxHeartbeats 1000000 in
theorem worth_run {W w : World} {b fb cb : Nat} {j : St} (h : Run W w b fb cb j) (s : ByteArray) (hs : s.size ≤ maxLen) : Calls Try.prog 41 #[.pointer (some ⟨b, 0, none⟩), .string s] w fun e w' =>
    e = .returned (.int .i64 (j.worth s.data.toList : Nat)) ∧ Run W w' b fb cb j ∧ Below w.heap.size w w' := by
  have H := Lib.hid h
  have c1 : w.cell? ⟨b, 1, none⟩ = some (.pointer (some ⟨cb, 0, none⟩)) := Mem.row_cell h.blk 1
  clear h
  obtain ⟨q, hq⟩ : ∃ q, j.f.has s.data.toList = q := ⟨_, rfl⟩
  have h15 : j.c.count s.data.toList ≤ 15 := Sketch.cnt_le15 _ _ _ _
  obtain ⟨n, hn⟩ : ∃ n, j.c.count s.data.toList = n := ⟨_, rfl⟩
  rw [hn] at h15
  have HQ := Lib.hid (And.intro hq hn)
  clear hq hn
  go_enter Try.func41, Try.ntmps41
  go_wp2_with fail
  refine (Sketch.count_run H.out.c s hs).mono ?_
  rintro e w1 ⟨rfl, -, hb1⟩
  rw [HQ.out.2]
  have H1 := Lib.hid (And.intro (H.out.step hb1) hb1)
  clear hb1 c1
  have c0 : w1.cell? ⟨b, 0, none⟩ = some (.pointer (some ⟨fb, 0, none⟩)) := Mem.row_cell H1.out.1.blk 0
  go_wp2_with fail
  refine (Bloom.has_run H1.out.1.f s hs).mono ?_
  rintro e w2 ⟨rfl, -, hb2⟩
  rw [HQ.out.1]
  have H2 := Lib.hid (And.intro (H1.out.1.step hb2) (Mem.tr H1.out.2 hb2))
  clear hb2 c0
  cases q
  · go_wp2_with fail
    go_ret
    exact ⟨ret_int (by unfold St.worth; rw [HQ.out.1, HQ.out.2]; rfl), H2.out⟩
  · go_wp2_with fail
    go_ret
    exact ⟨ret_int (by unfold St.worth; rw [HQ.out.1, HQ.out.2]; rfl), H2.out⟩
theorem admit_run {W w : World} {b fb cb : Nat} {j : St} (h : Run W w b fb cb j) (s t : ByteArray) (hs : s.size ≤ maxLen) (ht : t.size ≤ maxLen) : Calls Try.prog 42 #[.pointer (some ⟨b, 0, none⟩), .string s, .string t] w fun e w' =>
    e = .returned (.bool (j.admit s.data.toList t.data.toList)) ∧ Run W w' b fb cb j ∧ Below w.heap.size w w' := by
  have H := Lib.hid h
  clear h
  obtain ⟨n, hn⟩ : ∃ n, j.worth s.data.toList = n := ⟨_, rfl⟩
  obtain ⟨m, hm⟩ : ∃ m, j.worth t.data.toList = m := ⟨_, rfl⟩
  have HQ := Lib.hid (And.intro hn hm)
  clear hn hm
  go_enter Try.func42, Try.ntmps42
  go_wp2_with fail
  refine (worth_run H.out s hs).mono ?_
  rintro e w1 ⟨rfl, hR1, hb1⟩
  rw [HQ.out.1]
  have H1 := Lib.hid (And.intro hR1 hb1)
  clear hR1 hb1
  go_wp2_with fail
  refine (worth_run H1.out.1 t ht).mono ?_
  rintro e w2 ⟨rfl, hR2, hb2⟩
  rw [HQ.out.2]
  have H2 := Lib.hid (And.intro hR2 (Mem.tr H1.out.2 hb2))
  clear hR2 hb2
  go_wp2_with fail
  go_ret
  refine ⟨?_, H2.out⟩
  unfold St.admit
  rw [HQ.out.1, HQ.out.2]
  rfl
end Go.Proofs.Ytncdaadiadeeiaa.Tiny
