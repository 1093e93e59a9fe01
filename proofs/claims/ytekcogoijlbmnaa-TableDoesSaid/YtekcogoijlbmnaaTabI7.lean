/- Layer 9: find, Get. -/
import Derived.Test.YtekcogoijlbmnaaTabI6
namespace Go.Proofs.Ytekcogoijlbmnaa.TabI
open Go Go.RowKit Go.Proofs.Ytekcogoijlbmnaa.Mem Go.Proofs.Ytekcogoijlbmnaa.Tab

def FindPost (w : World) (b : Nat) (F : Nat → Prop) (seed : Int) (c : Con V) (many : Nat) (ea : Option Addr) (eb nb : Nat) (k : ByteArray) (e : Ending) (w' : World) : Prop :=
  ∃ F' gv, e = .returned (.tuple #[.pointer (some (adr c eb nb (c.idx (hN seed) k))), .int .i64 (pos (c.bs (c.idx (hN seed) k)) k)]) ∧ Mid w F w' b F' seed c many ea eb nb gv
theorem Fits.step {n : Nat} {seed : Int} {c : Con V} {L : Pairs V} (h : Fits n seed c L) : Fits n seed (c.step (hN seed)) L := by
  obtain ⟨e1, e2, _⟩ := step_shape (H := hN seed) c
  exact ⟨h.s0, h.s1, h.abs.step, by rw [e1]; exact h.E, by rw [e2]; exact h.N, h.len, h.n, h.keys⟩
set_option maxHeartbeats 1000000 in
theorem find_any {w : World} {b : Nat} {F : Nat → Prop} {seed : Int} {c : Con V} {many : Nat} {ea : Option Addr} {eb nb n : Nat} {gv : Nat → Value} {L : Pairs V} (h : AtW w b F seed c many ea eb nb gv) (hf : Fits n seed c L) (k : ByteArray) (hk : k.size ≤ maxLen) :
    Calls Try.prog 24 #[.pointer (some ⟨b, 0, none⟩), .string k] w (FindPost w b F seed (c.step (hN seed)) many ea eb nb k) := by
  have hb1 : Below w.heap.size w (w.alloc (.cells #[.string k] 9)) := Mem.al (Below.refl _ _) _
  have n0 := Mem.new_block w (.cells #[.string k] 9)
  have h1 := h.below hb1
  have hcall := step_any h1 hf
  have hlt := h.lt
  have HW := Lib.hid (And.intro hb1 (And.intro n0 hlt))
  clear h hb1 n0 hlt h1
  unfold StepPost at hcall
  go_enter Try.func24, Try.ntmps24
  go_wp2_with fail
  refine hcall.mono ?_
  rintro e w1 ⟨F1, gv1, rfl, hm⟩
  have hs := hf.step
  have hidx := hs.abs.idx_lt k
  have hkb : w1.cell? ⟨w.heap.size, 0, none⟩ = some (.string k) := by
    have := hm.only.same w.heap.size (by simp) (fun e => by have := HW.out.2.2 _ e; omega)
    exact (World.cell?_of_block this).trans (Mem.row_cell HW.out.2.1 0)
  have hkbl : w.heap.size < w1.heap.size := by have := hm.only.size; simp at this; omega
  have hof := fun d => of_any (hm.at_.same (w' := w1.drewN d) (fun _ _ => rfl) (Nat.le_refl _)) hs.s0 hs.s1 k hk hs.abs.le hs.abs.pos hs.E hs.N
  replace hof := hof 0
  unfold OfAt at hof
  obtain ⟨g, i, hadr, _, cg, _, _, _⟩ := hm.at_.loc hidx
  rw [hadr] at hof
  have hrow := hm.at_.rows _ hidx
  have hbl := bs_len hs.abs ((c.step (hN seed)).idx (hN seed) k)
  have hl1 := hs.len
  have hl2 := hs.n
  have hix : ∀ d, Calls Try.prog 31 #[gv1 ((c.step (hN seed)).idx (hN seed) k), .func (.func 32) #[] #[.pointer (some ⟨w.heap.size, 0, none⟩)]] (w1.drewN d) fun e w' => e = .returned (.int .i64 (pos ((c.step (hN seed)).bs ((c.step (hN seed)).idx (hN seed) k)) k)) ∧ Below w1.heap.size (w1.drewN d) w' := fun d =>
    index_any (w := w1.drewN d) (row_same hrow fun _ _ => rfl) (by omega) hkbl hkb
  have hfin : ∀ w2 d, Below w1.heap.size (w1.drewN d) w2 → FindPost w b F seed (c.step (hN seed)) many ea eb nb k (.returned (.tuple #[.pointer (some ⟨g, i, none⟩), .int .i64 (pos ((c.step (hN seed)).bs ((c.step (hN seed)).idx (hN seed) k)) k)])) w2 := fun w2 d hb2 => by
    have hb3 : Below w1.heap.size w1 w2 := (Mem.dn (Below.refl _ w1) d).trans (hb2.mono (Nat.le_refl _))
    refine ⟨F1, gv1, by rw [hadr], hm.at_.below hb3, ?_, fun j hj => (hm.grows j hj).imp id (fun e => by simp at e; omega)⟩
    exact ((Only.of_below (F := F) HW.out.1 (fun k h1 h2 => by omega)).trans hm.only (Grows.refl _ _)).trans (Only.of_below (F := F) hb3 (fun k h1 h2 => by omega)) (Grows.refl _ _)
  have HF := Lib.hid hfin
  obtain ⟨v0, hv0⟩ : ∃ v0, gv1 ((c.step (hN seed)).idx (hN seed) k) = v0 := ⟨_, rfl⟩
  obtain ⟨ps, hps⟩ : ∃ ps, pos ((c.step (hN seed)).bs ((c.step (hN seed)).idx (hN seed) k)) k = ps := ⟨_, rfl⟩
  rw [hv0] at cg hix
  rw [hps] at hix HF
  clear hcall hm hs hidx hadr hrow hbl hl1 hl2 hfin hv0 hps hkbl
  obtain ⟨kb, hkbe⟩ : ∃ kb, w.heap.size = kb := ⟨_, rfl⟩
  rw [hkbe] at hkb hix ⊢
  clear hkbe
  go_wp2_with fail
  refine hof.mono ?_
  rintro e w2 ⟨rfl, d, rfl⟩
  clear hof
  have cg2 : (w1.drewN d).cell? ⟨g, i, none⟩ = some v0 := cg
  have hcall := hix (0 + d)
  go_wp2_with fail
  refine (hix _).mono ?_
  rintro e w3 ⟨rfl, hb3⟩
  have HR := Lib.hid (HF.out _ _ hb3)
  clear hb3 hix hcall
  go_wp2_with fail
  go_ret2
  exact HR.out

/-- Found, or not. -/
theorem pos_cases {n : Nat} {seed : Int} {c : Con V} {L : Pairs V} (h : Fits n seed c L) (k : ByteArray) : (Tab.get L k = none ∧ k ∉ L.map (·.1) ∧ pos (c.bs (c.idx (hN seed) k)) k = -1) ∨
    ∃ (i : Nat) (u : V), (c.bs (c.idx (hN seed) k))[i]? = some (k, u) ∧ pos (c.bs (c.idx (hN seed) k)) k = i ∧ Tab.get L k = some u ∧ k ∈ L.map (·.1) := by
  by_cases hm : k ∈ L.map (·.1)
  · obtain ⟨i, u, h1, h2⟩ := pos_some (h.abs.nd _) ((h.abs.find k).2 hm)
    exact .inr ⟨i, u, h1, h2, (get_mem h.abs.rise.nodup).2 ((h.abs.mem (k, u)).2 (List.mem_of_getElem? h1)), hm⟩
  · exact .inl ⟨get_none.2 hm, hm, pos_none fun e => hm ((h.abs.find k).1 e)⟩
def TurnPost (w : World) (b : Nat) (F : Nat → Prop) (seed : Int) (s : St V) (v : Value) (e : Ending) (w' : World) : Prop := ∃ F', e = .returned v ∧ At w' b F' seed s ∧ Only F w w' ∧ Grows w F F'
/-- What a table asks of its numbers. -/
structure Sm (n : Nat) (seed : Int) (s : St V) : Prop where
  s0 : 0 ≤ seed
  s1 : seed < 18446744073709551616
  len : s.L.length ≤ n
  nle : n ≤ 1000000000
  bk : s.buckets ≤ 8 + n
theorem Sm.fits {n : Nat} {seed : Int} {s : St V} {c : Con V} (h : Sm n seed s) (ha : Abs (hN seed) c s.L) (hE : c.E ≤ c.N) (hN : c.N = s.buckets) (hk : ∀ p ∈ s.L, p.1.size ≤ maxLen) : Fits n seed c s.L := by
  have := h.bk
  have := h.nle
  exact ⟨h.s0, h.s1, ha, by omega, by omega, h.len, h.nle, hk⟩
theorem Mid.done {w w' : World} {F F' : Nat → Prop} {b : Nat} {seed : Int} {c : Con V} {ea : Option Addr} {eb nb : Nat} {gv : Nat → Value} {s : St V} {many : Nat} (h : Mid w F w' b F' seed c many ea eb nb gv) (hm : many = s.L.length) (ha : Abs (hN seed) c s.L) (hE : c.E ≤ c.N) (h1 : c.N = s.buckets) (h2 : c.left = s.left) (hk : ∀ p ∈ s.L, p.1.size ≤ maxLen) {v : Value} : TurnPost w b F seed s v (.returned v) w' := by
  subst hm
  exact ⟨F', rfl, ⟨c, ea, eb, nb, gv, h.at_, ha, hE, h1, h2, hk⟩, h.only, h.grows⟩
def getV (L : Pairs V) (k : ByteArray) : Value := match Tab.get L k with
  | some v => .tuple #[(.int .i64 v), .bool true]
  | none => .tuple #[(.int .i64 0), .bool false]
set_option maxHeartbeats 1000000 in
theorem get_any {w : World} {b : Nat} {F : Nat → Prop} {seed : Int} {s : St V} {n : Nat} (h : At w b F seed s) (hs : Sm n seed s) (k : ByteArray) (hk : k.size ≤ maxLen) :
    Calls Try.prog 12 #[.pointer (some ⟨b, 0, none⟩), .string k] w (TurnPost w b F seed s.tick (getV s.L k)) := by
  obtain ⟨c, ea, eb, nb, gv, hat, ha, hE, hcN, hcl, hks⟩ := h
  have hf := hs.fits ha hE hcN hks
  have hcall := find_any hat hf k hk
  obtain ⟨q1, q2, q3⟩ := step_shape (H := hN seed) c
  have hpos := pos_cases hf.step k
  have hfin : ∀ w' F' gv', Mid w F w' b F' seed (c.step (hN seed)) s.L.length ea eb nb gv' → ∀ v, TurnPost w b F seed s.tick v (.returned v) w' := fun w' F' gv' hm v =>
    hm.done (s := s.tick) rfl ha.step (by rw [q1, q2]; exact hE) (q2.trans hcN) (by rw [q3, hcl]; rfl) hks
  have hbs := fun k => bs_len hf.step.abs k
  have hL := hf.len
  have hLn := hf.n
  have hidx := hf.step.abs.idx_lt k
  unfold FindPost at hcall
  unfold getV
  rcases hpos with ⟨hg, -, hp⟩ | ⟨i, u, hi, hp, hg, -⟩
  · rw [hp] at hcall
    simp only [hg]
    have HF := Lib.hid hfin
    obtain ⟨ad, had⟩ : ∃ ad, adr (c.step (hN seed)) eb nb ((c.step (hN seed)).idx (hN seed) k) = ad := ⟨_, rfl⟩
    rw [had] at hcall
    clear hat ha hE hcN hcl hks hf q1 q2 q3 hp hg hfin hbs hL hLn had hidx
    go_enter Try.func12, Try.ntmps12
    go_wp2_with fail
    refine hcall.mono ?_
    rintro e w1 ⟨F1, gv1, rfl, hm⟩
    have HR := Lib.hid (HF.out _ _ _ hm)
    clear hm hcall
    go_wp2_with fail
    go_ret2
    exact HR.out _
  · rw [hp] at hcall
    simp only [hg]
    have hil := (List.getElem?_eq_some_iff.1 hi).1
    have hil2 := hbs ((c.step (hN seed)).idx (hN seed) k)
    have HF := Lib.hid (And.intro hfin (And.intro hi hidx))
    have hi1 : (i : Int) < ((c.step (hN seed)).bs ((c.step (hN seed)).idx (hN seed) k)).length := by omega
    obtain ⟨n1, hn1⟩ : ∃ n1, ((c.step (hN seed)).bs ((c.step (hN seed)).idx (hN seed) k)).length = n1 := ⟨_, rfl⟩
    rw [hn1] at hi1
    have HN := Lib.hid hn1
    have hi2 : (i : Int) ≤ 1000000000 := by omega
    clear hat ha hE hcN hcl hks hf q1 q2 q3 hp hg hfin hbs hL hLn hil hil2 hn1 hi hidx
    go_enter Try.func12, Try.ntmps12
    go_wp2_with fail
    refine hcall.mono ?_
    rintro e w1 ⟨F1, gv1, rfl, hm⟩
    obtain ⟨g, j, hadr, _, cg, _, _, _⟩ := hm.at_.loc HF.out.2.2
    rw [hadr]
    obtain ⟨g2, cap, e2, _, _, c2⟩ := own_get (hm.at_.rows _ HF.out.2.2) HF.out.2.1
    rw [e2, HN.out] at cg
    have HR := Lib.hid (HF.out.1 _ _ _ hm)
    clear hm hcall hadr e2
    go_wp2_with fail
    go_ret2
    exact HR.out _
end Go.Proofs.Ytekcogoijlbmnaa.TabI
