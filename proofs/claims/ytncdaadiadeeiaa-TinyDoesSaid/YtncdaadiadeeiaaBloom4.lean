/- Layer 4's statements: the chapter's example, short, a filter in a run. -/
import Derived.Test.YtncdaadiadeeiaaBloom3
import Derived.Test.YtncdaadiadeeiaaOp4
namespace Go.Proofs.Ytncdaadiadeeiaa.Bloom
open Go Go.RowKit Go.Proofs.Ytncdaadiadeeiaa.Mem Go.Proofs.Ytncdaadiadeeiaa.Ops

/-- A filter in a run that began at W. -/
structure Run (W w : World) (b : Nat) (k : St) : Prop where
  at_ : At w b k
  low : W.heap.size ≤ b
  below : Below W.heap.size W w
  ok : Ok k
section
variable {W w w' : World} {b : Nat} {k : St}
theorem At.lt (h : At w b k) : b < w.heap.size := (Array.getElem?_eq_some_iff.1 h).1
theorem At.below (h : At w b k) (hb : Below w.heap.size w w') : At w' b k := (hb.block b h.lt).trans h
theorem At.only (h : At w b k) {F : Nat → Prop} (ho : Only F w w') (hF : ¬ F b) : At w' b k := (ho.same b h.lt hF).trans h
theorem Run.step (h : Run W w b k) (hb : Below w.heap.size w w') : Run W w' b k := ⟨h.at_.below hb, h.low, Mem.tr h.below hb, h.ok⟩
theorem Run.turn {k' : St} (h : Run W w b k) (ha : At w' b k') (ho : Only (fun j => j = b) w w') (hk : Ok k') : Run W w' b k' :=
  ⟨ha, h.low, h.below.trans (ho.below h.below.size (fun _ e => e ▸ h.low)), hk⟩
theorem Run.other {F : Nat → Prop} (h : Run W w b k) (ho : Only F w w') (hF : ∀ j, F j → b ≠ j ∧ W.heap.size ≤ j) : Run W w' b k :=
  ⟨h.at_.only ho (fun e => (hF _ e).1 rfl), h.low, h.below.trans (ho.below h.below.size (fun _ e => (hF _ e).2)), h.ok⟩
end
theorem new_run {seed : Int} (h0 : 0 ≤ seed ∧ seed ≤ 18446744073709551615) {W w : World} (hb : Below W.heap.size W w) : Calls Try.prog 30 #[.int .u64 seed] w fun e w' =>
    ∃ b : Nat, e = .returned (.pointer (some ⟨b, 0, none⟩)) ∧ Run W w' b (new seed) ∧ w.heap.size ≤ b ∧ Below w.heap.size w w' :=
  (new_gives seed w).mono fun _ _ ⟨b, he, ha, hl, hw⟩ => ⟨b, he, ⟨ha, Nat.le_trans hb.size hl, Mem.tr hb hw, Ok.new h0.1 (by omega)⟩, hl, hw⟩
theorem add_run {W w : World} {b : Nat} {k : St} (h : Run W w b k) (s : ByteArray) (hs : s.size ≤ maxLen) : Calls Try.prog 31 #[.pointer (some ⟨b, 0, none⟩), .string s] w fun e w' =>
    e = .returned (.bool (k.has s.data.toList)) ∧ Run W w' b (k.add s.data.toList) ∧ Only (fun j => j = b) w w' :=
  (add_any h.at_ h.ok s hs).mono fun _ _ ⟨he, ha, ho⟩ => ⟨he, h.turn ha ho (h.ok.add _), ho⟩
theorem has_run {W w : World} {b : Nat} {k : St} (h : Run W w b k) (s : ByteArray) (hs : s.size ≤ maxLen) : Calls Try.prog 33 #[.pointer (some ⟨b, 0, none⟩), .string s] w fun e w' =>
    e = .returned (.bool (k.has s.data.toList)) ∧ Run W w' b k ∧ Below w.heap.size w w' :=
  (has_any h.at_ h.ok s hs).mono fun _ _ ⟨he, hb⟩ => ⟨he, h.step hb, hb⟩
theorem clear_run {W w : World} {b : Nat} {k : St} (h : Run W w b k) : Calls Try.prog 34 #[.pointer (some ⟨b, 0, none⟩)] w fun e w' =>
    e = .returned (.tuple #[]) ∧ Run W w' b k.clear ∧ Only (fun j => j = b) w w' :=
  (clear_any h.at_).mono fun _ _ ⟨he, ha, ho⟩ => ⟨he, h.turn ha ho h.ok.clear, ho⟩
theorem copy_run {W w : World} {b : Nat} {k : St} (h : Run W w b k) : Calls Try.prog 37 #[.pointer (some ⟨b, 0, none⟩)] w fun e w' =>
    ∃ b', e = .returned (.pointer (some ⟨b', 0, none⟩)) ∧ Run W w' b k ∧ Run W w' b' k ∧ w.heap.size ≤ b' ∧ Below w.heap.size w w' :=
  (copy_any h.at_).mono fun _ _ ⟨b', he, ha, hl, hb⟩ => ⟨b', he, h.step hb, ⟨ha, Nat.le_trans h.below.size hl, Mem.tr h.below hb, h.ok⟩, hl, hb⟩
theorem ones_run {W w : World} {b : Nat} {k : St} (h : Run W w b k) : Calls Try.prog 32 #[.pointer (some ⟨b, 0, none⟩)] w fun e w' => e = .returned (.int .i64 (k.ones : Nat)) ∧ w = w' := ones_any h.at_ h.ok

def Shorts (l : List Op) (n : Int) : Prop := (l.length : Int) ≤ n ∧ ∀ o ∈ l, o.s.size ≤ 300
def SaysShort (l : List Op) (n : Int) (e : Ending) : Prop := ∃ q : Bool, e = .returned (.bool q) ∧ (q = true ↔ Shorts l n)
set_option maxHeartbeats 1000000 in
theorem short_any {w : World} {x : Option Addr} {l : List Op} (c : Nat) (n : Int) (hl : l.length ≤ maxLen) (hok : ∀ a ∈ l, OpOk a) (h : Lies w 2 encO x l) :
    Calls Try.prog 29 #[.slice x l.length c, .int .i64 n] w fun e w' => SaysShort l n e ∧ w = w' := by
  have HL := Lib.hid (And.intro h hok)
  unfold maxLen at hl
  clear h hok
  by_cases hn : n < l.length
  · go_enter Try.func29, Try.ntmps29
    go_wp2
    go_ret
    exact ⟨⟨false, rfl, by simp [Shorts]; omega⟩, rfl⟩
  have hni : (l.length : Int) ≤ n := by omega
  go_enter Try.func29, Try.ntmps29
  go_wp2
  go_loop [5] (fun i => ∃ m : Nat, i = .int .i64 m ∧ m ≤ l.length ∧ ∀ o ∈ l.take m, o.s.size ≤ 300) (fun i => l.length - (intOf i).toNat)
  case atStart => exact ⟨0, rfl, Nat.zero_le _, by simp⟩
  case round =>
    obtain ⟨m, rfl, hm, ha⟩ := hrel
    by_cases hlt : m < l.length
    · obtain ⟨o, ho⟩ : ∃ o, l[m]? = some o := ⟨_, List.getElem?_eq_getElem hlt⟩
      obtain ⟨B, off, rfl, hB, hc⟩ := HL.out.1 m o ho
      have cs := hc 1 _ rfl
      have hok := HL.out.2 o (List.mem_of_getElem? ho)
      have hs := hok.s
      unfold maxLen at hs
      have hmi : (m : Int) < l.length := by omega
      have htk : l.take (m + 1) = l.take m ++ [o] := by rw [List.take_add_one, ho]; rfl
      have HA := Lib.hid (And.intro ha (And.intro htk ho))
      clear ha htk ho hc hB hok
      by_cases h1 : 300 < o.s.size
      · have h1i : (300 : Int) < o.s.size := by omega
        go_wp2
        go_ret
        exact ⟨⟨false, rfl, by simp; exact fun h => by have := h.2 o (List.mem_of_getElem? HA.out.2.2); omega⟩, rfl⟩
      have h1i : (o.s.size : Int) ≤ 300 := by omega
      go_wp2
      go_round
      case rel =>
        refine ⟨m + 1, by go_num, by omega, ?_⟩
        rw [HA.out.2.1]
        intro o' ho'
        rcases List.mem_append.1 ho' with h | h
        · exact HA.out.1 o' h
        · simp at h; subst h; omega
      case measure => simp [intOf]; omega
    · have hml : m = l.length := by omega
      rw [hml, List.take_length] at ha
      have HA := Lib.hid ha
      clear ha
      go_wp2
      go_ret
      exact ⟨⟨true, rfl, by simp; exact ⟨hni, HA.out⟩⟩, rfl⟩

set_option maxHeartbeats 1000000 in
theorem awake_any (w : World) : Calls Try.prog 28 #[] w fun e w' => e = .returned (.bool true) ∧ Below w.heap.size w w' := by
  have t0 : (new 1).has [97] = false := by decide +kernel
  have t1 : ((new 1).add [97]).has [97] = true := by decide +kernel
  have t2 : 1 ≤ (((new 1).add [97]).add [97]).ones ∧ (((new 1).add [97]).add [97]).ones ≤ 3 := by decide +kernel
  have T := Lib.hid (And.intro t0 (And.intro t1 t2))
  clear t0 t1 t2
  go_enter Try.func28, Try.ntmps28
  go_wp2_with fail
  refine (new_run (by omega) (Below.refl _ w)).mono ?_
  rintro e w1 ⟨b, rfl, r0, -, -⟩
  go_wp2_with fail
  refine (add_run r0 ⟨#[97]⟩ (by decide)).mono ?_
  rintro e w2 ⟨rfl, r1, -⟩
  have e0 : (new 1).has #[97].toList = false := T.out.1
  rw [e0]
  clear r0 e0
  go_wp2_with fail
  refine (add_run r1 ⟨#[97]⟩ (by decide)).mono ?_
  rintro e w3 ⟨rfl, r2, -⟩
  have e1 : ((new 1).add #[97].toList).has #[97].toList = true := T.out.2.1
  rw [e1]
  clear r1 e1
  obtain ⟨k2, hk2⟩ : ∃ k, ((new 1).add [97]).add [97] = k := ⟨_, rfl⟩
  have hT := T.out.2.2
  rw [hk2] at hT
  have r2' : Run w w3 b k2 := by rw [← hk2]; exact r2
  clear r2 hk2 T
  have hb3 := r2'.below
  have ho := ones_run r2'
  obtain ⟨n, hn⟩ : ∃ n, k2.ones = n := ⟨_, rfl⟩
  rw [hn] at ho hT
  obtain ⟨h1, h2⟩ := hT
  have h1i : (1 : Int) ≤ n := by omega
  have h2i : (n : Int) ≤ 3 := by omega
  clear r2' hn
  go_wp2_with (go_at_call 32; refine ho.mono ?_; rintro e w' ⟨rfl, rfl⟩)
  go_ret
  exact ⟨rfl, hb3⟩
end Go.Proofs.Ytncdaadiadeeiaa.Bloom
