/- Layer 5's statements: the chapter's example, Short, a sketch in a run. -/
import Derived.Test.YtncdaadiadeeiaaSketch2
import Derived.Test.YtncdaadiadeeiaaSketch3
import Derived.Test.YtncdaadiadeeiaaOp5
namespace Go.Proofs.Ytncdaadiadeeiaa.Sketch
open Go Go.RowKit Go.Proofs.Ytncdaadiadeeiaa.Mem Go.Proofs.Ytncdaadiadeeiaa.Ops

theorem add_false {k : St} {t : List UInt8} (h : (k.add t).1 = false) : k.age + 1 < 640 ∧ (k.add t).2 = { k with c := ups k.seed t k.c 4, age := k.age + 1 } := by
  unfold St.add at h ⊢
  by_cases ha : k.age + 1 < 640
  · rw [if_pos ha]; exact ⟨ha, rfl⟩
  · rw [if_neg ha] at h; cases h
theorem add_true {k : St} {t : List UInt8} (h : (k.add t).1 = true) : ¬ k.age + 1 < 640 ∧ (k.add t).2 = { k with c := half (ups k.seed t k.c 4), age := 320 } := by
  unfold St.add at h ⊢
  by_cases ha : k.age + 1 < 640
  · rw [if_pos ha] at h; cases h
  · rw [if_neg ha]; exact ⟨ha, rfl⟩
/-- A sketch in a run that began at W. -/
structure Run (W w : World) (b : Nat) (k : St) : Prop where
  at_ : At w b k
  low : W.heap.size ≤ b
  below : Below W.heap.size W w
  ok : Ok k
section
variable {W w w' : World} {b : Nat} {k : St}
theorem At.lt (h : At w b k) : b < w.heap.size := (Array.getElem?_eq_some_iff.1 h).1
theorem At.below (h : At w b k) (hb : Below w.heap.size w w') : At w' b k := (hb.block b h.lt).trans h
theorem At.only (h : At w b k) {F : Nat → Prop} (ho : Only F w w') (hF : ¬ F b) : At w' b k := (ho.same b h.lt hF).trans h
theorem Run.step (h : Run W w b k) (hb : Below w.heap.size w w') : Run W w' b k := ⟨h.at_.below hb, h.low, Mem.tr h.below hb, h.ok⟩
theorem Run.add {s : List UInt8} (h : Run W w b k) (ha : At w' b (k.add s).2) (ho : Only (fun j => j = b) w w') : Run W w' b (k.add s).2 :=
  ⟨ha, h.low, h.below.trans (ho.below h.below.size (fun _ e => e ▸ h.low)), h.ok.add s⟩
theorem Run.other {F : Nat → Prop} (h : Run W w b k) (ho : Only F w w') (hF : ∀ j, F j → b ≠ j ∧ W.heap.size ≤ j) : Run W w' b k :=
  ⟨h.at_.only ho (fun e => (hF _ e).1 rfl), h.low, h.below.trans (ho.below h.below.size (fun _ e => (hF _ e).2)), h.ok⟩
end
theorem new_run {seed : Int} (h0 : 0 ≤ seed ∧ seed ≤ 18446744073709551615) {W w : World} (hb : Below W.heap.size W w) : Calls Try.prog 20 #[.int .u64 seed] w fun e w' =>
    ∃ b : Nat, e = .returned (.pointer (some ⟨b, 0, none⟩)) ∧ Run W w' b (new seed) ∧ w.heap.size ≤ b :=
  (new_gives seed w).mono fun _ _ ⟨b, he, ha, hl, hw⟩ => ⟨b, he, ⟨ha, Nat.le_trans hb.size hl, Mem.tr hb hw, Ok.new h0.1 (by omega)⟩, hl⟩
theorem add_run {W w : World} {b : Nat} {k : St} (h : Run W w b k) (s : ByteArray) (hs : s.size ≤ maxLen) : Calls Try.prog 21 #[.pointer (some ⟨b, 0, none⟩), .string s] w fun e w' =>
    e = .returned (.bool (k.add s.data.toList).1) ∧ Run W w' b (k.add s.data.toList).2 ∧ Only (fun j => j = b) w w' :=
  (add_any h.at_ h.ok s hs).mono fun _ _ ⟨he, ha, ho⟩ => ⟨he, h.add ha ho, ho⟩
theorem count_run {W w : World} {b : Nat} {k : St} (h : Run W w b k) (s : ByteArray) (hs : s.size ≤ maxLen) : Calls Try.prog 22 #[.pointer (some ⟨b, 0, none⟩), .string s] w fun e w' =>
    e = .returned (.int .i64 (k.count s.data.toList : Nat)) ∧ Run W w' b k ∧ Below w.heap.size w w' :=
  (count_any h.at_ h.ok s hs).mono fun _ _ ⟨he, hb⟩ => ⟨he, h.step hb, hb⟩

def Shorts (l : List Op) : Prop := l.length ≤ 60 ∧ ∀ o ∈ l, o.s.size ≤ 300 ∧ o.times ≤ 100
def SaysShort (l : List Op) (e : Ending) : Prop := ∃ q : Bool, e = .returned (.bool q) ∧ (q = true ↔ Shorts l)
set_option maxHeartbeats 1000000 in
theorem short_any {w : World} {x : Option Addr} {l : List Op} (c : Nat) (hl : l.length ≤ maxLen) (hok : ∀ a ∈ l, OpOk a) (h : Lies w 3 encO x l) :
    Calls Try.prog 19 #[.slice x l.length c] w fun e w' => SaysShort l e ∧ w = w' := by
  have HL := Lib.hid (And.intro h hok)
  unfold maxLen at hl
  clear h hok
  by_cases hn : 60 < l.length
  · have hni : (60 : Int) < l.length := by omega
    go_enter Try.func19, Try.ntmps19
    go_wp2
    go_ret
    exact ⟨⟨false, rfl, by simp [Shorts]; omega⟩, rfl⟩
  have hni : (l.length : Int) ≤ 60 := by omega
  go_enter Try.func19, Try.ntmps19
  go_wp2
  go_loop [3] (fun i => ∃ m : Nat, i = .int .i64 m ∧ m ≤ l.length ∧ ∀ o ∈ l.take m, o.s.size ≤ 300 ∧ o.times ≤ 100) (fun i => l.length - (intOf i).toNat)
  case atStart => exact ⟨0, rfl, Nat.zero_le _, by simp⟩
  case round =>
    obtain ⟨m, rfl, hm, ha⟩ := hrel
    by_cases hlt : m < l.length
    · obtain ⟨o, ho⟩ : ∃ o, l[m]? = some o := ⟨_, List.getElem?_eq_getElem hlt⟩
      obtain ⟨B, off, rfl, hB, hc⟩ := HL.out.1 m o ho
      have ct := hc 1 _ rfl
      have cs := hc 2 _ rfl
      have hok := HL.out.2 o (List.mem_of_getElem? ho)
      have hs := hok.s
      unfold maxLen at hs
      obtain ⟨t0, t1⟩ := hok.times
      have hmi : (m : Int) < l.length := by omega
      have htk : l.take (m + 1) = l.take m ++ [o] := by rw [List.take_add_one, ho]; rfl
      have HA := Lib.hid (And.intro ha (And.intro htk ho))
      clear ha htk ho hc hB hok
      by_cases h1 : 300 < o.s.size
      · have h1i : (300 : Int) < o.s.size := by omega
        go_wp2
        go_ret
        exact ⟨⟨false, rfl, by simp; exact fun h => by have := (h.2 o (List.mem_of_getElem? HA.out.2.2)).1; omega⟩, rfl⟩
      by_cases h2 : 100 < o.times
      · have h1i : (o.s.size : Int) ≤ 300 := by omega
        go_wp2
        go_ret
        exact ⟨⟨false, rfl, by simp; exact fun h => by have := (h.2 o (List.mem_of_getElem? HA.out.2.2)).2; omega⟩, rfl⟩
      have h1i : (o.s.size : Int) ≤ 300 := by omega
      have h2i : o.times ≤ 100 := by omega
      go_wp2
      go_round
      case rel =>
        refine ⟨m + 1, by go_num, by omega, ?_⟩
        rw [HA.out.2.1]
        intro o' ho'
        rcases List.mem_append.1 ho' with h | h
        · exact HA.out.1 o' h
        · simp at h; subst h; exact ⟨by omega, h2i⟩
      case measure => simp [intOf]; omega
    · have hml : m = l.length := by omega
      rw [hml, List.take_length] at ha
      have HA := Lib.hid ha
      clear ha
      go_wp2
      go_ret
      exact ⟨⟨true, rfl, by simp; exact ⟨by omega, HA.out⟩⟩, rfl⟩

set_option maxHeartbeats 1000000 in
theorem awake_any (w : World) : Calls Try.prog 18 #[] w fun e w' => e = .returned (.bool true) ∧ Below w.heap.size w w' := by
  have t1 : ((((new 1).add [97]).2.add [97]).2).count [97] = 2 := by decide +kernel
  have t2 : ((((new 1).add [97]).2.add [97]).2).age = 2 := by decide +kernel
  have T := Lib.hid (And.intro t1 t2)
  clear t1 t2
  go_enter Try.func18, Try.ntmps18
  go_wp2_with fail
  refine (new_run (by omega) (Below.refl _ w)).mono ?_
  rintro e w1 ⟨b, rfl, r0, -⟩
  go_wp2_with fail
  refine (add_run r0 _ (by decide)).mono ?_
  rintro e w2 ⟨rfl, r1, -⟩
  clear r0
  go_wp2_with fail
  refine (add_run r1 _ (by decide)).mono ?_
  rintro e w3 ⟨rfl, r2, -⟩
  clear r1
  obtain ⟨k2, hk2⟩ : ∃ k, (((new 1).add [97]).2.add [97]).2 = k := ⟨_, rfl⟩
  have hT := T.out
  rw [hk2] at hT
  have r2' : Run w w3 b k2 := by rw [← hk2]; exact r2
  clear r2 hk2 T
  have HT := Lib.hid hT
  clear hT
  go_wp2_with fail
  refine (count_run r2' _ (by decide)).mono ?_
  rintro e w4 ⟨rfl, r3, -⟩
  have hc : k2.count #[97].toList = 2 := HT.out.1
  have ha := age_any r3.at_
  rw [HT.out.2] at ha
  simp only [hc]
  clear r2' hc
  go_wp2_with (go_at_call 23; refine ha.mono ?_; rintro e w' ⟨rfl, rfl⟩)
  go_ret
  exact ⟨rfl, r3.below⟩
end Go.Proofs.Ytncdaadiadeeiaa.Sketch
