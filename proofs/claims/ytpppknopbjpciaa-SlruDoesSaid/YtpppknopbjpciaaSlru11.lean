/- Layer 8: a list in a run; awake, played. -/
import Derived.Test.YtpppknopbjpciaaSlru10
namespace Go.Proofs.Ytpppknopbjpciaa.Slru
open Go Go.RowKit Go.Proofs.Ytpppknopbjpciaa.Mem Go.Proofs.Ytpppknopbjpciaa.Ops

theorem add_len (s : St) (k : ByteArray) : (s.add k).2.all.length ≤ s.all.length + 1 := by
  unfold St.add; split
  · exact Nat.le_succ _
  · simp [St.all]; omega
theorem remove_len (s : St) (k : ByteArray) : (s.remove k).2.all.length ≤ s.all.length := by
  unfold St.remove; split
  · have h1 := without_len s.trial k
    have h2 := without_len s.safe k
    simp [St.all]; omega
  · exact Nat.le_refl _
theorem hit_len (s : St) (k : ByteArray) : (s.hit k).2.all.length ≤ s.all.length := by
  unfold St.hit; split
  · rename_i h
    have h1 := without_lt h
    unfold St.all at h1
    rw [without_app, List.length_append, List.length_append] at h1
    unfold St.moved
    split
    · simp only [St.all, List.length_append, List.length_take, List.length_drop, List.length_cons, List.length_nil]; omega
    · simp only [St.all, List.length_append, List.length_cons, List.length_nil]; omega
  · exact Nat.le_refl _
/-- A list in a run that began at W0. -/
structure Run (W0 w : World) (N b : Nat) (F : Nat → Prop) (s : St) : Prop where
  at_ : At w b F s
  low : ∀ k, F k → W0.heap.size ≤ k
  below : Below W0.heap.size W0 w
  len : s.all.length ≤ N
section
variable {W0 w w' : World} {N M b : Nat} {F F' : Nat → Prop} {s s' : St}
theorem Run.step (h : Run W0 w N b F s) (hb : Below w.heap.size w w') : Run W0 w' N b F s := ⟨h.at_.below hb, h.low, Mem.tr h.below hb, h.len⟩
theorem Run.drew (h : Run W0 w N b F s) : Run W0 w.drew N b F s := h.step (Below.drew (Below.refl _ _))
theorem Run.mono (h : Run W0 w N b F s) (hm : N ≤ M) : Run W0 w M b F s := ⟨h.at_, h.low, h.below, Nat.le_trans h.len hm⟩
theorem Run.post (h : Run W0 w N b F s) (ha : At w' b F' s') (ho : Only F w w') (hg : Grows w F F') (hm : s'.all.length ≤ M) : Run W0 w' M b F' s' :=
  ⟨ha, fun k hk => (hg k hk).elim (h.low k) (fun e => Nat.le_trans h.below.size e), h.below.trans (ho.below h.below.size h.low), hm⟩
theorem Run.lt (h : Run W0 w N b F s) : ∀ k, F k → k < w.heap.size := h.at_.lt
def RunPost (W0 : World) (N b : Nat) (y : Int × St) (e : Ending) (w' : World) : Prop := e = .returned (.int .i64 y.1) ∧ ∃ F', Run W0 w' N b F' y.2
theorem add_run (h : Run W0 w N b F s) (k : ByteArray) (hN : N + 1 ≤ 9223372036854775807) : Calls Try.prog 12 #[.pointer (some ⟨b, 0, none⟩), .string k] w (RunPost W0 (N + 1) b (s.add k)) :=
  (add_any h.at_ k (by have := h.len; omega)).mono fun e w' ⟨F', he, h1, h2, h3⟩ => ⟨he, F', h.post h1 h2 h3 (by have := add_len s k; have := h.len; omega)⟩
theorem hit_run (h : Run W0 w N b F s) (k : ByteArray) (hN : N ≤ 9223372036854775807) : Calls Try.prog 11 #[.pointer (some ⟨b, 0, none⟩), .string k] w (RunPost W0 N b (s.hit k)) :=
  (hit_any h.at_ k (by have := h.len; omega)).mono fun e w' ⟨F', he, h1, h2, h3⟩ => ⟨he, F', h.post h1 h2 h3 (by have := hit_len s k; have := h.len; omega)⟩
theorem remove_run (h : Run W0 w N b F s) (k : ByteArray) (hN : N ≤ 9223372036854775807) : Calls Try.prog 18 #[.pointer (some ⟨b, 0, none⟩), .string k] w (RunPost W0 N b (s.remove k)) :=
  (remove_any h.at_ k (by have := h.len; omega)).mono fun e w' ⟨F', he, h1, h2, h3⟩ => ⟨he, F', h.post h1 h2 h3 (by have := remove_len s k; have := h.len; omega)⟩
end
theorem new_run {W0 w : World} (hb : Below W0.heap.size W0 w) (most : Int) : Calls Try.prog 10 #[.int .i64 most] w fun e w' => ∃ (b : Nat) (F : Nat → Prop), e = .returned (.pointer (some ⟨b, 0, none⟩)) ∧ Run W0 w' 0 b F (new most) :=
  (new_gives most w).mono fun _ _ ⟨b, F, he, h1, h2, h3⟩ => ⟨b, F, he, h1, fun k hk => Nat.le_trans hb.size (h2 k hk), hb.trans (h3.mono hb.size), Nat.le_refl _⟩

set_option maxHeartbeats 1000000 in
theorem awake_any (w : World) : Calls Try.prog 8 #[] w fun e w' => e = .returned (.bool true) ∧ Below w.heap.size w w' := by
  have e1 : (new 1).add ⟨#[97]⟩ = (0, { most := 1, trial := [⟨#[97]⟩], safe := [] }) := by kernel_rfl
  have e2 : ({ most := 1, trial := [⟨#[97]⟩], safe := [] } : St).add ⟨#[98]⟩ = (0, { most := 1, trial := [⟨#[97]⟩, ⟨#[98]⟩], safe := [] }) := by kernel_rfl
  have e3 : ({ most := 1, trial := [⟨#[97]⟩, ⟨#[98]⟩], safe := [] } : St).hit ⟨#[97]⟩ = (0, { most := 1, trial := [⟨#[98]⟩], safe := [⟨#[97]⟩] }) := by kernel_rfl
  have e4 : vic { most := 1, trial := [⟨#[98]⟩], safe := [⟨#[97]⟩] } ⟨#[]⟩ = (⟨#[98]⟩, true) := by kernel_rfl
  go_enter Try.func8, Try.ntmps8
  go_wp2_with fail
  refine (new_run (Below.refl _ w) 1).mono ?_
  rintro e w1 ⟨b, F1, rfl, r1⟩
  go_wp2_with fail
  refine (add_run r1 ⟨#[97]⟩ (by decide)).mono ?_
  rw [e1]
  rintro e w2 ⟨rfl, F2, r2⟩
  clear r1
  go_wp2_with fail
  refine (add_run r2 ⟨#[98]⟩ (by decide)).mono ?_
  rw [e2]
  rintro e w3 ⟨rfl, F3, r3⟩
  clear r2
  go_wp2_with fail
  refine (hit_run r3 ⟨#[97]⟩ (by decide)).mono ?_
  rw [e3]
  rintro e w4 ⟨rfl, F4, r4⟩
  clear r3
  go_wp2_with fail
  refine (victim_any r4.at_ ⟨#[]⟩).mono ?_
  rw [e4]
  rintro e w5 ⟨rfl, hb5⟩
  have r5 := r4.step hb5
  clear r4 hb5 e1 e2 e3 e4
  have h1 := len_any r5.at_ (by decide)
  have h2 : ∀ d, Calls Try.prog 23 #[.pointer (some ⟨b, 0, none⟩)] (w5.drewN d) fun e w' => e = .returned (.int .i64 1) ∧ w5.drewN d = w' := fun d => protected_any (r5.step (Mem.dn (Below.refl _ _) d)).at_
  have h1 : Calls Try.prog 15 #[.pointer (some ⟨b, 0, none⟩)] w5 fun e w' => e = .returned (.int .i64 2) ∧ ∃ d, w' = w5.drewN d := h1
  have hse := str_eq ⟨#[98]⟩
  have HR := Lib.hid r5
  clear r5
  go_wp2_with (first | (refine h1.mono ?_; rintro e w6 ⟨rfl, d6, rfl⟩) | (refine (h2 _).mono ?_; rintro e w7 ⟨rfl, rfl⟩))
  go_ret
  exact ⟨rfl, (HR.out.step (Mem.dn (Below.refl _ _) d6)).below⟩

def step (s : St) (o : Op) : St := if o.kind = 0 then (s.add o.key).2 else if o.kind = 1 then (s.hit o.key).2 else if o.kind = 2 then (s.remove o.key).2 else s
def play (most : Int) (l : List Op) : St := l.foldl step (new most)
theorem play_snoc (most : Int) {l : List Op} {m : Nat} {o : Op} (h : l[m]? = some o) : play most (l.take (m + 1)) = step (play most (l.take m)) o := by
  unfold play; rw [List.take_add_one, h]; simp
def PlayedPost (w : World) (most : Int) (l : List Op) (e : Ending) (w' : World) : Prop := ∃ b F, e = .returned (.pointer (some ⟨b, 0, none⟩)) ∧ Run w w' l.length b F (play most l)
set_option maxHeartbeats 1000000 in
theorem played_any {w : World} {x : Option Addr} {c : Nat} {l : List Op} (most : Int) (hlies : Lies w 2 encO x l) (hlen : l.length ≤ maxLen) :
    Calls Try.prog 24 #[.int .i64 most, .slice x l.length c] w (PlayedPost w most l) := by
  unfold maxLen at hlen
  have HL := Lib.hid hlies
  clear hlies
  go_enter Try.func24, Try.ntmps24
  go_wp2_with fail
  refine (new_run (Below.refl _ w) most).mono ?_
  rintro e w1 ⟨b, F1, rfl, r1⟩
  go_wp2_with fail
  go_loopg [6] l.length (fun g i wr => ∃ (m : Nat) (F : Nat → Prop), i = .int .i64 m ∧ g + m = l.length ∧ Hid (Run w wr m b F (play most (l.take m))))
  case atStart => exact ⟨0, F1, rfl, by omega, Lib.hid r1⟩
  case round =>
    obtain ⟨m, F, rfl, hg, HR⟩ := hrel
    have HG := Lib.hid hg
    clear hg r1
    by_cases hm : m < l.length
    · obtain ⟨o, ho⟩ : ∃ o, l[m]? = some o := ⟨_, List.getElem?_eq_getElem hm⟩
      obtain ⟨B, off, rfl, hB, hc⟩ := HL.out m o ho
      have c0 : wr.cell? ⟨B, off + m * 2, none⟩ = some (.int .i64 o.kind) := (World.cell?_of_block (HR.out.below.block B hB)).trans (hc 0 _ rfl)
      have c1 : wr.cell? ⟨B, off + m * 2 + 1, none⟩ = some (.string o.key) := (World.cell?_of_block (HR.out.below.block B hB)).trans (hc 1 _ rfl)
      have hmi : (m : Int) < l.length := by omega
      have hps := play_snoc most ho
      have HP := Lib.hid hps
      have hw : IntKind.i64.wrap ((m : Int) + 1) = (m : Int) + 1 := by rw [IntKind.wrap_i64]; omega
      clear hc hB ho hps
      by_cases hk0 : o.kind = 0
      · have hkb : (o.kind == 0) = true := by simpa using hk0
        have e : step (play most (l.take m)) o = ((play most (l.take m)).add o.key).2 := by unfold step; rw [if_pos hk0]
        have HE := Lib.hid e
        clear hk0 e
        go_wp2_with fail
        refine (add_run HR.out o.key (by omega)).mono ?_
        rintro e w2 ⟨rfl, F2, r2⟩
        have HR2 := Lib.hid r2
        clear r2 c0 c1
        generalize ((play most (l.take m)).add o.key).1 = q
        go_wp2_with fail
        go_roundg (l.length - (m + 1))
        case measure => have := HG.out; omega
        case rel => exact ⟨m + 1, F2, by go_num, by have := HG.out; omega, Lib.hid (by rw [HP.out, HE.out]; exact HR2.out)⟩
      have hkb0 : (o.kind == 0) = false := by simpa using hk0
      by_cases hk1 : o.kind = 1
      · have hkb : (o.kind == 1) = true := by simpa using hk1
        have e : step (play most (l.take m)) o = ((play most (l.take m)).hit o.key).2 := by unfold step; rw [if_neg hk0, if_pos hk1]
        have HE := Lib.hid e
        clear hk0 hk1 e
        go_wp2_with fail
        refine (hit_run HR.out o.key (by omega)).mono ?_
        rintro e w2 ⟨rfl, F2, r2⟩
        have HR2 := Lib.hid (r2.mono (M := m + 1) (by omega))
        clear r2 c0 c1
        generalize ((play most (l.take m)).hit o.key).1 = q
        go_wp2_with fail
        go_roundg (l.length - (m + 1))
        case measure => have := HG.out; omega
        case rel => exact ⟨m + 1, F2, by go_num, by have := HG.out; omega, Lib.hid (by rw [HP.out, HE.out]; exact HR2.out)⟩
      have hkb1 : (o.kind == 1) = false := by simpa using hk1
      by_cases hk2 : o.kind = 2
      · have hkb : (o.kind == 2) = true := by simpa using hk2
        have e : step (play most (l.take m)) o = ((play most (l.take m)).remove o.key).2 := by unfold step; rw [if_neg hk0, if_neg hk1, if_pos hk2]
        have HE := Lib.hid e
        clear hk0 hk1 hk2 e
        go_wp2_with fail
        refine (remove_run HR.out o.key (by omega)).mono ?_
        rintro e w2 ⟨rfl, F2, r2⟩
        have HR2 := Lib.hid (r2.mono (M := m + 1) (by omega))
        clear r2 c0 c1
        generalize ((play most (l.take m)).remove o.key).1 = q
        go_wp2_with fail
        go_roundg (l.length - (m + 1))
        case measure => have := HG.out; omega
        case rel => exact ⟨m + 1, F2, by go_num, by have := HG.out; omega, Lib.hid (by rw [HP.out, HE.out]; exact HR2.out)⟩
      have hkb2 : (o.kind == 2) = false := by simpa using hk2
      have e : step (play most (l.take m)) o = play most (l.take m) := by unfold step; rw [if_neg hk0, if_neg hk1, if_neg hk2]
      have HE := Lib.hid e
      clear hk0 hk1 hk2 e
      have HR2 := Lib.hid (HR.out.mono (M := m + 1) (by omega))
      go_wp2_with fail
      go_roundg (l.length - (m + 1))
      case measure => have := HG.out; omega
      case rel => exact ⟨m + 1, F, by go_num, by have := HG.out; omega, Lib.hid (by rw [HP.out, HE.out]; exact HR2.out)⟩
    · have hml : (l.length : Int) ≤ m := by omega
      have hr := HR.out
      rw [List.take_of_length_le (by omega)] at hr
      have HR2 := Lib.hid (hr.mono (M := l.length) (by have := HG.out; omega))
      clear hr
      go_wp2_with fail
      go_ret
      exact ⟨b, F, rfl, HR2.out⟩
end Go.Proofs.Ytpppknopbjpciaa.Slru
