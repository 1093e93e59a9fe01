/- Layer 8, the law's own functions: short, Same, awake, played. -/
import Derived.Test.YtpppknopbjpciaaSlru9
import Derived.Test.YtpppknopbjpciaaOp8
import Derived.Deep.LoopGhost
namespace Go.Proofs.Ytpppknopbjpciaa.Slru
open Go Go.RowKit Go.Proofs.Ytpppknopbjpciaa.Mem Go.Proofs.Ytpppknopbjpciaa.Ops

def shortB (l : List Op) : Bool := decide (l.length ≤ 200 ∧ ∀ o ∈ l, o.key.size ≤ 300)
set_option maxHeartbeats 1000000 in
theorem short_any {w : World} {x : Option Addr} {c : Nat} {l : List Op} (hlies : Lies w 2 encO x l) (hlen : l.length ≤ maxLen) :
    Calls Try.prog 9 #[.slice x l.length c] w fun e w' => e = .returned (.bool (shortB l)) ∧ w = w' := by
  unfold maxLen at hlen
  by_cases hn : 200 < l.length
  · have e : shortB l = false := by unfold shortB; simp; omega
    rw [e]
    have hn' : (200 : Int) < l.length := by omega
    clear hlies e hn
    go_enter Try.func9, Try.ntmps9
    go_wp2_with fail
    go_ret
    exact ⟨rfl, rfl⟩
  have hn' : (l.length : Int) ≤ 200 := by omega
  have HL := Lib.hid (And.intro hlies hn)
  clear hlies hn
  go_enter Try.func9, Try.ntmps9
  go_wp2_with fail
  go_loopg [3] l.length (fun g i wr => ∃ m : Nat, i = .int .i64 m ∧ g + m = l.length ∧ Hid (∀ j o, j < m → l[j]? = some o → o.key.size ≤ 300) ∧ wr = w)
  case atStart => exact ⟨0, rfl, by omega, Lib.hid (fun j o h => absurd h (by omega)), rfl⟩
  case round =>
    obtain ⟨m, rfl, hg, hs, rfl⟩ := hrel
    have HG := Lib.hid hg
    clear hg
    by_cases hm : m < l.length
    · obtain ⟨o, ho⟩ : ∃ o, l[m]? = some o := ⟨_, List.getElem?_eq_getElem hm⟩
      obtain ⟨B, off, rfl, hB, hc⟩ := HL.out.1 m o ho
      have c1 := hc 1 _ rfl
      have hmi : (m : Int) < l.length := by omega
      have HO := Lib.hid ho
      clear hc hB ho
      by_cases hk : o.key.size ≤ 300
      · have hki : (o.key.size : Int) ≤ 300 := by omega
        have HK := Lib.hid hk
        clear hk
        go_wp2_with fail
        go_roundg (l.length - (m + 1))
        case measure => have := HG.out; omega
        case rel =>
          refine ⟨m + 1, by go_num, by have := HG.out; omega, Lib.hid (fun j p hj hp => ?_), rfl⟩
          by_cases e : j = m
          · subst e; rw [HO.out] at hp; injection hp with hp; subst hp; exact HK.out
          · exact hs.out j p (by omega) hp
      · have hki : (300 : Int) < o.key.size := by omega
        have e : shortB l = false := by unfold shortB; simp; exact fun _ => ⟨o, List.mem_of_getElem? HO.out, by omega⟩
        have HE := Lib.hid e
        clear hk e
        go_wp2_with fail
        go_ret
        exact ⟨by rw [HE.out]; rfl, rfl⟩
    · have hml : (l.length : Int) ≤ m := by omega
      have e : shortB l = true := by
        unfold shortB; simp
        refine ⟨by omega, fun p hp => ?_⟩
        obtain ⟨j, hj⟩ := List.mem_iff_getElem?.1 hp
        exact hs.out j p (by have := (List.getElem?_eq_some_iff.1 hj).1; omega) hj
      have HE := Lib.hid e
      clear e
      go_wp2_with fail
      go_ret
      exact ⟨by rw [HE.out]; rfl, rfl⟩
/-- Keys that lie behind a slice's value. -/
def ReadsK (w : World) (v : Value) (xs : List ByteArray) : Prop := ∃ a c, v = .slice a xs.length c ∧ xs.length ≤ c ∧ ∀ i k, xs[i]? = some k → ∃ g, a = some ⟨g, 0, none⟩ ∧ g < w.heap.size ∧ w.cell? ⟨g, i, none⟩ = some (.string k)
theorem ReadsK.of_row {w : World} {base : Nat} {v : Value} {xs : List ByteArray} (h : w.ownsRow base 9 1 v xs.length (cellsK xs)) : ReadsK w v xs := by
  rcases h.2 with ⟨e1, e2⟩ | ⟨g, cap, cur, e1, _, e2, e3, _, e4, e5⟩
  · have : xs = [] := List.eq_nil_of_length_eq_zero (by omega)
    subst this
    exact ⟨none, 0, by rw [e1]; rfl, Nat.le_refl _, fun i k hi => by simp at hi⟩
  · refine ⟨some ⟨g, 0, none⟩, cap, e1, e3, fun i k hi => ⟨g, rfl, (Array.getElem?_eq_some_iff.1 e2).1, ?_⟩⟩
    rw [Mem.row_cell e2 i]
    have hil := (List.getElem?_eq_some_iff.1 hi).1
    have h1 : (cur.toList.take (xs.length * 1))[i]? = some (.string k) := by rw [e5, cellsK, List.getElem?_map, hi]; rfl
    rw [List.getElem?_take, if_pos (by omega)] at h1
    simpa using h1
theorem ReadsK.below {w w' : World} {v : Value} {xs : List ByteArray} (h : ReadsK w v xs) (hb : Below w.heap.size w w') : ReadsK w' v xs := by
  obtain ⟨a, c, h1, h2, h3⟩ := h
  refine ⟨a, c, h1, h2, fun i k hi => ?_⟩
  obtain ⟨g, e, hg, hc⟩ := h3 i k hi
  exact ⟨g, e, Nat.lt_of_lt_of_le hg hb.size, (World.cell?_of_block (hb.block g hg)).trans hc⟩
set_option maxHeartbeats 1000000 in
theorem same_any {w : World} {va vb : Value} {xs ys : List ByteArray} (ha : ReadsK w va xs) (hb : ReadsK w vb ys) (hl : xs.length ≤ 1000000000000) :
    Calls Try.prog 14 #[va, vb] w fun e w' => e = .returned (.bool (decide (xs = ys))) ∧ ∃ d, w' = w.drewN d := by
  obtain ⟨a, c, rfl, hac, ha⟩ := ha
  obtain ⟨a', c', rfl, hbc, hb⟩ := hb
  by_cases hlen : xs.length = ys.length
  case neg =>
    have e : decide (xs = ys) = false := by simp; exact fun e => hlen (by rw [e])
    rw [e]
    have hne : ((xs.length : Int) != ys.length) = true := by simp; omega
    clear ha hb e hlen
    go_enter Try.func14, Try.ntmps14
    go_wp2_with fail
    go_ret
    exact ⟨rfl, 0, rfl⟩
  have HH := Lib.hid (And.intro ha (And.intro hb hlen))
  have hbc' : xs.length ≤ c' := by omega
  rw [← hlen]
  have hee : ((xs.length : Int) != xs.length) = false := by simp
  clear ha hb hlen hbc
  go_enter Try.func14, Try.ntmps14
  go_wp2_with fail
  go_loopg [5] xs.length (fun g i wr => ∃ m : Nat, i = .int .i64 m ∧ g + m = xs.length ∧ Hid (xs.take m = ys.take m) ∧ ∃ d, wr = w.drewN d)
  case atStart => exact ⟨0, rfl, by omega, Lib.hid rfl, 0, rfl⟩
  case round =>
    obtain ⟨m, rfl, hg, hs, d, rfl⟩ := hrel
    have HG := Lib.hid hg
    clear hg
    by_cases hm : m < xs.length
    · obtain ⟨k, hk⟩ : ∃ k, xs[m]? = some k := ⟨_, List.getElem?_eq_getElem hm⟩
      obtain ⟨k', hk'⟩ : ∃ k, ys[m]? = some k := ⟨_, List.getElem?_eq_getElem (by have := HH.out.2.2; omega)⟩
      obtain ⟨g, rfl, hg, c0⟩ := HH.out.1 m k hk
      obtain ⟨g', rfl, hg', c0'⟩ := HH.out.2.1 m k' hk'
      have hmi : (m : Int) < xs.length := by omega
      have c0 : (w.drewN d).cell? ⟨g, m, none⟩ = some (.string k) := c0
      have c0' : (w.drewN d).cell? ⟨g', m, none⟩ = some (.string k') := c0'
      have HK := Lib.hid (And.intro hk hk')
      clear hk hk' hg hg'
      by_cases hkk : k = k'
      · subst hkk
        have hse := str_eq k
        go_wp2_with fail
        go_quiet (fail)
        go_wp2_with fail
        go_roundg (xs.length - (m + 1))
        case measure => have := HG.out; omega
        case rel => exact ⟨m + 1, by go_num, by have := HG.out; omega, Lib.hid (by rw [List.take_add_one, List.take_add_one, hs.out, HK.out.1, HK.out.2]), _, rfl⟩
      · have hse := str_ne hkk
        have e : decide (xs = ys) = false := by
          simp; intro e
          have h1 := HK.out.1
          rw [e, HK.out.2] at h1
          injection h1 with h1
          exact hkk h1.symm
        have HE := Lib.hid e
        clear hkk e
        go_wp2_with fail
        go_quiet (fail)
        go_wp2_with fail
        go_ret
        exact ⟨by rw [HE.out]; rfl, d + nq, by simp⟩
    · have hml : (xs.length : Int) ≤ m := by omega
      have e : decide (xs = ys) = true := by
        have h1 := hs.out
        rw [List.take_of_length_le (by omega), List.take_of_length_le (by have := HH.out.2.2; omega)] at h1
        simpa using h1
      have HE := Lib.hid e
      clear e
      go_wp2_with fail
      go_ret
      exact ⟨by rw [HE.out]; rfl, _, rfl⟩
end Go.Proofs.Ytpppknopbjpciaa.Slru
