/- Layer 9, the law's own functions: short, same, numbered; Left, Buckets. -/
import Derived.Test.YtekcogoijlbmnaaTabI16
import Derived.Test.YtekcogoijlbmnaaOp9
import Derived.Test.YtekcogoijlbmnaaTabL1
import Derived.Deep.LoopGhost
namespace Go.Proofs.Ytekcogoijlbmnaa.TabL
open Go Go.RowKit Go.Proofs.Ytekcogoijlbmnaa.Mem Go.Proofs.Ytekcogoijlbmnaa.Ops Go.Proofs.Ytekcogoijlbmnaa.Tab Go.Proofs.Ytekcogoijlbmnaa.TabI

theorem left_any {w : World} {b : Nat} {F : Nat → Prop} {seed : Int} {s : St V} (h : At w b F seed s) : Calls Try.prog 17 #[.pointer (some ⟨b, 0, none⟩)] w fun e w' => e = .returned (.int .i64 s.left) ∧ w = w' := by
  obtain ⟨c, ea, eb, nb, gv, h, -, -, -, h2, -⟩ := h
  have c1 : w.cell? ⟨b, 3, none⟩ = some (.int .i64 (s.left : Nat)) := by rw [← h2]; exact Mem.row_cell h.blk 3
  clear h h2
  go_enter Try.func17, Try.ntmps17
  go_wp2
  go_ret
  exact ⟨rfl, rfl⟩
theorem buckets_any {w : World} {b : Nat} {F : Nat → Prop} {seed : Int} {s : St V} (h : At w b F seed s) : Calls Try.prog 18 #[.pointer (some ⟨b, 0, none⟩)] w fun e w' => e = .returned (.int .i64 s.buckets) ∧ w = w' := by
  obtain ⟨c, ea, eb, nb, gv, h, -, -, h2, -, -⟩ := h
  have c1 : w.cell? ⟨b, 2, none⟩ = some (.slice (some ⟨nb, 0, none⟩) s.buckets s.buckets) := by rw [← h2]; exact Mem.row_cell h.blk 2
  clear h h2
  go_enter Try.func18, Try.ntmps18
  go_wp2
  go_ret
  exact ⟨rfl, rfl⟩
def numB (n : Nat) : ByteArray := ⟨#[(n / 100 % 100).toUInt8, (n % 100).toUInt8]⟩
theorem num_size (n : Nat) : (numB n).size ≤ maxLen := by show 2 ≤ maxLen; unfold maxLen; omega
set_option maxRecDepth 100000 in
set_option maxHeartbeats 1000000 in
theorem numbered_any (n : Nat) (hn : n ≤ 1000000) (w : World) : Calls Try.prog 23 #[.int .i64 n] w fun e w' => e = .returned (.string (numB n)) ∧ Below w.heap.size w w' := by
  have hn2 : (n : Int) ≤ 1000000 := by omega
  have hconv : (convert 64 9 (.slice (some ⟨w.heap.size, 0, none⟩) 2 2)).run Try.prog (w.alloc (.cells #[.int .u8 ((n : Int) / 100 % 100), .int .u8 ((n : Int) % 100)] 5)) = .ok (.string (numB n)) (w.alloc (.cells #[.int .u8 ((n : Int) / 100 % 100), .int .u8 ((n : Int) % 100)] 5)) := by
    have h1 : ((n / 100 % 100).toUInt8.toNat : Int) = (n : Int) / 100 % 100 := by
      have : (n / 100 % 100).toUInt8.toNat = n / 100 % 100 := by
        show (n / 100 % 100) % 256 = _
        omega
      rw [this]; omega
    have h2 : ((n % 100).toUInt8.toNat : Int) = (n : Int) % 100 := by
      have : (n % 100).toUInt8.toNat = n % 100 := by
        show (n % 100) % 256 = _
        omega
      rw [this]; omega
    refine run_convert_bytes_back _ 64 9 5 ⟨w.heap.size, 0, none⟩ 2 [(n / 100 % 100).toUInt8, (n % 100).toUInt8] Try.underlying64 Try.underlying5 Try.underlying9 fun j hj => ?_
    have hj2 : j = 0 ∨ j = 1 := by simp at hj; omega
    rcases hj2 with rfl | rfl
    · rw [Addr.add_lit]
      have := Mem.row_cell (Mem.new_block w (.cells #[.int .u8 ((n : Int) / 100 % 100), .int .u8 ((n : Int) % 100)] 5)) 0
      rw [this]; simp only [List.getElem_cons_zero]; rw [h1]; rfl
    · rw [Addr.add_lit]
      have := Mem.row_cell (Mem.new_block w (.cells #[.int .u8 ((n : Int) / 100 % 100), .int .u8 ((n : Int) % 100)] 5)) 1
      rw [this]; simp only [List.getElem_cons_succ, List.getElem_cons_zero]; rw [h2]; rfl
  go_enter Try.func23, Try.ntmps23
  go_wp2
  go_ret
  exact ⟨rfl, Mem.al (Below.refl _ _) _⟩

def shortB (l : List Op) : Bool := decide (l.length ≤ 300 ∧ ∀ o ∈ l, o.key.size ≤ 300)
set_option maxHeartbeats 1000000 in
theorem short_any {w : World} {x : Option Addr} {c : Nat} {l : List Op} (hlies : Lies w 3 encO x l) (hlen : l.length ≤ maxLen) :
    Calls Try.prog 9 #[.slice x l.length c] w fun e w' => e = .returned (.bool (shortB l)) ∧ w = w' := by
  unfold maxLen at hlen
  by_cases hn : 300 < l.length
  · have e : shortB l = false := by unfold shortB; simp; omega
    rw [e]
    have hn' : (300 : Int) < l.length := by omega
    clear hlies e hn
    go_enter Try.func9, Try.ntmps9
    go_wp2_with fail
    go_ret
    exact ⟨rfl, rfl⟩
  have hn' : (l.length : Int) ≤ 300 := by omega
  have HL := Lib.hid (And.intro hlies hn)
  clear hlies hn
  go_enter Try.func9, Try.ntmps9
  go_wp2_with fail
  go_loopg [3] l.length (fun g i wr => ∃ m : Nat, i = .int .i64 m ∧ g + m = l.length ∧ Hid (∀ j o, j < m → l[j]? = some o → o.key.size ≤ 300) ∧ wr = w)
  case atStart => exact ⟨0, rfl, by omega, Lib.hid (fun j o h => absurd h (by omega)), rfl⟩
  case round =>
    obtain ⟨m, rfl, hg, hs, rfl⟩ := hrel
    have HG := Lib.hid hg
    clear hg
    by_cases hm : m < l.length
    · obtain ⟨o, ho⟩ : ∃ o, l[m]? = some o := ⟨_, List.getElem?_eq_getElem hm⟩
      obtain ⟨B, off, rfl, hB, hc⟩ := HL.out.1 m o ho
      have c1 := hc 1 _ rfl
      have hmi : (m : Int) < l.length := by omega
      have HO := Lib.hid ho
      clear hc hB ho
      by_cases hk : o.key.size ≤ 300
      · have hki : (o.key.size : Int) ≤ 300 := by omega
        have HK := Lib.hid hk
        clear hk
        go_wp2_with fail
        go_roundg (l.length - (m + 1))
        case measure => have := HG.out; omega
        case rel =>
          refine ⟨m + 1, by go_num, by have := HG.out; omega, Lib.hid (fun j p hj hp => ?_), rfl⟩
          by_cases e : j = m
          · subst e; rw [HO.out] at hp; injection hp with hp; subst hp; exact HK.out
          · exact hs.out j p (by omega) hp
      · have hki : (300 : Int) < o.key.size := by omega
        have e : shortB l = false := by unfold shortB; simp; exact fun _ => ⟨o, List.mem_of_getElem? HO.out, by omega⟩
        have HE := Lib.hid e
        clear hk e
        go_wp2_with fail
        go_ret
        exact ⟨by rw [HE.out]; rfl, rfl⟩
    · have hml : (l.length : Int) ≤ m := by omega
      have e : shortB l = true := by
        unfold shortB; simp
        refine ⟨by omega, fun p hp => ?_⟩
        obtain ⟨j, hj⟩ := List.mem_iff_getElem?.1 hp
        exact hs.out j p (by have := (List.getElem?_eq_some_iff.1 hj).1; omega) hj
      have HE := Lib.hid e
      clear e
      go_wp2_with fail
      go_ret
      exact ⟨by rw [HE.out]; rfl, rfl⟩
/-- Pairs that lie behind a slice's value. -/
def ReadsP (w : World) (v : Value) (xs : Pairs V) : Prop := ∃ a c, v = .slice a xs.length c ∧ xs.length ≤ c ∧ ∀ i p, xs[i]? = some p → ∃ g, a = some ⟨g, 0, none⟩ ∧ g < w.heap.size ∧ w.cell? ⟨g, i * 2, none⟩ = some (.string p.1) ∧ w.cell? ⟨g, i * 2 + 1, none⟩ = some (.int .i64 p.2)
theorem ReadsP.of_row {w : World} {base : Nat} {e : TypeId} {v : Value} {xs : Pairs V} (h : w.ownsRow base e 2 v xs.length (cellsP xs)) : ReadsP w v xs := by
  rcases h.2 with ⟨e1, e2⟩ | ⟨g, cap, cur, e1, _, e2, e3, _, e4, e5⟩
  · have : xs = [] := List.eq_nil_of_length_eq_zero (by omega)
    subst this
    exact ⟨none, 0, by rw [e1]; rfl, Nat.le_refl _, fun i k hi => by simp at hi⟩
  · refine ⟨some ⟨g, 0, none⟩, cap, e1, e3, fun i p hi => ⟨g, rfl, (Array.getElem?_eq_some_iff.1 e2).1, ?_⟩⟩
    have hil := (List.getElem?_eq_some_iff.1 hi).1
    obtain ⟨q1, q2⟩ := cellsP_get xs i p hi
    have hcell : ∀ m x, m < xs.length * 2 → (cellsP xs)[m]? = some x → w.cell? ⟨g, m, none⟩ = some x := fun m x hm hx => by
      rw [← e5, List.getElem?_take, if_pos hm, Array.getElem?_toList] at hx
      exact (Mem.row_cell e2 m).trans hx
    exact ⟨hcell _ _ (by omega) q1, hcell _ _ (by omega) q2⟩
theorem ReadsP.below {w w' : World} {v : Value} {xs : Pairs V} (h : ReadsP w v xs) (hb : Below w.heap.size w w') : ReadsP w' v xs := by
  obtain ⟨a, c, h1, h2, h3⟩ := h
  refine ⟨a, c, h1, h2, fun i k hi => ?_⟩
  obtain ⟨g, e, hg, hc, hd⟩ := h3 i k hi
  exact ⟨g, e, Nat.lt_of_lt_of_le hg hb.size, (World.cell?_of_block (hb.block g hg)).trans hc, (World.cell?_of_block (hb.block g hg)).trans hd⟩
/-- A list's beginning. -/
theorem ReadsP.take {w : World} {a : Option Addr} {m c : Nat} {xs : Pairs V} (h : ReadsP w (.slice a m c) xs) {k : Nat} (hk : k ≤ xs.length) : ReadsP w (.slice a k c) (xs.take k) := by
  obtain ⟨a', c', e, h2, h3⟩ := h
  injection e with e1 e2 e3
  subst e1; subst e3
  refine ⟨a, c, by rw [List.length_take, Nat.min_eq_left hk], by rw [List.length_take]; omega, fun i p hi => ?_⟩
  rw [List.getElem?_take] at hi
  split at hi
  · exact h3 i p hi
  · cases hi
theorem pair_ne {k k' : ByteArray} {v v' : Int} (h : (k, v) ≠ (k', v')) : k ≠ k' ∨ (k = k' ∧ v ≠ v') := by
  by_cases e : k = k'
  · exact .inr ⟨e, fun e2 => h (by rw [e, e2])⟩
  · exact .inl e
set_option maxHeartbeats 2000000 in
theorem same_any {w : World} {va vb : Value} {xs ys : Pairs V} (ha : ReadsP w va xs) (hb : ReadsP w vb ys) (hl : xs.length ≤ 1000000000) :
    Calls Try.prog 15 #[va, vb] w fun e w' => e = .returned (.bool (decide (xs = ys))) ∧ ∃ d, w' = w.drewN d := by
  obtain ⟨a, c, rfl, hac, ha⟩ := ha
  obtain ⟨a', c', rfl, hbc, hb⟩ := hb
  by_cases hlen : xs.length = ys.length
  case neg =>
    have e : decide (xs = ys) = false := by simp; exact fun e => hlen (by rw [e])
    rw [e]
    have hne : ((xs.length : Int) != ys.length) = true := by simp; omega
    clear ha hb e hlen
    go_enter Try.func15, Try.ntmps15
    go_wp2_with fail
    go_ret
    exact ⟨rfl, 0, rfl⟩
  have HH := Lib.hid (And.intro ha (And.intro hb hlen))
  have hbc' : xs.length ≤ c' := by omega
  rw [← hlen]
  have hee : ((xs.length : Int) != xs.length) = false := by simp
  clear ha hb hlen hbc
  go_enter Try.func15, Try.ntmps15
  go_wp2_with fail
  go_loopg [5] xs.length (fun g i wr => ∃ m : Nat, i = .int .i64 m ∧ g + m = xs.length ∧ Hid (xs.take m = ys.take m) ∧ ∃ d, wr = w.drewN d)
  case atStart => exact ⟨0, rfl, by omega, Lib.hid rfl, 0, rfl⟩
  case round =>
    obtain ⟨m, rfl, hg, hs, d, rfl⟩ := hrel
    have HG := Lib.hid hg
    clear hg
    by_cases hm : m < xs.length
    · obtain ⟨⟨k, v⟩, hk⟩ : ∃ k, xs[m]? = some k := ⟨_, List.getElem?_eq_getElem hm⟩
      obtain ⟨⟨k', v'⟩, hk'⟩ : ∃ k, ys[m]? = some k := ⟨_, List.getElem?_eq_getElem (by have := HH.out.2.2; omega)⟩
      obtain ⟨g, rfl, hg, c0, d0⟩ := HH.out.1 m _ hk
      obtain ⟨g', rfl, hg', c0', d0'⟩ := HH.out.2.1 m _ hk'
      have hmi : (m : Int) < xs.length := by omega
      have c0 : (w.drewN d).cell? ⟨g, m * 2, none⟩ = some (.string k) := c0
      have c0' : (w.drewN d).cell? ⟨g', m * 2, none⟩ = some (.string k') := c0'
      have d0 : (w.drewN d).cell? ⟨g, m * 2 + 1, none⟩ = some (.int .i64 v) := d0
      have d0' : (w.drewN d).cell? ⟨g', m * 2 + 1, none⟩ = some (.int .i64 v') := d0'
      have HK := Lib.hid (And.intro hk hk')
      clear hk hk' hg hg'
      by_cases hkk : (k, v) = (k', v')
      · injection hkk with h1 h2
        subst h1; subst h2
        have hse := str_eq k
        have hve : (v == v) = true := by simp
        go_wp2_with fail
        go_quiet (fail)
        go_wp2_with fail
        go_roundg (xs.length - (m + 1))
        case measure => have := HG.out; omega
        case rel => exact ⟨m + 1, by go_num, by have := HG.out; omega, Lib.hid (by rw [List.take_add_one, List.take_add_one, hs.out, HK.out.1, HK.out.2]), _, rfl⟩
      · have e : decide (xs = ys) = false := by
          simp; intro e
          have h1 := HK.out.1
          rw [e, HK.out.2] at h1
          injection h1 with h1
          exact hkk h1.symm
        have HE := Lib.hid e
        have hpn := pair_ne hkk
        clear hkk e
        rcases hpn with hn | ⟨rfl, hn⟩
        · have hse := str_ne hn
          clear hn
          go_wp2_with fail
          go_quiet (fail)
          go_wp2_with fail
          go_ret
          exact ⟨by rw [HE.out]; rfl, d + nq, by simp⟩
        · have hse := str_eq k
          have hve : (v == v') = false := by simpa using hn
          clear hn
          go_wp2_with fail
          go_quiet (fail)
          go_wp2_with fail
          go_ret
          exact ⟨by rw [HE.out]; rfl, d + nq, by simp⟩
    · have hml : (xs.length : Int) ≤ m := by omega
      have e : decide (xs = ys) = true := by
        have h1 := hs.out
        rw [List.take_of_length_le (by omega), List.take_of_length_le (by have := HH.out.2.2; omega)] at h1
        simpa using h1
      have HE := Lib.hid e
      clear e
      go_wp2_with fail
      go_ret
      exact ⟨by rw [HE.out]; rfl, _, rfl⟩
end Go.Proofs.Ytekcogoijlbmnaa.TabL
