/- How many bits of a word are set: the sum over its bytes; the walk over math/bits.OnesCount64. -/
import Derived.Test.YtncdaadiadeeiaaProg
import Derived.Laws.BitsAllLaws
import Derived.Laws.Bits128
import Derived.WalkKit
import Derived.WalkSpells
import Derived.WalkLawsBesides
import Derived.Lib.Hide
namespace Go.Proofs.Ytncdaadiadeeiaa.Pop
open Go Go.RowKit

def popN (n x : Nat) : Nat := (List.range n).countP fun i => x.testBit i
theorem popN_split (n b x : Nat) (hb : b < 256) : popN (8 + n) (b + 256 * x) = popN 8 b + popN n x := by
  have ht := Nat.testBit_two_pow_mul_add x (b := b) (i := 8) hb
  unfold popN
  rw [List.range_add, List.countP_append, List.countP_map]
  congr 1
  · refine List.countP_congr fun i hi => ?_
    have hi8 : i < 8 := by simpa using hi
    rw [show b + 256 * x = 2 ^ 8 * x + b from by omega, ht, if_pos hi8]
  · refine List.countP_congr fun i _ => ?_
    simp only [Function.comp]
    rw [show b + 256 * x = 2 ^ 8 * x + b from by omega, ht, if_neg (by omega), show 8 + i - 8 = i from by omega]

def val : List Nat → Nat
  | [] => 0
  | b :: l => b + 256 * val l
def msk (m n : Nat) : Nat := val (List.replicate n m)
theorem and_split (a m a' m' : Nat) (ha : a < 256) (hm : m < 256) : (a + 256 * a') &&& (m + 256 * m') = (a &&& m) + 256 * (a' &&& m') := by
  have h1 := @Nat.and_mod_two_pow (a + 256 * a') (m + 256 * m') 8
  have h2 := @Nat.and_div_two_pow (a + 256 * a') (m + 256 * m') 8
  rw [show (2 : Nat) ^ 8 = 256 from rfl] at h1 h2
  rw [show (a + 256 * a') % 256 = a from by omega, show (m + 256 * m') % 256 = m from by omega] at h1
  rw [show (a + 256 * a') / 256 = a' from by omega, show (m + 256 * m') / 256 = m' from by omega] at h2
  omega
theorem msk_succ (m n : Nat) : msk m (n + 1) = m + 256 * msk m n := rfl
def p1 (b : Nat) : Nat := ((b / 2) &&& 85) + (b &&& 85)
def p2 (b : Nat) : Nat := ((b / 4) &&& 51) + (b &&& 51)
def p3 (b : Nat) : Nat := (b / 16 + b) &&& 15
theorem byte1 : ∀ b : Fin 256, ∀ t : Fin 2, (b.1 / 2 + 128 * t.1) < 256 ∧ (b.1 / 2 + 128 * t.1) &&& 85 = (b.1 / 2) &&& 85 := by decide +kernel
theorem byte2 : ∀ b : Fin 256, ∀ t : Fin 4, (b.1 / 4 + 64 * t.1) < 256 ∧ (b.1 / 4 + 64 * t.1) &&& 51 = (b.1 / 4) &&& 51 := by decide +kernel
theorem byte3 : ∀ b : Fin 256, ∀ t : Fin 5, b.1 % 16 ≤ 4 → b.1 / 16 ≤ 4 → (b.1 / 16 + 16 * t.1 + b.1) < 256 ∧ (b.1 / 16 + 16 * t.1 + b.1) &&& 15 = (b.1 / 16 + b.1) &&& 15 := by decide +kernel
theorem good1 : ∀ b : Fin 256, p1 b.1 < 256 := by decide +kernel
theorem good2 : ∀ b : Fin 256, p2 (p1 b.1) < 256 ∧ p2 (p1 b.1) % 16 ≤ 4 ∧ p2 (p1 b.1) / 16 ≤ 4 := by decide +kernel
theorem pop_byte : ∀ b : Fin 256, p3 (p2 (p1 b.1)) = popN 8 b.1 ∧ popN 8 b.1 ≤ 8 := by decide +kernel
theorem step1 : ∀ (l : List Nat), (∀ b ∈ l, b < 256) → ((val l / 2) &&& msk 85 l.length) + (val l &&& msk 85 l.length) = val (l.map p1)
  | [], _ => by simp [val]
  | b :: l, h => by
    have hb := h b (by simp)
    have ih := step1 l fun c hc => h c (by simp [hc])
    have k := byte1 ⟨b, hb⟩ ⟨val l % 2, by omega⟩
    simp only at k
    rw [List.length_cons, msk_succ]
    show ((b + 256 * val l) / 2 &&& _) + ((b + 256 * val l) &&& _) = p1 b + 256 * val (l.map p1)
    rw [show (b + 256 * val l) / 2 = (b / 2 + 128 * (val l % 2)) + 256 * (val l / 2) from by omega, and_split _ _ _ _ k.1 (by omega), and_split _ _ _ _ hb (by omega), k.2, ← ih]
    unfold p1; omega
theorem step2 : ∀ (l : List Nat), (∀ b ∈ l, b < 256) → ((val l / 4) &&& msk 51 l.length) + (val l &&& msk 51 l.length) = val (l.map p2)
  | [], _ => by simp [val]
  | b :: l, h => by
    have hb := h b (by simp)
    have ih := step2 l fun c hc => h c (by simp [hc])
    have k := byte2 ⟨b, hb⟩ ⟨val l % 4, by omega⟩
    simp only at k
    rw [List.length_cons, msk_succ]
    show ((b + 256 * val l) / 4 &&& _) + ((b + 256 * val l) &&& _) = p2 b + 256 * val (l.map p2)
    rw [show (b + 256 * val l) / 4 = (b / 4 + 64 * (val l % 4)) + 256 * (val l / 4) from by omega, and_split _ _ _ _ k.1 (by omega), and_split _ _ _ _ hb (by omega), k.2, ← ih]
    unfold p2; omega
theorem val_low (l : List Nat) (h : ∀ b ∈ l, b % 16 ≤ 4) : val l % 16 ≤ 4 := by
  cases l with
  | nil => simp [val]
  | cons b l => have := h b (by simp); show (b + 256 * val l) % 16 ≤ 4; omega
theorem step3 : ∀ (l : List Nat), (∀ b ∈ l, b < 256 ∧ b % 16 ≤ 4 ∧ b / 16 ≤ 4) → ((val l / 16 + val l) &&& msk 15 l.length) = val (l.map p3)
  | [], _ => by simp [val]
  | b :: l, h => by
    obtain ⟨hb, h1, h2⟩ := h b (by simp)
    have ih := step3 l fun c hc => h c (by simp [hc])
    have hl := val_low l fun c hc => (h c (by simp [hc])).2.1
    have k := byte3 ⟨b, hb⟩ ⟨val l % 16, by omega⟩ h1 h2
    simp only at k
    rw [List.length_cons, msk_succ]
    show (((b + 256 * val l) / 16 + (b + 256 * val l)) &&& _) = p3 b + 256 * val (l.map p3)
    rw [show (b + 256 * val l) / 16 + (b + 256 * val l) = (b / 16 + 16 * (val l % 16) + b) + 256 * (val l / 16 + val l) from by omega, and_split _ _ _ _ k.1 (by omega), k.2, ih]
    rfl
def bytesOf (x : Nat) : List Nat := [x % 256, x / 256 % 256, x / 65536 % 256, x / 16777216 % 256, x / 4294967296 % 256, x / 1099511627776 % 256, x / 281474976710656 % 256, x / 72057594037927936]
theorem val_bytes (x : Nat) : val (bytesOf x) = x := by
  simp only [bytesOf, val]; omega
theorem bytes_lt {x : Nat} (h : x < 18446744073709551616) : ∀ b ∈ bytesOf x, b < 256 := by
  intro b hb
  simp only [bytesOf, List.mem_cons, List.not_mem_nil, or_false] at hb
  omega
theorem pop_val (b0 b1 b2 b3 b4 b5 b6 b7 : Nat) (h0 : b0 < 256) (h1 : b1 < 256) (h2 : b2 < 256) (h3 : b3 < 256) (h4 : b4 < 256) (h5 : b5 < 256) (h6 : b6 < 256) (h7 : b7 < 256) :
    popN 64 (val [b0, b1, b2, b3, b4, b5, b6, b7]) = popN 8 b0 + (popN 8 b1 + (popN 8 b2 + (popN 8 b3 + (popN 8 b4 + (popN 8 b5 + (popN 8 b6 + popN 8 b7)))))) := by
  simp only [val]
  rw [show 64 = 8 + (8 + (8 + (8 + (8 + (8 + (8 + (8 + 0))))))) from rfl, popN_split _ _ _ h0, popN_split _ _ _ h1, popN_split _ _ _ h2, popN_split _ _ _ h3, popN_split _ _ _ h4, popN_split _ _ _ h5, popN_split _ _ _ h6, popN_split _ _ _ h7]
  rfl
theorem val_div (c : Nat) (l : List Nat) (h : c < 256) : val (c :: l) / 256 = val l := by
  show (c + 256 * val l) / 256 = val l
  omega
theorem val_lt : ∀ (l : List Nat), (∀ b ∈ l, b < 256) → val l < 256 ^ l.length
  | [], _ => by simp [val]
  | b :: l, h => by
    have hb := h b (by simp)
    have ih := val_lt l fun c hc => h c (by simp [hc])
    show b + 256 * val l < 256 ^ (l.length + 1)
    rw [Nat.pow_succ]
    omega
theorem val_third : ∀ (l : List Nat), (∀ b ∈ l, b ≤ 68) → 3 * val l < 256 ^ l.length
  | [], _ => by simp [val]
  | b :: l, h => by
    have hb := h b (by simp)
    have ih := val_third l fun c hc => h c (by simp [hc])
    show 3 * (b + 256 * val l) < 256 ^ (l.length + 1)
    rw [Nat.pow_succ]
    omega
theorem lt8 (c0 c1 c2 c3 c4 c5 c6 c7 : Nat) (h : ∀ b ∈ [c0, c1, c2, c3, c4, c5, c6, c7], b < 256) : val [c0, c1, c2, c3, c4, c5, c6, c7] < 18446744073709551616 := by
  have := val_lt _ h
  simpa using this
theorem add1 (c0 c1 c2 c3 c4 c5 c6 c7 : Nat) : val [c0, c1, c2, c3, c4, c5, c6, c7] + val [c1, c2, c3, c4, c5, c6, c7] = val [c0 + c1, c1 + c2, c2 + c3, c3 + c4, c4 + c5, c5 + c6, c6 + c7, c7] := by
  simp only [val]; omega
theorem add2 (c0 c1 c2 c3 c4 c5 c6 c7 : Nat) : val [c0, c1, c2, c3, c4, c5, c6, c7] + val [c2, c3, c4, c5, c6, c7] = val [c0 + c2, c1 + c3, c2 + c4, c3 + c5, c4 + c6, c5 + c7, c6, c7] := by
  simp only [val]; omega
theorem add4 (c0 c1 c2 c3 c4 c5 c6 c7 : Nat) : val [c0, c1, c2, c3, c4, c5, c6, c7] + val [c4, c5, c6, c7] = val [c0 + c4, c1 + c5, c2 + c6, c3 + c7, c4, c5, c6, c7] := by
  simp only [val]; omega
theorem small8 {c0 c1 c2 c3 c4 c5 c6 c7 n : Nat} (h0 : c0 ≤ n) (h1 : c1 ≤ n) (h2 : c2 ≤ n) (h3 : c3 ≤ n) (h4 : c4 ≤ n) (h5 : c5 ≤ n) (h6 : c6 ≤ n) (h7 : c7 ≤ n) (hn : n < 256) : ∀ b ∈ [c0, c1, c2, c3, c4, c5, c6, c7], b < 256 := by
  intro b hb
  simp only [List.mem_cons, List.not_mem_nil, or_false] at hb
  omega
theorem fold_up (c0 c1 c2 c3 c4 c5 c6 c7 : Nat) (h0 : c0 ≤ 8) (h1 : c1 ≤ 8) (h2 : c2 ≤ 8) (h3 : c3 ≤ 8) (h4 : c4 ≤ 8) (h5 : c5 ≤ 8) (h6 : c6 ≤ 8) (h7 : c7 ≤ 8) (x y z v : Nat)
    (hx : x = val [c0, c1, c2, c3, c4, c5, c6, c7]) (hy : y = x + x / 256) (hz : z = y + y / 65536) (hv : v = z + z / 4294967296) :
    v < 18446744073709551616 ∧ y < 18446744073709551616 ∧ z < 18446744073709551616 ∧ v % 128 = c0 + (c1 + (c2 + (c3 + (c4 + (c5 + (c6 + c7)))))) := by
  have e1 : x / 256 = val [c1, c2, c3, c4, c5, c6, c7] := by rw [hx, val_div _ _ (by omega)]
  rw [e1, hx, add1] at hy
  have e2 : y / 65536 = val [c2 + c3, c3 + c4, c4 + c5, c5 + c6, c6 + c7, c7] := by
    rw [show (65536 : Nat) = 256 * 256 from rfl, ← Nat.div_div_eq_div_mul, hy, val_div _ _ (by omega), val_div _ _ (by omega)]
  rw [e2, hy, add2] at hz
  have e3 : z / 4294967296 = val [c4 + c5 + (c6 + c7), c5 + c6 + c7, c6 + c7, c7] := by
    rw [show (4294967296 : Nat) = 256 * 256 * 256 * 256 from rfl, ← Nat.div_div_eq_div_mul, ← Nat.div_div_eq_div_mul, ← Nat.div_div_eq_div_mul, hz, val_div _ _ (by omega), val_div _ _ (by omega), val_div _ _ (by omega), val_div _ _ (by omega)]
  rw [e3, hz, add4] at hv
  have by_ := lt8 _ _ _ _ _ _ _ _ (small8 (n := 64) (show c0 + c1 ≤ 64 by omega) (show c1 + c2 ≤ 64 by omega) (show c2 + c3 ≤ 64 by omega) (show c3 + c4 ≤ 64 by omega) (show c4 + c5 ≤ 64 by omega) (show c5 + c6 ≤ 64 by omega) (show c6 + c7 ≤ 64 by omega) (show c7 ≤ 64 by omega) (by omega))
  have bz := lt8 _ _ _ _ _ _ _ _ (small8 (n := 64) (show c0 + c1 + (c2 + c3) ≤ 64 by omega) (show c1 + c2 + (c3 + c4) ≤ 64 by omega) (show c2 + c3 + (c4 + c5) ≤ 64 by omega) (show c3 + c4 + (c5 + c6) ≤ 64 by omega) (show c4 + c5 + (c6 + c7) ≤ 64 by omega) (show c5 + c6 + c7 ≤ 64 by omega) (show c6 + c7 ≤ 64 by omega) (show c7 ≤ 64 by omega) (by omega))
  have bv := lt8 _ _ _ _ _ _ _ _ (small8 (n := 64) (show c0 + c1 + (c2 + c3) + (c4 + c5 + (c6 + c7)) ≤ 64 by omega) (show c1 + c2 + (c3 + c4) + (c5 + c6 + c7) ≤ 64 by omega) (show c2 + c3 + (c4 + c5) + (c6 + c7) ≤ 64 by omega) (show c3 + c4 + (c5 + c6) + c7 ≤ 64 by omega) (show c4 + c5 + (c6 + c7) ≤ 64 by omega) (show c5 + c6 + c7 ≤ 64 by omega) (show c6 + c7 ≤ 64 by omega) (show c7 ≤ 64 by omega) (by omega))
  rw [← hy] at by_
  rw [← hz] at bz
  rw [← hv] at bv
  refine ⟨bv, by_, bz, ?_⟩
  rw [hv]
  show (c0 + c1 + (c2 + c3) + (c4 + c5 + (c6 + c7)) + 256 * val _) % 128 = _
  generalize val _ = R
  omega
theorem u64w {n : Nat} (h : n < 18446744073709551616) : IntKind.u64.wrap (n : Int) = n := by rw [IntKind.wrap_u64]; omega
theorem good1' {b : Nat} (h : b < 256) : p1 b < 256 := good1 ⟨b, h⟩
theorem good2' {b : Nat} (h : b < 256) : p2 (p1 b) < 256 ∧ p2 (p1 b) % 16 ≤ 4 ∧ p2 (p1 b) / 16 ≤ 4 := good2 ⟨b, h⟩
theorem pop_byte' {b : Nat} (h : b < 256) : p3 (p2 (p1 b)) = popN 8 b ∧ popN 8 b ≤ 8 := pop_byte ⟨b, h⟩
/-- The steps of OnesCount64, named. -/
theorem ones_steps {x : Nat} (hx : x < 18446744073709551616) : ∃ x1 x2 x3, x1 = ((x / 2) &&& msk 85 8) + (x &&& msk 85 8) ∧ x1 < 18446744073709551616 ∧ x2 = ((x1 / 4) &&& msk 51 8) + (x1 &&& msk 51 8) ∧ x2 < 18446744073709551616 ∧
    x2 / 16 + x2 < 18446744073709551616 ∧ x3 = ((x2 / 16 + x2) &&& msk 15 8) ∧ x3 < 18446744073709551616 ∧ ∀ y z v, y = x3 + x3 / 256 → z = y + y / 65536 → v = z + z / 4294967296 →
      y < 18446744073709551616 ∧ z < 18446744073709551616 ∧ v < 18446744073709551616 ∧ v % 128 = popN 64 x := by
  have hb := bytes_lt hx
  have hv := val_bytes x
  obtain ⟨b0, b1, b2, b3, b4, b5, b6, b7, hl⟩ : ∃ b0 b1 b2 b3 b4 b5 b6 b7, bytesOf x = [b0, b1, b2, b3, b4, b5, b6, b7] := ⟨_, _, _, _, _, _, _, _, rfl⟩
  rw [hl] at hb hv
  clear hl
  have s1 := step1 _ hb
  have g1 : ∀ b ∈ [b0, b1, b2, b3, b4, b5, b6, b7].map p1, b < 256 := fun b h => by obtain ⟨c, hc, rfl⟩ := List.mem_map.1 h; exact good1' (hb c hc)
  have g2 : ∀ b ∈ ([b0, b1, b2, b3, b4, b5, b6, b7].map p1).map p2, b < 256 ∧ b % 16 ≤ 4 ∧ b / 16 ≤ 4 := fun b h => by
    obtain ⟨d, hd, rfl⟩ := List.mem_map.1 h
    obtain ⟨c, hc, rfl⟩ := List.mem_map.1 hd
    exact good2' (hb c hc)
  have s2 := step2 _ g1
  have s3 := step3 _ g2
  have l1 := lt8 _ _ _ _ _ _ _ _ g1
  have l2 := lt8 _ _ _ _ _ _ _ _ (fun b h => (g2 b h).1)
  have l2' := val_third _ (fun b h => by have := g2 b h; omega : ∀ b ∈ ([b0, b1, b2, b3, b4, b5, b6, b7].map p1).map p2, b ≤ 68)
  have l3 : ∀ c ∈ [b0, b1, b2, b3, b4, b5, b6, b7], p3 (p2 (p1 c)) = popN 8 c ∧ popN 8 c ≤ 8 := fun c hc => pop_byte' (hb c hc)
  simp only [List.mem_cons, List.not_mem_nil, or_false, forall_eq_or_imp, forall_eq] at l3 hb
  obtain ⟨k0, k1, k2, k3, k4, k5, k6, k7⟩ := l3
  obtain ⟨d0, d1, d2, d3, d4, d5, d6, d7⟩ := hb
  have hpop := pop_val b0 b1 b2 b3 b4 b5 b6 b7 d0 d1 d2 d3 d4 d5 d6 d7
  rw [hv] at hpop s1
  simp only [List.map_cons, List.map_nil, List.length_cons, List.length_nil, Nat.reduceAdd, Nat.reducePow] at s1 s2 s3 l1 l2 l2'
  rw [k0.1, k1.1, k2.1, k3.1, k4.1, k5.1, k6.1, k7.1] at s3
  have l4 := lt8 _ _ _ _ _ _ _ _ (small8 k0.2 k1.2 k2.2 k3.2 k4.2 k5.2 k6.2 k7.2 (by omega))
  refine ⟨_, _, _, s1.symm, l1, s2.symm, l2, by omega, s3.symm, l4, fun y z v hy hz hw => ?_⟩
  have hf := fold_up _ _ _ _ _ _ _ _ k0.2 k1.2 k2.2 k3.2 k4.2 k5.2 k6.2 k7.2 _ y z v rfl hy hz hw
  rw [← hpop] at hf
  exact ⟨hf.2.1, hf.2.2.1, hf.1, hf.2.2.2⟩
theorem mask85 : msk 85 8 = 6148914691236517205 := by decide +kernel
theorem mask51 : msk 51 8 = 3689348814741910323 := by decide +kernel
theorem mask15 : msk 15 8 = 1085102592571150095 := by decide +kernel
theorem wrap64_mod (v : Int) : wrap64 v % 128 = v % 128 := by
  unfold wrap64; omega
set_option maxHeartbeats 1000000 in
theorem ones_any (x : Nat) (hx : x < 18446744073709551616) (w : World) : Calls Try.prog 54 #[.int .u64 x] w fun e w' => e = .returned (.int .i64 (popN 64 x : Nat)) ∧ w = w' := by
  obtain ⟨x1, x2, x3, s1, l1, s2, l2, l2', s3, l3, hf⟩ := ones_steps hx
  obtain ⟨ly, lz, lv, hv⟩ := hf _ _ _ rfl rfl rfl
  rw [mask85] at s1
  rw [mask51] at s2
  rw [mask15] at s3
  obtain ⟨y, hy⟩ : ∃ y, x3 + x3 / 256 = y := ⟨_, rfl⟩
  rw [hy] at ly lz lv hv
  obtain ⟨z, hz⟩ : ∃ z, y + y / 65536 = z := ⟨_, rfl⟩
  rw [hz] at lz lv hv
  obtain ⟨v, hv0⟩ : ∃ v, z + z / 4294967296 = v := ⟨_, rfl⟩
  rw [hv0] at lv hv
  have e1 : IntKind.u64.wrap (bits BinOp.and IntKind.u64 ((x : Int) / 2) 6148914691236517205 + bits BinOp.and IntKind.u64 (x : Int) 6148914691236517205) = x1 := by
    rw [show (x : Int) / 2 = ((x / 2 : Nat) : Int) from by omega, show (6148914691236517205 : Int) = ((6148914691236517205 : Nat) : Int) from rfl, u64_and_nat _ _ (by omega) (by omega), u64_and_nat _ _ (by omega) (by omega), ← Int.natCast_add, ← s1, u64w l1]
  have e2 : IntKind.u64.wrap (bits BinOp.and IntKind.u64 ((x1 : Int) / 4) 3689348814741910323 + bits BinOp.and IntKind.u64 (x1 : Int) 3689348814741910323) = x2 := by
    rw [show (x1 : Int) / 4 = ((x1 / 4 : Nat) : Int) from by omega, show (3689348814741910323 : Int) = ((3689348814741910323 : Nat) : Int) from rfl, u64_and_nat _ _ (by omega) (by omega), u64_and_nat _ _ (by omega) (by omega), ← Int.natCast_add, ← s2, u64w l2]
  have e3 : bits BinOp.and IntKind.u64 (IntKind.u64.wrap ((x2 : Int) / 16 + x2)) 1085102592571150095 = x3 := by
    rw [show (x2 : Int) / 16 + x2 = ((x2 / 16 + x2 : Nat) : Int) from by omega, u64w l2', show (1085102592571150095 : Int) = ((1085102592571150095 : Nat) : Int) from rfl, u64_and_nat _ _ (by omega) (by omega), ← s3]
  have e4 : IntKind.u64.wrap ((x3 : Int) + (x3 : Int) / 256) = y := by
    rw [show (x3 : Int) + (x3 : Int) / 256 = ((x3 + x3 / 256 : Nat) : Int) from by omega, hy, u64w ly]
  have e5 : IntKind.u64.wrap ((y : Int) + (y : Int) / 65536) = z := by
    rw [show (y : Int) + (y : Int) / 65536 = ((y + y / 65536 : Nat) : Int) from by omega, hz, u64w lz]
  have e6 : IntKind.u64.wrap ((z : Int) + (z : Int) / 4294967296) = v := by
    rw [show (z : Int) + (z : Int) / 4294967296 = ((z + z / 4294967296 : Nat) : Int) from by omega, hv0, u64w lv]
  have HV := Lib.hid hv
  clear s1 s2 s3 hy hz hv0 hv hf l1 l2 l2' l3 ly lz
  go_enter Try.func54, Try.ntmps54
  go_wp2
  go_ret
  refine ⟨?_, rfl⟩
  have he : bits BinOp.and IntKind.i64 (wrap64 (v : Int)) 127 = (popN 64 x : Nat) := by
    rw [i64_and127, wrap64_mod, ← HV.out]
    rfl
  exact congrArg (fun n => Ending.returned (.int .i64 n)) he
end Go.Proofs.Ytncdaadiadeeiaa.Pop
