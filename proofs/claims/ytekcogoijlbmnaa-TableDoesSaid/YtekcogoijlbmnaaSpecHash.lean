/- The hash of layer 3 as plain functions on whole numbers, in the form in which a walk spells them; that they lie below 2^64; that Mix, and a step, go back. -/
import Derived.Laws.BitsAllLaws
import Derived.Laws.BitsLemmas
namespace Go.Proofs.Ytekcogoijlbmnaa.Hash
open Go

/-- 2^64, behind a name. -/
def two64 : Int := 18446744073709551616

def mixA (a : Int) : Int := IntKind.u64.wrap (bits BinOp.xor IntKind.u64 a (a / 1073741824) * 13787848793156543929)
def mixC (b : Int) : Int := IntKind.u64.wrap (bits BinOp.xor IntKind.u64 b (b / 134217728) * 10723151780598845931)
def mixI (a : Int) : Int := bits BinOp.xor IntKind.u64 (mixC (mixA a)) (mixC (mixA a) / 2147483648)
def stepI (h c : Int) : Int := IntKind.u64.wrap (bits BinOp.xor IntKind.u64 h c * 1099511628211)
def foldI (h : Int) (l : List UInt8) : Int := l.foldl (fun h c => stepI h (c.toNat : Int)) h
def ofI (seed : Int) (l : List UInt8) : Int := mixI (foldI (mixI seed) l)
def belowI (h n : Int) : Int := if n < 1 then 0 else h % n
/-- The i-th of several hashes. -/
def nthI (seed : Int) (l : List UInt8) (i : Nat) : Int := ofI (IntKind.u64.wrap (seed + (i : Int))) l

theorem wrap_range (n : Int) : 0 ≤ IntKind.u64.wrap n ∧ IntKind.u64.wrap n < 18446744073709551616 := by
  rw [IntKind.wrap_u64]; omega
theorem wrap_eq {n : Int} (h0 : 0 ≤ n) (h1 : n < 18446744073709551616) : IntKind.u64.wrap n = n := by
  rw [IntKind.wrap_u64]; omega

/-! ### by bit vectors -/
abbrev B64 := BitVec 64
def vI (x : B64) : Int := (x.toNat : Int)
theorem vI_range (x : B64) : 0 ≤ vI x ∧ vI x < 18446744073709551616 := by
  unfold vI; have := x.isLt; omega
theorem vI_inj {x y : B64} (h : vI x = vI y) : x = y := by
  unfold vI at h; exact BitVec.eq_of_toNat_eq (by omega)
def ofV (a : Int) : B64 := BitVec.ofNat 64 a.toNat
theorem vI_ofV {a : Int} (h0 : 0 ≤ a) (h1 : a < 18446744073709551616) : vI (ofV a) = a := by
  unfold vI ofV; rw [BitVec.toNat_ofNat, Nat.mod_eq_of_lt (by omega)]; omega

theorem xor_v (x y : B64) : bits BinOp.xor IntKind.u64 (vI x) (vI y) = vI (x ^^^ y) := by
  unfold vI; rw [u64_xor_nat _ _ x.isLt y.isLt, BitVec.toNat_xor]
theorem wrap_mul_v (x : B64) (c : Nat) : IntKind.u64.wrap (vI x * (c : Int)) = vI (x * BitVec.ofNat 64 c) := by
  unfold vI
  rw [IntKind.wrap_u64, BitVec.toNat_mul, BitVec.toNat_ofNat, Nat.mul_mod_mod]
  omega
theorem shr_v (x : B64) (k c : Nat) (hc : c = 2 ^ k) : vI x / (c : Int) = vI (x >>> k) := by
  unfold vI; rw [BitVec.toNat_ushiftRight, Nat.shiftRight_eq_div_pow, hc]; omega

def mixAV (x : B64) : B64 := (x ^^^ (x >>> 30)) * BitVec.ofNat 64 13787848793156543929
def mixCV (x : B64) : B64 := (x ^^^ (x >>> 27)) * BitVec.ofNat 64 10723151780598845931
def mixDV (x : B64) : B64 := x ^^^ (x >>> 31)
def stepV (h : B64) (c : B64) : B64 := (h ^^^ c) * BitVec.ofNat 64 1099511628211

theorem mixA_v (x : B64) : mixA (vI x) = vI (mixAV x) := by
  unfold mixA mixAV
  rw [show (1073741824 : Int) = ((1073741824 : Nat) : Int) from rfl, shr_v x 30 _ (by decide), xor_v]
  exact wrap_mul_v _ 13787848793156543929
theorem mixC_v (x : B64) : mixC (vI x) = vI (mixCV x) := by
  unfold mixC mixCV
  rw [show (134217728 : Int) = ((134217728 : Nat) : Int) from rfl, shr_v x 27 _ (by decide), xor_v]
  exact wrap_mul_v _ 10723151780598845931
theorem mixI_v (x : B64) : mixI (vI x) = vI (mixDV (mixCV (mixAV x))) := by
  unfold mixI mixDV
  rw [mixA_v, mixC_v, show (2147483648 : Int) = ((2147483648 : Nat) : Int) from rfl, shr_v _ 31 _ (by decide), xor_v]
theorem stepI_v (h c : B64) : stepI (vI h) (vI c) = vI (stepV h c) := by
  unfold stepI stepV
  rw [xor_v]
  exact wrap_mul_v _ 1099511628211

/-! ### what goes back -/
theorem xs_back (k : Nat) (hk : 22 ≤ k) (x y : B64) (h : x ^^^ (x >>> k) = y ^^^ (y >>> k)) : x = y := by
  have key : ∀ z : B64, ∀ i, i < 64 → z.getLsbD i = (((z ^^^ (z >>> k)).getLsbD i) ^^ (((z ^^^ (z >>> k)).getLsbD (i + k)) ^^ ((z ^^^ (z >>> k)).getLsbD (i + k + k)))) := by
    intro z i hi
    have h3 : z.getLsbD (i + k + k + k) = false := BitVec.getLsbD_of_ge _ _ (by omega)
    simp only [BitVec.getLsbD_xor, BitVec.getLsbD_ushiftRight]
    rw [show k + i = i + k from by omega, show k + (i + k) = i + k + k from by omega, show k + (i + k + k) = i + k + k + k from by omega, h3]
    cases z.getLsbD i <;> cases z.getLsbD (i + k) <;> cases z.getLsbD (i + k + k) <;> rfl
  refine BitVec.eq_of_getLsbD_eq fun i hi => ?_
  rw [key x i hi, key y i hi, h]
theorem mul_back (c d : B64) (hcd : c * d = 1#64) (x y : B64) (h : x * c = y * c) : x = y := by
  have : x * c * d = y * c * d := by rw [h]
  rwa [BitVec.mul_assoc, BitVec.mul_assoc, hcd, BitVec.mul_one, BitVec.mul_one] at this
theorem mixDV_back {x y : B64} (h : mixDV x = mixDV y) : x = y := xs_back 31 (by omega) x y h
theorem mixAV_back {x y : B64} (h : mixAV x = mixAV y) : x = y :=
  xs_back 30 (by omega) x y (mul_back (BitVec.ofNat 64 13787848793156543929) (BitVec.ofNat 64 10871156337175269513) (by decide) _ _ h)
theorem mixCV_back {x y : B64} (h : mixCV x = mixCV y) : x = y :=
  xs_back 27 (by omega) x y (mul_back (BitVec.ofNat 64 10723151780598845931) (BitVec.ofNat 64 3573116690164977347) (by decide) _ _ h)
theorem mul_prime_back {x y : B64} (h : x * BitVec.ofNat 64 1099511628211 = y * BitVec.ofNat 64 1099511628211) : x = y :=
  mul_back (BitVec.ofNat 64 1099511628211) (BitVec.ofNat 64 14886173955864302971) (by decide) _ _ h
theorem xor_right_back {x y c : B64} (h : x ^^^ c = y ^^^ c) : x = y := by
  have : x ^^^ c ^^^ c = y ^^^ c ^^^ c := by rw [h]
  rwa [BitVec.xor_assoc, BitVec.xor_assoc, BitVec.xor_self, BitVec.xor_zero, BitVec.xor_zero] at this
theorem xor_left_back {x c d : B64} (h : x ^^^ c = x ^^^ d) : c = d := by
  rw [BitVec.xor_comm x c, BitVec.xor_comm x d] at h; exact xor_right_back h

/-! ### on numbers -/
theorem mixI_range {a : Int} (h0 : 0 ≤ a) (h1 : a < 18446744073709551616) : 0 ≤ mixI a ∧ mixI a < 18446744073709551616 := by
  rw [← vI_ofV h0 h1, mixI_v]; exact vI_range _
theorem mixI_back {a b : Int} (h0 : 0 ≤ a) (h1 : a < 18446744073709551616) (g0 : 0 ≤ b) (g1 : b < 18446744073709551616) (h : mixI a = mixI b) : a = b := by
  rw [← vI_ofV h0 h1, ← vI_ofV g0 g1] at h ⊢
  rw [mixI_v, mixI_v] at h
  rw [mixAV_back (mixCV_back (mixDV_back (vI_inj h)))]
theorem stepI_range (h c : Int) : 0 ≤ stepI h c ∧ stepI h c < 18446744073709551616 := wrap_range _
theorem stepI_back {h g c : Int} (h0 : 0 ≤ h) (h1 : h < 18446744073709551616) (g0 : 0 ≤ g) (g1 : g < 18446744073709551616) (c0 : 0 ≤ c) (c1 : c < 18446744073709551616) (e : stepI h c = stepI g c) : h = g := by
  rw [← vI_ofV h0 h1, ← vI_ofV g0 g1] at e ⊢
  rw [← vI_ofV c0 c1] at e
  rw [stepI_v, stepI_v] at e
  rw [xor_right_back (mul_prime_back (vI_inj e))]
theorem stepI_back_byte {h c d : Int} (h0 : 0 ≤ h) (h1 : h < 18446744073709551616) (c0 : 0 ≤ c) (c1 : c < 18446744073709551616) (d0 : 0 ≤ d) (d1 : d < 18446744073709551616) (e : stepI h c = stepI h d) : c = d := by
  rw [← vI_ofV c0 c1, ← vI_ofV d0 d1] at e ⊢
  rw [← vI_ofV h0 h1] at e
  rw [stepI_v, stepI_v] at e
  rw [xor_left_back (mul_prime_back (vI_inj e))]
theorem foldI_range {h : Int} (l : List UInt8) (h0 : 0 ≤ h) (h1 : h < 18446744073709551616) : 0 ≤ foldI h l ∧ foldI h l < 18446744073709551616 := by
  unfold foldI
  induction l generalizing h with
  | nil => exact ⟨h0, h1⟩
  | cons c l ih => simp only [List.foldl_cons]; exact ih (stepI_range _ _).1 (stepI_range _ _).2
theorem byte_range (c : UInt8) : 0 ≤ (c.toNat : Int) ∧ (c.toNat : Int) < 18446744073709551616 := by
  have := c.toNat_lt; omega
theorem foldI_back {h g : Int} (l : List UInt8) (h0 : 0 ≤ h) (h1 : h < 18446744073709551616) (g0 : 0 ≤ g) (g1 : g < 18446744073709551616) (e : foldI h l = foldI g l) : h = g := by
  unfold foldI at e
  induction l generalizing h g with
  | nil => exact e
  | cons c l ih =>
    simp only [List.foldl_cons] at e
    exact stepI_back h0 h1 g0 g1 (byte_range c).1 (byte_range c).2 (ih (stepI_range _ _).1 (stepI_range _ _).2 (stepI_range _ _).1 (stepI_range _ _).2 e)
theorem foldI_append (h : Int) (a b : List UInt8) : foldI h (a ++ b) = foldI (foldI h a) b := by unfold foldI; rw [List.foldl_append]
theorem foldI_snoc (h : Int) (a : List UInt8) (c : UInt8) : foldI h (a ++ [c]) = stepI (foldI h a) (c.toNat : Int) := by rw [foldI_append]; rfl
theorem ofI_range {seed : Int} (l : List UInt8) (h0 : 0 ≤ seed) (h1 : seed < 18446744073709551616) : 0 ≤ ofI seed l ∧ ofI seed l < 18446744073709551616 := by
  have m := mixI_range h0 h1
  have f := foldI_range l m.1 m.2
  exact mixI_range f.1 f.2
theorem ofI_back {a b : Int} (l : List UInt8) (h0 : 0 ≤ a) (h1 : a < 18446744073709551616) (g0 : 0 ≤ b) (g1 : b < 18446744073709551616) (e : ofI a l = ofI b l) : a = b := by
  have m := mixI_range h0 h1
  have m' := mixI_range g0 g1
  have f := foldI_range l m.1 m.2
  have f' := foldI_range l m'.1 m'.2
  exact mixI_back h0 h1 g0 g1 (foldI_back l m.1 m.2 m'.1 m'.2 (mixI_back f.1 f.2 f'.1 f'.2 e))
theorem ofI_byte {seed : Int} (a b : List UInt8) (c d : UInt8) (h0 : 0 ≤ seed) (h1 : seed < 18446744073709551616) (e : ofI seed (a ++ c :: b) = ofI seed (a ++ d :: b)) : c = d := by
  have m := mixI_range h0 h1
  have f := foldI_range (a ++ c :: b) m.1 m.2
  have f' := foldI_range (a ++ d :: b) m.1 m.2
  have e' := mixI_back f.1 f.2 f'.1 f'.2 e
  rw [foldI_append, foldI_append] at e'
  have r := foldI_range a m.1 m.2
  have e2 : foldI (stepI (foldI (mixI seed) a) (c.toNat : Int)) b = foldI (stepI (foldI (mixI seed) a) (d.toNat : Int)) b := e'
  have e3 := foldI_back b (stepI_range _ _).1 (stepI_range _ _).2 (stepI_range _ _).1 (stepI_range _ _).2 e2
  have e4 := stepI_back_byte r.1 r.2 (byte_range c).1 (byte_range c).2 (byte_range d).1 (byte_range d).2 e3
  exact UInt8.toNat_inj.1 (by omega)
theorem nthI_range (seed : Int) (l : List UInt8) (i : Nat) : 0 ≤ nthI seed l i ∧ nthI seed l i < 18446744073709551616 := ofI_range l (wrap_range _).1 (wrap_range _).2
theorem nthI_zero {seed : Int} (l : List UInt8) (h0 : 0 ≤ seed) (h1 : seed < 18446744073709551616) : nthI seed l 0 = ofI seed l := by
  unfold nthI; rw [wrap_eq (by omega) (by omega)]; simp
theorem belowI_range (h n : Int) : 0 ≤ belowI h n ∧ (1 ≤ n → belowI h n < n) := by
  unfold belowI
  split
  · exact ⟨by omega, by omega⟩
  · exact ⟨Int.emod_nonneg _ (by omega), fun hn => Int.emod_lt_of_pos _ (by omega)⟩
theorem foldI_take_snoc (h : Int) (l : List UInt8) (k : Nat) (hk : k < l.length) : foldI h (l.take (k + 1)) = stepI (foldI h (l.take k)) ((l[k]).toNat : Int) := by
  rw [List.take_succ_eq_append_getElem hk, foldI_snoc]
end Go.Proofs.Ytekcogoijlbmnaa.Hash
