/- Part1: Mem, SpecHash, Hash, Item1, SpecSlab, Slab1, Maps, Slab2, Slab3, Slab7, SpecSlru, SpecSketch, Sketch1, Range, Several, one behind the other. -/
import Derived.Below
import Derived.WalkSmall
import Derived.RangeFuncNested
import Derived.Laws.AppendOwn
import Derived.Laws.BitsAllLaws
import Derived.Laws.BitsLemmas
import Derived.Test.YtpghckiochjogaaGreatDoorProg
import Derived.WalkKit
import Derived.WalkSpells
import Derived.WalkLawsBesides
import Derived.Lib.Hide
import Derived.BigQuiet
import Derived.MapKept
import Derived.Laws.StructEq
import Derived.RangeFuncRecord
import Derived.WideKeyRuns
import Derived.KernelRfl
import Derived.StillTailTactics
import Derived.Deep.QuietTactic
import Derived.Deep.RegionLaw
import Derived.Deep.LoopGhost
import Derived.RangeFuncBound
import Derived.RangeFuncLeaves
import Derived.Shelf.Abstract
import Derived.Shelf.RegionOpen
import Derived.OwnWalkIn
import Derived.TacticsInMore
import Derived.LoopNIn
import Derived.LoopIn
/- Small words on memory: what was there before stays, over new blocks and stores into blocks of the call's own. -/
namespace Go.Proofs.YtpghckiochjogaaGreatDoor.Mem
open Go Go.RowKit
variable {a w : World}
theorem al (h : Below a.heap.size a w) (o : Obj) : Below a.heap.size a (w.alloc o) := h.alloc h.size o
theorem dn (h : Below a.heap.size a w) (n : Nat) : Below a.heap.size a (w.drewN n) := below_drewN h n
theorem dn' {B : Nat} (h : Below B a w) (n : Nat) : Below B a (w.drewN n) := below_drewN h n
theorem tr {b : World} (h : Below a.heap.size a w) (h' : Below w.heap.size w b) : Below a.heap.size a b := h.trans (h'.mono h.size)
def Fix (W : World) (bs : List (Nat × Obj)) : Prop := ∀ p ∈ bs, W.heap[p.1]? = some p.2
abbrev box (b : Nat) (t : TypeId) (v : Value) : Nat × Obj := (b, .cells #[v] t (0, 0))
theorem Fix.nil (W : World) : Fix W [] := fun _ h => by cases h
theorem Fix.cons {W : World} {p : Nat × Obj} {bs : List (Nat × Obj)} (h : W.heap[p.1]? = some p.2) (hs : Fix W bs) : Fix W (p :: bs) := fun q hq => by
  rcases List.mem_cons.1 hq with rfl | hq
  · exact h
  · exact hs q hq
theorem Fix.head {W : World} {p : Nat × Obj} {bs : List (Nat × Obj)} (h : Fix W (p :: bs)) : W.heap[p.1]? = some p.2 := h p (List.mem_cons.2 (.inl rfl))
theorem Fix.tail {W : World} {p : Nat × Obj} {bs : List (Nat × Obj)} (h : Fix W (p :: bs)) : Fix W bs := fun q hq => h q (List.mem_cons.2 (.inr hq))
theorem Fix.lt {W : World} {p : Nat × Obj} {bs : List (Nat × Obj)} (h : Fix W bs) (hp : p ∈ bs) : p.1 < W.heap.size := (Array.getElem?_eq_some_iff.1 (h p hp)).1
theorem Fix.same {W W' : World} {bs : List (Nat × Obj)} (h : Fix W bs) (hs : ∀ p ∈ bs, W'.heap[p.1]? = W.heap[p.1]?) : Fix W' bs := fun p hp => (hs p hp).trans (h p hp)
theorem Fix.below {W W' : World} {B : Nat} {bs : List (Nat × Obj)} (h : Fix W bs) (hb : Below B W W') (hB : W.heap.size ≤ B) : Fix W' bs := h.same fun _ hp => hb.block _ (Nat.lt_of_lt_of_le (h.lt hp) hB)
theorem own_fix {β : Type} (B : Nat) (f : β → List (Nat × Obj)) (hf : ∀ s, ∀ p ∈ f s, p.2.isCells = true) : OwnFrom B (fun s W => Fix W (f s)) := fun s W W' row hs hg hr p hp => by
  have h := hs p hp
  refine (hg.block p.1 (Array.getElem?_eq_some_iff.1 h).1 (fun e => ?_)).trans h
  obtain ⟨_, o, ho, hc⟩ := hr p.1 e.symm
  rw [h] at ho
  injection ho with ho
  rw [← ho, hf s p hp] at hc
  cases hc
theorem box_cell {W : World} {b : Nat} {t : TypeId} {v : Value} (h : W.heap[b]? = some (.cells #[v] t (0, 0))) : W.cell? ⟨b, 0, none⟩ = some v := by simp [World.cell?, h]
theorem box_free {W : World} {b : Nat} {t : TypeId} {v : Value} (h : W.heap[b]? = some (.cells #[v] t (0, 0))) : W.frozen? ⟨b, 0, none⟩ = false := by simp [World.frozen?, h]
theorem box_set {W : World} {b : Nat} {t : TypeId} {v : Value} (h : W.heap[b]? = some (.cells #[v] t (0, 0))) (u : Value) : (W.setCell ⟨b, 0, none⟩ u).heap[b]? = some (.cells #[u] t (0, 0)) := by
  simp [World.setCell, Array.getElem?_modify, h]
theorem row_cell {W : World} {b : Nat} {t : TypeId} {cs : Array Value} {fz : Nat × Nat} (h : W.heap[b]? = some (.cells cs t fz)) (i : Nat) : W.cell? ⟨b, i, none⟩ = cs[i]? := by simp [World.cell?, h]
theorem row_free {W : World} {b : Nat} {t : TypeId} {cs : Array Value} (h : W.heap[b]? = some (.cells cs t (0, 0))) (i : Nat) : W.frozen? ⟨b, i, none⟩ = false := by simp [World.frozen?, h]
theorem row_set {W : World} {b : Nat} {t : TypeId} {cs : Array Value} {fz : Nat × Nat} (h : W.heap[b]? = some (.cells cs t fz)) (i : Nat) (u : Value) : (W.setCell ⟨b, i, none⟩ u).heap[b]? = some (.cells (cs.setIfInBounds i u) t fz) := by
  simp [World.setCell, Array.getElem?_modify, h]
theorem new_block (w : World) (o : Obj) : (w.alloc o).heap[w.heap.size]? = some o := World.alloc_heap_new w o
theorem new_block2 (w : World) (o o' : Obj) : ((w.alloc o).alloc o').heap[w.heap.size + 1]? = some o' := by
  have := new_block (w.alloc o) o'
  rwa [World.size_alloc] at this
theorem new_later {w : World} {b : Nat} {o : Obj} (h : w.heap[b]? = some o) (o' : Obj) : (w.alloc o').heap[b]? = some o := (Below.heap_alloc w o' b (Array.getElem?_eq_some_iff.1 h).1).trans h
theorem row_block {W : World} {base : Nat} {e : TypeId} {size : Nat} {v : Value} {k : Nat} {xs : List Value} (h : W.ownsRow base e size v (k + 1) xs) :
    ∃ g cap cur, v = .slice (some ⟨g, 0, none⟩) (k + 1) cap ∧ base ≤ g ∧ W.heap[g]? = some (.cells cur e (0, 0)) ∧ k + 1 ≤ cap ∧ cap ≤ maxLen ∧ ∀ (j : Nat) (u : Value), xs[j]? = some u → cur[j]? = some u := by
  rcases h.2 with ⟨_, h⟩ | ⟨g, cap, cur, h1, h2, h3, h4, h5, _, h7⟩
  · omega
  · refine ⟨g, cap, cur, h1, h2, h3, h4, h5, fun j u hj => ?_⟩
    rw [← h7, List.getElem?_take] at hj
    split at hj
    · rwa [Array.getElem?_toList] at hj
    · cases hj
theorem own_size {β : Type} (B S : Nat) : OwnFrom B (fun (_ : β) W => S ≤ W.heap.size) := fun _ _ _ _ hs hg _ => Nat.le_trans hs hg.size
theorem row_less {W : World} {base base' : Nat} {e : TypeId} {size : Nat} {v : Value} {k : Nat} {xs : List Value} (h : W.ownsRow base e size v k xs) (hb : base' ≤ base) : W.ownsRow base' e size v k xs := by
  refine ⟨h.1, ?_⟩
  rcases h.2 with h | ⟨g, cap, cur, h1, h2, h3⟩
  · exact .inl h
  · exact .inr ⟨g, cap, cur, h1, Nat.le_trans hb h2, h3⟩
structure Only (F : Nat → Prop) (w w' : World) : Prop where
  os : w'.os = w.os
  tape : w'.tape = w.tape
  output : w'.output = w.output
  size : w.heap.size ≤ w'.heap.size
  same : ∀ k, k < w.heap.size → ¬ F k → w'.heap[k]? = w.heap[k]?
def Grows (w : World) (F F' : Nat → Prop) : Prop := ∀ k, F' k → F k ∨ w.heap.size ≤ k
section
variable {F F' F'' : Nat → Prop} {x y z : World}
theorem Only.refl (F : Nat → Prop) (w : World) : Only F w w := ⟨rfl, rfl, rfl, Nat.le_refl _, fun _ _ _ => rfl⟩
theorem Only.trans (h : Only F x y) (h' : Only F' y z) (g : Grows x F F') : Only F x z :=
  ⟨h'.os.trans h.os, h'.tape.trans h.tape, h'.output.trans h.output, Nat.le_trans h.size h'.size, fun k hk hF =>
    (h'.same k (Nat.lt_of_lt_of_le hk h.size) (fun hF' => (g k hF').elim hF (fun e => by omega))).trans (h.same k hk hF)⟩
theorem Only.mono (h : Only F x y) (hF : ∀ k, F k → F' k) : Only F' x y := ⟨h.os, h.tape, h.output, h.size, fun k hk hn => h.same k hk (fun e => hn (hF k e))⟩
theorem Only.alloc (h : Only F x y) (o : Obj) : Only F x (y.alloc o) :=
  ⟨h.os, h.tape, h.output, Nat.le_trans h.size (by simp), fun k hk hF => (Below.heap_alloc y o k (Nat.lt_of_lt_of_le hk h.size)).trans (h.same k hk hF)⟩
theorem Only.setCell (h : Only F x y) {p : Addr} (hp : F p.block ∨ x.heap.size ≤ p.block) (u : Value) : Only F x (y.setCell p u) :=
  ⟨h.os, h.tape, h.output, by simpa [World.setCell] using h.size, fun k hk hF => (Below.heap_setCell y p u k (fun e => by subst e; exact hp.elim hF (fun e => by omega))).trans (h.same k hk hF)⟩
theorem Only.putObj (h : Only F x y) {l : Nat} (hl : F l ∨ x.heap.size ≤ l) (o : Obj) : Only F x (y.putObj l o) :=
  ⟨h.os, h.tape, h.output, by simpa using h.size, fun k hk hF => (World.putObj_heap_other (fun e => by subst e; exact hl.elim hF (fun e => by omega))).trans (h.same k hk hF)⟩
theorem Only.drew (h : Only F x y) : Only F x y.drew := ⟨h.os, h.tape, h.output, h.size, h.same⟩
theorem Only.drewN (h : Only F x y) (n : Nat) : Only F x (y.drewN n) := by
  have e : (y.drewN n).heap = y.heap ∧ (y.drewN n).os = y.os ∧ (y.drewN n).tape = y.tape ∧ (y.drewN n).output = y.output := ⟨rfl, rfl, rfl, rfl⟩
  exact ⟨e.2.1.trans h.os, e.2.2.1.trans h.tape, e.2.2.2.trans h.output, by rw [e.1]; exact h.size, fun k hk hF => by rw [e.1]; exact h.same k hk hF⟩
theorem Only.grown (h : Only F x y) {row : Option Nat} (hg : y.grownBy z row) (hr : ∀ g, row = some g → F g ∨ x.heap.size ≤ g) : Only F x z :=
  ⟨hg.os.trans h.os, hg.tape.trans h.tape, hg.output.trans h.output, Nat.le_trans h.size hg.size, fun k hk hF =>
    (hg.block k (Nat.lt_of_lt_of_le hk h.size) (fun e => (hr k e.symm).elim hF (fun e => by omega))).trans (h.same k hk hF)⟩
theorem Only.of_below {B : Nat} (h : Below B x y) (hF : ∀ k, B ≤ k → k < x.heap.size → F k) : Only F x y :=
  ⟨h.os, h.tape, h.output, h.size, fun k hk hn => h.block k (by rcases Nat.lt_or_ge k B with h | h; exact h; exact absurd (hF k h hk) hn)⟩
theorem Only.below (h : Only F x y) {B : Nat} (hB : B ≤ x.heap.size) (hF : ∀ k, F k → B ≤ k) : Below B x y :=
  ⟨h.os, h.tape, h.output, h.size, fun k hk => h.same k (by omega) (fun e => by have := hF k e; omega)⟩
theorem Grows.refl (w : World) (F : Nat → Prop) : Grows w F F := fun _ h => .inl h
end
end Go.Proofs.YtpghckiochjogaaGreatDoor.Mem

/- The hash of layer 3 as plain functions on whole numbers, in the form in which a walk spells them; that they lie below 2^64; that Mix, and a step, go back. -/
namespace Go.Proofs.YtpghckiochjogaaGreatDoor.Hash
open Go
def mixA (a : Int) : Int := IntKind.u64.wrap (bits BinOp.xor IntKind.u64 a (a / 1073741824) * 13787848793156543929)
def mixC (b : Int) : Int := IntKind.u64.wrap (bits BinOp.xor IntKind.u64 b (b / 134217728) * 10723151780598845931)
def mixI (a : Int) : Int := bits BinOp.xor IntKind.u64 (mixC (mixA a)) (mixC (mixA a) / 2147483648)
def stepI (h c : Int) : Int := IntKind.u64.wrap (bits BinOp.xor IntKind.u64 h c * 1099511628211)
def foldI (h : Int) (l : List UInt8) : Int := l.foldl (fun h c => stepI h (c.toNat : Int)) h
def ofI (seed : Int) (l : List UInt8) : Int := mixI (foldI (mixI seed) l)
def belowI (h n : Int) : Int := if n < 1 then 0 else h % n
def nthI (seed : Int) (l : List UInt8) (i : Nat) : Int := ofI (IntKind.u64.wrap (seed + (i : Int))) l
theorem wrap_range (n : Int) : 0 ≤ IntKind.u64.wrap n ∧ IntKind.u64.wrap n < 18446744073709551616 := by
  rw [IntKind.wrap_u64]; omega
theorem wrap_eq {n : Int} (h0 : 0 ≤ n) (h1 : n < 18446744073709551616) : IntKind.u64.wrap n = n := by
  rw [IntKind.wrap_u64]; omega
abbrev B64 := BitVec 64
def vI (x : B64) : Int := (x.toNat : Int)
theorem vI_range (x : B64) : 0 ≤ vI x ∧ vI x < 18446744073709551616 := by
  unfold vI; have := x.isLt; omega
def ofV (a : Int) : B64 := BitVec.ofNat 64 a.toNat
theorem vI_ofV {a : Int} (h0 : 0 ≤ a) (h1 : a < 18446744073709551616) : vI (ofV a) = a := by
  unfold vI ofV; rw [BitVec.toNat_ofNat, Nat.mod_eq_of_lt (by omega)]; omega
theorem xor_v (x y : B64) : bits BinOp.xor IntKind.u64 (vI x) (vI y) = vI (x ^^^ y) := by
  unfold vI; rw [u64_xor_nat _ _ x.isLt y.isLt, BitVec.toNat_xor]
theorem wrap_mul_v (x : B64) (c : Nat) : IntKind.u64.wrap (vI x * (c : Int)) = vI (x * BitVec.ofNat 64 c) := by
  unfold vI
  rw [IntKind.wrap_u64, BitVec.toNat_mul, BitVec.toNat_ofNat, Nat.mul_mod_mod]
  omega
theorem shr_v (x : B64) (k c : Nat) (hc : c = 2 ^ k) : vI x / (c : Int) = vI (x >>> k) := by
  unfold vI; rw [BitVec.toNat_ushiftRight, Nat.shiftRight_eq_div_pow, hc]; omega
def mixAV (x : B64) : B64 := (x ^^^ (x >>> 30)) * BitVec.ofNat 64 13787848793156543929
def mixCV (x : B64) : B64 := (x ^^^ (x >>> 27)) * BitVec.ofNat 64 10723151780598845931
def mixDV (x : B64) : B64 := x ^^^ (x >>> 31)
theorem mixA_v (x : B64) : mixA (vI x) = vI (mixAV x) := by
  unfold mixA mixAV
  rw [show (1073741824 : Int) = ((1073741824 : Nat) : Int) from rfl, shr_v x 30 _ (by decide), xor_v]
  exact wrap_mul_v _ 13787848793156543929
theorem mixC_v (x : B64) : mixC (vI x) = vI (mixCV x) := by
  unfold mixC mixCV
  rw [show (134217728 : Int) = ((134217728 : Nat) : Int) from rfl, shr_v x 27 _ (by decide), xor_v]
  exact wrap_mul_v _ 10723151780598845931
theorem mixI_v (x : B64) : mixI (vI x) = vI (mixDV (mixCV (mixAV x))) := by
  unfold mixI mixDV
  rw [mixA_v, mixC_v, show (2147483648 : Int) = ((2147483648 : Nat) : Int) from rfl, shr_v _ 31 _ (by decide), xor_v]
theorem mixI_range {a : Int} (h0 : 0 ≤ a) (h1 : a < 18446744073709551616) : 0 ≤ mixI a ∧ mixI a < 18446744073709551616 := by
  rw [← vI_ofV h0 h1, mixI_v]; exact vI_range _
theorem stepI_range (h c : Int) : 0 ≤ stepI h c ∧ stepI h c < 18446744073709551616 := wrap_range _
theorem foldI_range {h : Int} (l : List UInt8) (h0 : 0 ≤ h) (h1 : h < 18446744073709551616) : 0 ≤ foldI h l ∧ foldI h l < 18446744073709551616 := by
  unfold foldI
  induction l generalizing h with
  | nil => exact ⟨h0, h1⟩
  | cons c l ih => simp only [List.foldl_cons]; exact ih (stepI_range _ _).1 (stepI_range _ _).2
theorem byte_range (c : UInt8) : 0 ≤ (c.toNat : Int) ∧ (c.toNat : Int) < 18446744073709551616 := by
  have := c.toNat_lt; omega
theorem foldI_append (h : Int) (a b : List UInt8) : foldI h (a ++ b) = foldI (foldI h a) b := by unfold foldI; rw [List.foldl_append]
theorem foldI_snoc (h : Int) (a : List UInt8) (c : UInt8) : foldI h (a ++ [c]) = stepI (foldI h a) (c.toNat : Int) := by rw [foldI_append]; rfl
theorem ofI_range {seed : Int} (l : List UInt8) (h0 : 0 ≤ seed) (h1 : seed < 18446744073709551616) : 0 ≤ ofI seed l ∧ ofI seed l < 18446744073709551616 := by
  have m := mixI_range h0 h1
  have f := foldI_range l m.1 m.2
  exact mixI_range f.1 f.2
theorem nthI_range (seed : Int) (l : List UInt8) (i : Nat) : 0 ≤ nthI seed l i ∧ nthI seed l i < 18446744073709551616 := ofI_range l (wrap_range _).1 (wrap_range _).2
theorem belowI_range (h n : Int) : 0 ≤ belowI h n ∧ (1 ≤ n → belowI h n < n) := by
  unfold belowI
  split
  · exact ⟨by omega, by omega⟩
  · exact ⟨Int.emod_nonneg _ (by omega), fun hn => Int.emod_lt_of_pos _ (by omega)⟩
theorem foldI_take_snoc (h : Int) (l : List UInt8) (k : Nat) (hk : k < l.length) : foldI h (l.take (k + 1)) = stepI (foldI h (l.take k)) ((l[k]).toNat : Int) := by
  rw [List.take_succ_eq_append_getElem hk, foldI_snoc]
end Go.Proofs.YtpghckiochjogaaGreatDoor.Hash

/- The walks over layer 3: Mix, Of, Below come to mixI, ofI, belowI; the world stays. -/
namespace Go.Proofs.YtpghckiochjogaaGreatDoor.Hash
open Go.RowKit
theorem ret_int {k : IntKind} {a b : Int} (h : a = b) : Ending.returned (.int k a) = .returned (.int k b) := by rw [h]
set_option maxHeartbeats 400000 in
theorem mix_any (a : Int) (_h0 : 0 ≤ a) (_h1 : a < 18446744073709551616) (w : World) :
    Calls Tryz.prog 38 #[.int .u64 a] w fun e w' => e = .returned (.int .u64 (mixI a)) ∧ w = w' := by
  go_enter Tryz.func38, Tryz.ntmps38
  go_wp2
  go_ret
  exact ⟨rfl, rfl⟩
theorem below_eq (h n : Int) (hn : 1 ≤ n) (n1 : n ≤ 9223372036854775807) : wrap64 (h % n) = belowI h n := by
  have a := Int.emod_nonneg h (b := n) (by omega)
  have b := Int.emod_lt_of_pos h (b := n) (by omega)
  unfold belowI; rw [if_neg (by omega)]
  generalize h % n = x at *
  unfold wrap64; omega
theorem below_any (h n : Int) (h0 : 0 ≤ h) (h1 : h < 18446744073709551616) (n1 : n ≤ 9223372036854775807) (w : World) :
    Calls Tryz.prog 23 #[.int .u64 h, .int .i64 n] w fun e w' => e = .returned (.int .i64 (belowI h n)) ∧ w = w' := by
  by_cases hn : n < 1
  · go_enter Tryz.func23, Tryz.ntmps23
    go_wp2
    go_ret
    exact ⟨ret_int (by unfold belowI; rw [if_pos hn]), rfl⟩
  · go_enter Tryz.func23, Tryz.ntmps23
    go_wp2
    go_ret
    exact ⟨ret_int (below_eq h n (by omega) n1), rfl⟩
set_option maxHeartbeats 400000 in
theorem of_any (seed : Int) (s : ByteArray) (h0 : 0 ≤ seed) (h1 : seed < 18446744073709551616) (hs : s.size ≤ maxLen) (w : World) :
    Calls Tryz.prog 24 #[.int .u64 seed, .string s] w fun e w' => e = .returned (.int .u64 (ofI seed s.data.toList)) ∧ w = w' := by
  unfold maxLen at hs
  have m := mixI_range h0 h1
  go_enter Tryz.func24, Tryz.ntmps24
  go_wp2_with (go_at_call 38; refine (mix_any _ (by assumption) (by assumption) _).mono ?_; rintro e w' ⟨rfl, rfl⟩)
  go_loop [5, 6, 11] (fun h _ i => ∃ k : Nat, k ≤ s.size ∧ i = .int .i64 k ∧ h = .int .u64 (foldI (mixI seed) (s.data.toList.take k))) (fun _ _ i => s.size - (intOf i).toNat)
  case atStart => exact ⟨0, Nat.zero_le _, rfl, rfl⟩
  case round =>
    obtain ⟨k, hk, rfl, rfl⟩ := hrel
    have r := foldI_range (s.data.toList.take k) m.1 m.2
    obtain ⟨q, hq⟩ : ∃ q, foldI (mixI seed) (s.data.toList.take k) = q := ⟨_, rfl⟩
    rw [hq] at r ⊢
    by_cases hlt : k < s.size
    · have HS : Hid (foldI (mixI seed) (s.data.toList.take (k + 1)) = stepI q (s[k].toNat : Int)) := by
        rw [foldI_take_snoc _ _ k (by simpa using hlt), hq]; rfl
      clear hq
      obtain ⟨r0, r1⟩ := r
      go_wp2
      go_round
      case rel => refine ⟨k + 1, by omega, by go_num, ?_⟩; rw [HS.out]; rw [wrap_eq (byte_range _).1 (byte_range _).2]; rfl
      case measure => simp [intOf]; omega
    · have HQ := Lib.hid hq
      clear hq
      obtain ⟨r0, r1⟩ := r
      go_wp2_with (go_at_call 38; refine (mix_any _ (by assumption) (by assumption) _).mono ?_; rintro e w' ⟨rfl, rfl⟩)
      go_ret
      refine ⟨ret_int ?_, rfl⟩
      unfold ofI
      rw [← HQ.out, List.take_of_length_le (by simp; omega)]
end Go.Proofs.YtpghckiochjogaaGreatDoor.Hash

/- Layer 10's items: Size, Live. -/
namespace Go.Proofs.YtpghckiochjogaaGreatDoor.Shard
open Go Go.RowKit Go.Proofs.YtpghckiochjogaaGreatDoor.Mem
structure Item where
  key : ByteArray
  val : List UInt8
  flags : Int
  exp : Int
  cas : Int
  sec : Int
  seq : Int
  stale : Bool
  won : Bool
  seen : Bool
deriving DecidableEq
structure Env where
  now : Int
  seq : Int
  flush : Int
  flushSeq : Int
def Item.arr (it : Item) (v : Value) : Array Value := #[.string it.key, v, .int .u32 it.flags, .int .i64 it.exp, .int .u64 it.cas, .int .i64 it.sec, .int .u64 it.seq, .bool it.stale, .bool it.won, .bool it.seen]
def Env.arr (e : Env) : Array Value := #[.int .i64 e.now, .int .u64 e.seq, .int .i64 e.flush, .int .u64 e.flushSeq]
def Item.size (it : Item) : Int := 50 + it.key.size + it.val.length
def elder (sec seq : Int) (fs fq : Int) : Bool := decide (sec < fs) || (sec == fs && decide (seq < fq))
def Item.live (it : Item) (env : Env) : Bool :=
  if it.exp ≠ 0 ∧ it.exp ≤ env.now then false else if env.flush ≠ 0 ∧ env.flush ≤ env.now then !elder it.sec it.seq env.flush env.flushSeq else true
set_option maxRecDepth 100000 in
theorem size_any (it : Item) (a : Option Addr) (c : Nat) (w : World) (hk : it.key.size ≤ 100000000) (hv : it.val.length ≤ 100000000) :
    Calls Tryz.prog 109 #[.agg (it.arr (.slice a it.val.length c))] w fun e w' => e = .returned (.int .i64 it.size) ∧ Below w.heap.size w w' := by
  have e1 : it.size = 50 + it.key.size + it.val.length := rfl
  rw [e1]
  unfold Item.arr
  have hk1 : (it.key.size : Int) ≤ 100000000 := by omega
  have hv1 : (it.val.length : Int) ≤ 100000000 := by omega
  clear e1
  go_enter Tryz.func109, Tryz.ntmps109
  go_wp2
  go_ret
  exact ⟨rfl, Mem.al (Below.refl _ _) _⟩
theorem elder_any (it : Item) (v : Value) (b : Nat) (fs fq : Int) (w : World) (hb : w.heap[b]? = some (.cells (it.arr v) 51 (0, 0))) :
    Calls Tryz.prog 103 #[.int .i64 fs, .int .u64 fq, .pointer (some ⟨b, 0, none⟩)] w fun e w' => e = .returned (.bool (elder it.sec it.seq fs fq)) ∧ w = w' := by
  have c5 : w.cell? ⟨b, 5, none⟩ = some (.int .i64 it.sec) := Mem.row_cell hb 5
  have c6 : w.cell? ⟨b, 6, none⟩ = some (.int .u64 it.seq) := Mem.row_cell hb 6
  clear hb
  by_cases h1 : it.sec < fs
  · have e : elder it.sec it.seq fs fq = true := by unfold elder; simp [h1]
    rw [e]
    have hd : decide (it.sec < fs) = true := decide_eq_true h1
    clear e
    go_enter Tryz.func103, Tryz.ntmps103
    go_wp2
    go_ret
    exact ⟨rfl, rfl⟩
  have hd : decide (it.sec < fs) = false := decide_eq_false h1
  by_cases h2 : it.sec = fs
  · have e : elder it.sec it.seq fs fq = decide (it.seq < fq) := by unfold elder; rw [hd]; simp [h2]
    rw [e]
    have hq : (it.sec == fs) = true := by simpa using h2
    clear e h1 h2
    go_enter Tryz.func103, Tryz.ntmps103
    go_wp2
    go_ret
    exact ⟨rfl, rfl⟩
  · have e : elder it.sec it.seq fs fq = false := by unfold elder; rw [hd]; simp [h2]
    rw [e]
    have hq : (it.sec == fs) = false := by simpa using h2
    clear e h1 h2
    go_enter Tryz.func103, Tryz.ntmps103
    go_wp2
    go_ret
    exact ⟨rfl, rfl⟩
set_option maxRecDepth 100000 in
theorem live_any (it : Item) (v : Value) (env : Env) (w : World) :
    Calls Tryz.prog 68 #[.agg (it.arr v), .agg env.arr] w fun e w' => e = .returned (.bool (it.live env)) ∧ Below w.heap.size w w' := by
  have hb2 : Below w.heap.size w ((w.alloc (.cells (it.arr v) 51)).alloc (.cells env.arr 35)) := Mem.al (Mem.al (Below.refl _ _) _) _
  have n1 : ((w.alloc (.cells (it.arr v) 51)).alloc (.cells env.arr 35)).heap[w.heap.size]? = some (.cells (it.arr v) 51 (0, 0)) := Mem.new_later (Mem.new_block w _) _
  have hel := elder_any it v w.heap.size env.flush env.flushSeq ((w.alloc (.cells (it.arr v) 51)).alloc (.cells env.arr 35)) n1
  have HB := Lib.hid hb2
  clear hb2 n1
  unfold Item.live
  by_cases h1 : it.exp ≠ 0 ∧ it.exp ≤ env.now
  · rw [if_pos h1]
    have hd1 : (it.exp != 0) = true := by simpa using h1.1
    have hd2 : decide (it.exp ≤ env.now) = true := decide_eq_true h1.2
    unfold Item.arr Env.arr at *
    clear h1 hel
    go_enter Tryz.func68, Tryz.ntmps68
    go_wp2
    go_ret
    exact ⟨rfl, HB.out⟩
  rw [if_neg h1]
  have hA : (it.exp != 0) = false ∨ ((it.exp != 0) = true ∧ decide (it.exp ≤ env.now) = false) := by
    by_cases h : it.exp = 0
    · exact .inl (by simp [h])
    · exact .inr ⟨by simpa using h, decide_eq_false fun e => h1 ⟨h, e⟩⟩
  clear h1
  by_cases h2 : env.flush ≠ 0 ∧ env.flush ≤ env.now
  · rw [if_pos h2]
    have hd3 : (env.flush != 0) = true := by simpa using h2.1
    have hd4 : decide (env.flush ≤ env.now) = true := decide_eq_true h2.2
    generalize elder it.sec it.seq env.flush env.flushSeq = q at *
    unfold Item.arr Env.arr at *
    clear h2
    rcases hA with hd1 | ⟨hd1, hd2⟩
    all_goals
      go_enter Tryz.func68, Tryz.ntmps68
      go_wp2_with fail
      refine hel.mono ?_
      rintro e w' ⟨rfl, rfl⟩
      go_wp2_with fail
      go_ret
      exact ⟨rfl, HB.out⟩
  · rw [if_neg h2]
    have hC : (env.flush != 0) = false ∨ ((env.flush != 0) = true ∧ decide (env.flush ≤ env.now) = false) := by
      by_cases h : env.flush = 0
      · exact .inl (by simp [h])
      · exact .inr ⟨by simpa using h, decide_eq_false fun e => h2 ⟨h, e⟩⟩
    unfold Item.arr Env.arr at *
    clear h2 hel
    rcases hA with hd1 | ⟨hd1, hd2⟩ <;> rcases hC with hd3 | ⟨hd3, hd4⟩
    all_goals
      go_enter Tryz.func68, Tryz.ntmps68
      go_wp2
      go_ret
      exact ⟨rfl, HB.out⟩
end Go.Proofs.YtpghckiochjogaaGreatDoor.Shard

/- Layer 7 as plain functions: classes of chunks, the slab's state and what its calls do to it. -/
namespace Go.Proofs.YtpghckiochjogaaGreatDoor.Slab
def bytesI (k : Int) : Int := if k < 0 then 0 else if 6 ≤ k then 0 else 64 * 2 ^ k.toNat
def classN (size : Int) : Nat := if size ≤ 64 then 0 else if size ≤ 128 then 1 else if size ≤ 256 then 2 else if size ≤ 512 then 3 else if size ≤ 1024 then 4 else if size ≤ 2048 then 5 else 6
theorem bytes_at (k : Nat) (h : k < 6) : bytesI k = 64 * 2 ^ k := by
  unfold bytesI; rw [if_neg (by omega), if_neg (by omega)]; simp
theorem bytes_pos {k : Nat} (h : k < 6) : 64 ≤ bytesI k ∧ bytesI k ≤ 2048 := by
  rw [bytes_at k h]
  match k, h with
  | 0, _ => decide
  | 1, _ => decide
  | 2, _ => decide
  | 3, _ => decide
  | 4, _ => decide
  | 5, _ => decide
theorem bytes_range (k : Int) : 0 ≤ bytesI k ∧ bytesI k ≤ 2048 := by
  by_cases h : 0 ≤ k ∧ k < 6
  · obtain ⟨n, rfl⟩ := Int.eq_ofNat_of_zero_le h.1
    have := bytes_pos (k := n) (by omega); omega
  · unfold bytesI
    by_cases h0 : k < 0
    · rw [if_pos h0]; omega
    · rw [if_neg h0, if_pos (by omega)]; omega
structure St where
  budget : Int
  used : Int
  inn : List (Int × Int)
  gone : Nat → List Int
  made : Nat → Int
def new (budget : Int) : St := { budget, used := 0, inn := [], gone := fun _ => [], made := fun _ => 0 }
def put {α : Type} (f : Nat → α) (k : Nat) (v : α) : Nat → α := fun j => if j = k then v else f j
theorem put_same {α : Type} (f : Nat → α) (k : Nat) (v : α) : put f k v k = v := if_pos rfl
theorem put_other {α : Type} (f : Nat → α) {k j : Nat} (v : α) (h : j ≠ k) : put f k v j = f j := if_neg h
def St.number (s : St) (k : Nat) : Int × St :=
  match (s.gone k).getLast? with
  | some n => (n, { s with gone := put s.gone k (s.gone k).dropLast })
  | none => (s.made k, { s with made := put s.made k (s.made k + 1) })
def addIn (l : List (Int × Int)) (c : Int × Int) : List (Int × Int) := if c ∈ l then l else l ++ [c]
def St.take (s : St) (size : Int) : ((Int × Int) × Int) × St :=
  if classN size = 6 then (((0, 0), 4), s)
  else if s.budget < s.used + bytesI (classN size) then (((0, 0), 5), s)
  else
    let n := (s.number (classN size)).1
    let t := (s.number (classN size)).2
    (((((classN size : Nat) : Int), n), 0), { t with used := s.used + bytesI (classN size), inn := addIn s.inn ((classN size : Nat), n) })
def St.free (s : St) (c : Int × Int) : Int × St :=
  if c ∈ s.inn then (0, { s with inn := s.inn.erase c, gone := put s.gone c.1.toNat (s.gone c.1.toNat ++ [c.2]), used := s.used - bytesI c.1 })
  else (1, s)
def St.fits (s : St) (size less : Int) : Bool := decide (classN size < 6 ∧ 0 ≤ less ∧ less ≤ s.used ∧ s.used - less + bytesI (classN size) ≤ s.budget)
end Go.Proofs.YtpghckiochjogaaGreatDoor.Slab

/- The walks over layer 7: Bytes, Class. -/
namespace Go.Proofs.YtpghckiochjogaaGreatDoor.Slab
open Go Go.RowKit
theorem ret_int {k : IntKind} {a b : Int} (h : a = b) : Ending.returned (.int k a) = .returned (.int k b) := by rw [h]
set_option maxRecDepth 100000 in
set_option maxHeartbeats 400000 in
theorem bytes_any (k : Int) (w : World) :
    Calls Tryz.prog 118 #[.int .i64 k] w fun e w' => e = .returned (.int .i64 (bytesI k)) ∧ w = w' := by
  by_cases h0 : k < 0
  · go_enter Tryz.func118, Tryz.ntmps118
    go_wp2
    go_ret
    exact ⟨ret_int (by unfold bytesI; rw [if_pos h0]), rfl⟩
  by_cases h6 : 6 ≤ k
  · go_enter Tryz.func118, Tryz.ntmps118
    go_wp2
    go_ret
    exact ⟨ret_int (by unfold bytesI; rw [if_neg (by omega), if_pos h6]), rfl⟩
  obtain ⟨n, rfl⟩ := Int.eq_ofNat_of_zero_le (by omega : 0 ≤ k)
  have hn : n < 6 := by omega
  clear h0 h6
  match n, hn with
  | 0, _ | 1, _ | 2, _ | 3, _ | 4, _ | 5, _ =>
    go_enter Tryz.func118, Tryz.ntmps118
    go_wp2
    go_ret
    exact ⟨rfl, rfl⟩
theorem class_le (size : Int) (k : Nat) (hk : k < 6) : size ≤ bytesI k ↔ classN size ≤ k := by
  rw [bytes_at k hk]
  unfold classN
  match k, hk with
  | 0, _ | 1, _ | 2, _ | 3, _ | 4, _ | 5, _ => simp only [Int.reducePow, Int.reduceMul]; constructor <;> (intro h; repeat' (split at * <;> try omega)) <;> omega
theorem class_six (size : Int) : classN size ≤ 6 := by unfold classN; (repeat' split) <;> omega
def classR (size : Int) : Int := if classN size = 6 then 0 else (classN size : Nat)
def classE (size : Int) : Int := if classN size = 6 then 4 else 0
set_option maxRecDepth 100000 in
set_option maxHeartbeats 400000 in
theorem class_any (size : Int) (w : World) :
    Calls Tryz.prog 108 #[.int .i64 size] w fun e w' => e = .returned (.tuple #[.int .i64 (classR size), .int .i64 (classE size)]) ∧ w = w' := by
  have h6 := class_six size
  go_enter Tryz.func108, Tryz.ntmps108
  go_wp2
  go_loop [4, 5] (fun _ i => ∃ k : Nat, i = .int .i64 k ∧ k ≤ classN size) (fun _ i => 6 - (intOf i).toNat)
  case atStart => exact ⟨0, rfl, Nat.zero_le _⟩
  case round =>
    obtain ⟨k, rfl, hk⟩ := hrel
    by_cases hlt : k < 6
    · have hc := class_le size k hlt
      have hcl := class_six size
      by_cases hb : size ≤ bytesI k
      · have hkc : classN size = k := by have := hc.1 hb; omega
        have HR : Hid (classR size = (k : Int) ∧ classE size = 0) := by
          unfold classR classE; rw [hkc, if_neg (by omega), if_neg (by omega)]; exact ⟨rfl, rfl⟩
        clear hc hkc hcl hk h6
        go_wp2_with (go_at_call 118; refine (bytes_any _ _).mono ?_; rintro e w' ⟨rfl, rfl⟩)
        go_ret2
        exact ⟨by rw [HR.out.1, HR.out.2]; rfl, rfl⟩
      · have hk1 : k + 1 ≤ classN size := by
          have : ¬ classN size ≤ k := fun h => hb (hc.2 h)
          omega
        clear hc hcl hk h6
        go_wp2_with (go_at_call 118; refine (bytes_any _ _).mono ?_; rintro e w' ⟨rfl, rfl⟩)
        go_round
        case rel => exact ⟨k + 1, by go_num, hk1⟩
        case measure => simp [intOf]; omega
    · have hk6 : k = 6 := by omega
      subst hk6
      have HR : Hid (classR size = 0 ∧ classE size = 4) := by
        unfold classR classE; rw [if_pos (by omega), if_pos (by omega)]; exact ⟨rfl, rfl⟩
      clear hk h6
      go_wp2
      go_ret2
      exact ⟨by rw [HR.out.1, HR.out.2]; rfl, rfl⟩
end Go.Proofs.YtpghckiochjogaaGreatDoor.Slab

/- Maps as lists of pairs: what a look-up, a store and a delete do, by the keys' own law; over any program. -/
namespace Go.Proofs.YtpghckiochjogaaGreatDoor.Maps
open Go
theorem map_eraseIdx {α β : Type} (f : α → β) : ∀ (l : List α) (i : Nat), (l.eraseIdx i).map f = (l.map f).eraseIdx i
  | [], _ => rfl
  | _ :: _, 0 => rfl
  | _ :: l, i + 1 => by simp [map_eraseIdx f l i]
section pure
variable {κ : Type} [DecidableEq κ]
def get : List (κ × Value) → κ → Option Value
  | [], _ => none
  | p :: l, k => if k = p.1 then some p.2 else get l k
def set : List (κ × Value) → κ → Value → List (κ × Value)
  | [], k, v => [(k, v)]
  | p :: l, k, v => if k = p.1 then (k, v) :: l else p :: set l k v
def del : List (κ × Value) → κ → List (κ × Value)
  | [], _ => []
  | p :: l, k => if k = p.1 then l else p :: del l k
def at? : List (κ × Value) → κ → Nat → Option Nat
  | [], _, _ => none
  | p :: l, k, i => if k = p.1 then some i else at? l k (i + 1)
end pure
structure KeyLaw (P : Program) (kt : TypeId) {κ : Type} [DecidableEq κ] (enc : κ → Value) : Prop where
  check : ∀ (em : Bool) (k : κ) (w : World), (Instr.checkKey em 10000 kt (enc k)).run P w = .ok () w
  find : ∀ (k : κ) (es : List MapEntry) (l : List (κ × Value)), es.map (fun e => (e.key, e.val)) = l.map (fun p => (enc p.1, p.2)) → ∀ w : World,
    (Instr.findKey kt (enc k) es).run P w = .ok ((at? l k 0).bind fun i => (get l k).map fun v => (i, v)) w
  stays : ∀ (k : κ) (w : World), (Instr.keyThatStays (enc k) (enc k)).run P w = .ok (enc k) w
def Is {κ : Type} (enc : κ → Value) (w : World) (b : Nat) (l : List (κ × Value)) : Prop :=
  ∃ es clock, w.heap[b]? = some (.map es clock) ∧ es.toList.map (fun e => (e.key, e.val)) = l.map (fun p => (enc p.1, p.2))
section
variable {κ : Type} {enc : κ → Value} {w : World} {b : Nat} {l : List (κ × Value)}
theorem Is.put {es0 : Array MapEntry} {c0 : Nat} (h : w.heap[b]? = some (.map es0 c0)) {es : Array MapEntry} (clock : Nat) (hl : es.toList.map (fun e => (e.key, e.val)) = l.map (fun p => (enc p.1, p.2))) : Is enc (w.putObj b (.map es clock)) b l :=
  ⟨es, clock, World.putObj_heap_same (Array.getElem?_eq_some_iff.1 h).1, hl⟩
end
section
variable {P : Program} {kt : TypeId} {κ : Type} [DecidableEq κ] {enc : κ → Value} {w : World} {b : Nat} {l : List (κ × Value)} {T e : TypeId}
theorem at_get (l : List (κ × Value)) (k : κ) (i : Nat) : ((at? l k i).isSome = (get l k).isSome) ∧ (∀ j, at? l k i = some j → i ≤ j ∧ l[j - i]?.map (·.1) = some k ∧ get l k = l[j - i]?.map (·.2)) := by
  induction l generalizing i with
  | nil => exact ⟨rfl, fun j h => by simp [at?] at h⟩
  | cons p l ih =>
    by_cases hk : k = p.1
    · refine ⟨by simp [at?, get, hk], fun j h => ?_⟩
      simp only [at?, if_pos hk, Option.some.injEq] at h
      subst h
      exact ⟨Nat.le_refl _, by simp [hk], by simp [get, hk]⟩
    · refine ⟨by simp only [at?, get, if_neg hk]; exact (ih (i + 1)).1, fun j h => ?_⟩
      simp only [at?, if_neg hk] at h
      obtain ⟨h1, h2, h3⟩ := (ih (i + 1)).2 j h
      have e1 : j - i = (j - (i + 1)) + 1 := by omega
      refine ⟨by omega, ?_, ?_⟩
      · rw [e1]; simpa using h2
      · rw [e1]; simp only [get, if_neg hk]; simpa using h3
theorem set_at (l : List (κ × Value)) (k : κ) (v : Value) (i : Nat) : set l k v = match at? l k i with
    | some j => l.modify (j - i) fun _ => (k, v)
    | none => l ++ [(k, v)] := by
  induction l generalizing i with
  | nil => rfl
  | cons p l ih =>
    by_cases hk : k = p.1
    · simp [set, at?, hk]
    · simp only [set, at?, if_neg hk]
      rw [ih (i + 1)]
      cases hj : at? l k (i + 1) with
      | none => rfl
      | some j =>
        have h1 := ((at_get l k (i + 1)).2 j hj).1
        have e1 : j - i = (j - (i + 1)) + 1 := by omega
        simp only [e1, List.modify_succ_cons]
theorem del_at (l : List (κ × Value)) (k : κ) (i : Nat) : del l k = match at? l k i with
    | some j => l.eraseIdx (j - i)
    | none => l := by
  induction l generalizing i with
  | nil => rfl
  | cons p l ih =>
    by_cases hk : k = p.1
    · simp [del, at?, hk]
    · simp only [del, at?, if_neg hk]
      rw [ih (i + 1)]
      cases hj : at? l k (i + 1) with
      | none => rfl
      | some j =>
        have h1 := ((at_get l k (i + 1)).2 j hj).1
        have e1 : j - i = (j - (i + 1)) + 1 := by omega
        simp only [e1, List.eraseIdx_cons_succ]
theorem run_getObj_map {es : Array MapEntry} {clock : Nat} (h : w.heap[b]? = some (.map es clock)) : (getObj b).run P w = .ok (.map es clock) w := by simp [getObj, Sem.run, h]
theorem run_setObj_map {es : Array MapEntry} {clock : Nat} (o : Obj) (h : w.heap[b]? = some (.map es clock)) : (setObj b o).run P w = .ok () (w.putObj b o) := by simp [setObj, Sem.run, h, World.putObj]
theorem run_lookup (K : KeyLaw P kt enc) (ht : P.underlying T = some (.map kt e)) {z : Value} (hz : ∀ w : World, (zeroValue e).run P w = .ok z w) (h : Is enc w b l) (k : κ) :
    (Instr.lookup T (.map (some b)) (enc k) false).run P w = .ok ((get l k).getD z) w := by
  obtain ⟨es, clock, hb, hl⟩ := h
  simp only [Instr.lookup, Sem.run_bind, run_underlying ht, Result.andThen_ok, run_getObj_map hb, Sem.run_pure, K.check, K.find k _ _ hl]
  have hs := (at_get l k 0).1
  cases ha : at? l k 0 with
  | none =>
    rw [ha] at hs
    have hg : get l k = none := by simpa using hs.symm
    simp [hg, hz]
  | some j =>
    rw [ha] at hs
    obtain ⟨v, hv⟩ := Option.isSome_iff_exists.1 hs.symm
    simp [hv]
theorem run_update (K : KeyLaw P kt enc) (ht : P.underlying T = some (.map kt e)) (h : Is enc w b l) (k : κ) (v : Value) :
    ∃ o : Obj, (Instr.mapUpdate T (.map (some b)) (enc k) v).run P w = .ok () (w.putObj b o) ∧ Is enc (w.putObj b o) b (set l k v) := by
  obtain ⟨es, clock, hb, hl⟩ := h
  simp only [Instr.mapUpdate, Sem.run_bind, run_underlying ht, Result.andThen_ok, run_getObj_map hb, K.check, K.find k _ _ hl]
  have hs := (at_get l k 0).1
  cases ha : at? l k 0 with
  | none =>
    refine ⟨.map (es.push { key := enc k, val := v, born := clock }) (clock + 1), ?_, Is.put hb _ ?_⟩
    · simp [run_setObj_map _ hb]
    · have := set_at l k v 0
      rw [ha] at this
      simp only at this
      rw [this]
      simp [hl]
  | some j =>
    rw [ha] at hs
    obtain ⟨v0, hv⟩ := Option.isSome_iff_exists.1 hs.symm
    obtain ⟨_, h1, h2⟩ := (at_get l k 0).2 j ha
    simp only [Nat.sub_zero] at h1 h2
    have hlen : es.size = l.length := by have := congrArg List.length hl; simpa using this
    have hj : j < l.length := by
      rcases Nat.lt_or_ge j l.length with h | h
      · exact h
      · rw [List.getElem?_eq_none h] at h1; cases h1
    have hkey : es[j]?.map (·.key) = some (enc k) := by
      have e1 : (es.toList.map (fun e => (e.key, e.val)))[j]? = (l.map (fun p => (enc p.1, p.2)))[j]? := by rw [hl]
      rw [List.getElem?_map, List.getElem?_map] at e1
      rw [List.getElem?_eq_getElem hj] at e1 h1
      rw [Array.getElem?_toList, Array.getElem?_eq_getElem (by omega)] at e1
      rw [Array.getElem?_eq_getElem (by omega)]
      simp only [Option.map_some, Option.some.injEq, Prod.mk.injEq] at e1 h1 ⊢
      rw [e1.1, h1]
    refine ⟨.map (es.modify j fun e => { e with key := enc k, val := v }) clock, ?_, Is.put hb _ ?_⟩
    · simp only [hv, Option.bind_some, Option.map_some, Sem.run_bind, hkey, Option.getD_some, K.stays, Result.andThen_ok]
      simp [run_setObj_map _ hb]
    · have := set_at l k v 0
      rw [ha] at this
      simp only [Nat.sub_zero] at this
      rw [this]
      apply List.ext_getElem?
      intro i
      have e1 : (es.toList.map (fun e => (e.key, e.val)))[i]? = (l.map (fun p => (enc p.1, p.2)))[i]? := by rw [hl]
      rw [List.getElem?_map, List.getElem?_map] at e1 ⊢
      rw [Array.toList_modify, List.getElem?_modify, List.getElem?_modify]
      by_cases hij : j = i
      · subst hij
        rw [List.getElem?_eq_getElem (by simpa [hlen] using hj), List.getElem?_eq_getElem hj]
        simp
      · simp only [hij, if_false]
        simpa using e1
theorem run_delete (K : KeyLaw P kt enc) (ht : P.underlying T = some (.map kt e)) (h : Is enc w b l) (k : κ) (ty k' : TypeId) :
    ∃ o : Obj, (Builtin.delete_ #[T, k'] ty #[.map (some b), enc k]).run P w = .ok (.tuple #[]) (w.putObj b o) ∧ Is enc (w.putObj b o) b (del l k) := by
  obtain ⟨es, clock, hb, hl⟩ := h
  have hs := (at_get l k 0).1
  have hlen : es.size = l.length := by have := congrArg List.length hl; simpa using this
  cases ha : at? l k 0 with
  | none =>
    refine ⟨.map es clock, ?_, Is.put hb _ ?_⟩
    · simp [Builtin.delete_, run_underlying ht, run_getObj_map hb, K.check, K.find k _ _ hl, ha, run_setObj_map _ hb]
    · have := del_at l k 0
      rw [ha] at this
      simp only at this
      rw [this]
      exact hl
  | some j =>
    rw [ha] at hs
    obtain ⟨v0, hv⟩ := Option.isSome_iff_exists.1 hs.symm
    refine ⟨.map (es.eraseIdxIfInBounds j) clock, ?_, Is.put hb _ ?_⟩
    · simp [Builtin.delete_, run_underlying ht, run_getObj_map hb, K.check, K.find k _ _ hl, ha, hv, run_setObj_map _ hb]
    · have := del_at l k 0
      rw [ha] at this
      simp only [Nat.sub_zero] at this
      rw [this, Array.toList_eraseIdxIfInBounds, map_eraseIdx, map_eraseIdx, hl]
end
section
variable {κ : Type} {enc : κ → Value} {w : World} {b : Nat} {l : List (κ × Value)}
theorem Is.new (w : World) : Is enc (w.alloc (.map #[] 0)) w.heap.size ([] : List (κ × Value)) := ⟨#[], 0, World.alloc_heap_new w _, rfl⟩
theorem Is.same {w' : World} (h : Is enc w b l) (hs : w'.heap[b]? = w.heap[b]?) : Is enc w' b l := by
  obtain ⟨es, clock, hb, hl⟩ := h
  exact ⟨es, clock, hs.trans hb, hl⟩
theorem Is.lt (h : Is enc w b l) : b < w.heap.size := by
  obtain ⟨es, clock, hb, _⟩ := h
  exact (Array.getElem?_eq_some_iff.1 hb).1
end
section
variable {P : Program} {kt : TypeId} {κ : Type} [DecidableEq κ] {enc : κ → Value}
theorem findAsking_of (heq : ∀ (k k' : κ) (w : World), (Op.equal kt (enc k) (enc k')).run P w = .ok (decide (k = k')) w) (k : κ) (w : World) :
    ∀ (es : List MapEntry) (l : List (κ × Value)) (i : Nat), es.map (fun e => (e.key, e.val)) = l.map (fun p => (enc p.1, p.2)) →
      (Instr.findAsking kt (enc k) es i).run P w = .ok ((at? l k i).bind fun j => (get l k).map fun v => (j, v)) w
  | [], [], _, _ => rfl
  | [], _ :: _, _, h => by cases h
  | _ :: _, [], _, h => by cases h
  | e :: es, p :: l, i, h => by
    simp only [List.map_cons, List.cons.injEq, Prod.mk.injEq] at h
    obtain ⟨⟨h1, h2⟩, h3⟩ := h
    simp only [Instr.findAsking, Sem.run_bind, h1, heq, Result.andThen_ok]
    by_cases hk : k = p.1
    · simp [hk, at?, get, h2]
    · simp only [hk, decide_false, Bool.false_eq_true, if_false, at?, get]
      exact findAsking_of heq k w es l (i + 1) h3
theorem KeyLaw.of_wide (hwide : (match P.underlying kt with | some (.array _ _) | some (.struct _) => true | _ => false) = true)
    (hcheck : ∀ (em : Bool) (k : κ) (w : World), (Instr.checkKey em 10000 kt (enc k)).run P w = .ok () w)
    (heq : ∀ (k k' : κ) (w : World), (Op.equal kt (enc k) (enc k')).run P w = .ok (decide (k = k')) w) (hst : ∀ k : κ, Instr.sameBits 10000 (enc k) (enc k) = true) : KeyLaw P kt enc where
  check := hcheck
  find k es l h w := by rw [run_findKey_eq w hwide]; exact findAsking_of heq k w es l 0 h
  stays k w := by simp [Instr.keyThatStays, hst]
end
section
variable {P : Program} {kt : TypeId}
theorem bytes_beq (a b : ByteArray) : (a == b) = decide (a = b) := by
  rw [beq_toListBytes, ByteArray.toList_eq, ByteArray.toList_eq]
  by_cases h : a = b
  · subst h; simp
  · have hn : a.data.toList ≠ b.data.toList := fun e => h (by
      obtain ⟨⟨x⟩⟩ := a
      obtain ⟨⟨y⟩⟩ := b
      simp at e; rw [e])
    simp [h]
    exact fun e => hn (by rw [e])
theorem findNow_string (k : ByteArray) : ∀ (es : List MapEntry) (l : List (ByteArray × Value)) (i : Nat), es.map (fun e => (e.key, e.val)) = l.map (fun p => (Value.string p.1, p.2)) →
      Instr.findNow .string (.string k) es i = some ((at? l k i).bind fun j => (get l k).map fun v => (j, v))
  | [], [], _, _ => rfl
  | [], _ :: _, _, h => by cases h
  | _ :: _, [], _, h => by cases h
  | e :: es, p :: l, i, h => by
    simp only [List.map_cons, List.cons.injEq, Prod.mk.injEq] at h
    obtain ⟨⟨h1, h2⟩, h3⟩ := h
    by_cases hk : k = p.1
    · subst hk
      simp [Instr.findNow, h1, Instr.sameNow, at?, get, h2, bytes_beq]
    · have hb : (k == p.1) = false := by rw [bytes_beq]; simpa using hk
      simp only [Instr.findNow, h1, Instr.sameNow, hb, at?, get, if_neg hk]
      exact findNow_string k es l (i + 1) h3
theorem stringLaw (h : P.underlying kt = some .string) : KeyLaw P kt Value.string where
  check em k w := by
    show (Instr.checkKey em (9999 + 1) kt (.string k)).run P w = _
    generalize 9999 = n
    simp [Instr.checkKey, run_underlying h]
  find k es l he w := by rw [MapKept.run_findKey h (findNow_string k es l 0 he)]
  stays k w := by simp [Instr.keyThatStays, Instr.sameBits, bytes_beq]
end
end Go.Proofs.YtpghckiochjogaaGreatDoor.Maps

/- The slab's map: its keys are chunks, structs of two ints. -/
namespace Go.Proofs.YtpghckiochjogaaGreatDoor.Slab
open Go Go.RowKit
def encC (c : Int × Int) : Value := .agg #[.int .i64 c.1, .int .i64 c.2]
theorem chunk_equal (a b : Int × Int) (w : World) : (Op.equal 123 (encC a) (encC b)).run Tryz.prog w = .ok (decide (a = b)) w := by
  have hf : Tryz.prog.underlying 123 = some (.struct (Tryz.prog.fieldsOf 123)) := by kernel_rfl
  show (Op.equalIn (9999 + 1) 123 (encC a) (encC b)).run Tryz.prog w = _
  unfold encC
  rw [run_equalIn_struct w 9999 _ _ _ hf (by kernel_rfl)]
  have hl : (Tryz.prog.fieldsOf 123).toList.map (fun f => (f.name, f.type, f.offset)) = [("Class", 3, 0), ("No", 3, 1)] := by kernel_rfl
  generalize (Tryz.prog.fieldsOf 123).toList = L at hl
  obtain ⟨f0, f1, rfl⟩ : ∃ f0 f1, L = [f0, f1] := by
    have h := congrArg List.length hl
    simp only [List.length_map, List.length_cons, List.length_nil] at h
    match L, h with
    | [f0, f1], _ => exact ⟨f0, f1, rfl⟩
  simp only [List.map_cons, List.map_nil, List.cons.injEq, Prod.mk.injEq, and_true] at hl
  obtain ⟨⟨n0, t0, o0⟩, n1, t1, o1⟩ := hl
  obtain ⟨a1, a2⟩ := a
  obtain ⟨b1, b2⟩ := b
  simp only [Op.eqFields, n0, n1, t0, t1, o0, o1]
  go_simp
  by_cases h1 : a1 = b1 <;> by_cases h2 : a2 = b2 <;> simp [h1, h2]
theorem chunk_check (em : Bool) (a : Int × Int) (w : World) : (Instr.checkKey em 10000 123 (encC a)).run Tryz.prog w = .ok () w := by
  have hf : Tryz.prog.underlying 123 = some (.struct (Tryz.prog.fieldsOf 123)) := by kernel_rfl
  have hl : (Tryz.prog.fieldsOf 123).toList.map (fun f => (f.name, f.type, f.offset)) = [("Class", 3, 0), ("No", 3, 1)] := by kernel_rfl
  show (Instr.checkKey em (9998 + 1 + 1) 123 (encC a)).run Tryz.prog w = _
  generalize 9998 = n
  unfold encC
  rw [Instr.checkKey]
  simp only [Sem.run_bind, run_underlying hf, Result.andThen_ok]
  rw [← Array.forIn_toList]
  generalize (Tryz.prog.fieldsOf 123).toList = L at hl
  obtain ⟨f0, f1, rfl⟩ : ∃ f0 f1, L = [f0, f1] := by
    have h := congrArg List.length hl
    simp only [List.length_map, List.length_cons, List.length_nil] at h
    match L, h with
    | [f0, f1], _ => exact ⟨f0, f1, rfl⟩
  simp only [List.map_cons, List.map_nil, List.cons.injEq, Prod.mk.injEq, and_true] at hl
  obtain ⟨⟨n0, t0, o0⟩, n1, t1, o1⟩ := hl
  have hi : ∀ (x : Int) (w : World), (Instr.checkKey em (n + 1) 3 (.int .i64 x)).run Tryz.prog w = .ok () w := fun x w => by
    simp [Instr.checkKey, run_underlying Tryz.underlying3]
  simp only [List.forIn_cons, List.forIn_nil, n0, n1, t0, t1, o0, o1]
  go_simp
theorem chunkLaw : Maps.KeyLaw Tryz.prog 123 encC :=
  .of_wide (by kernel_rfl) chunk_check chunk_equal fun a => by simp [Instr.sameBits, encC]
end Go.Proofs.YtpghckiochjogaaGreatDoor.Slab

/- The slab in memory, and the walks of New, Used, Has, number. -/
namespace Go.Proofs.YtpghckiochjogaaGreatDoor.Slab
open Go Go.RowKit Go.Proofs.YtpghckiochjogaaGreatDoor.Mem
def cells (s : St) (mb : Nat) (gv : Nat → Value) : Array Value :=
  #[.int .i64 s.budget, .int .i64 s.used, .map (some mb), gv 0, gv 1, gv 2, gv 3, gv 4, gv 5, .int .i64 (s.made 0), .int .i64 (s.made 1), .int .i64 (s.made 2), .int .i64 (s.made 3), .int .i64 (s.made 4), .int .i64 (s.made 5)]
def pairs (l : List (Int × Int)) : List ((Int × Int) × Value) := l.map fun c => (c, .bool true)
structure AtW (w : World) (b : Nat) (F : Nat → Prop) (s : St) (mb : Nat) (gv : Nat → Value) : Prop where
  blk : w.heap[b]? = some (.cells (cells s mb gv) 107 (0, 0))
  map : Maps.Is encC w mb (pairs s.inn)
  rows : ∀ k, k < 6 → w.ownsRow 0 3 1 (gv k) (s.gone k).length ((s.gone k).map (Value.int .i64))
  fb : F b
  fm : F mb
  fr : ∀ k, k < 6 → ∀ g, (gv k).ownBlock = some g → F g
  apart : ∀ j k, j < 6 → k < 6 → j ≠ k → ∀ g, (gv j).ownBlock = some g → (gv k).ownBlock ≠ some g
  lt : ∀ k, F k → k < w.heap.size
def At (w : World) (b : Nat) (F : Nat → Prop) (s : St) : Prop := ∃ mb gv, AtW w b F s mb gv
structure Small (N : Nat) (s : St) : Prop where
  u0 : 0 ≤ s.used
  u1 : s.used ≤ 2048 * N
  g : ∀ k, (s.gone k).length ≤ N
  m0 : ∀ k, 0 ≤ s.made k
  m1 : ∀ k, s.made k ≤ N
  cls : ∀ c ∈ s.inn, 0 ≤ c.1 ∧ c.1 < 6
  b0 : -9223372036854775808 ≤ s.budget
  b1 : s.budget ≤ 9223372036854775807
section
variable {w w' : World} {b : Nat} {F : Nat → Prop} {s : St} {mb : Nat} {gv : Nat → Value}
theorem cells_gone (k : Nat) (hk : k < 6) : (cells s mb gv)[3 + k]? = some (gv k) := by
  match k, hk with
  | 0, _ | 1, _ | 2, _ | 3, _ | 4, _ | 5, _ => rfl
theorem cells_made (k : Nat) (hk : k < 6) : (cells s mb gv)[9 + k]? = some (.int .i64 (s.made k)) := by
  match k, hk with
  | 0, _ | 1, _ | 2, _ | 3, _ | 4, _ | 5, _ => rfl
theorem cells_set_gone (k : Nat) (hk : k < 6) (v : Value) (l : List Int) : (cells s mb gv).setIfInBounds (3 + k) v = cells { s with gone := put s.gone k l } mb (put gv k v) := by
  match k, hk with
  | 0, _ | 1, _ | 2, _ | 3, _ | 4, _ | 5, _ => rfl
theorem cells_set_made (k : Nat) (hk : k < 6) (n : Int) : (cells s mb gv).setIfInBounds (9 + k) (.int .i64 n) = cells { s with made := put s.made k n } mb gv := by
  match k, hk with
  | 0, _ | 1, _ | 2, _ | 3, _ | 4, _ | 5, _ => rfl
theorem cells_set_used (n : Int) : (cells s mb gv).setIfInBounds 1 (.int .i64 n) = cells { s with used := n } mb gv := rfl
theorem AtW.row_ne (h : AtW w b F s mb gv) {k : Nat} (hk : k < 6) : (gv k).ownBlock ≠ some b := fun e => by
  rcases (h.rows k hk).2 with ⟨e1, _⟩ | ⟨g, cap, cur, e1, _, e2, _⟩
  · rw [e1] at e; simp [Value.ownBlock] at e
  · rw [e1] at e
    have : g = b := by simpa [Value.ownBlock] using e
    subst this
    rw [h.blk] at e2
    injection e2 with e2
    injection e2 with _ e3
    exact absurd e3 (by decide)
theorem AtW.map_ne (h : AtW w b F s mb gv) : mb ≠ b := fun e => by
  obtain ⟨es, c, h1, _⟩ := h.map
  rw [e, h.blk] at h1
  cases h1
theorem AtW.row_map (h : AtW w b F s mb gv) {k : Nat} (hk : k < 6) : (gv k).ownBlock ≠ some mb := fun e => by
  obtain ⟨es, c, h1, _⟩ := h.map
  rcases (h.rows k hk).2 with ⟨e1, _⟩ | ⟨g, cap, cur, e1, _, e2, _⟩
  · rw [e1] at e; simp [Value.ownBlock] at e
  · rw [e1] at e
    have : g = mb := by simpa [Value.ownBlock] using e
    subst this
    rw [h1] at e2
    cases e2
theorem row_same {base : Nat} {e : TypeId} {size n : Nat} {v : Value} {xs : List Value} (h : w.ownsRow base e size v n xs) (hs : ∀ g, v.ownBlock = some g → w'.heap[g]? = w.heap[g]?) : w'.ownsRow base e size v n xs := by
  refine ⟨h.1, ?_⟩
  rcases h.2 with h1 | ⟨g, cap, cur, h1, h2, h3, h4⟩
  · exact .inl h1
  · exact .inr ⟨g, cap, cur, h1, h2, (hs g (by rw [h1]; rfl)).trans h3, h4⟩
theorem At.same (h : At w b F s) (hs : ∀ k, F k → w'.heap[k]? = w.heap[k]?) (hz : w.heap.size ≤ w'.heap.size) : At w' b F s := by
  obtain ⟨mb, gv, h⟩ := h
  exact ⟨mb, gv, (hs _ h.fb).trans h.blk, h.map.same (hs _ h.fm), fun k hk => row_same (h.rows k hk) fun g e => hs g (h.fr k hk g e), h.fb, h.fm, h.fr, h.apart, fun k hk => Nat.lt_of_lt_of_le (h.lt k hk) hz⟩
theorem At.only {G : Nat → Prop} (h : At w b F s) (ho : Only G w w') (hd : ∀ k, F k → ¬ G k) : At w' b F s := by
  have hl : ∀ k, F k → k < w.heap.size := by obtain ⟨_, _, h⟩ := h; exact h.lt
  exact h.same (fun k hk => ho.same k (hl k hk) (hd k hk)) ho.size
theorem At.below (h : At w b F s) (ho : Below w.heap.size w w') : At w' b F s := by
  have hl : ∀ k, F k → k < w.heap.size := by obtain ⟨_, _, h⟩ := h; exact h.lt
  exact h.same (fun k hk => ho.block k (hl k hk)) ho.size
end
theorem new_any (budget : Int) (w : World) : Calls Tryz.prog 29 #[.int .i64 budget] w fun e w' =>
    e = .returned (.pointer (some ⟨w.heap.size + 1, 0, none⟩)) ∧ w' = (w.alloc (.map #[] 0)).alloc (.cells (cells (new budget) w.heap.size fun _ => .slice none 0 0) 107) := by
  have hmm := @run_makeMap Tryz.prog
  go_enter Tryz.func29, Tryz.ntmps29
  go_wp2
  go_ret
  exact ⟨rfl, rfl⟩
theorem new_at (budget : Int) (w : World) : At ((w.alloc (.map #[] 0)).alloc (.cells (cells (new budget) w.heap.size fun _ => .slice none 0 0) 107)) (w.heap.size + 1) (fun k => k = w.heap.size ∨ k = w.heap.size + 1) (new budget) := by
  refine ⟨w.heap.size, fun _ => .slice none 0 0, ?_, (Maps.Is.new w).same ?_, fun k _ => World.ownsRow_nil _ _ _ _, .inr rfl, .inl rfl, fun k _ g e => ?_, fun j k _ _ _ g e => ?_, ?_⟩
  · have := Mem.new_block (w.alloc (.map #[] 0)) (.cells (cells (new budget) w.heap.size fun _ => .slice none 0 0) 107)
    rwa [World.size_alloc] at this
  · exact Below.heap_alloc _ _ _ (by simp)
  · cases e
  · cases e
  · rintro k (rfl | rfl) <;> simp <;> omega
theorem new_gives (budget : Int) (w : World) : Calls Tryz.prog 29 #[.int .i64 budget] w fun e w' =>
    ∃ (b : Nat) (F : Nat → Prop), e = .returned (.pointer (some ⟨b, 0, none⟩)) ∧ At w' b F (new budget) ∧ (∀ k, F k → w.heap.size ≤ k) ∧ Below w.heap.size w w' :=
  (new_any budget w).mono fun e w' ⟨he, hw⟩ => by
    subst hw
    exact ⟨_, _, he, new_at budget w, fun k hk => by omega, Mem.al (Mem.al (Below.refl _ _) _) _⟩
theorem get_pairs (l : List (Int × Int)) (c : Int × Int) : Maps.get (pairs l) c = if c ∈ l then some (.bool true) else none := by
  induction l with
  | nil => rfl
  | cons p l ih =>
    simp only [pairs, List.map_cons, Maps.get, List.mem_cons] at ih ⊢
    by_cases h : c = p
    · rw [if_pos h, if_pos (.inl h)]
    · rw [if_neg h, ih]; simp [h]
theorem zeroBool (w : World) : (zeroValue 4).run Tryz.prog w = .ok (.bool false) w := by kernel_rfl
theorem lookup_pairs {w : World} {mb : Nat} {l : List (Int × Int)} (h : Maps.Is encC w mb (pairs l)) (c n : Int) :
    (Instr.lookup 102 (.map (some mb)) (.agg #[.int .i64 c, .int .i64 n]) false).run Tryz.prog w = .ok (.bool (decide ((c, n) ∈ l))) w := by
  have := Maps.run_lookup chunkLaw Tryz.underlying102 zeroBool h (c, n)
  rw [get_pairs] at this
  refine this.trans ?_
  by_cases hm : (c, n) ∈ l <;> simp [hm]
end Go.Proofs.YtpghckiochjogaaGreatDoor.Slab

/- Layer 7's plain law: what stays true of a slab's state over its calls. -/
namespace Go.Proofs.YtpghckiochjogaaGreatDoor.Slab
open Go Go.RowKit
def total (l : List (Int × Int)) : Int := (l.map fun c => bytesI c.1).sum
theorem total_nil : total [] = 0 := rfl
theorem total_cons (c : Int × Int) (l : List (Int × Int)) : total (c :: l) = bytesI c.1 + total l := by simp [total]
theorem total_app (l m : List (Int × Int)) : total (l ++ m) = total l + total m := by simp [total]
theorem total_pos (l : List (Int × Int)) : 0 ≤ total l := by
  induction l with
  | nil => exact Int.le_refl _
  | cons c l ih => rw [total_cons]; have := (bytes_range c.1).1; omega
theorem total_mem {c : Int × Int} {l : List (Int × Int)} (h : c ∈ l) : bytesI c.1 ≤ total l := by
  induction l with
  | nil => cases h
  | cons d l ih =>
    rw [total_cons]
    have := (bytes_range d.1).1
    have := total_pos l
    rcases List.mem_cons.1 h with rfl | h
    · omega
    · have := ih h; omega
theorem total_erase {c : Int × Int} {l : List (Int × Int)} (h : c ∈ l) : total (l.erase c) = total l - bytesI c.1 := by
  induction l with
  | nil => cases h
  | cons d l ih =>
    rw [List.erase_cons]
    by_cases e : d = c
    · subst e; simp [total_cons]; omega
    · rw [if_neg (by simpa using e), total_cons, total_cons, ih (by rcases List.mem_cons.1 h with rfl | h; exact absurd rfl e; exact h)]; omega
structure Good (N : Nat) (s : St) : Prop where
  small : Small N s
  sum : s.used = total s.inn
  nd : s.inn.Nodup
  gnd : ∀ k, (s.gone k).Nodup
  fresh : ∀ c ∈ s.inn, c.2 < s.made c.1.toNat ∧ c.2 ∉ s.gone c.1.toNat
  glt : ∀ k, ∀ n ∈ s.gone k, n < s.made k
theorem Small.mono {N M : Nat} {s : St} (h : Small N s) (hm : N ≤ M) : Small M s := by
  have h1 := h.u1
  exact ⟨h.u0, by omega, fun k => Nat.le_trans (h.g k) hm, h.m0, fun k => by have := h.m1 k; omega, h.cls, h.b0, h.b1⟩
theorem Good.mono {N M : Nat} {s : St} (h : Good N s) (hm : N ≤ M) : Good M s := ⟨h.small.mono hm, h.sum, h.nd, h.gnd, h.fresh, h.glt⟩
theorem Good.new (budget : Int) (h : -9223372036854775808 ≤ budget ∧ budget ≤ 9223372036854775807) : Good 0 (new budget) :=
  ⟨⟨Int.le_refl _, Int.le_refl _, fun _ => Nat.le_refl _, fun _ => Int.le_refl _, fun _ => Int.le_refl _, fun c hc => (by cases hc), h.1, h.2⟩, rfl, List.nodup_nil, fun _ => List.nodup_nil, fun c hc => (by cases hc), fun k n hn => (by cases hn)⟩
theorem number_last {s : St} {k : Nat} {l : List Int} {n : Int} (h : s.gone k = l ++ [n]) : s.number k = (n, { s with gone := put s.gone k l }) := by
  unfold St.number; rw [h]; simp
theorem number_made {s : St} {k : Nat} (h : s.gone k = []) : s.number k = (s.made k, { s with made := put s.made k (s.made k + 1) }) := by
  unfold St.number; rw [h]; simp
theorem gone_cases (s : St) (k : Nat) : s.gone k = [] ∨ ∃ l n, s.gone k = l ++ [n] := by
  rcases List.eq_nil_or_concat (s.gone k) with h | ⟨l, n, h⟩
  · exact .inl h
  · exact .inr ⟨l, n, by simpa using h⟩
theorem Good.number_new {N : Nat} {s : St} (h : Good N s) (k : Nat) : ((k : Int), (s.number k).1) ∉ s.inn := fun hm => by
  have hf := h.fresh _ hm
  simp only [Int.toNat_natCast] at hf
  rcases gone_cases s k with e | ⟨l, n, e⟩
  · rw [number_made e] at hf; simp at hf
  · rw [number_last e] at hf; rw [e] at hf; simp at hf
theorem addIn_new {l : List (Int × Int)} {c : Int × Int} (h : c ∉ l) : addIn l c = l ++ [c] := by unfold addIn; rw [if_neg h]
theorem take_cases (s : St) (size : Int) :
    (classN size = 6 ∧ s.take size = (((0, 0), 4), s)) ∨ (classN size < 6 ∧ s.budget < s.used + bytesI (classN size) ∧ s.take size = (((0, 0), 5), s)) ∨
    (classN size < 6 ∧ s.used + bytesI (classN size) ≤ s.budget ∧ s.take size = (((((classN size : Nat) : Int), (s.number (classN size)).1), 0), { (s.number (classN size)).2 with used := s.used + bytesI (classN size), inn := addIn s.inn ((classN size : Nat), (s.number (classN size)).1) })) := by
  have h6 := class_six size
  unfold St.take
  by_cases h : classN size = 6
  · exact .inl ⟨h, by rw [if_pos h]⟩
  rw [if_neg h]
  by_cases hx : s.budget < s.used + bytesI (classN size)
  · exact .inr (.inl ⟨by omega, hx, by rw [if_pos hx]⟩)
  · exact .inr (.inr ⟨by omega, by omega, by rw [if_neg hx]⟩)
theorem Good.take {N : Nat} {s : St} (h : Good N s) (size : Int) : Good (N + 1) (s.take size).2 := by
  rcases take_cases s size with ⟨_, e⟩ | ⟨_, _, e⟩ | ⟨h6, hx, e⟩
  · rw [e]; exact h.mono (by omega)
  · rw [e]; exact h.mono (by omega)
  · rw [e]
    simp only
    generalize classN size = k at *
    have hnew := h.number_new k
    rw [addIn_new hnew]
    have hb := bytes_range (k : Int)
    have hs := h.small
    have u0 := hs.u0
    have u1 := hs.u1
    have hcls : ∀ c ∈ s.inn ++ [((k : Int), (s.number k).1)], 0 ≤ c.1 ∧ c.1 < 6 := fun c hc => by
      rcases List.mem_append.1 hc with hc | hc
      · exact hs.cls c hc
      · have : c = ((k : Int), (s.number k).1) := by simpa using hc
        subst this; simp only; omega
    have hnd : (s.inn ++ [((k : Int), (s.number k).1)]).Nodup := List.nodup_append.2 ⟨h.nd, by simp, fun a ha b hb => by
      have : b = ((k : Int), (s.number k).1) := by simpa using hb
      subst this; exact fun e => hnew (e ▸ ha)⟩
    have hsum : s.used + bytesI k = total (s.inn ++ [((k : Int), (s.number k).1)]) := by rw [total_app, total_cons, total_nil, h.sum]; simp
    rcases gone_cases s k with e1 | ⟨l, n, e1⟩
    · rw [number_made e1] at hcls hnd hsum ⊢
      refine ⟨⟨by simp only; omega, by simp only; omega, fun j => Nat.le_succ_of_le (hs.g j), fun j => ?_, fun j => ?_, hcls, hs.b0, hs.b1⟩, hsum, hnd, h.gnd, fun c hc => ?_, fun j m hm => ?_⟩
      · have := hs.m0 j; have := hs.m0 k; simp only [put]; split <;> omega
      · have := hs.m1 j; have := hs.m1 k; simp only [put]; split <;> omega
      · simp only at hc ⊢
        rcases List.mem_append.1 hc with hc | hc
        · have := h.fresh c hc
          refine ⟨?_, this.2⟩
          simp only [put]; split
          · rename_i e3; rw [e3] at this; omega
          · exact this.1
        · have : c = ((k : Int), s.made k) := by simpa using hc
          subst this
          simp only [Int.toNat_natCast, put_same, e1]
          exact ⟨by omega, by simp⟩
      · simp only at hm ⊢
        have := h.glt j m hm
        simp only [put]; split
        · rename_i e3; rw [e3] at this; omega
        · exact this
    · rw [number_last e1] at hcls hnd hsum ⊢
      have hln := h.gnd k
      rw [e1] at hln
      have hlk := List.nodup_append.1 hln
      refine ⟨⟨by simp only; omega, by simp only; omega, fun j => ?_, hs.m0, fun j => by have := hs.m1 j; simp only; omega, hcls, hs.b0, hs.b1⟩, hsum, hnd, fun j => ?_, fun c hc => ?_, fun j m hm => ?_⟩
      · have := hs.g j
        simp only [put]; split
        · rename_i e3; subst e3; rw [e1] at this; simp at this; omega
        · omega
      · simp only [put]; split
        · exact hlk.1
        · exact h.gnd j
      · simp only at hc ⊢
        rcases List.mem_append.1 hc with hc | hc
        · have := h.fresh c hc
          refine ⟨this.1, ?_⟩
          simp only [put]; split
          · rename_i e3; rw [e3, e1] at this; exact fun hm => this.2 (List.mem_append.2 (.inl hm))
          · exact this.2
        · have : c = ((k : Int), n) := by simpa using hc
          subst this
          simp only [Int.toNat_natCast, put_same]
          exact ⟨h.glt k n (by rw [e1]; simp), fun hm => hlk.2.2 n hm n (by simp) rfl⟩
      · simp only at hm ⊢
        simp only [put] at hm; split at hm
        · rename_i e3; subst e3; exact h.glt j m (by rw [e1]; exact List.mem_append.2 (.inl hm))
        · exact h.glt j m hm
theorem Good.free {N : Nat} {s : St} (h : Good N s) (c : Int × Int) : Good (N + 1) (s.free c).2 := by
  unfold St.free
  by_cases hc : c ∈ s.inn
  · rw [if_pos hc]
    simp only
    have hs := h.small
    have u1 := hs.u1
    have hb := bytes_range c.1
    have htm := total_mem hc
    have hsum := h.sum
    have hf := h.fresh c hc
    have hcl := hs.cls c hc
    refine ⟨⟨by simp only; omega, by simp only; omega, fun j => ?_, hs.m0, fun j => by have := hs.m1 j; simp only; omega, fun d hd => hs.cls d (List.mem_of_mem_erase hd), hs.b0, hs.b1⟩, by simp only; rw [total_erase hc]; omega, h.nd.erase c, fun j => ?_, fun d hd => ?_, fun j m hm => ?_⟩
    · have := hs.g j
      simp only [put]; split
      · rename_i e; rw [← e]; simp; exact this
      · omega
    · simp only [put]; split
      · exact List.nodup_append.2 ⟨h.gnd _, by simp, fun a ha b hb => by
          have : b = c.2 := by simpa using hb
          subst this; exact fun e => hf.2 (e ▸ ha)⟩
      · exact h.gnd j
    · simp only at hd ⊢
      have hd' := (h.nd.mem_erase_iff).1 hd
      have hfd := h.fresh d hd'.2
      have hdl := hs.cls d hd'.2
      refine ⟨hfd.1, ?_⟩
      simp only [put]; split
      · rename_i e
        intro hm
        rcases List.mem_append.1 hm with hm | hm
        · rw [← e] at hm; exact hfd.2 hm
        · refine hd'.1 (Prod.ext ?_ (by simpa using hm))
          omega
      · exact hfd.2
    · simp only at hm ⊢
      simp only [put] at hm; split at hm
      · rename_i e; rw [e]
        rcases List.mem_append.1 hm with hm | hm
        · exact h.glt _ m hm
        · have : m = c.2 := by simpa using hm
          subst this; exact hf.1
      · exact h.glt j m hm
  · rw [if_neg hc]; exact h.mono (by omega)
theorem free_in {s : St} {c : Int × Int} (h : c ∈ s.inn) : (s.free c).1 = 0 ∧ (s.free c).2.inn = s.inn.erase c ∧ (s.free c).2.used = s.used - bytesI c.1 ∧ (s.free c).2.budget = s.budget := by
  unfold St.free; rw [if_pos h]; exact ⟨rfl, rfl, rfl, rfl⟩
theorem Good.take_two {N : Nat} {s : St} (h : Good N s) (size : Int) : ∃ cc nn ee, (s.take size).1 = ((cc, nn), ee) ∧ (((ee = 4 ∨ ee = 5) ∧ (s.take size).2 = s ∧ cc = 0 ∧ nn = 0) ∨ (ee = 0 ∧ classN size < 6 ∧ cc = ((classN size : Nat) : Int) ∧ (cc, nn) ∉ s.inn ∧ s.used + bytesI cc ≤ s.budget ∧ (s.take size).2.inn = s.inn ++ [(cc, nn)] ∧ (s.take size).2.used = s.used + bytesI cc ∧ (s.take size).2.budget = s.budget)) := by
  have hnew := h.number_new (classN size)
  rcases take_cases s size with ⟨_, e⟩ | ⟨_, _, e⟩ | ⟨h6, hx, e⟩
  · rw [e]; exact ⟨_, _, _, rfl, .inl ⟨.inl rfl, rfl, rfl, rfl⟩⟩
  · rw [e]; exact ⟨_, _, _, rfl, .inl ⟨.inr rfl, rfl, rfl, rfl⟩⟩
  · rw [e]; exact ⟨_, _, _, rfl, .inr ⟨rfl, h6, rfl, hnew, hx, addIn_new hnew, rfl, by simp only; unfold St.number; split <;> rfl⟩⟩
structure Run (W0 w : World) (N b : Nat) (F : Nat → Prop) (s : St) : Prop where
  at_ : At w b F s
  low : ∀ k, F k → W0.heap.size ≤ k
  below : Below W0.heap.size W0 w
  good : Good N s
open Go.Proofs.YtpghckiochjogaaGreatDoor.Mem in
theorem Run.step {W0 w w' : World} {N b : Nat} {F : Nat → Prop} {s : St} (h : Run W0 w N b F s) (hb : Below w.heap.size w w') : Run W0 w' N b F s :=
  ⟨h.at_.below hb, h.low, Mem.tr h.below hb, h.good⟩
theorem Run.lt {W0 w : World} {N b : Nat} {F : Nat → Prop} {s : St} (h : Run W0 w N b F s) : ∀ k, F k → k < w.heap.size := by
  obtain ⟨_, _, h⟩ := h.at_; exact h.lt
end Go.Proofs.YtpghckiochjogaaGreatDoor.Slab

/- Layer 8 as plain functions: the list of keys, and chains of nodes as lists. -/
namespace Go.Proofs.YtpghckiochjogaaGreatDoor.Slru
instance decMem (k : ByteArray) (l : List ByteArray) : Decidable (k ∈ l) := decidable_of_iff (l.any (fun x => decide (x = k)) = true) (by simp)
structure St where
  most : Int
  trial : List ByteArray
  safe : List ByteArray
def new (most : Int) : St := { most, trial := [], safe := [] }
def without (l : List ByteArray) (k : ByteArray) : List ByteArray := l.filter fun x => decide (x ≠ k)
def St.all (s : St) : List ByteArray := s.trial ++ s.safe
def St.add (s : St) (k : ByteArray) : Int × St := if k ∈ s.all then (7, s) else (0, { s with trial := s.trial ++ [k] })
def St.remove (s : St) (k : ByteArray) : Int × St := if k ∈ s.all then (0, { s with trial := without s.trial k, safe := without s.safe k }) else (6, s)
def St.moved (s : St) (t f : List ByteArray) : St := if max s.most 0 < (f.length : Int) then { s with trial := t ++ f.take 1, safe := f.drop 1 } else { s with trial := t, safe := f }
def St.hit (s : St) (k : ByteArray) : Int × St := if k ∈ s.all then (0, s.moved (without s.trial k) (without s.safe k ++ [k])) else (6, s)
def St.victim (s : St) (but : ByteArray) : Option ByteArray := s.all.find? fun x => decide (x ≠ but)
abbrev Nd := Nat × ByteArray
def lst (xs : List Nd) : Option Nat := xs.getLast?.map (·.1)
def fst (xs : List Nd) : Option Nat := xs.head?.map (·.1)
@[simp] theorem lst_nil : lst [] = none := rfl
@[simp] theorem fst_nil : fst [] = none := rfl
@[simp] theorem lst_app (l : List Nd) (p : Nd) : lst (l ++ [p]) = some p.1 := by simp [lst]
@[simp] theorem fst_cons (p : Nd) (l : List Nd) : fst (p :: l) = some p.1 := rfl
theorem lst_cons (l : List Nd) (p : Nd) (a : List Nd) : lst (l ++ p :: a) = lst (p :: a) := by
  have : (p :: a).getLast? = some ((p :: a).getLast (by simp)) := List.getLast?_eq_some_getLast (by simp)
  simp only [lst, List.getLast?_append, this]
  rfl
theorem fst_left (l a : List Nd) (h : l ≠ []) : fst (l ++ a) = fst l := by
  obtain ⟨p, l, rfl⟩ := List.exists_cons_of_ne_nil h
  rfl
theorem lst_mem {xs : List Nd} {j : Nat} (h : lst xs = some j) : j ∈ xs.map (·.1) := by
  rcases List.eq_nil_or_concat xs with rfl | ⟨l, p, rfl⟩
  · simp at h
  · simp at h; simp [h]
theorem fst_mem {xs : List Nd} {j : Nat} (h : fst xs = some j) : j ∈ xs.map (·.1) := by
  cases xs with
  | nil => simp at h
  | cons p l => simp at h; simp [h]
theorem snoc_cases (xs : List Nd) : xs = [] ∨ ∃ l p, xs = l ++ [p] := by
  rcases List.eq_nil_or_concat xs with h | ⟨l, p, h⟩
  · exact .inl h
  · exact .inr ⟨l, p, by simpa using h⟩
def ChainB (at_ : Nat → ByteArray → Option Nat → Option Nat → Prop) (xs : List Nd) : Prop := ∀ l n k r, xs = l ++ (n, k) :: r → at_ n k (lst l) (fst r)
section
variable {A B : Nat → ByteArray → Option Nat → Option Nat → Prop} {xs l r : List Nd} {n : Nat} {k : ByteArray}
theorem ChainB.same (h : ChainB A xs) (hs : ∀ j ∈ xs.map (·.1), ∀ k a b, A j k a b → B j k a b) : ChainB B xs := fun l n k r e => hs n (by rw [e]; simp) _ _ _ (h l n k r e)
theorem ChainB.push (h : ChainB A xs) (hnd : (xs.map (·.1)).Nodup) (h1 : B n k (lst xs) none) (h2 : ∀ l p, xs = l ++ [p] → B p.1 p.2 (lst l) (some n))
    (h3 : ∀ j ∈ xs.map (·.1), lst xs ≠ some j → ∀ k a b, A j k a b → B j k a b) : ChainB B (xs ++ [(n, k)]) := by
  intro l m j r e
  rcases snoc_cases r with rfl | ⟨r', q, rfl⟩
  · obtain ⟨rfl, e2⟩ := List.append_inj' e rfl
    injection e2 with e2
    injection e2 with e2 e3
    subst e2 e3
    exact h1
  · rw [← List.cons_append, ← List.append_assoc] at e
    obtain ⟨e1, e2⟩ := List.append_inj' e rfl
    injection e2 with e2
    subst e2
    rcases snoc_cases r' with rfl | ⟨r2, q2, rfl⟩
    · exact h2 l (m, j) e1
    · rw [fst_left _ _ (by simp)]
      refine h3 m (by rw [e1]; simp) ?_ _ _ _ (h l m j _ e1)
      rw [e1, ← List.cons_append, ← List.append_assoc, lst_app]
      intro e2
      injection e2 with e2
      rw [e1] at hnd
      simp only [List.map_append, List.map_cons, List.nodup_append, List.nodup_cons] at hnd
      exact hnd.2.1.1 (by rw [← e2]; simp)
theorem ChainB.pull (h : ChainB A (l ++ (n, k) :: r)) (hnd : ((l ++ (n, k) :: r).map (·.1)).Nodup) (h1 : ∀ l' p, l = l' ++ [p] → B p.1 p.2 (lst l') (fst r)) (h2 : ∀ p r', r = p :: r' → B p.1 p.2 (lst l) (fst r'))
    (h3 : ∀ j ∈ (l ++ r).map (·.1), lst l ≠ some j → fst r ≠ some j → ∀ k a b, A j k a b → B j k a b) : ChainB B (l ++ r) := by
  intro l1 m j r1 e
  have hnd2 := hnd
  simp only [List.map_append, List.map_cons, List.nodup_append, List.nodup_cons] at hnd2
  obtain ⟨hl, ⟨hnr, hr⟩, hlr⟩ := hnd2
  rcases List.append_eq_append_iff.1 e with ⟨a, rfl, rfl⟩ | ⟨a, rfl, e2⟩
  · cases a with
    | nil => simpa using h2 (m, j) r1 rfl
    | cons p a =>
      rw [lst_cons]
      have := h (l ++ (n, k) :: p :: a) m j r1 (by simp)
      rw [show l ++ (n, k) :: p :: a = (l ++ [(n, k)]) ++ p :: a from by simp, lst_cons] at this
      refine h3 m (by simp) (fun e3 => ?_) (fun e3 => ?_) _ _ _ this
      · exact hlr _ (lst_mem e3) m (by simp) rfl
      · simp at e3
        simp [e3] at hr
  · cases a with
    | nil =>
      simp at e2
      subst e2
      simpa using h2 (m, j) r1 rfl
    | cons p a =>
      injection e2 with e2 e3
      subst e2 e3
      rcases snoc_cases a with rfl | ⟨a2, q, rfl⟩
      · simpa using h1 l1 (m, j) rfl
      · rw [show (a2 ++ [q]).append r = (a2 ++ [q]) ++ r from rfl, fst_left _ _ (by simp)]
        have := h l1 m j ((a2 ++ [q]) ++ (n, k) :: r) (by simp)
        rw [fst_left _ _ (by simp)] at this
        refine h3 m (by simp) (fun e3 => ?_) (fun e3 => ?_) _ _ _ this
        · rw [show l1 ++ (m, j) :: (a2 ++ [q]) = (l1 ++ (m, j) :: a2) ++ [q] from by simp, lst_app] at e3
          injection e3 with e3
          rw [List.map_append, List.nodup_append, List.map_cons] at hl
          exact (List.nodup_cons.1 hl.2.1).1 (by rw [← e3]; simp)
        · exact hlr m (by simp) m (List.mem_cons_of_mem _ (fst_mem e3)) rfl
end
end Go.Proofs.YtpghckiochjogaaGreatDoor.Slru

/- A sketch of layer 5 as plain functions: 4 rows of 64 counters, up to 15; an age. -/
namespace Go.Proofs.YtpghckiochjogaaGreatDoor.Sketch
open Go Go.Proofs.YtpghckiochjogaaGreatDoor.Hash
structure St where
  seed : Int
  c : Nat → Nat
  age : Int
def new (seed : Int) : St := ⟨seed, fun _ => 0, 0⟩
def col (seed : Int) (s : List UInt8) (row : Nat) : Nat := (belowI (nthI seed s row) 64).toNat
def pl (seed : Int) (s : List UInt8) (row : Nat) : Nat := row * 64 + col seed s row
theorem col_lt (seed : Int) (s : List UInt8) (row : Nat) : col seed s row < 64 := by
  have := belowI_range (nthI seed s row) 64
  unfold col; have := this.2 (by omega); omega
theorem col_int (seed : Int) (s : List UInt8) (row : Nat) : belowI (nthI seed s row) 64 = (col seed s row : Nat) := by
  have := belowI_range (nthI seed s row) 64
  unfold col; omega
def up (c : Nat → Nat) (i : Nat) : Nat → Nat := fun k => if k = i ∧ c i < 15 then c i + 1 else c k
def ups (seed : Int) (s : List UInt8) (c : Nat → Nat) : Nat → Nat → Nat
  | 0 => c
  | n + 1 => up (ups seed s c n) (pl seed s n)
def half (c : Nat → Nat) : Nat → Nat := fun k => c k / 2
def St.add (k : St) (s : List UInt8) : Bool × St :=
  if k.age + 1 < 640 then (false, { k with c := ups k.seed s k.c 4, age := k.age + 1 }) else (true, { k with c := half (ups k.seed s k.c 4), age := 320 })
def cnt (seed : Int) (s : List UInt8) (c : Nat → Nat) : Nat → Nat
  | 0 => 15
  | n + 1 => min (cnt seed s c n) (c (pl seed s n))
def St.count (k : St) (s : List UInt8) : Nat := cnt k.seed s k.c 4
structure Ok (k : St) : Prop where
  c15 : ∀ i, k.c i ≤ 15
  a0 : 0 ≤ k.age
  a1 : k.age < 640
  s0 : 0 ≤ k.seed
  s1 : k.seed < 18446744073709551616
theorem up_other {c : Nat → Nat} {i k : Nat} (h : k ≠ i) : up c i k = c k := by unfold up; simp [h]
theorem pl_row {seed : Int} {s t : List UInt8} {a b : Nat} (h : pl seed s a = pl seed t b) : a = b := by
  have h1 := col_lt seed s a
  have h2 := col_lt seed t b
  unfold pl at h; omega
theorem ups_at (seed : Int) (s : List UInt8) (c : Nat → Nat) (n k : Nat) : ups seed s c n k = if ∃ a, a < n ∧ k = pl seed s a ∧ c k < 15 then c k + 1 else c k := by
  induction n with
  | zero => simp [ups]
  | succ n ih =>
    unfold ups
    by_cases hk : k = pl seed s n
    · have hno : ups seed s c n k = c k := by
        rw [ih, if_neg]
        rintro ⟨a, ha, h1, _⟩
        have := pl_row (h1.symm.trans hk)
        omega
      unfold up
      rw [← hk, hno]
      by_cases h15 : c k < 15
      · rw [if_pos ⟨rfl, h15⟩, if_pos ⟨n, by omega, hk, h15⟩]
      · rw [if_neg (fun h => h15 h.2), if_neg]
        rintro ⟨_, _, _, h⟩; exact h15 h
    · rw [up_other hk, ih]
      by_cases he : ∃ a, a < n ∧ k = pl seed s a ∧ c k < 15
      · obtain ⟨a, h1, h2, h3⟩ := he
        rw [if_pos ⟨a, h1, h2, h3⟩, if_pos ⟨a, by omega, h2, h3⟩]
      · rw [if_neg he, if_neg]
        rintro ⟨a, h1, h2, h3⟩
        by_cases han : a = n
        · exact hk (han ▸ h2)
        · exact he ⟨a, by omega, h2, h3⟩
theorem ups_15 {c : Nat → Nat} (h : ∀ k, c k ≤ 15) (seed : Int) (s : List UInt8) (n k : Nat) : ups seed s c n k ≤ 15 := by
  rw [ups_at]; split
  · rename_i h1; obtain ⟨_, _, _, h1⟩ := h1; omega
  · exact h k
theorem cnt_le15 (seed : Int) (s : List UInt8) (c : Nat → Nat) (n : Nat) : cnt seed s c n ≤ 15 := by
  induction n with
  | zero => exact Nat.le_refl _
  | succ n ih => unfold cnt; omega
theorem Ok.new {seed : Int} (h0 : 0 ≤ seed) (h1 : seed < 18446744073709551616) : Ok (new seed) := ⟨fun _ => by simp [Sketch.new], by simp [Sketch.new], by simp [Sketch.new], h0, h1⟩
theorem Ok.add {k : St} (h : Ok k) (s : List UInt8) : Ok (k.add s).2 := by
  have h15 := fun i => ups_15 h.c15 k.seed s 4 i
  have := h.a0
  unfold St.add
  split
  · rename_i hl
    exact ⟨h15, by simp; omega, hl, h.s0, h.s1⟩
  · exact ⟨fun i => by have := h15 i; simp only [half]; omega, by simp, by simp, h.s0, h.s1⟩
def byt (c : Nat → Nat) (j : Nat) : Int := (c (2 * j) + 16 * c (2 * j + 1) : Nat)
end Go.Proofs.YtpghckiochjogaaGreatDoor.Sketch

/- The walks over layer 5: New, get, raise, halve. -/
namespace Go.Proofs.YtpghckiochjogaaGreatDoor.Sketch
open Go Go.RowKit Go.Proofs.YtpghckiochjogaaGreatDoor.Mem
theorem ret_int {k : IntKind} {a b : Int} (h : a = b) : Ending.returned (.int k a) = .returned (.int k b) := by rw [h]
def cells (k : St) : Array Value := ((.int .u64 k.seed) :: ((List.range 128).map (fun j => .int .u8 (byt k.c j)) ++ [.int .i64 k.age])).toArray
def At (w : World) (b : Nat) (k : St) : Prop := w.heap[b]? = some (.cells (cells k) 148 (0, 0))
theorem cells_seed (k : St) : (cells k)[0]? = some (.int .u64 k.seed) := rfl
theorem cells_age (k : St) : (cells k)[129]? = some (.int .i64 k.age) := by
  unfold cells
  simp only [List.getElem?_toArray]
  rw [List.getElem?_cons_succ, List.getElem?_append_right (by simp)]
  simp
theorem cells_byte (k : St) {j : Nat} (h : j < 128) : (cells k)[j + 1]? = some (.int .u8 (byt k.c j)) := by
  unfold cells
  simp only [List.getElem?_toArray]
  rw [List.getElem?_cons_succ, List.getElem?_append_left (by simp; exact h)]
  simp [h]
theorem cells_set {k k' : St} {j : Nat} {v : Int} (hj : j < 128) (hs : k'.seed = k.seed) (ha : k'.age = k.age) (hv : byt k'.c j = v) (ho : ∀ i, i < 128 → i ≠ j → byt k'.c i = byt k.c i) :
    (cells k).setIfInBounds (j + 1) (.int .u8 v) = cells k' := by
  unfold cells
  rw [List.setIfInBounds_toArray, List.set_cons_succ, List.set_append_left _ _ (by simp; exact hj), hs, ha]
  congr 3
  refine List.ext_getElem? fun i => ?_
  rw [List.getElem?_set]
  by_cases hi : i < 128
  · by_cases h : j = i
    · subst h; simp [hj, hv]
    · simp [h, hi, ho i hi (fun e => h e.symm)]
  · by_cases h : j = i
    · omega
    · simp [h, hi]
theorem cells_set_age (k : St) (a : Int) : (cells k).setIfInBounds 129 (.int .i64 a) = cells { k with age := a } := by
  unfold cells
  rw [List.setIfInBounds_toArray, List.set_cons_succ, List.set_append_right _ _ (by simp)]
  simp
theorem zero_sketch (w : World) : (zeroValue 148).run Tryz.prog w = .ok (.agg (cells (new 0))) w := by
  have h : Tryz.t148.zero = some (.agg (cells (new 0))) := by kernel_rfl
  unfold zeroValue
  go_simp
theorem new_any (seed : Int) (w : World) : Calls Tryz.prog 46 #[.int .u64 seed] w fun e w' =>
    e = .returned (.pointer (some ⟨w.heap.size, 0, none⟩)) ∧ w' = w.alloc (.cells (cells (new seed)) 148) := by
  have hz := zero_sketch
  have hne : (cells (new 0) = #[]) = False := by simp [cells]
  have hset : (cells (new 0)).setIfInBounds 0 (.int .u64 seed) = cells (new seed) := by
    unfold cells
    rw [List.setIfInBounds_toArray, List.set_cons_zero]
    rfl
  go_enter Tryz.func46, Tryz.ntmps46
  go_wp2
  go_ret
  exact ⟨rfl, rfl⟩
theorem new_gives (seed : Int) (w : World) : Calls Tryz.prog 46 #[.int .u64 seed] w fun e w' =>
    ∃ b : Nat, e = .returned (.pointer (some ⟨b, 0, none⟩)) ∧ At w' b (new seed) ∧ w.heap.size ≤ b ∧ Below w.heap.size w w' :=
  (new_any seed w).mono fun e w' ⟨he, hw⟩ => by
    subst hw
    exact ⟨_, he, Mem.new_block w _, Nat.le_refl _, Mem.al (Below.refl _ _) _⟩
theorem nib_all : ∀ a : Fin 16, ∀ d : Fin 16, (bits BinOp.and IntKind.u8 (((a.1 + 16 * d.1 : Nat) : Int) / 2 ^ 0) 15 = (a.1 : Int)) ∧ (bits BinOp.and IntKind.u8 (((a.1 + 16 * d.1 : Nat) : Int) / 2 ^ 4) 15 = (d.1 : Int)) := by decide +kernel
theorem nib (a d : Nat) (ha : a ≤ 15) (hd : d ≤ 15) : (bits BinOp.and IntKind.u8 (((a + 16 * d : Nat) : Int) / 2 ^ 0) 15 = (a : Int)) ∧ (bits BinOp.and IntKind.u8 (((a + 16 * d : Nat) : Int) / 2 ^ 4) 15 = (d : Int)) := nib_all ⟨a, by omega⟩ ⟨d, by omega⟩
theorem get_law {k : St} (hk : Ok k) (row at_ : Nat) :
    wrap64 (bits BinOp.and IntKind.u8 (byt k.c (row * 32 + at_ / 2) / 2 ^ (4 * (at_ % 2))) 15) = (k.c (row * 64 + at_) : Int) := by
  have h0 := nib _ _ (hk.c15 (2 * (row * 32 + at_ / 2))) (hk.c15 (2 * (row * 32 + at_ / 2) + 1))
  unfold byt
  rcases Nat.mod_two_eq_zero_or_one at_ with h | h
  · rw [h, Nat.mul_zero, h0.1, show 2 * (row * 32 + at_ / 2) = row * 64 + at_ from by omega]
    have := hk.c15 (row * 64 + at_)
    unfold wrap64; omega
  · rw [h, Nat.mul_one, h0.2, show 2 * (row * 32 + at_ / 2) + 1 = row * 64 + at_ from by omega]
    have := hk.c15 (row * 64 + at_)
    unfold wrap64; omega
set_option maxRecDepth 100000 in
set_option maxHeartbeats 400000 in
theorem get_any {w : World} {b : Nat} {k : St} (h : At w b k) (hk : Ok k) {row at_ : Nat} (hr : row < 4) (ha : at_ < 64) :
    Calls Tryz.prog 134 #[.pointer (some ⟨b, 0, none⟩), .int .i64 row, .int .i64 at_] w fun e w' => e = .returned (.int .i64 (k.c (row * 64 + at_))) ∧ w = w' := by
  have c1 : w.cell? ⟨b, 1 + row * 32 + at_ / 2, none⟩ = some (.int .u8 (byt k.c (row * 32 + at_ / 2))) := by rw [show 1 + row * 32 + at_ / 2 = row * 32 + at_ / 2 + 1 from by omega]; exact (Mem.row_cell h _).trans (cells_byte k (by omega))
  go_enter Tryz.func134, Tryz.ntmps134
  go_wp2
  go_ret
  exact ⟨ret_int (get_law hk row at_), rfl⟩
def St.raise (k : St) (i : Nat) : St := { k with c := up k.c i }
theorem raise_cells (k : St) {row at_ : Nat} (hr : row < 4) (ha : at_ < 64) (hlt : k.c (row * 64 + at_) < 15) {v : Int} (hv : v = byt k.c (row * 32 + at_ / 2) + 16 ^ (at_ % 2)) :
    (cells k).setIfInBounds (row * 32 + at_ / 2 + 1) (.int .u8 v) = cells (k.raise (row * 64 + at_)) := by
  have hu : ∀ i, (k.raise (row * 64 + at_)).c i = if i = row * 64 + at_ then k.c i + 1 else k.c i := fun i => by
    show up k.c (row * 64 + at_) i = _
    unfold up
    by_cases h : i = row * 64 + at_
    · subst h; rw [if_pos ⟨rfl, hlt⟩, if_pos rfl]
    · rw [if_neg (fun e => h e.1), if_neg h]
  refine cells_set (by omega) rfl rfl ?_ fun i hi hne => ?_
  · unfold byt
    rw [hv, hu, hu]
    unfold byt
    rcases Nat.mod_two_eq_zero_or_one at_ with h | h
    · rw [if_pos (by omega), if_neg (by omega), h]; omega
    · rw [if_neg (by omega), if_pos (by omega), h]; omega
  · unfold byt
    rw [hu, hu, if_neg (by omega), if_neg (by omega)]
def RaisePost (w : World) (b : Nat) (k : St) (i : Nat) (e : Ending) (w' : World) : Prop := e = .returned (.tuple #[]) ∧ At w' b (k.raise i) ∧ Only (fun j => j = b) w w'
theorem byt_range {k : St} (hk : Ok k) (j : Nat) : 0 ≤ byt k.c j ∧ byt k.c j ≤ 255 := by
  have h0 := hk.c15 (2 * j)
  have h1 := hk.c15 (2 * j + 1)
  unfold byt; omega
set_option maxRecDepth 100000 in
set_option maxHeartbeats 1000000 in
theorem raise_any {w : World} {b : Nat} {k : St} (h : At w b k) (hk : Ok k) {row at_ : Nat} (hr : row < 4) (ha : at_ < 64) :
    Calls Tryz.prog 106 #[.pointer (some ⟨b, 0, none⟩), .int .i64 row, .int .i64 at_] w (RaisePost w b k (row * 64 + at_)) := by
  have c1 : w.cell? ⟨b, 1 + row * 32 + at_ / 2, none⟩ = some (.int .u8 (byt k.c (row * 32 + at_ / 2))) := by rw [show 1 + row * 32 + at_ / 2 = row * 32 + at_ / 2 + 1 from by omega]; exact (Mem.row_cell h _).trans (cells_byte k (by omega))
  have f1 : w.frozen? ⟨b, 1 + row * 32 + at_ / 2, none⟩ = false := Mem.row_free h _
  have hg := get_any h hk hr ha
  by_cases hlt : k.c (row * 64 + at_) < 15
  · have hfin : ∀ v w', v = byt k.c (row * 32 + at_ / 2) + 16 ^ (at_ % 2) → w' = (w.setCell ⟨b, 1 + row * 32 + at_ / 2, none⟩ (.int .u8 v)).drew → RaisePost w b k (row * 64 + at_) (.returned (.tuple #[])) w' := fun v w' hv e => by
      subst e
      refine ⟨rfl, ?_, ((Only.refl (fun j => j = b) w).setCell (.inl rfl) _).drew⟩
      have := Mem.row_set h (1 + row * 32 + at_ / 2) (.int .u8 v)
      rw [show 1 + row * 32 + at_ / 2 = row * 32 + at_ / 2 + 1 from by omega, raise_cells k hr ha hlt hv] at this
      rw [show 1 + row * 32 + at_ / 2 = row * 32 + at_ / 2 + 1 from by omega]
      exact this
    have hbr := byt_range hk (row * 32 + at_ / 2)
    have hv0 : at_ % 2 = 0 → byt k.c (row * 32 + at_ / 2) + 1 ≤ 255 := fun e => by
      have h1 := hk.c15 (2 * (row * 32 + at_ / 2) + 1)
      rw [show row * 64 + at_ = 2 * (row * 32 + at_ / 2) from by omega] at hlt
      unfold byt; omega
    have hv1 : at_ % 2 = 1 → byt k.c (row * 32 + at_ / 2) + 16 ≤ 255 := fun e => by
      have h1 := hk.c15 (2 * (row * 32 + at_ / 2))
      rw [show row * 64 + at_ = 2 * (row * 32 + at_ / 2) + 1 from by omega] at hlt
      unfold byt; omega
    obtain ⟨m, hm⟩ : ∃ m, at_ / 2 = m := ⟨_, rfl⟩
    rw [hm] at c1 f1 hbr hv0 hv1 hfin
    have hd : (at_ : Int) / 2 = m := by omega
    have hd0 : (0 : Int) ≤ m := by omega
    have hd1 : (m : Int) < 32 := by omega
    have hdw : IntKind.i64.wrap (m : Int) = m := by rw [IntKind.wrap_i64]; omega
    have hr0 : (0 : Int) ≤ row := by omega
    have hr1 : (row : Int) < 4 := by omega
    have HF := Lib.hid hfin
    have hli : (k.c (row * 64 + at_) : Int) < 15 := by omega
    generalize byt k.c (row * 32 + m) = v at *
    rcases Nat.mod_two_eq_zero_or_one at_ with h2 | h2
    · have hm2 : (at_ : Int).tmod 2 = 0 := by rw [Int.tmod_eq_emod_of_nonneg (by omega)]; omega
      have hw4 : IntKind.i64.wrap 0 = 0 := by decide
      have HV : Hid ((v + 1) % 256 = v + 1) := by have := hv0 h2; exact Lib.hid (by omega)
      clear h hk hlt hfin hv0 hv1 hbr hm
      go_enter Tryz.func106, Tryz.ntmps106
      go_wp2_with (go_at_call 134; refine hg.mono ?_; rintro e w' ⟨rfl, rfl⟩)
      refine wp_region_still_tail 18 (by kernel_rfl) (by kernel_rfl) ?_
      simp only [List.take_succ_cons, List.take_zero, List.drop_succ_cons, List.drop_zero]
      repeat still_step
      refine wpStill_nil ?_
      change wpList _ _ _ _ _ w.drew
      go_wp2
      go_end0
      exact HF.out _ _ (by rw [h2, HV.out]; rfl) rfl
    · have hm2 : (at_ : Int).tmod 2 = 1 := by rw [Int.tmod_eq_emod_of_nonneg (by omega)]; omega
      have hw4 : IntKind.i64.wrap 4 = 4 := by decide
      have HV : Hid ((v + 16) % 256 = v + 16) := by have := hv1 h2; exact Lib.hid (by omega)
      clear h hk hlt hfin hv0 hv1 hbr hm
      go_enter Tryz.func106, Tryz.ntmps106
      go_wp2_with (go_at_call 134; refine hg.mono ?_; rintro e w' ⟨rfl, rfl⟩)
      refine wp_region_still_tail 18 (by kernel_rfl) (by kernel_rfl) ?_
      simp only [List.take_succ_cons, List.take_zero, List.drop_succ_cons, List.drop_zero]
      repeat still_step
      refine wpStill_nil ?_
      change wpList _ _ _ _ _ w.drew
      go_wp2
      go_end0
      exact HF.out _ _ (by rw [h2, HV.out]; rfl) rfl
  · have hid : k.raise (row * 64 + at_) = k := by
      unfold St.raise
      rw [show up k.c (row * 64 + at_) = k.c from funext fun i => by unfold up; rw [if_neg (fun e => hlt e.2)]]
    have H := Lib.hid (And.intro h hid)
    have hli : (15 : Int) ≤ (k.c (row * 64 + at_) : Int) := by omega
    clear h hid hk
    go_enter Tryz.func106, Tryz.ntmps106
    go_wp2_with (go_at_call 134; refine hg.mono ?_; rintro e w' ⟨rfl, rfl⟩)
    go_end0
    exact ⟨rfl, by rw [H.out.2]; exact H.out.1, Only.refl _ _⟩
def halfTo (c : Nat → Nat) (n : Nat) : Nat → Nat := fun i => if i < 2 * n then c i / 2 else c i
theorem byt_half_all : ∀ a : Fin 16, ∀ d : Fin 16, bits BinOp.and IntKind.u8 (((a.1 + 16 * d.1 : Nat) : Int) / 2) 119 = ((a.1 / 2 + 16 * (d.1 / 2) : Nat) : Int) := by decide +kernel
theorem byt_half {c : Nat → Nat} (h : ∀ i, c i ≤ 15) (j : Nat) : bits BinOp.and IntKind.u8 (byt c j / 2) 119 = byt (half c) j := by
  have h0 := h (2 * j)
  have h1 := h (2 * j + 1)
  exact byt_half_all ⟨c (2 * j), by omega⟩ ⟨c (2 * j + 1), by omega⟩
theorem halfTo_cells (k : St) (n : Nat) (hn : n < 128) : (cells { k with c := halfTo k.c n }).setIfInBounds (n + 1) (.int .u8 (byt (half k.c) n)) = cells { k with c := halfTo k.c (n + 1) } := by
  refine cells_set hn rfl rfl ?_ fun i _ hne => ?_
  · unfold byt halfTo half
    simp only
    rw [if_pos (by omega), if_pos (by omega)]
  · unfold byt halfTo
    simp only
    by_cases h : i < n
    · rw [if_pos (by omega), if_pos (by omega), if_pos (by omega), if_pos (by omega)]
    · rw [if_neg (by omega), if_neg (by omega), if_neg (by omega), if_neg (by omega)]
theorem halfTo_byt (c : Nat → Nat) (n : Nat) : byt (halfTo c n) n = byt c n := by
  unfold byt halfTo
  rw [if_neg (by omega), if_neg (by omega)]
theorem halfTo_zero (k : St) : cells { k with c := halfTo k.c 0 } = cells k := by
  have : halfTo k.c 0 = k.c := funext fun i => by unfold halfTo; rw [if_neg (by omega)]
  rw [this]
theorem halfTo_all (k : St) : cells { k with c := halfTo k.c 128 } = cells { k with c := half k.c } := by
  have h : (List.range 128).map (fun j => Value.int .u8 (byt (halfTo k.c 128) j)) = (List.range 128).map (fun j => Value.int .u8 (byt (half k.c) j)) := List.map_congr_left fun j hj => by
    have : j < 128 := by simpa using hj
    unfold byt halfTo half
    rw [if_pos (by omega), if_pos (by omega)]
  unfold cells
  simp only [h]
set_option maxRecDepth 100000 in
set_option maxHeartbeats 2000000 in
theorem halve_any {w : World} {b : Nat} {k : St} (h : At w b k) (hk : ∀ i, k.c i ≤ 15) :
    Calls Tryz.prog 107 #[.pointer (some ⟨b, 0, none⟩)] w fun e w' => e = .returned (.tuple #[]) ∧ At w' b { k with c := half k.c, age := 320 } ∧ Only (fun j => j = b) w w' := by
  have h0 : At w b { k with c := halfTo k.c 0 } := by unfold At; rw [halfTo_zero]; exact h
  have H0 := Lib.hid h0
  have HK := Lib.hid hk
  clear h h0 hk
  go_enter Tryz.func107, Tryz.ntmps107
  go_wp2
  go_loopg [2, 3, 4] 4 (fun g _ _ i wr => ∃ m : Nat, i = .int .i64 m ∧ g + m = 4 ∧ Hid (At wr b { k with c := halfTo k.c (32 * m) } ∧ Only (fun j => j = b) w wr))
  case atStart => exact ⟨0, rfl, by omega, Lib.hid ⟨H0.out, Only.refl _ _⟩⟩
  case round =>
    obtain ⟨m, rfl, hg, HA⟩ := hrel
    have HG := Lib.hid hg
    clear H0
    by_cases hm : m < 4
    · have hm0 : (0 : Int) ≤ m := by omega
      have hm1 : (m : Int) < 4 := by omega
      clear hg hm
      go_wp2
      go_loopg [3, 7] 32 (fun g _ i wr => ∃ j : Nat, i = .int .i64 j ∧ g + j = 32 ∧ Hid (At wr b { k with c := halfTo k.c (32 * m + j) } ∧ Only (fun j => j = b) w wr))
      case atStart => exact ⟨0, rfl, by omega, HA⟩
      case round =>
        obtain ⟨j, rfl, hgj, HB⟩ := hrel
        have HJ := Lib.hid hgj
        clear HA
        by_cases hj : j < 32
        · have hj0 : (0 : Int) ≤ j := by omega
          have hj1 : (j : Int) < 32 := by omega
          have c1 : wr.cell? ⟨b, 1 + m * 32 + j, none⟩ = some (.int .u8 (byt k.c (32 * m + j))) := by
            rw [show 1 + m * 32 + j = 32 * m + j + 1 from by omega, ← halfTo_byt k.c (32 * m + j)]
            exact (Mem.row_cell HB.out.1 _).trans (cells_byte _ (by omega))
          have f1 : wr.frozen? ⟨b, 1 + m * 32 + j, none⟩ = false := Mem.row_free HB.out.1 _
          clear hgj hj
          go_wp2
          refine wp_region_still_tail 17 (by kernel_rfl) (by kernel_rfl) ?_
          simp only [List.take_succ_cons, List.take_zero, List.drop_succ_cons, List.drop_zero]
          repeat still_step
          refine wpStill_nil ?_
          change wpList _ _ _ _ _ wr.drew
          go_wp2
          go_roundg (32 - (j + 1))
          case measure => have := HJ.out; omega
          case rel =>
            refine ⟨j + 1, by go_num, by have := HJ.out; omega, Lib.hid ⟨?_, (HB.out.2.setCell (.inl rfl) _).drew⟩⟩
            rw [byt_half HK.out]
            have h1 := Mem.row_set HB.out.1 (1 + m * 32 + j) (.int .u8 (byt (half k.c) (32 * m + j)))
            rw [show 1 + m * 32 + j = 32 * m + j + 1 from by omega, halfTo_cells k _ (by omega)] at h1
            rw [show 1 + m * 32 + j = 32 * m + j + 1 from by omega]
            exact h1
        · have hj4 : j = 32 := by omega
          subst hj4
          clear hgj hj
          go_wp2
          go_roundg (4 - (m + 1))
          case measure => have := HG.out; omega
          case rel => exact ⟨m + 1, by go_num, by have := HG.out; omega, HB⟩
    · have hm4 : m = 4 := by omega
      subst hm4
      clear hg hm
      have hA := HA.out.1
      unfold At at hA
      rw [halfTo_all] at hA
      have c1 := Mem.row_cell hA 129
      have f1 := Mem.row_free hA 129
      rw [cells_age] at c1
      have h1 := Mem.row_set hA 129 (.int .i64 320)
      rw [cells_set_age] at h1
      have H1 := Lib.hid h1
      clear hA h1
      go_wp2
      go_end0
      exact ⟨rfl, H1.out, HA.out.2.setCell (.inl rfl) _⟩
end Go.Proofs.YtpghckiochjogaaGreatDoor.Sketch

/- 'for .. := range f': one law for a loop over an iterator whose values are a known list: the caller brings an invariant by the number of rounds and one walk of the body. -/
namespace Go.Proofs.YtpghckiochjogaaGreatDoor.Rng
open Go Go.RowKit
def Keep (K : Nat → Prop) (W W' : World) : Prop := ∀ k, K k → W'.heap[k]? = W.heap[k]?
theorem Keep.refl (K : Nat → Prop) (W : World) : Keep K W W := fun _ _ => rfl
theorem Keep.trans {K : Nat → Prop} {A B C : World} (h : Keep K A B) (h' : Keep K B C) : Keep K A C := fun i hi => (h' i hi).trans (h i hi)
theorem Keep.putObj {K : Nat → Prop} {W : World} {l : Nat} (o : Obj) (hl : ¬ K l) : Keep K W (W.putObj l o) := fun _ hk => World.putObj_heap_other (fun e => hl (e ▸ hk))
def SeqI {α : Type} (P : Program) (gf : Nat) (lb : Array Value) (encs : α → Array Value) (K : Nat → Prop) (full : List α) (w : World) : Prop :=
  ∀ (l : Nat) (J Jx : Nat → World → Prop) (W : World), Below w.heap.size w W → OwnFrom W.heap.size J → OwnFrom W.heap.size Jx →
    (∀ k x W1, J k W1 → full[k]? = some x → YieldAt Fence.wide 9 P l (encs x) W1 fun e W' =>
      (e = .returned (.bool true) ∧ J (k + 1) W' ∧ Keep K W1 W') ∨ (e = .returned (.bool false) ∧ Jx (k + 1) W')) →
    J 0 W →
    CallsIn Fence.wide 9 P gf (#[.func (.yield l) #[] #[]] ++ lb) W fun e W' => (∃ v, e = .returned v) ∧ (J full.length W' ∨ ∃ k, k ≤ full.length ∧ Jx k W')
def rpost (B : Nat) (K : Nat → Prop) (I : World → Prop) (Ix : Code → World → Prop) (W : World) : Exit → Act → World → Prop
  | .normal, _, W' => KeepsFrom B W W' ∧ Keep K W W' ∧ I W'
  | .ret, _, W' => KeepsFrom B W W' ∧ Ix .ret W'
  | .exit id, _, W' => KeepsFrom B W W' ∧ Ix (.exit id) W'
  | .goto t, _, W' => KeepsFrom B W W' ∧ Ix (.goto t) W'
  | .panic _, _, _ => False
  | .outgrown, _, _ => False
variable {P : Program}
theorem kept_obj {W W' : World} {row : Option Nat} {B k : Nat} {o : Obj} (hg : W.grownBy W' row) (hr : ∀ r, row = some r → B ≤ r ∧ ∃ o : Obj, W.heap[r]? = some o ∧ o.isCells = false) (hk : k < B) (h : W.heap[k]? = some o) : W'.heap[k]? = some o :=
  (hg.block k (Array.getElem?_eq_some_iff.1 h).1 (fun e => by have := (hr k e.symm).1; omega)).trans h
theorem any_depth {n m l : Nat} {f : FuncId} {tmps : Array Value} {assign body : Code} {w : World} {R : Ending → World → Prop} (h : RoundIn Fence.wide n P l f tmps assign body w R) : RoundIn Fence.wide m P l f tmps assign body w R :=
  ⟨h.1, fun c cs _ => h.2 c cs (room_wide _)⟩
section
variable {α : Type} {g : Operand} {ps : Array Tmp} {assign body : Code} {Q : Exit → Act → World → Prop} {a : Act} {w w0 : World} {n gf : Nat} {lb : Array Value}
  {encs : α → Array Value} {K : Nat → Prop} {full : List α}
theorem round_of {l : Nat} {fn : FuncId} {rec : LoopState → Option Code → Loop} {I : Nat → World → Prop} {Ix : Code → World → Prop} {B k : Nat} {x : α} {W : World} {d : Nat}
    (hrec : ∀ st pe, rec st pe = { state := st, pending := pe, fn, tmps := a.tmps, params := ps, assign, body, defers := d })
    (hI : OwnFrom B I) (hIx : OwnFrom B Ix) (hBl : B ≤ l) (hKl : ¬ K l) (hps : (encs x).size = ps.size)
    (a₁ : Act) (hi : I k W) (hl : W.heap[l]? = some (.loop (rec .ready none)))
    (hassign : ∀ (W : World) (Kc : Act → World → Prop), Kc a₁ W →
      assign.wpIn (Fence.wide.inRound l) 9 P (Exit.then Kc (fun _ _ _ => False)) { tmps := (ps.zip (encs x)).foldl (fun t (p, v) => t.setIfInBounds p v) a.tmps, defers := [] } W)
    (hbody : ∀ (W : World), (∃ r, W.heap[l]? = some (.loop r)) → I k W → body.wpIn (Fence.wide.inRound l) 9 P (rpost B K (I (k + 1)) Ix W) a₁ W) :
    YieldAt Fence.wide 9 P l (encs x) W fun e W' =>
      (e = .returned (.bool true) ∧ (I (k + 1) W' ∧ W'.heap[l]? = some (.loop (rec .ready none)) ∧ ∃ Wb Wc, KeepsFrom B Wb Wc ∧ (∀ j, j ≠ l → Wb.heap[j]? = W.heap[j]?) ∧ (∀ j, j ≠ l → W'.heap[j]? = Wc.heap[j]?)) ∧ Keep K W W') ∨
      (e = .returned (.bool false) ∧ ∃ c, Ix c W' ∧ W'.heap[l]? = some (.loop (rec .done (some c))) ∧ ∃ Wb Wc, KeepsFrom B Wb Wc ∧ (∀ j, j ≠ l → Wb.heap[j]? = W.heap[j]?) ∧ (∀ j, j ≠ l → W'.heap[j]? = Wc.heap[j]?)) := by
  have hlt : l < W.heap.size := (Array.getElem?_eq_some_iff.1 hl).1
  have hy := run_yield (P := P) (args := encs x) hl (by rw [hrec]; exact hps)
  rw [hrec] at hy
  refine ⟨fn, _, assign, body, hy, roundIn_of_wpIn trivial (hassign W _ ?_)⟩
  refine ⟨_, run_beginRound hl (by rw [hrec]), ?_⟩
  have hl2 : (W.putObj l (.loop { rec .ready none with state := .busy })).heap[l]? = some (.loop { rec .ready none with state := .busy }) := World.putObj_heap_same hlt
  refine wpIn_mono (hbody _ ⟨_, hl2⟩ (hI.putObj _ hi hBl hl rfl)) ?_
  have fin : ∀ (jump : Option Code) (W3 : World), KeepsFrom B (W.putObj l (.loop { rec .ready none with state := .busy })) W3 →
      (Instr.endRound l jump).run P W3 = .ok (.bool jump.isNone) (W3.putObj l (.loop (rec (if jump.isNone then .ready else .done) jump))) ∧
      W3.heap[l]? = some (.loop { rec .ready none with state := .busy }) ∧
      (W3.putObj l (.loop (rec (if jump.isNone then .ready else .done) jump))).heap[l]? = some (.loop (rec (if jump.isNone then .ready else .done) jump)) := fun jump W3 hk3 => by
    have hl3 := hk3.same _ _ hBl hl2 rfl
    have := run_endRound (P := P) jump hl3
    refine ⟨?_, hl3, World.putObj_heap_same (Array.getElem?_eq_some_iff.1 hl3).1⟩
    rw [hrec] at this ⊢
    exact this
  have far : ∀ (W3 : World) (o : Obj), KeepsFrom B (W.putObj l (.loop { rec .ready none with state := .busy })) W3 →
      ∃ Wb Wc, KeepsFrom B Wb Wc ∧ (∀ j, j ≠ l → Wb.heap[j]? = W.heap[j]?) ∧ (∀ j, j ≠ l → (W3.putObj l o).heap[j]? = Wc.heap[j]?) := fun W3 o hk3 =>
    ⟨_, W3, hk3, fun j hj => World.putObj_heap_other hj, fun j hj => World.putObj_heap_other hj⟩
  rintro e a3 W3 hp
  cases e with
  | normal =>
    obtain ⟨hk3, hkp3, hi3⟩ := hp
    obtain ⟨hr, hl3, hl4⟩ := fin none W3 hk3
    exact ⟨_, _, hr, .inl ⟨rfl, ⟨hI.putObj _ hi3 hBl hl3 rfl, hl4, far _ _ hk3⟩, ((Keep.putObj _ hKl).trans hkp3).trans (Keep.putObj _ hKl)⟩⟩
  | ret =>
    obtain ⟨hk3, hi3⟩ := hp
    obtain ⟨hr, hl3, hl4⟩ := fin (some .ret) W3 hk3
    exact ⟨_, _, hr, .inr ⟨rfl, .ret, hIx.putObj _ hi3 hBl hl3 rfl, hl4, far _ _ hk3⟩⟩
  | exit id =>
    obtain ⟨hk3, hi3⟩ := hp
    obtain ⟨hr, hl3, hl4⟩ := fin (some (.exit id)) W3 hk3
    exact ⟨_, _, hr, .inr ⟨rfl, .exit id, hIx.putObj _ hi3 hBl hl3 rfl, hl4, far _ _ hk3⟩⟩
  | goto t =>
    obtain ⟨hk3, hi3⟩ := hp
    obtain ⟨hr, hl3, hl4⟩ := fin (some (.goto t)) W3 hk3
    exact ⟨_, _, hr, .inr ⟨rfl, .goto t, hIx.putObj _ hi3 hBl hl3 rfl, hl4, far _ _ hk3⟩⟩
  | panic ch => exact hp.elim
  | outgrown => exact hp.elim
theorem outer (hg : a.eval g = .func (.func gf) #[] lb) (eg : ∀ args w, (callFunc gf args).run P w = .ok (.enter gf args) w)
    (hseq : SeqI P gf lb encs K full w0) (hb0 : Below w0.heap.size w0 w) (hK : ∀ k, K k → k < w.heap.size) (hps : ∀ x, (encs x).size = ps.size)
    (I : Nat → World → Prop) (Ix : Code → World → Prop) (hI : OwnFrom w.heap.size I) (hIx : OwnFrom w.heap.size Ix) (h0 : I 0 w) (a₁ : α → Act)
    (hassign : ∀ (l : Nat) (x : α) (W : World) (Kc : Act → World → Prop), Kc (a₁ x) W →
      assign.wpIn (Fence.wide.inRound l) 9 P (Exit.then Kc (fun _ _ _ => False)) { tmps := (ps.zip (encs x)).foldl (fun t (p, v) => t.setIfInBounds p v) a.tmps, defers := [] } W)
    (hbody : ∀ (l k : Nat) (x : α) (W : World), w.heap.size ≤ l → (∃ r, W.heap[l]? = some (.loop r)) → I k W → full[k]? = some x → body.wpIn (Fence.wide.inRound l) 9 P (rpost w.heap.size K (I (k + 1)) Ix W) (a₁ x) W)
    (hdone : ∀ (D : Nat) (W : World), w.heap.size ≤ D → I full.length W → W.heap[D]? = some (.deferred (some [])) → Q .normal { a with defers := { target := .collected D, args := #[] } :: a.defers } W)
    (hstop : ∀ (D : Nat) (c : Code) (W : World), w.heap.size ≤ D → Ix c W → W.heap[D]? = some (.deferred (some [])) → c.wpIn Fence.wide n P Q { a with defers := { target := .collected D, args := #[] } :: a.defers } W) :
    (Code.rangeFunc g ps assign body).wpIn Fence.wide n P Q a w := by
  refine wpIn_rangeFunc ?_
  intro fn hfn
  obtain ⟨rec, hrec⟩ : ∃ rec : LoopState → Option Code → Loop, ∀ st pe, rec st pe = { state := st, pending := pe, fn, tmps := a.tmps, params := ps, assign, body, defers := w.heap.size } := ⟨_, fun _ _ => rfl⟩
  obtain ⟨W1, hW1⟩ : ∃ W1, (w.alloc (.deferred (some []))).alloc (.loop (rec .ready none)) = W1 := ⟨_, rfl⟩
  have hL1 : W1.heap[w.heap.size + 1]? = some (.loop (rec .ready none)) := by
    rw [← hW1]; have := World.alloc_heap_new (w.alloc (.deferred (some []))) (.loop (rec .ready none)); rwa [World.size_alloc] at this
  have hK1 : W1.heap[w.heap.size]? = some (.deferred (some [])) := by
    rw [← hW1]; exact (Below.heap_alloc _ _ _ (by simp)).trans (World.alloc_heap_new w _)
  have hs1 : W1.heap.size = w.heap.size + 2 := by rw [← hW1]; simp
  have hI1 : I 0 W1 := by rw [← hW1]; exact hI.alloc _ (hI.alloc _ h0)
  have hb1 : Below w0.heap.size w0 W1 := by
    rw [← hW1]; exact hb0.trans ((((Below.refl _ w).alloc (Nat.le_refl _) _).alloc (by simp) _).mono hb0.size)
  refine ⟨w.heap.size + 1, [{ target := .collected w.heap.size, args := #[] }], W1, { target := .fn (.func gf) lb, args := #[.func (.yield (w.heap.size + 1)) #[] #[]] }, W1, gf,
    #[.func (.yield (w.heap.size + 1)) #[] #[]] ++ lb, W1, ?_, ?_, ?_, ?_, ?_, ?_⟩
  · rw [← hW1, hrec]; exact run_enterLoop_outer _ _ _ _ _
  · simp only [resolve, hg]
    simp [go_sem]
  · intro _ _; trivial
  · simp [invoke, go_sem, eg]
  · intro h; simp [Fence.wide] at h
  · have hnw : ∀ {A : World} {row : Option Nat}, (∀ r, row = some r → W1.heap.size ≤ r ∧ ∃ o : Obj, A.heap[r]? = some o ∧ o.isCells = false) → (∀ r, row = some r → w.heap.size ≤ r ∧ ∃ o : Obj, A.heap[r]? = some o ∧ o.isCells = false) :=
      fun hr r e => ⟨by have := (hr r e).1; omega, (hr r e).2⟩
    refine callsIn_wide.2 (callsIn_wide.1 ((hseq (w.heap.size + 1)
      (fun k W => I k W ∧ W.heap[w.heap.size + 1]? = some (.loop (rec .ready none)) ∧ W.heap[w.heap.size]? = some (.deferred (some [])))
      (fun _ W => ∃ c, Ix c W ∧ W.heap[w.heap.size + 1]? = some (.loop (rec .done (some c))) ∧ W.heap[w.heap.size]? = some (.deferred (some [])))
      W1 hb1
      (fun s A B row hs hg' hr => ⟨hI s A B row hs.1 hg' (hnw hr), kept_obj hg' hr (by omega) hs.2.1, kept_obj hg' hr (by omega) hs.2.2⟩)
      (fun s A B row hs hg' hr => by
        obtain ⟨c, hc, hl, hk⟩ := hs
        exact ⟨c, hIx c A B row hc hg' (hnw hr), kept_obj hg' hr (by omega) hl, kept_obj hg' hr (by omega) hk⟩)
      ?_ ⟨hI1, hL1, hK1⟩).mono ?_))
    · rintro k x W ⟨hi, hl, hk⟩ hx
      have hkB : ∀ (W' : World), (∃ Wb Wc, KeepsFrom w.heap.size Wb Wc ∧ (∀ j, j ≠ w.heap.size + 1 → Wb.heap[j]? = W.heap[j]?) ∧ (∀ j, j ≠ w.heap.size + 1 → W'.heap[j]? = Wc.heap[j]?)) → W'.heap[w.heap.size]? = some (.deferred (some [])) := by
        rintro W' ⟨Wb, Wc, h1, h2, h3⟩
        exact (h3 _ (by omega)).trans (h1.same _ _ (Nat.le_refl _) ((h2 _ (by omega)).trans hk) rfl)
      refine (round_of (B := w.heap.size) hrec hI hIx (by omega) (fun h => by have := hK _ h; omega) (hps x) (a₁ x) hi hl (hassign _ x) (fun W2 hr2 hi2 => hbody _ k x W2 (by omega) hr2 hi2 hx)).mono ?_
      rintro e W' (⟨rfl, ⟨h1, h2, h3⟩, h4⟩ | ⟨rfl, c, h1, h2, h3⟩)
      · exact .inl ⟨rfl, ⟨h1, h2, hkB _ h3⟩, h4⟩
      · exact .inr ⟨rfl, c, h1, h2, hkB _ h3⟩
    · rintro e W2 ⟨⟨v, rfl⟩, (⟨hi, hl, hk⟩ | ⟨k, hkl, c, hi, hl, hk⟩)⟩
      · exact ⟨none, _, by have := run_endLoop (P := P) hl (by rw [hrec]; simp); rw [hrec] at this; exact this, hdone _ _ (Nat.le_refl _) (hI.putObj _ hi (by omega) hl rfl) ((World.putObj_heap_other (by omega)).trans hk)⟩
      · exact ⟨some c, _, by have := run_endLoop (P := P) hl (by rw [hrec]; simp); rw [hrec] at this; exact this, hstop _ c _ (Nat.le_refl _) (hIx.putObj _ hi (by omega) hl rfl) ((World.putObj_heap_other (by omega)).trans hk)⟩
end
section
variable {n D D' : Nat} {fn : Func} {R : Ending → World → Prop} {a : Act} {W : World} {v : Value}
theorem ret1 (hd : a.defers = [{ target := .collected D, args := #[] }]) (hK : W.heap[D]? = some (.deferred (some [])))
    (hres : (results fn a.tmps).run P (W.putObj D (.deferred none)) = .ok v (W.putObj D (.deferred none))) (hR : R (.returned v) (W.putObj D (.deferred none))) : bodyPostM Fence.wide n P fn R .ret a W := by
  show LeavesInM Fence.wide n P fn a.tmps R a.defers .returning W
  rw [hd]; exact ⟨by simp, .inl ⟨_, _, rfl, run_takeDeferred hK, v, hres, hR⟩⟩
theorem putObj_cell {p : Addr} (o : Obj) (hp : p.block ≠ D) : (W.putObj D o).cell? p = W.cell? p := World.cell?_of_block (World.putObj_heap_other hp)
theorem putObj_below {w : World} {B : Nat} (h : Below B w W) (o : Obj) (hD : B ≤ D) : Below B w (W.putObj D o) :=
  h.trans ⟨rfl, rfl, rfl, by simp, fun k hk => World.putObj_heap_other (by omega)⟩
end
end Go.Proofs.YtpghckiochjogaaGreatDoor.Rng

/- hash.Several: the closure that it hands back is an iterator over the hashes, one by one. -/
namespace Go.Proofs.YtpghckiochjogaaGreatDoor.Hash
open Go.RowKit Go.Shelf Go.Proofs.YtpghckiochjogaaGreatDoor.Rng
attribute [local go_sem] Oper.semAt_some
def several (seed : Int) (l : List UInt8) (many : Int) : List (Int × Int) := (List.range many.toNat).map fun (i : Nat) => ((i : Int), nthI seed l i)
def encIH (x : Int × Int) : Array Value := #[.int .i64 x.1, .int .u64 x.2]
theorem several_len (seed : Int) (l : List UInt8) (many : Int) : (several seed l many).length = many.toNat := by simp [several]
theorem several_at (seed : Int) (l : List UInt8) (many : Int) (k : Nat) (hk : k < many.toNat) : (several seed l many)[k]? = some ((k : Int), nthI seed l k) := by
  simp [several, hk]
theorem several_inv {seed : Int} {l : List UInt8} {many : Int} {k : Nat} {x : Int × Int} (h : (several seed l many)[k]? = some x) : k < many.toNat ∧ x = ((k : Int), nthI seed l k) := by
  have hk : k < many.toNat := by
    have := (List.getElem?_eq_some_iff.1 h).1
    rwa [several_len] at this
  rw [several_at _ _ _ _ hk] at h
  exact ⟨hk, by injection h with h; exact h.symm⟩
theorem of_nth (seed : Int) (s : ByteArray) (k : Nat) (hs : s.size ≤ maxLen) (w : World) :
    Calls Tryz.prog 24 #[.int .u64 (IntKind.u64.wrap (seed + (k : Int))), .string s] w fun e w' => e = .returned (.int .u64 (nthI seed s.data.toList k)) ∧ w = w' :=
  of_any _ s (wrap_range _).1 (wrap_range _).2 hs w
set_option maxRecDepth 100000 in
set_option maxHeartbeats 1000000 in
theorem several_seq (seed many : Int) (s : ByteArray) (hm : many ≤ 9223372036854775807) (hs : s.size ≤ maxLen) (B0 B1 B2 : Nat) (w : World)
    (hb0 : B0 < w.heap.size) (hb1 : B1 < w.heap.size) (hb2 : B2 < w.heap.size)
    (c0 : w.cell? ⟨B0, 0, none⟩ = some (.int .u64 seed)) (c1 : w.cell? ⟨B1, 0, none⟩ = some (.string s)) (c2 : w.cell? ⟨B2, 0, none⟩ = some (.int .i64 many)) :
    SeqI Tryz.prog 133 #[.pointer (some ⟨B2, 0, none⟩), .pointer (some ⟨B0, 0, none⟩), .pointer (some ⟨B1, 0, none⟩)] encIH (fun k => k = B0 ∨ k = B1 ∨ k = B2) (several seed s.data.toList many) w := by
  intro l J Jx W hW hJ hJx hY hj
  have e0 := (hW.cell (p := ⟨B0, 0, none⟩) hb0).trans c0
  have e1 := (hW.cell (p := ⟨B1, 0, none⟩) hb1).trans c1
  have e2 := (hW.cell (p := ⟨B2, 0, none⟩) hb2).trans c2
  clear c0 c1 c2 hW hJ hJx
  refine callsIn_of_wp Tryz.func133 rfl trivial ?_ rfl
  simp only [Tryz.ntmps133, List.size_toArray, List.length_cons, List.length_nil, Nat.reduceAdd, Nat.reduceSub, Array.replicate_succ, Array.replicate_zero, List.push_toArray, List.append_toArray, List.nil_append, List.cons_append]
  gi_wp2
  gi_loopw [5, 7] (fun _ p wr => ∃ k : Nat, p = .int .i64 k ∧ (k = 0 ∨ (k : Int) ≤ many) ∧ J k wr ∧ wr.cell? ⟨B0, 0, none⟩ = some (.int .u64 seed) ∧ wr.cell? ⟨B1, 0, none⟩ = some (.string s))
    (fun _ p _ => many.toNat - (intOf p).toNat)
  case atStart => exact ⟨0, rfl, .inl rfl, hj, e0, e1⟩
  case round =>
    obtain ⟨k, rfl, hk, hJk, d0, d1⟩ := hrel
    by_cases hlt : (k : Int) < many
    · obtain ⟨fn, tmps, assign, body, hy, hR⟩ := hY k _ wr hJk (several_at _ _ _ _ (by omega))
      simp only [encIH] at hy
      clear hY
      gi_wp2_with (refine ⟨trivial, ?_⟩; gi_at_call 24; refine (callsIn_wide.2 (of_nth seed s k hs wr)).mono ?_; rintro e w' ⟨rfl, rfl⟩)
      refine (any_depth hR).mono ?_
      rintro e W' (⟨rfl, hJ', hk'⟩ | ⟨rfl, hJx'⟩)
      · have d0' := (World.cell?_of_block (a := ⟨B0, 0, none⟩) (hk' B0 (.inl rfl))).trans d0
        have d1' := (World.cell?_of_block (a := ⟨B1, 0, none⟩) (hk' B1 (.inr (.inl rfl)))).trans d1
        clear hJk d0 d1 hk' hR hy
        gi_wp2
        go_roundw
        case rel => exact ⟨k + 1, by go_num, .inr (by omega), hJ', d0', d1'⟩
        case measure => simp [intOf]; omega
      · gi_wp2
        refine bodyPost_ret (results_none rfl _ _ _) rfl ?_
        exact ⟨⟨_, rfl⟩, .inr ⟨k + 1, by rw [several_len]; omega, hJx'⟩⟩
    · gi_wp2
      go_end0
      exact ⟨⟨_, rfl⟩, .inl (by rw [several_len]; have : k = many.toNat := by omega
                                rw [← this]; exact hJk)⟩
def severalWorld (w : World) (seed : Int) (s : ByteArray) (many : Int) : World :=
  ((w.alloc (.cells #[.int .u64 seed] 22)).alloc (.cells #[.string s] 9)).alloc (.cells #[.int .i64 many] 3)
def severalFree (B : Nat) : Array Value := #[.pointer (some ⟨B + 2, 0, none⟩), .pointer (some ⟨B, 0, none⟩), .pointer (some ⟨B + 1, 0, none⟩)]
theorem several_any (seed many : Int) (s : ByteArray) (w : World) :
    Calls Tryz.prog 105 #[.int .u64 seed, .string s, .int .i64 many] w fun e w' =>
      e = .returned (.func (.func 133) #[] (severalFree w.heap.size)) ∧ w' = severalWorld w seed s many := by
  go_enter Tryz.func105, Tryz.ntmps105
  go_wp2
  go_ret
  exact ⟨rfl, rfl⟩
theorem severalWorld_below (w : World) (seed many : Int) (s : ByteArray) : Below w.heap.size w (severalWorld w seed s many) :=
  (((Below.refl _ w).alloc (Nat.le_refl _) _).alloc (by simp) _).alloc (by simp; omega) _
theorem severalWorld_size (w : World) (seed many : Int) (s : ByteArray) : (severalWorld w seed s many).heap.size = w.heap.size + 3 := by
  simp [severalWorld]
theorem several_made (seed many : Int) (s : ByteArray) (hm : many ≤ 9223372036854775807) (hs : s.size ≤ maxLen) (w : World) :
    SeqI Tryz.prog 133 (severalFree w.heap.size) encIH (fun k => k = w.heap.size ∨ k = w.heap.size + 1 ∨ k = w.heap.size + 2) (several seed s.data.toList many) (severalWorld w seed s many) := by
  refine several_seq seed many s hm hs w.heap.size (w.heap.size + 1) (w.heap.size + 2) _ ?_ ?_ ?_ ?_ ?_ ?_
  · rw [severalWorld_size]; omega
  · rw [severalWorld_size]; omega
  · rw [severalWorld_size]; omega
  · simp [severalWorld]; go_simp
  · simp [severalWorld]; go_simp
  · simp [severalWorld]; go_simp
theorem several_gives (seed many : Int) (s : ByteArray) (hm : many ≤ 9223372036854775807) (hs : s.size ≤ maxLen) (w : World) :
    Calls Tryz.prog 105 #[.int .u64 seed, .string s, .int .i64 many] w fun e w' =>
      ∃ (lb : Array Value) (K : Nat → Prop), e = .returned (.func (.func 133) #[] lb) ∧ SeqI Tryz.prog 133 lb encIH K (several seed s.data.toList many) w' ∧
        Below w.heap.size w w' ∧ (∀ k, K k → w.heap.size ≤ k ∧ k < w'.heap.size) :=
  (several_any seed many s w).mono fun e w' ⟨he, hw⟩ => by
    subst hw
    exact ⟨_, _, he, several_made seed many s hm hs w, severalWorld_below w seed many s, fun k hk => by rw [severalWorld_size]; omega⟩
theorem enters (args : Array Value) (w : World) : (callFunc 133 args).run Tryz.prog w = .ok (.enter 133 args) w := enters_of Tryz.func133 (by kernel_rfl) rfl args w
end Go.Proofs.YtpghckiochjogaaGreatDoor.Hash

