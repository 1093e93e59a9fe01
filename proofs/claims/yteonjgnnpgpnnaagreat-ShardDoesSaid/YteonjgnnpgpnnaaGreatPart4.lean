/- Part4: RefSh1, Bloom5, Tiny2, Tiny3, HashRef, SketchRef, BloomRef, TinyRef, SlabRef1, Op7, Chunks, Errs, SlabRef2, Slab4, one behind the other. -/
import Derived.Test.YteonjgnnpgpnnaaGreatPart3
import Derived.Test.YteonjgnnpgpnnaaGreatPart2
import Derived.Deep.RegionHeld3
import Derived.Test.YteonjgnnpgpnnaaGreatProg
import Derived.Test.YteonjgnnpgpnnaaGreatPart1
import Derived.WalkKit
import Derived.WalkSpells
import Derived.WalkLawsBesides
import Derived.Lib.Hide
import Derived.Deep.WholeRow
import Derived.Deep.AppendLies
import Derived.Maps.AppendAt
import Derived.Deep.LoopGhost
import Derived.Deep.QuietTactic
import Derived.BigQuiet
import Derived.Outline
/- Layer 11, the document's own shard: the place of a key; the entries' row. -/
namespace Go.Proofs.YteonjgnnpgpnnaaGreat.RefSh
open Go Go.RowKit Go.Proofs.YteonjgnnpgpnnaaGreat.Mem Go.Proofs.YteonjgnnpgpnnaaGreat.App Go.Proofs.YteonjgnnpgpnnaaGreat.Shard

/-! ### the place of a key -/
open Go.Proofs.YteonjgnnpgpnnaaGreat.Tab in
def place (L : Pairs Nat) (k : ByteArray) : Nat := (L.takeWhile fun p => ltK p.1 k).length
section
open Go.Proofs.YteonjgnnpgpnnaaGreat.Tab
theorem place_le (L : Pairs Nat) (k : ByteArray) : place L k ≤ L.length := (List.takeWhile_sublist _).length_le
theorem place_eq {L : Pairs Nat} {k : ByteArray} : ∀ {m : Nat}, m ≤ L.length → (∀ j p, j < m → L[j]? = some p → ltK p.1 k = true) → (∀ p, L[m]? = some p → ltK p.1 k = false) → place L k = m := by
  induction L with
  | nil => intro m hm _ _; simp at hm; rw [hm]; rfl
  | cons p l ih =>
    intro m hm h1 h2
    unfold place
    rcases m with _ | m
    · have := h2 p rfl
      rw [List.takeWhile_cons, this]; rfl
    · have := h1 0 p (by omega) rfl
      rw [List.takeWhile_cons, this]
      have hp := ih (m := m) (by simp at hm; omega) (fun j q hj hq => h1 (j + 1) q (by omega) (by simpa using hq)) (fun q hq => h2 q (by simpa using hq))
      unfold place at hp
      simp [hp]
/-- What there is to say of a key in a rising list. -/
theorem place_get {L : Pairs Nat} (hr : Rising L) (k : ByteArray) : (∃ v, L[place L k]? = some (k, v) ∧ Tab.get L k = some v ∧ (∀ u, put L k u = L.set (place L k) (k, u)) ∧ del L k = L.take (place L k) ++ L.drop (place L k + 1)) ∨
    ((∀ p, L[place L k]? = some p → p.1 ≠ k) ∧ Tab.get L k = none ∧ (∀ u, put L k u = L.take (place L k) ++ [(k, u)] ++ L.drop (place L k)) ∧ del L k = L) := by
  induction L with
  | nil => exact .inr ⟨fun p hp => by simp at hp, rfl, fun u => rfl, rfl⟩
  | cons p l ih =>
    have hp := List.pairwise_cons.1 hr
    have hlt : ∀ (l : Pairs Nat), (∀ q ∈ l, ltK p.1 q.1 = true) → (ltK k p.1 = true ∨ p.1 = k) → del l k = l := fun l hl hk => List.filter_eq_self.2 fun q hq => by
      have h1 := hl q hq
      have : q.1 ≠ k := fun e => by
        rcases hk with hk | hk
        · have := ltK_trans hk h1; rw [e, ltK_irrefl] at this; cases this
        · rw [e, hk, ltK_irrefl] at h1; cases h1
      simpa using this
    by_cases h1 : p.1 = k
    · subst h1
      have h0 : place (p :: l) p.1 = 0 := by unfold place; rw [List.takeWhile_cons, ltK_irrefl]; rfl
      rw [h0]
      refine .inl ⟨p.2, rfl, by simp [Tab.get], fun u => by simp [put], ?_⟩
      have : del l p.1 = l := hlt l hp.1 (.inr rfl)
      unfold del at this ⊢
      rw [List.filter_cons]
      simpa using this
    · by_cases h2 : ltK k p.1 = true
      · have h0 : place (p :: l) k = 0 := by unfold place; rw [List.takeWhile_cons, ltK_asymm h2]; rfl
        rw [h0]
        refine .inr ⟨fun q hq => by simp at hq; rw [← hq]; exact h1, ?_, fun u => by simp [put, h1, h2], ?_⟩
        · rw [Tab.get_none]
          intro hm
          obtain ⟨q, hq, e⟩ := List.mem_map.1 hm
          rcases List.mem_cons.1 hq with rfl | hq
          · exact h1 e
          · have := ltK_trans h2 (hp.1 q hq)
            rw [e, ltK_irrefl] at this; cases this
        · have : del l k = l := hlt l hp.1 (.inl h2)
          unfold del at this ⊢
          rw [List.filter_cons, this]
          simp [h1]
      · have h3 : ltK p.1 k = true := ltK_total (by simpa using h2) (fun e => h1 e.symm)
        have h0 : place (p :: l) k = place l k + 1 := by unfold place; rw [List.takeWhile_cons, h3]; rfl
        rw [h0]
        have hd : del (p :: l) k = p :: del l k := by unfold del; rw [List.filter_cons]; simp [h1]
        rcases ih hp.2 with ⟨v, e1, e2, e3, e4⟩ | ⟨e1, e2, e3, e4⟩
        · refine .inl ⟨v, by simpa using e1, by simp [Tab.get, h1, e2], fun u => by simp [put, h1, h2, e3], by rw [hd, e4]; simp⟩
        · refine .inr ⟨fun q hq => e1 q (by simpa using hq), by simp [Tab.get, h1, e2], fun u => by simp [put, h1, h2, e3], by rw [hd, e4]⟩
end

/-! ### the entries' row -/
def cellsE (ent : Nat → Ent) (vv : Nat → Value) (L : Tab.Pairs Nat) : List Value := L.flatMap fun p => ((ent p.2).arr (vv p.2)).toList
section
variable {ent : Nat → Ent} {vv : Nat → Value} {L M : Tab.Pairs Nat}
theorem arr_len (x : Ent) (v : Value) : (x.arr v).toList.length = 12 := rfl
theorem cellsE_cons (p : ByteArray × Nat) (L : Tab.Pairs Nat) : cellsE ent vv (p :: L) = ((ent p.2).arr (vv p.2)).toList ++ cellsE ent vv L := rfl
theorem cellsE_app (L M : Tab.Pairs Nat) : cellsE ent vv (L ++ M) = cellsE ent vv L ++ cellsE ent vv M := by simp [cellsE]
theorem cellsE_len (L : Tab.Pairs Nat) : (cellsE ent vv L).length = L.length * 12 := by
  induction L with
  | nil => rfl
  | cons p L ih => rw [cellsE_cons, List.length_append, arr_len, List.length_cons, ih]; omega
theorem cellsE_get : ∀ (L : Tab.Pairs Nat) (i : Nat) (p : ByteArray × Nat) (j : Nat), L[i]? = some p → j < 12 → (cellsE ent vv L)[i * 12 + j]? = ((ent p.2).arr (vv p.2))[j]?
  | [], i, p, j, h, _ => by simp at h
  | q :: L, 0, p, j, h, hj => by
    simp at h; subst h
    rw [cellsE_cons, Nat.zero_mul, Nat.zero_add, List.getElem?_append_left (by rw [arr_len]; exact hj), Array.getElem?_toList]
  | q :: L, i + 1, p, j, h, hj => by
    rw [cellsE_cons, List.getElem?_append_right (by rw [arr_len]; omega), arr_len, show (i + 1) * 12 + j - 12 = i * 12 + j from by omega]
    exact cellsE_get L i p j (by simpa using h) hj
theorem cellsE_take (L : Tab.Pairs Nat) (k : Nat) : cellsE ent vv (L.take k) = (cellsE ent vv L).take (k * 12) := by
  rcases Nat.lt_or_ge k L.length with h | h
  · conv => rhs; rw [← List.take_append_drop k L]
    rw [cellsE_app, List.take_left']
    rw [cellsE_len, List.length_take]; omega
  · rw [List.take_of_length_le h, List.take_of_length_le (by rw [cellsE_len]; omega)]
theorem cellsE_drop (L : Tab.Pairs Nat) (k : Nat) : cellsE ent vv (L.drop k) = (cellsE ent vv L).drop (k * 12) := by
  rcases Nat.lt_or_ge k L.length with h | h
  · conv => rhs; rw [← List.take_append_drop k L]
    rw [cellsE_app, List.drop_left']
    rw [cellsE_len, List.length_take]; omega
  · rw [List.drop_eq_nil_of_le h, List.drop_eq_nil_of_le (by rw [cellsE_len]; omega)]; rfl
theorem cellsE_congr {ent' : Nat → Ent} {vv' : Nat → Value} (h : ∀ p ∈ L, ent p.2 = ent' p.2 ∧ vv p.2 = vv' p.2) : cellsE ent vv L = cellsE ent' vv' L := by
  induction L with
  | nil => rfl
  | cons p L ih =>
    rw [cellsE_cons, cellsE_cons, ih fun q hq => h q (List.mem_cons_of_mem _ hq), (h p (List.mem_cons_self ..)).1, (h p (List.mem_cons_self ..)).2]
theorem arr_one (x : Ent) {v : Value} (hv : v.oneCell' = true) : ∀ u ∈ (x.arr v).toList, u.oneCell' = true := fun u hu => by
  replace hu : u ∈ [Value.string x.it.key, v, .int .u32 x.it.flags, .int .i64 x.it.exp, .int .u64 x.it.cas, .int .i64 x.it.sec, .int .u64 x.it.seq, .bool x.it.stale, .bool x.it.won, .bool x.it.seen, .int .i64 x.chunk.1, .int .i64 x.chunk.2] := hu
  simp only [List.mem_cons, List.not_mem_nil, or_false] at hu
  rcases hu with rfl | rfl | rfl | rfl | rfl | rfl | rfl | rfl | rfl | rfl | rfl | rfl
  all_goals first | exact hv | rfl
theorem one_cellsE (hv : ∀ p ∈ L, (vv p.2).oneCell' = true) : ∀ u ∈ cellsE ent vv L, u.oneCell' = true := fun u hu => by
  simp only [cellsE, List.mem_flatMap] at hu
  obtain ⟨p, hp, hu⟩ := hu
  exact arr_one _ (hv p hp) u hu
/-- cells by their index. -/
theorem cellsE_ext {xs : List Value} (hl : xs.length = L.length * 12) (h : ∀ (i : Nat) (p : ByteArray × Nat) (j : Nat), L[i]? = some p → j < 12 → xs[i * 12 + j]? = ((ent p.2).arr (vv p.2))[j]?) : xs = cellsE ent vv L := by
  apply List.ext_getElem?
  intro m
  rcases Nat.lt_or_ge m (L.length * 12) with hm | hm
  · have hi : m / 12 < L.length := by omega
    have e : m / 12 * 12 + m % 12 = m := by omega
    have h1 := h (m / 12) _ (m % 12) (List.getElem?_eq_getElem hi) (Nat.mod_lt _ (by omega))
    have h2 := cellsE_get (ent := ent) (vv := vv) L (m / 12) _ (m % 12) (List.getElem?_eq_getElem hi) (Nat.mod_lt _ (by omega))
    rw [e] at h1 h2
    rw [h1, h2]
  · rw [List.getElem?_eq_none (by omega), List.getElem?_eq_none (by rw [cellsE_len]; omega)]
end
theorem one_slice {a : Option Addr} {n c : Nat} : (Value.slice a n c).oneCell' = true := rfl
theorem src_one' {w : World} {v : Value} {xs : List UInt8} (h : SrcB w v xs) : v.oneCell' = true := by
  obtain ⟨a, c, rfl⟩ := h.shape
  rfl
end Go.Proofs.YteonjgnnpgpnnaaGreat.RefSh

/- Plain laws of a bloom filter: what an addition turns, what is kept, what texts leave. -/
namespace Go.Proofs.YteonjgnnpgpnnaaGreat.Bloom
open Go Go.Proofs.YteonjgnnpgpnnaaGreat.Hash

theorem bit_adds_had {seed : Int} {s : List UInt8} {w : Nat → Nat} {n : Nat} (h : hasTo seed s w n = true) (q : Nat) : bit (adds seed s w n) q = bit w q := by
  rw [hasTo_iff] at h
  rw [Bool.eq_iff_iff, bit_adds]
  constructor
  · rintro (h1 | ⟨i, h1, rfl⟩)
    · exact h1
    · exact h i h1
  · exact .inl
theorem ones_adds (seed : Int) (s : List UInt8) (w : Nat → Nat) (n : Nat) : ones w 512 ≤ ones (adds seed s w n) 512 ∧ ones (adds seed s w n) 512 ≤ ones w 512 + n ∧ (ones (adds seed s w n) 512 = ones w 512 ↔ hasTo seed s w n = true) := by
  induction n with
  | zero => simp [adds, hasTo]
  | succ n ih =>
    obtain ⟨h1, h2, h3⟩ := ih
    have hp := pl_lt seed s n
    have hs : ones (adds seed s w (n + 1)) 512 = ones (adds seed s w n) 512 + if pl seed s n < 512 ∧ bit (adds seed s w n) (pl seed s n) = false then 1 else 0 := ones_setB _ _ _
    have hh : hasTo seed s w (n + 1) = (hasTo seed s w n && bit w (pl seed s n)) := rfl
    rw [hs, hh]
    refine ⟨by omega, by split <;> omega, ?_⟩
    cases ht : hasTo seed s w n
    · have hne : ones (adds seed s w n) 512 ≠ ones w 512 := fun e => by rw [h3.1 e] at ht; cases ht
      simp only [Bool.false_and]
      constructor
      · intro e; split at e <;> omega
      · intro e; cases e
    · have he := h3.2 ht
      rw [bit_adds_had ht, he]
      simp only [Bool.true_and, hp, true_and]
      cases hb : bit w (pl seed s n) <;> simp
theorem add_ones (k : St) (s : List UInt8) : k.ones ≤ (k.add s).ones ∧ (k.add s).ones ≤ k.ones + 3 ∧ ((k.add s).ones = k.ones ↔ k.has s = true) := ones_adds k.seed s k.w 3
theorem has_add (k : St) (s : List UInt8) : (k.add s).has s = true := by
  unfold St.has St.add
  rw [hasTo_iff]
  exact fun i hi => (bit_adds _ _ _ _ _).2 (.inr ⟨i, hi, rfl⟩)
theorem has_mono {k : St} {t : List UInt8} (s : List UInt8) (h : k.has t = true) : (k.add s).has t = true := by
  unfold St.has St.add at *
  rw [hasTo_iff] at *
  exact fun i hi => (bit_adds _ _ _ _ _).2 (.inl (h i hi))
theorem has_none (seed : Int) (s : List UInt8) : hasTo seed s (fun _ => 0) 3 = false := by
  cases h : hasTo seed s (fun _ => 0) 3
  · rfl
  · have := (hasTo_iff _ _ _ _).1 h 0 (by omega)
    simp [bit] at this
theorem has_new (seed : Int) (s : List UInt8) : (new seed).has s = false := has_none seed s
theorem has_clear (k : St) (s : List UInt8) : k.clear.has s = false := has_none k.seed s
theorem ones_clear (k : St) : k.clear.ones = 0 := ones_zero 512
theorem ones_new (seed : Int) : (new seed).ones = 0 := ones_zero 512
theorem ones_full {k : St} (h : 512 ≤ k.ones) (s : List UInt8) : k.has s = true := by
  have hle := ones_le k.w 512
  have he : (List.range 512).countP (fun p => bit k.w p) = (List.range 512).length := by
    have : k.ones = 512 := by unfold St.ones at h ⊢; omega
    rw [List.length_range]; exact this
  rw [List.countP_eq_length] at he
  unfold St.has
  rw [hasTo_iff]
  exact fun i _ => he _ (List.mem_range.2 (pl_lt _ _ _))
/-- Just the places of some texts are set. -/
def Of (k : St) (M : List UInt8 → Prop) : Prop := ∀ p, bit k.w p = true ↔ ∃ t, M t ∧ ∃ i, i < 3 ∧ p = pl k.seed t i
theorem Of.new (seed : Int) : Of (new seed) (fun _ => False) := fun p => by simp [Bloom.new, bit]
theorem Of.add {k : St} {M : List UInt8 → Prop} (h : Of k M) (s : List UInt8) : Of (k.add s) (fun t => M t ∨ t = s) := fun p => by
  unfold St.add
  simp only
  rw [bit_adds, h p]
  constructor
  · rintro (⟨t, h1, h2⟩ | ⟨i, h1, h2⟩)
    · exact ⟨t, .inl h1, h2⟩
    · exact ⟨s, .inr rfl, i, h1, h2⟩
  · rintro ⟨t, h1 | rfl, h2⟩
    · exact .inl ⟨t, h1, h2⟩
    · exact .inr h2
theorem Of.congr {k : St} {M N : List UInt8 → Prop} (h : Of k M) (hMN : ∀ t, M t ↔ N t) : Of k N := fun p => by
  rw [h p]
  constructor
  · rintro ⟨t, h1, h2⟩; exact ⟨t, (hMN t).1 h1, h2⟩
  · rintro ⟨t, h1, h2⟩; exact ⟨t, (hMN t).2 h1, h2⟩
theorem Of.alike {k j : St} {M : List UInt8 → Prop} (h : Of k M) (g : Of j M) (he : k.seed = j.seed) : k.ones = j.ones ∧ ∀ s, k.has s = j.has s := by
  have hb : ∀ p, bit k.w p = bit j.w p := fun p => by rw [Bool.eq_iff_iff, h p, g p, he]
  refine ⟨ones_ext 512 fun p _ => hb p, fun s => ?_⟩
  unfold St.has
  rw [Bool.eq_iff_iff, hasTo_iff, hasTo_iff, he]
  simp only [hb]
theorem add_seed (k : St) (s : List UInt8) : (k.add s).seed = k.seed := rfl
end Go.Proofs.YteonjgnnpgpnnaaGreat.Bloom

/- Layer 6's statements: the chapter's example; plain laws. -/
namespace Go.Proofs.YteonjgnnpgpnnaaGreat.Tiny
open Go Go.RowKit Go.Proofs.YteonjgnnpgpnnaaGreat.Mem

theorem worth_16 (j : St) (s : List UInt8) : j.worth s ≤ 16 := by
  have : j.c.count s ≤ 15 := Sketch.cnt_le15 _ _ _ _
  unfold St.worth; split <;> omega
theorem has_touch_false {j : St} {s : List UInt8} (h : j.f.has s = false) : j.touch s = ⟨j.f.add s, j.c⟩ := by
  unfold St.touch; rw [h, if_neg (by decide)]
theorem touch_false {j : St} {s : List UInt8} (h : j.f.has s = true) (hc : (j.c.add s).1 = false) : j.touch s = ⟨j.f.add s, (j.c.add s).2⟩ := by
  unfold St.touch; rw [h, if_pos rfl, hc, if_neg (by decide)]
theorem touch_true {j : St} {s : List UInt8} (h : j.f.has s = true) (hc : (j.c.add s).1 = true) : j.touch s = ⟨(j.f.add s).clear, (j.c.add s).2⟩ := by
  unfold St.touch; rw [h, if_pos rfl, hc, if_pos rfl]
theorem cnt_mono {seed : Int} {s : List UInt8} {c d : Nat → Nat} (h : ∀ i, c i ≤ d i) (n : Nat) : Sketch.cnt seed s c n ≤ Sketch.cnt seed s d n := by
  induction n with
  | zero => exact Nat.le_refl _
  | succ n ih =>
    unfold Sketch.cnt
    have := h (Sketch.pl seed s n)
    omega
/-- One more touch. -/
theorem touch_worth {j : St} (hc : Sketch.Ok j.c) (s t : List UInt8) :
    (j.worth s ≤ (j.touch s).worth s ∧ 1 ≤ (j.touch s).worth s) ∨ ((j.touch s).worth s ≤ 8 ∧ (j.touch s).worth t ≤ j.worth t) := by
  cases hh : j.f.has s
  · left
    rw [has_touch_false hh]
    unfold St.worth
    rw [hh]
    simp only [Bloom.has_add, if_true]
    constructor
    · simp
    · omega
  · cases hv : (j.c.add s).1
    · left
      rw [touch_false hh hv]
      unfold St.worth
      rw [hh]
      simp only [Bloom.has_add, if_true]
      have hcnt : j.c.count s ≤ (j.c.add s).2.count s := by
        rw [(Sketch.add_false hv).2]
        exact cnt_mono (fun i => Sketch.ups_ge _ _ _ _ _) 4
      omega
    · right
      rw [touch_true hh hv]
      unfold St.worth
      simp only [Bloom.has_clear]
      have he := (Sketch.add_true hv).2
      have h7 : (j.c.add s).2.count s ≤ 7 := by
        unfold Sketch.St.count
        refine Nat.le_trans (Sketch.cnt_le _ _ _ (a := 0) (by omega)) ?_
        rw [he]
        have := Sketch.ups_15 hc.c15 j.c.seed s 4 (Sketch.pl j.c.seed s 0)
        simp only [Sketch.half]; omega
      have hle : (j.c.add s).2.count t ≤ j.c.count t := by
        rw [he]
        refine cnt_mono (fun i => ?_) 4
        have := Sketch.ups_le j.c.seed s j.c.c 4 i
        simp only [Sketch.half]; omega
      constructor
      · simp; omega
      · simp; omega
end Go.Proofs.YteonjgnnpgpnnaaGreat.Tiny

/- Layer 6: the walk over Copy. -/
namespace Go.Proofs.YteonjgnnpgpnnaaGreat.Tiny
open Go Go.RowKit Go.Proofs.YteonjgnnpgpnnaaGreat.Mem

end Go.Proofs.YteonjgnnpgpnnaaGreat.Tiny

/- The document's own Mix, Of, Below come to mixI, ofI, belowI; the world stays. -/
namespace Go.Proofs.YteonjgnnpgpnnaaGreat.HashRef
open Go.RowKit
open Go.Proofs.YteonjgnnpgpnnaaGreat.Hash (mixI ofI belowI foldI stepI mixI_range foldI_range foldI_take_snoc wrap_eq byte_range below_eq ret_int)

set_option maxRecDepth 100000 in
set_option maxHeartbeats 400000 in
theorem mix_any (a : Int) (_h0 : 0 ≤ a) (_h1 : a < 18446744073709551616) (w : World) :
    Calls Tryz.prog 128 #[.int .u64 a] w fun e w' => e = .returned (.int .u64 (mixI a)) ∧ w = w' := by
  go_enter Tryz.func128, Tryz.ntmps128
  go_wp2
  go_ret
  exact ⟨rfl, rfl⟩

theorem below_any (h n : Int) (h0 : 0 ≤ h) (h1 : h < 18446744073709551616) (n1 : n ≤ 9223372036854775807) (w : World) :
    Calls Tryz.prog 121 #[.int .u64 h, .int .i64 n] w fun e w' => e = .returned (.int .i64 (belowI h n)) ∧ w = w' := by
  by_cases hn : n < 1
  · go_enter Tryz.func121, Tryz.ntmps121
    go_wp2
    go_ret
    exact ⟨ret_int (by unfold belowI; rw [if_pos hn]), rfl⟩
  · go_enter Tryz.func121, Tryz.ntmps121
    go_wp2
    go_ret
    exact ⟨ret_int (below_eq h n (by omega) n1), rfl⟩

set_option maxRecDepth 100000 in
set_option maxHeartbeats 400000 in
theorem of_any (seed : Int) (s : ByteArray) (h0 : 0 ≤ seed) (h1 : seed < 18446744073709551616) (hs : s.size ≤ maxLen) (w : World) :
    Calls Tryz.prog 122 #[.int .u64 seed, .string s] w fun e w' => e = .returned (.int .u64 (ofI seed s.data.toList)) ∧ w = w' := by
  unfold maxLen at hs
  have m := mixI_range h0 h1
  go_enter Tryz.func122, Tryz.ntmps122
  go_wp2_with (go_at_call 128; refine (mix_any _ (by assumption) (by assumption) _).mono ?_; rintro e w' ⟨rfl, rfl⟩)
  go_loop [5, 6] (fun h i => ∃ k : Nat, k ≤ s.size ∧ i = .int .i64 k ∧ h = .int .u64 (foldI (mixI seed) (s.data.toList.take k))) (fun _ i => s.size - (intOf i).toNat)
  case atStart => exact ⟨0, Nat.zero_le _, rfl, rfl⟩
  case round =>
    obtain ⟨k, hk, rfl, rfl⟩ := hrel
    have r := foldI_range (s.data.toList.take k) m.1 m.2
    obtain ⟨q, hq⟩ : ∃ q, foldI (mixI seed) (s.data.toList.take k) = q := ⟨_, rfl⟩
    rw [hq] at r ⊢
    by_cases hlt : k < s.size
    · have HS : Hid (foldI (mixI seed) (s.data.toList.take (k + 1)) = stepI q (s[k].toNat : Int)) := by
        rw [foldI_take_snoc _ _ k (by simpa using hlt), hq]; rfl
      clear hq
      obtain ⟨r0, r1⟩ := r
      go_wp2
      go_round
      case rel => refine ⟨k + 1, by omega, by go_num, ?_⟩; rw [HS.out]; rw [wrap_eq (byte_range _).1 (byte_range _).2]; rfl
      case measure => simp [intOf]; omega
    · have HQ := Lib.hid hq
      clear hq
      obtain ⟨r0, r1⟩ := r
      go_wp2_with (go_at_call 128; refine (mix_any _ (by assumption) (by assumption) _).mono ?_; rintro e w' ⟨rfl, rfl⟩)
      go_ret
      refine ⟨ret_int ?_, rfl⟩
      unfold Hash.ofI
      rw [← HQ.out, List.take_of_length_le (by simp; omega)]

end Go.Proofs.YteonjgnnpgpnnaaGreat.HashRef

/- The document's own sketch of layer 5: the same state, as 256 numbers; its walks. -/
namespace Go.Proofs.YteonjgnnpgpnnaaGreat.SketchRef
open Go Go.RowKit Go.Proofs.YteonjgnnpgpnnaaGreat.Mem Go.Proofs.YteonjgnnpgpnnaaGreat.Sketch

def rcells (c : Nat → Nat) : Array Value := ((List.range 256).map (fun i => Value.int .i64 (c i : Nat))).toArray
structure RAt (w : World) (b g : Nat) (k : St) : Prop where
  blk : w.heap[b]? = some (.cells #[.int .u64 k.seed, .slice (some ⟨g, 0, none⟩) 256 256, .int .i64 k.age] 161 (0, 0))
  row : w.heap[g]? = some (.cells (rcells k.c) 3 (0, 0))
  ne : b ≠ g
theorem rcells_at (c : Nat → Nat) {i : Nat} (h : i < 256) : (rcells c)[i]? = some (.int .i64 (c i : Nat)) := by
  unfold rcells
  simp [h]
theorem rcells_set {c d : Nat → Nat} {i : Nat} (h : i < 256) (ho : ∀ j, j < 256 → j ≠ i → d j = c j) : (rcells c).setIfInBounds i (.int .i64 (d i : Nat)) = rcells d := by
  unfold rcells
  rw [List.setIfInBounds_toArray]
  congr 1
  refine List.ext_getElem? fun j => ?_
  rw [List.getElem?_set]
  by_cases hj : j < 256
  · by_cases hi : i = j
    · subst hi; simp [hj]
    · simp [hi, hj, ho j hj (fun e => hi e.symm)]
  · by_cases hi : i = j
    · omega
    · simp [hi, hj]
section
variable {w w' : World} {b g : Nat} {k : St}
theorem RAt.lt (h : RAt w b g k) : b < w.heap.size ∧ g < w.heap.size := ⟨(Array.getElem?_eq_some_iff.1 h.blk).1, (Array.getElem?_eq_some_iff.1 h.row).1⟩
theorem RAt.below (h : RAt w b g k) (hb : Below w.heap.size w w') : RAt w' b g k := ⟨(hb.block b h.lt.1).trans h.blk, (hb.block g h.lt.2).trans h.row, h.ne⟩
theorem RAt.only (h : RAt w b g k) {F : Nat → Prop} (ho : Only F w w') (hF : ¬ F b ∧ ¬ F g) : RAt w' b g k := ⟨(ho.same b h.lt.1 hF.1).trans h.blk, (ho.same g h.lt.2 hF.2).trans h.row, h.ne⟩
theorem RAt.setC (h : RAt w b g k) {i : Nat} (hi : i < 256) {d : Nat → Nat} (ho : ∀ j, j < 256 → j ≠ i → d j = k.c j) : RAt (w.setCell ⟨g, i, none⟩ (.int .i64 (d i : Nat))) b g { k with c := d } :=
  ⟨(Below.heap_setCell _ _ _ _ h.ne).trans h.blk, by have := Mem.row_set h.row i (.int .i64 (d i : Nat)); rwa [rcells_set hi ho] at this, h.ne⟩
theorem RAt.setAge (h : RAt w b g k) (a : Int) : RAt (w.setCell ⟨b, 2, none⟩ (.int .i64 a)) b g { k with age := a } :=
  ⟨Mem.row_set h.blk 2 (.int .i64 a), (Below.heap_setCell _ _ _ _ (fun e => h.ne e.symm)).trans h.row, h.ne⟩
end
theorem infoInt : (Tryz.prog.info? 3).map (fun i => (i.zero, i.size, i.bytes)) = some (some (.int .i64 0), 1, 8) := by kernel_rfl
theorem made256 : madeCells (Value.int .i64 0).cells (Int.toNat 256 * 1) = rcells (fun _ => 0) := by kernel_rfl
theorem make256 (w : World) : (Instr.makeSlice 84 (.int .i64 256) (.int .i64 256)).run Tryz.prog w = .ok (.slice (some ⟨w.heap.size, 0, none⟩) 256 256) (w.alloc (.cells (rcells fun _ => 0) 3)) := by
  obtain ⟨i0, hi, hz0, hz1, hz2⟩ := info_parts infoInt
  have := run_makeSlice (P := Tryz.prog) (w := w) 84 3 i0 _ Tryz.underlying84 hi hz0 .i64 .i64 256 256 (by decide) (by decide) (by rw [hz1]; decide) (by rw [hz2]; decide) (by decide)
  rw [this, hz1, made256]
  rfl
theorem new_gives (seed : Int) (w : World) : Calls Tryz.prog 51 #[.int .u64 seed] w fun e w' =>
    ∃ b g : Nat, e = .returned (.pointer (some ⟨b, 0, none⟩)) ∧ RAt w' b g (new seed) ∧ (w.heap.size ≤ b ∧ w.heap.size ≤ g) ∧ Below w.heap.size w w' := by
  have hmk := make256
  go_enter Tryz.func51, Tryz.ntmps51
  go_wp2
  go_ret
  exact ⟨_, _, rfl, ⟨Mem.new_block2 w _ _, Mem.new_later (Mem.new_block w _) _, by omega⟩, ⟨by omega, by omega⟩, Mem.al (Mem.al (Below.refl _ _) _) _⟩
theorem of_nth (seed : Int) (s : ByteArray) (k : Nat) (hs : s.size ≤ maxLen) (w : World) :
    Calls Tryz.prog 122 #[.int .u64 (IntKind.u64.wrap (seed + (k : Int))), .string s] w fun e w' => e = .returned (.int .u64 (Hash.nthI seed s.data.toList k)) ∧ w = w' :=
  HashRef.of_any _ s (Hash.wrap_range _).1 (Hash.wrap_range _).2 hs w
set_option maxRecDepth 100000 in
set_option maxHeartbeats 400000 in
theorem place_any {w : World} {b : Nat} {seed : Int} (hc : w.cell? ⟨b, 0, none⟩ = some (.int .u64 seed)) (s : ByteArray) (hs : s.size ≤ maxLen) {i : Nat} (hi : i < 4) :
    Calls Tryz.prog 110 #[.pointer (some ⟨b, 0, none⟩), .string s, .int .i64 i] w fun e w' => e = .returned (.int .i64 (pl seed s.data.toList i : Nat)) ∧ w = w' := by
  have hof := fun w => of_nth seed s i hs w
  have hbel := fun w => HashRef.below_any (Hash.nthI seed s.data.toList i) 64 (Hash.nthI_range _ _ _).1 (Hash.nthI_range _ _ _).2 (by omega) w
  rw [col_int] at hbel
  have hcl := col_lt seed s.data.toList i
  have hpl : ((i : Int) * 64 + (col seed s.data.toList i : Nat)) = (pl seed s.data.toList i : Nat) := by unfold pl; omega
  have hlp : pl seed s.data.toList i < 256 := by unfold pl; omega
  obtain ⟨cc, hcc⟩ : ∃ cc, col seed s.data.toList i = cc := ⟨_, rfl⟩
  rw [hcc] at hbel hcl hpl
  have HP := Lib.hid hpl
  clear hcc hpl
  go_enter Tryz.func110, Tryz.ntmps110
  go_wp2_with (first | (go_at_call 122; refine (hof _).mono ?_; rintro e w' ⟨rfl, rfl⟩) | (go_at_call 121; refine (hbel _).mono ?_; rintro e w' ⟨rfl, rfl⟩))
  go_ret
  exact ⟨ret_int HP.out, rfl⟩

def halfN (c : Nat → Nat) (n : Nat) : Nat → Nat := fun i => if i < n then c i / 2 else c i
theorem halfN_rcells (c : Nat → Nat) : rcells (halfN c 256) = rcells (half c) := by
  have h : (List.range 256).map (fun j => Value.int .i64 (halfN c 256 j : Nat)) = (List.range 256).map (fun j => Value.int .i64 (half c j : Nat)) := List.map_congr_left fun j hj => by
    have : j < 256 := by simpa using hj
    unfold halfN half
    rw [if_pos this]
  unfold rcells
  rw [h]
theorem halfN_other {c : Nat → Nat} {m j : Nat} (hj : j ≠ m) : halfN c (m + 1) j = halfN c m j := by
  unfold halfN
  by_cases h1 : j < m
  · rw [if_pos (by omega), if_pos h1]
  · rw [if_neg (by omega), if_neg h1]
theorem halfN_self (c : Nat → Nat) (m : Nat) : halfN c (m + 1) m = halfN c m m / 2 := by
  unfold halfN
  rw [if_pos (by omega), if_neg (by omega)]
set_option maxRecDepth 20000 in
set_option maxHeartbeats 4000000 in
theorem add_any {w : World} {b g : Nat} {k : St} (h : RAt w b g k) (hk : Ok k) (s : ByteArray) (hs : s.size ≤ maxLen) :
    Calls Tryz.prog 88 #[.pointer (some ⟨b, 0, none⟩), .string s] w fun e w' => e = .returned (.bool (k.add s.data.toList).1) ∧ RAt w' b g (k.add s.data.toList).2 ∧ Only (fun j => j = b ∨ j = g) w w' := by
  have H := Lib.hid (And.intro h hk)
  clear h hk
  go_enter Tryz.func88, Tryz.ntmps88
  go_wp2
  go_loopg [5] 4 (fun gk i wr => ∃ m : Nat, i = .int .i64 m ∧ gk + m = 4 ∧ Hid (RAt wr b g { k with c := ups k.seed s.data.toList k.c m } ∧ Only (fun j => j = b ∨ j = g) w wr))
  case atStart => exact ⟨0, rfl, by omega, Lib.hid ⟨H.out.1, Only.refl _ _⟩⟩
  case round =>
    obtain ⟨m, rfl, hg, HA⟩ := hrel
    have c0 := Mem.row_cell HA.out.1.blk 0
    have c1 := Mem.row_cell HA.out.1.blk 1
    have c2 := Mem.row_cell HA.out.1.blk 2
    have f2 := Mem.row_free HA.out.1.blk 2
    simp only [List.getElem?_toArray, List.getElem?_cons_zero, List.getElem?_cons_succ] at c0 c1 c2
    by_cases hm : m < 4
    · have hpl : pl k.seed s.data.toList m < 256 := by have := col_lt k.seed s.data.toList m; unfold pl; omega
      have hplace := place_any c0 s hs hm
      have cp := Mem.row_cell HA.out.1.row (pl k.seed s.data.toList m)
      have fp := Mem.row_free HA.out.1.row (pl k.seed s.data.toList m)
      rw [rcells_at _ hpl] at cp
      have hnext : ups k.seed s.data.toList k.c (m + 1) = up (ups k.seed s.data.toList k.c m) (pl k.seed s.data.toList m) := rfl
      obtain ⟨p, hp⟩ : ∃ p, pl k.seed s.data.toList m = p := ⟨_, rfl⟩
      rw [hp] at hpl hplace cp fp hnext
      obtain ⟨v, hv⟩ : ∃ v, ups k.seed s.data.toList k.c m p = v := ⟨_, rfl⟩
      simp only at cp
      rw [hv] at cp
      have hpi : (p : Int) < 256 := by omega
      have hmi : (m : Int) < 4 := by omega
      have HG := Lib.hid (And.intro hg (And.intro hnext hv))
      clear hg hnext hv c2 f2 hp
      by_cases h15 : v < 15
      · have h15i : (v : Int) < 15 := by omega
        go_wp2_with (go_at_call 110; refine hplace.mono ?_; rintro e w' ⟨rfl, rfl⟩)
        go_roundg (4 - (m + 1))
        case measure => have := HG.out.1; omega
        case rel =>
          have hset := HA.out.1.setC (d := ups k.seed s.data.toList k.c (m + 1)) hpl (fun j _ hj => by rw [HG.out.2.1]; exact up_other hj)
          have hval : ups k.seed s.data.toList k.c (m + 1) p = v + 1 := by
            rw [HG.out.2.1]; unfold up; rw [HG.out.2.2, if_pos ⟨rfl, h15⟩]
          rw [hval] at hset
          refine ⟨m + 1, by go_num, by have := HG.out.1; omega, Lib.hid ⟨?_, HA.out.2.setCell (.inl (.inr rfl)) _⟩⟩
          rw [Int.natCast_add] at hset
          exact hset
      · have h15i : (15 : Int) ≤ v := by omega
        go_wp2_with (go_at_call 110; refine hplace.mono ?_; rintro e w' ⟨rfl, rfl⟩)
        go_roundg (4 - (m + 1))
        case measure => have := HG.out.1; omega
        case rel =>
          have hval : ups k.seed s.data.toList k.c (m + 1) = ups k.seed s.data.toList k.c m := by
            rw [HG.out.2.1]
            exact funext fun j => by unfold up; rw [if_neg (fun e => by rw [HG.out.2.2] at e; exact h15 e.2)]
          exact ⟨m + 1, by go_num, by have := HG.out.1; omega, Lib.hid (by rw [hval]; exact HA.out)⟩
    · obtain rfl : m = 4 := by omega
      have hA1 := HA.out.1.setAge (k.age + 1)
      have HB := Lib.hid (And.intro hA1 (HA.out.2.setCell (p := ⟨b, 2, none⟩) (.inl (.inl rfl)) (.int .i64 (k.age + 1))))
      obtain ⟨a0, a1⟩ : 0 ≤ k.age ∧ k.age < 640 := ⟨H.out.2.a0, H.out.2.a1⟩
      clear hA1 hg c0
      by_cases hag : k.age + 1 < 640
      · have hadd : k.add s.data.toList = (false, { k with c := ups k.seed s.data.toList k.c 4, age := k.age + 1 }) := by unfold St.add; rw [if_pos hag]
        have HD := Lib.hid hadd
        clear hadd
        go_wp2
        go_ret
        rw [HD.out]
        exact ⟨rfl, HB.out.1, HB.out.2⟩
      · have hadd : k.add s.data.toList = (true, { k with c := half (ups k.seed s.data.toList k.c 4), age := 320 }) := by unfold St.add; rw [if_neg hag]
        have HD := Lib.hid hadd
        clear hadd c1
        go_wp2
        go_loopg [7] 256 (fun gk i wr => ∃ m : Nat, i = .int .i64 m ∧ gk + m = 256 ∧ Hid (RAt wr b g ⟨k.seed, halfN (ups k.seed s.data.toList k.c 4) m, k.age + 1⟩ ∧ Only (fun j => j = b ∨ j = g) w wr))
        case atStart =>
          refine ⟨0, rfl, by omega, Lib.hid ⟨?_, HB.out.2⟩⟩
          rw [show halfN (ups k.seed s.data.toList k.c 4) 0 = ups k.seed s.data.toList k.c 4 from funext fun i => by unfold halfN; rw [if_neg (by omega)]]
          exact HB.out.1
        case round =>
          obtain ⟨m, rfl, hg, HC⟩ := hrel
          have c1 := Mem.row_cell HC.out.1.blk 1
          have c2 := Mem.row_cell HC.out.1.blk 2
          have f2 := Mem.row_free HC.out.1.blk 2
          simp only [List.getElem?_toArray, List.getElem?_cons_zero, List.getElem?_cons_succ] at c1 c2
          have HG := Lib.hid hg
          by_cases hm : m < 256
          · have hmi : (m : Int) < 256 := by omega
            have hm0 : (0 : Int) ≤ m := by omega
            have cm := Mem.row_cell HC.out.1.row m
            have fm := Mem.row_free HC.out.1.row m
            rw [rcells_at _ hm] at cm
            simp only at cm
            obtain ⟨v, hv⟩ : ∃ v, halfN (ups k.seed s.data.toList k.c 4) m m = v := ⟨_, rfl⟩
            rw [hv] at cm
            obtain ⟨v2, hv2⟩ : ∃ v2, v / 2 = v2 := ⟨_, rfl⟩
            have hd : (v : Int) / 2 = v2 := by omega
            have h15 : v ≤ 15 := by rw [← hv]; unfold halfN; rw [if_neg (by omega)]; exact ups_15 H.out.2.c15 _ _ _ _
            have hdw : IntKind.i64.wrap (v2 : Int) = v2 := by rw [IntKind.wrap_i64]; omega
            have HV := Lib.hid (And.intro hv hv2)
            clear hg hv hv2 h15 c2 f2
            go_wp2
            refine wp_region_still_tail 14 (by kernel_rfl) (by kernel_rfl) ?_
            simp only [List.take_succ_cons, List.take_zero, List.drop_succ_cons, List.drop_zero]
            repeat still_step
            refine wpStill_nil ?_
            change wpList _ _ _ _ _ wr.drew
            go_wp2
            go_roundg (256 - (m + 1))
            case measure => have := HG.out; omega
            case rel =>
              have hset := HC.out.1.setC (d := halfN (ups k.seed s.data.toList k.c 4) (m + 1)) hm (fun j _ hj => halfN_other hj)
              have hval : halfN (ups k.seed s.data.toList k.c 4) (m + 1) m = v2 := by
                rw [← HV.out.2, ← HV.out.1, halfN_self]
              rw [hval] at hset
              exact ⟨m + 1, by go_num, by have := HG.out; omega, Lib.hid ⟨⟨hset.blk, hset.row, hset.ne⟩, (HC.out.2.setCell (.inl (.inr rfl)) _).drew⟩⟩
          · obtain rfl : m = 256 := by omega
            have hA2 := HC.out.1.setAge 320
            have HE := Lib.hid (And.intro hA2 (HC.out.2.setCell (p := ⟨b, 2, none⟩) (.inl (.inl rfl)) (.int .i64 320)))
            clear hA2 hg hm
            go_wp2
            go_ret
            rw [HD.out]
            refine ⟨rfl, ⟨HE.out.1.blk, ?_, HE.out.1.ne⟩, HE.out.2⟩
            rw [HE.out.1.row, halfN_rcells]
set_option maxRecDepth 20000 in
set_option maxHeartbeats 2000000 in
theorem count_any {w : World} {b g : Nat} {k : St} (h : RAt w b g k) (hk : Ok k) (s : ByteArray) (hs : s.size ≤ maxLen) :
    Calls Tryz.prog 120 #[.pointer (some ⟨b, 0, none⟩), .string s] w fun e w' => e = .returned (.int .i64 (k.count s.data.toList : Nat)) ∧ ∃ n, w' = w.drewN n := by
  have H := Lib.hid (And.intro h hk)
  clear h hk
  go_enter Tryz.func120, Tryz.ntmps120
  go_wp2
  go_loopg [5, 6] 4 (fun gk n i wr => ∃ (m d : Nat), n = .int .i64 (cnt k.seed s.data.toList k.c m : Nat) ∧ i = .int .i64 m ∧ gk + m = 4 ∧ Hid (wr = w.drewN d))
  case atStart => exact ⟨0, 0, rfl, rfl, by omega, Lib.hid rfl⟩
  case round =>
    obtain ⟨m, d, rfl, rfl, hg, HD⟩ := hrel
    have hR : RAt wr b g k := by rw [HD.out]; exact ⟨H.out.1.blk, H.out.1.row, H.out.1.ne⟩
    have c0 := Mem.row_cell hR.blk 0
    have c1 := Mem.row_cell hR.blk 1
    simp only [List.getElem?_toArray, List.getElem?_cons_zero, List.getElem?_cons_succ] at c0 c1
    by_cases hm : m < 4
    · have hpl : pl k.seed s.data.toList m < 256 := by have := col_lt k.seed s.data.toList m; unfold pl; omega
      have hplace := fun d => place_any (w := wr.drewN d) c0 s hs hm
      have cp := Mem.row_cell hR.row (pl k.seed s.data.toList m)
      rw [rcells_at _ hpl] at cp
      have hnext : cnt k.seed s.data.toList k.c (m + 1) = min (cnt k.seed s.data.toList k.c m) (k.c (pl k.seed s.data.toList m)) := rfl
      obtain ⟨p, hp⟩ : ∃ p, pl k.seed s.data.toList m = p := ⟨_, rfl⟩
      rw [hp] at hpl hplace cp hnext
      obtain ⟨v, hv⟩ : ∃ v, k.c p = v := ⟨_, rfl⟩
      obtain ⟨x, hx⟩ : ∃ x, cnt k.seed s.data.toList k.c m = x := ⟨_, rfl⟩
      rw [hv] at cp
      rw [hv, hx] at hnext
      rw [hx]
      have hpi : (p : Int) < 256 := by omega
      have hp0 : (0 : Int) ≤ p := by omega
      have hmi : (m : Int) < 4 := by omega
      have HG := Lib.hid (And.intro hg hnext)
      clear hg hnext hv hp hx hR
      by_cases hlt : v < x
      · have hlti : (v : Int) < x := by omega
        go_wp2
        go_quiet ((go_at_call 110; exact Calls.quiet_of_same ((hplace _).mono fun _ _ ⟨h, e⟩ => ⟨h, e.symm⟩)))
        go_wp2
        go_roundg (4 - (m + 1))
        case measure => have := HG.out.1; omega
        case rel => exact ⟨m + 1, d + nq, by rw [HG.out.2]; congr 2; omega, by go_num, by have := HG.out.1; omega, Lib.hid (by rw [HD.out]; simp [World.drewN, Nat.add_assoc])⟩
      · have hlti : (x : Int) ≤ v := by omega
        go_wp2
        go_quiet ((go_at_call 110; exact Calls.quiet_of_same ((hplace _).mono fun _ _ ⟨h, e⟩ => ⟨h, e.symm⟩)))
        go_wp2
        go_roundg (4 - (m + 1))
        case measure => have := HG.out.1; omega
        case rel => exact ⟨m + 1, d + nq, by rw [HG.out.2]; congr 2; omega, by go_num, by have := HG.out.1; omega, Lib.hid (by rw [HD.out]; simp [World.drewN, Nat.add_assoc])⟩
    · obtain rfl : m = 4 := by omega
      clear hg c0 c1 hR
      go_wp2
      go_ret
      exact ⟨rfl, d, HD.out⟩
end Go.Proofs.YteonjgnnpgpnnaaGreat.SketchRef

/- The document's own filter of layer 4: the places that are set, as a list; its walks. -/
namespace Go.Proofs.YteonjgnnpgpnnaaGreat.BloomRef
open Go Go.RowKit Go.Proofs.YteonjgnnpgpnnaaGreat.Mem Go.Proofs.YteonjgnnpgpnnaaGreat.Bloom

def enc (l : List Nat) : List Value := l.map fun (p : Nat) => Value.int .i64 (p : Nat)
structure RAtW (w : World) (b : Nat) (F : Nat → Prop) (seed : Int) (l : List Nat) (v : Value) : Prop where
  blk : w.heap[b]? = some (.cells #[.int .u64 seed, v] 123 (0, 0))
  row : w.ownsRow 0 3 1 v l.length (enc l)
  fb : F b
  fr : ∀ g, v.ownBlock = some g → F g
  lt : ∀ k, F k → k < w.heap.size
def RAt (w : World) (b : Nat) (F : Nat → Prop) (seed : Int) (l : List Nat) : Prop := ∃ v, RAtW w b F seed l v
theorem row_same {w w' : World} {base : Nat} {e : TypeId} {size n : Nat} {v : Value} {xs : List Value} (h : w.ownsRow base e size v n xs) (hs : ∀ g, v.ownBlock = some g → w'.heap[g]? = w.heap[g]?) : w'.ownsRow base e size v n xs := by
  refine ⟨h.1, ?_⟩
  rcases h.2 with h1 | ⟨g, cap, cur, h1, h2, h3, h4⟩
  · exact .inl h1
  · exact .inr ⟨g, cap, cur, h1, h2, (hs g (by rw [h1]; rfl)).trans h3, h4⟩
theorem row_not {w : World} {e t : TypeId} {size n k : Nat} {v : Value} {xs : List Value} {cs : Array Value} (h : w.ownsRow 0 e size v n xs) (hk : w.heap[k]? = some (.cells cs t (0, 0))) (hne : e ≠ t) : v.ownBlock ≠ some k := fun e1 => by
  rcases h.2 with ⟨q, _⟩ | ⟨g1, cap, cur, q, _, b1, _⟩
  · rw [q] at e1; cases e1
  · rw [q] at e1
    have : g1 = k := by simpa [Value.ownBlock] using e1
    subst this
    rw [b1] at hk
    injection hk with hk
    injection hk with _ hk
    exact hne hk
section
variable {w w' : World} {b : Nat} {F : Nat → Prop} {seed : Int} {l : List Nat} {v v' : Value}
theorem RAtW.same (h : RAtW w b F seed l v) (hs : ∀ k, F k → w'.heap[k]? = w.heap[k]?) (hz : w.heap.size ≤ w'.heap.size) : RAtW w' b F seed l v :=
  ⟨(hs _ h.fb).trans h.blk, row_same h.row fun g e => hs g (h.fr g e), h.fb, h.fr, fun k hk => Nat.lt_of_lt_of_le (h.lt k hk) hz⟩
theorem RAt.same (h : RAt w b F seed l) (hs : ∀ k, F k → w'.heap[k]? = w.heap[k]?) (hz : w.heap.size ≤ w'.heap.size) : RAt w' b F seed l := by
  obtain ⟨v, h⟩ := h
  exact ⟨v, h.same hs hz⟩
theorem RAt.lt (h : RAt w b F seed l) : ∀ k, F k → k < w.heap.size := by obtain ⟨_, h⟩ := h; exact h.lt
theorem RAt.fb (h : RAt w b F seed l) : F b := by obtain ⟨_, h⟩ := h; exact h.fb
theorem RAt.below (h : RAt w b F seed l) (hb : Below w.heap.size w w') : RAt w' b F seed l := h.same (fun k hk => hb.block k (h.lt k hk)) hb.size
theorem RAt.only (h : RAt w b F seed l) {G : Nat → Prop} (ho : Only G w w') (hd : ∀ k, F k → ¬ G k) : RAt w' b F seed l := h.same (fun k hk => ho.same k (h.lt k hk) (hd k hk)) ho.size
/-- A new list. -/
theorem RAtW.turn {l' : List Nat} (h : RAtW w b F seed l v) (hs : ∀ k, F k → v.ownBlock ≠ some k → w'.heap[k]? = w.heap[k]?) (hz : w.heap.size ≤ w'.heap.size) (hown : w'.ownsRow 0 3 1 v' l'.length (enc l'))
    (hat : ∀ g, v'.ownBlock = some g → v.ownBlock = some g ∨ w.heap.size ≤ g) : RAtW (w'.setCell ⟨b, 1, none⟩ v') b (fun j => F j ∨ v'.ownBlock = some j) seed l' v' := by
  have hvb : v.ownBlock ≠ some b := row_not h.row h.blk (by decide)
  have hnb : v'.ownBlock ≠ some b := fun e => (hat b e).elim hvb (fun e1 => by have := h.lt b h.fb; omega)
  refine ⟨Mem.row_set ((hs b h.fb hvb).trans h.blk) 1 v', row_same hown fun g e => Below.heap_setCell _ _ _ _ (fun e1 => hnb (by rw [e, e1])), .inl h.fb, fun g e => .inr e, fun k hk => ?_⟩
  rw [show (w'.setCell ⟨b, 1, none⟩ v').heap.size = w'.heap.size from by simp [World.setCell]]
  rcases hk with e | e
  · exact Nat.lt_of_lt_of_le (h.lt k e) hz
  · rcases hown.2 with ⟨q, _⟩ | ⟨g1, cap, cur, q, _, b1, _⟩
    · rw [q] at e; cases e
    · rw [q] at e
      have : g1 = k := by simpa [Value.ownBlock] using e
      subst this
      exact (Array.getElem?_eq_some_iff.1 b1).1
end
theorem row_at {w : World} {v : Value} {xs : List Nat} (h : w.ownsRow 0 3 1 v xs.length (enc xs)) {k : Nat} {c : Nat} (hk : xs[k]? = some c) :
    ∃ g cap, v = .slice (some ⟨g, 0, none⟩) xs.length cap ∧ w.cell? ⟨g, k, none⟩ = some (.int .i64 (c : Nat)) := by
  have hkl := (List.getElem?_eq_some_iff.1 hk).1
  obtain ⟨n, hn⟩ : ∃ n, xs.length = n + 1 := ⟨xs.length - 1, by omega⟩
  have ho := h
  rw [hn] at ho
  obtain ⟨g, cap, cur, e1, _, e2, _, _, e3⟩ := Mem.row_block ho
  exact ⟨g, cap, by rw [hn]; exact e1, (Mem.row_cell e2 _).trans (e3 _ _ (by simp [enc, hk]))⟩
theorem row_shape {w : World} {v : Value} {xs : List Nat} (h : w.ownsRow 0 3 1 v xs.length (enc xs)) : ∃ a cap, v = .slice a xs.length cap := by
  rcases h.2 with ⟨e1, e2⟩ | ⟨g, cap, cur, e1, _⟩
  · exact ⟨none, 0, by rw [e1, e2]⟩
  · exact ⟨_, _, e1⟩
set_option maxRecDepth 100000 in
set_option maxHeartbeats 1000000 in
theorem is_any {w : World} {b : Nat} {F : Nat → Prop} {seed : Int} {l : List Nat} (h : RAt w b F seed l) (hl : l.length ≤ 1000000) (p : Nat) (hp : p < 512) :
    Calls Tryz.prog 109 #[.pointer (some ⟨b, 0, none⟩), .int .i64 p] w fun e w' => e = .returned (.bool (decide (p ∈ l))) ∧ w = w' := by
  obtain ⟨v, h⟩ := h
  obtain ⟨ya, yc, hv⟩ := row_shape h.row
  have c1 : w.cell? ⟨b, 1, none⟩ = some v := Mem.row_cell h.blk 1
  have HR := Lib.hid h.row
  clear h
  subst hv
  go_enter Tryz.func109, Tryz.ntmps109
  go_wp2
  go_loopg [5] l.length (fun g i wr => ∃ j : Nat, i = .int .i64 j ∧ g + j = l.length ∧ p ∉ l.take j ∧ wr = w)
  case atStart => exact ⟨0, rfl, by omega, by simp, rfl⟩
  case round =>
    obtain ⟨j, rfl, hg, hno, rfl⟩ := hrel
    have HG := Lib.hid (And.intro hg hno)
    by_cases hj : j < l.length
    · obtain ⟨c, hc⟩ : ∃ q, l[j]? = some q := ⟨_, List.getElem?_eq_getElem hj⟩
      obtain ⟨g', cap', hya, z0⟩ := row_at HR.out hc
      injection hya with hya hle hyc
      clear hle
      subst hya hyc
      have hji : (j : Int) < l.length := by omega
      have htk : l.take (j + 1) = l.take j ++ [c] := by rw [List.take_add_one, hc]; rfl
      have HT := Lib.hid (And.intro htk hc)
      clear hg hno htk hc
      by_cases hcp : c = p
      · subst hcp
        go_wp2
        go_ret
        exact ⟨by simp [List.mem_of_getElem? HT.out.2], rfl⟩
      · have hcb : ((c : Int) == p) = false := by simp; omega
        have HN := Lib.hid hcp
        clear hcp
        go_wp2
        go_roundg (l.length - (j + 1))
        case measure => have := HG.out.1; omega
        case rel => exact ⟨j + 1, by go_num, by have := HG.out.1; omega, by rw [HT.out.1]; simp; exact ⟨HG.out.2, fun e => HN.out e.symm⟩, rfl⟩
    · have hjs : (l.length : Int) ≤ j := by omega
      have hno' : p ∉ l := by rw [List.take_of_length_le (by omega)] at hno; exact hno
      have HN := Lib.hid hno'
      clear hg hno hno'
      go_wp2
      go_ret
      exact ⟨by simp [HN.out], rfl⟩
set_option maxRecDepth 100000 in
set_option maxHeartbeats 400000 in
theorem place_any (seed : Int) (s : ByteArray) (hs : s.size ≤ maxLen) {i : Nat} (hi : i < 3) (w : World) :
    Calls Tryz.prog 108 #[.int .u64 seed, .string s, .int .i64 i] w fun e w' => e = .returned (.int .i64 (pl seed s.data.toList i : Nat)) ∧ w = w' := by
  have hof := fun w => SketchRef.of_nth seed s i hs w
  have hbel := fun w => HashRef.below_any (Hash.nthI seed s.data.toList i) 512 (Hash.nthI_range _ _ _).1 (Hash.nthI_range _ _ _).2 (by omega) w
  rw [pl_int] at hbel
  go_enter Tryz.func108, Tryz.ntmps108
  go_wp2_with (first | (go_at_call 122; refine (hof _).mono ?_; rintro e w' ⟨rfl, rfl⟩) | (go_at_call 121; refine (hbel _).mono ?_; rintro e w' ⟨rfl, rfl⟩))
  go_ret
  exact ⟨rfl, rfl⟩
def rhas (seed : Int) (s : List UInt8) (l : List Nat) : Bool := (List.range 3).all fun i => decide (pl seed s i ∈ l)
theorem rhas_iff (seed : Int) (s : List UInt8) (l : List Nat) : rhas seed s l = true ↔ ∀ i, i < 3 → pl seed s i ∈ l := by
  unfold rhas
  rw [List.all_eq_true]
  simp only [List.mem_range, decide_eq_true_eq]
set_option maxRecDepth 100000 in
set_option maxHeartbeats 1000000 in
theorem has_any {w : World} {b : Nat} {F : Nat → Prop} {seed : Int} {l : List Nat} (h : RAt w b F seed l) (hl : l.length ≤ 1000000) (s : ByteArray) (hs : s.size ≤ maxLen) :
    Calls Tryz.prog 107 #[.pointer (some ⟨b, 0, none⟩), .string s] w fun e w' => e = .returned (.bool (rhas seed s.data.toList l)) ∧ w = w' := by
  have H := Lib.hid h
  have c0 : w.cell? ⟨b, 0, none⟩ = some (.int .u64 seed) := by obtain ⟨v, h⟩ := h; exact Mem.row_cell h.blk 0
  clear h
  go_enter Tryz.func107, Tryz.ntmps107
  go_wp2
  go_loopg [5] 3 (fun g i wr => ∃ j : Nat, i = .int .i64 j ∧ g + j = 3 ∧ (∀ i, i < j → pl seed s.data.toList i ∈ l) ∧ wr = w)
  case atStart => exact ⟨0, rfl, by omega, fun i hi => by omega, rfl⟩
  case round =>
    obtain ⟨j, rfl, hg, hyes, rfl⟩ := hrel
    have HG := Lib.hid (And.intro hg hyes)
    clear hyes
    by_cases hj : j < 3
    · have hji : (j : Int) < 3 := by omega
      have hp := pl_lt seed s.data.toList j
      have hpl := fun w => place_any seed s hs hj w
      have his := is_any H.out hl (pl seed s.data.toList j) hp
      obtain ⟨q, hq⟩ : ∃ q, decide (pl seed s.data.toList j ∈ l) = q := ⟨_, rfl⟩
      rw [hq] at his
      have HQ := Lib.hid hq
      clear hq hg
      obtain ⟨p, hpp⟩ : ∃ p, pl seed s.data.toList j = p := ⟨_, rfl⟩
      rw [hpp] at his hp
      rw [hpp] at hpl
      clear hpp
      cases q
      · go_wp2_with (first | (go_at_call 108; refine (hpl _).mono ?_; rintro e w' ⟨rfl, rfl⟩) | (go_at_call 109; refine his.mono ?_; rintro e w' ⟨rfl, rfl⟩))
        go_ret
        have hf : rhas seed s.data.toList l = false := by
          cases hh : rhas seed s.data.toList l
          · rfl
          · have h1 := (rhas_iff _ _ _).1 hh j hj
            have h2 := HQ.out
            simp [h1] at h2
        exact ⟨by rw [hf]; rfl, rfl⟩
      · go_wp2_with (first | (go_at_call 108; refine (hpl _).mono ?_; rintro e w' ⟨rfl, rfl⟩) | (go_at_call 109; refine his.mono ?_; rintro e w' ⟨rfl, rfl⟩))
        go_roundg (3 - (j + 1))
        case measure => have := HG.out.1; omega
        case rel =>
          refine ⟨j + 1, by go_num, by have := HG.out.1; omega, fun i hi => ?_, rfl⟩
          by_cases h : i = j
          · subst h; exact of_decide_eq_true HQ.out
          · exact HG.out.2 i (by omega)
    · have hj3 : j = 3 := by omega
      subst hj3
      clear hg
      go_wp2
      go_ret
      exact ⟨by rw [(rhas_iff _ _ _).2 HG.out.2]; rfl, rfl⟩
/-- The list behind n places. -/
def radds (seed : Int) (s : List UInt8) (l : List Nat) : Nat → List Nat
  | 0 => l
  | n + 1 => if pl seed s n ∈ radds seed s l n then radds seed s l n else radds seed s l n ++ [pl seed s n]
theorem radds_len (seed : Int) (s : List UInt8) (l : List Nat) (n : Nat) : (radds seed s l n).length ≤ l.length + n := by
  induction n with
  | zero => simp [radds]
  | succ n ih =>
    unfold radds
    split
    · omega
    · rw [List.length_append, List.length_singleton]; omega
def AddPost (w : World) (b : Nat) (F : Nat → Prop) (seed : Int) (l : List Nat) (s : List UInt8) (e : Ending) (w' : World) : Prop :=
  ∃ F', e = .returned (.bool (rhas seed s l)) ∧ RAt w' b F' seed (radds seed s l 3) ∧ Only F w w' ∧ Grows w F F'
set_option maxRecDepth 20000 in
set_option maxHeartbeats 2000000 in
theorem add_any {w : World} {b : Nat} {F : Nat → Prop} {seed : Int} {l : List Nat} (h : RAt w b F seed l) (hl : l.length ≤ 900000) (s : ByteArray) (hs : s.size ≤ maxLen) :
    Calls Tryz.prog 87 #[.pointer (some ⟨b, 0, none⟩), .string s] w (AddPost w b F seed l s.data.toList) := by
  obtain ⟨i0, hi, hz0, hz1, hz2⟩ := info_parts SketchRef.infoInt
  have hhas := has_any h (by omega) s hs
  have H := Lib.hid h
  clear h
  go_enter Tryz.func87, Tryz.ntmps87
  go_wp2_with fail
  refine hhas.mono ?_
  rintro e w1 ⟨rfl, rfl⟩
  clear hhas
  go_wp2_with fail
  go_loopg [6] 3 (fun g i wr => ∃ (j : Nat) (F' : Nat → Prop), i = .int .i64 j ∧ g + j = 3 ∧ Hid (RAt wr b F' seed (radds seed s.data.toList l j) ∧ Only F w wr ∧ Grows w F F'))
  case atStart => exact ⟨0, F, rfl, by omega, Lib.hid ⟨H.out, Only.refl _ _, Grows.refl _ _⟩⟩
  case round =>
    obtain ⟨j, F1, rfl, hg, HR⟩ := hrel
    by_cases hj : j < 3
    · have hji : (j : Int) < 3 := by omega
      obtain ⟨v, h⟩ := HR.out.1
      have c0 : wr.cell? ⟨b, 0, none⟩ = some (.int .u64 seed) := Mem.row_cell h.blk 0
      have c1 : wr.cell? ⟨b, 1, none⟩ = some v := Mem.row_cell h.blk 1
      have f1 := Mem.row_free h.blk 1
      have hp := pl_lt seed s.data.toList j
      have hpl := fun w => place_any seed s hs hj w
      have hlen := radds_len seed s.data.toList l j
      have hnext : radds seed s.data.toList l (j + 1) = if pl seed s.data.toList j ∈ radds seed s.data.toList l j then radds seed s.data.toList l j else radds seed s.data.toList l j ++ [pl seed s.data.toList j] := rfl
      obtain ⟨lj, hlj⟩ : ∃ lj, radds seed s.data.toList l j = lj := ⟨_, rfl⟩
      rw [hlj] at h hlen hnext
      have his := is_any (⟨v, h⟩ : RAt wr b F1 seed lj) (by omega) (pl seed s.data.toList j) hp
      obtain ⟨p, hpp⟩ : ∃ p, pl seed s.data.toList j = p := ⟨_, rfl⟩
      rw [hpp] at his hp hnext
      rw [hpp] at hpl
      obtain ⟨q, hq⟩ : ∃ q, decide (p ∈ lj) = q := ⟨_, rfl⟩
      rw [hq] at his
      have HG := Lib.hid (And.intro hg (And.intro hnext (And.intro hlj hq)))
      have HA := Lib.hid h
      clear hg hnext hlj hq hpp h
      cases q
      · go_wp2_with (first
          | (go_at_call 108; refine (hpl _).mono ?_; rintro e w' ⟨rfl, rfl⟩)
          | (go_at_call 109; refine his.mono ?_; rintro e w' ⟨rfl, rfl⟩)
          | (at_builtin; refine wpList_append_lies _ rfl _ _ _ rfl 0 3 i0 _ 1 8 Tryz.underlying84 hi hz0 hz1 hz2 rfl (by decide) v lj.length (enc lj) rfl (row_same HA.out.row fun g e => Below.heap_alloc _ _ _ (HA.out.lt g (HA.out.fr g e))) ⟨wr.heap.size, 0, none⟩ 1 1 [.int .i64 (p : Nat)] rfl rfl (World.news_of_block (Mem.new_block wr _)) (by simp [Value.oneCell']) (by decide) (by unfold maxLen; omega) (by omega) (Nat.zero_le _) (wr.heap.size + 1) (by simp) ?_; intro gg cap w6 hown hgrow hat hlt; have f6 : w6.frozen? ⟨b, 1, none⟩ = false := Mem.row_free ((hgrow.block b (by have := HA.out.lt b HA.out.fb; simp; omega) (fun e => row_not HA.out.row HA.out.blk (by decide) e.symm)).trans ((Below.heap_alloc _ _ _ (HA.out.lt b HA.out.fb)).trans HA.out.blk)) 1; have c6 : w6.cell? ⟨b, 1, none⟩ = some v := Mem.row_cell ((hgrow.block b (by have := HA.out.lt b HA.out.fb; simp; omega) (fun e => row_not HA.out.row HA.out.blk (by decide) e.symm)).trans ((Below.heap_alloc _ _ _ (HA.out.lt b HA.out.fb)).trans HA.out.blk)) 1))
        go_roundg (3 - (j + 1))
        case measure => have := HG.out.1; omega
        case rel =>
          have hnew : radds seed s.data.toList l (j + 1) = lj ++ [p] := by
            rw [HG.out.2.1, if_neg (fun e => by have := HG.out.2.2.2; simp [e] at this)]
          have hown' : w6.ownsRow 0 3 1 (.slice (some ⟨gg, 0, none⟩) (lj.length + 1) cap) (lj ++ [p]).length (enc (lj ++ [p])) := by
            rw [List.length_append, List.length_singleton]
            have : enc (lj ++ [p]) = enc lj ++ [.int .i64 (p : Nat)] := by simp [enc]
            rw [this]
            exact hown
          have hat' : ∀ x, (Value.slice (some ⟨gg, 0, none⟩) (lj.length + 1) cap).ownBlock = some x → v.ownBlock = some x ∨ wr.heap.size ≤ x := fun x e => by
            have : gg = x := by simpa [Value.ownBlock] using e
            subst this
            exact hat.imp id (fun e => by omega)
          have hz : wr.heap.size ≤ w6.heap.size := Nat.le_trans (by simp) hgrow.size
          have hR := HA.out.turn (w' := w6) (fun k hk hv => (hgrow.block k (by have := HA.out.lt k hk; simp; omega) (fun e => hv e.symm)).trans (Below.heap_alloc _ _ _ (HA.out.lt k hk))) hz hown' hat'
          have hO : Only F1 wr (w6.setCell ⟨b, 1, none⟩ (.slice (some ⟨gg, 0, none⟩) (lj.length + 1) cap)) :=
            (((Only.refl F1 wr).alloc _).grown hgrow (fun x e => .inl (HA.out.fr x e))).setCell (.inl HA.out.fb) _
          have hGr : Grows wr F1 (fun x => F1 x ∨ (Value.slice (some ⟨gg, 0, none⟩) (lj.length + 1) cap).ownBlock = some x) := fun x hx => by
            rcases hx with hx | hx
            · exact .inl hx
            · exact (hat' x hx).imp (HA.out.fr x) id
          exact ⟨j + 1, _, by go_num, by have := HG.out.1; omega, Lib.hid ⟨by rw [hnew]; exact ⟨_, hR⟩, HR.out.2.1.trans hO HR.out.2.2, HR.out.2.2.trans HR.out.2.1.size hGr⟩⟩
      · go_wp2_with (first
          | (go_at_call 108; refine (hpl _).mono ?_; rintro e w' ⟨rfl, rfl⟩)
          | (go_at_call 109; refine his.mono ?_; rintro e w' ⟨rfl, rfl⟩))
        go_roundg (3 - (j + 1))
        case measure => have := HG.out.1; omega
        case rel =>
          have hnew : radds seed s.data.toList l (j + 1) = radds seed s.data.toList l j := by
            rw [HG.out.2.1, if_pos (of_decide_eq_true HG.out.2.2.2), HG.out.2.2.1]
          exact ⟨j + 1, F1, by go_num, by have := HG.out.1; omega, Lib.hid (by rw [hnew]; exact HR.out)⟩
    · have hj3 : j = 3 := by omega
      subst hj3
      clear hg
      go_wp2
      go_ret
      exact ⟨F1, rfl, HR.out⟩

/-! ### the two filters are one -/
def Link (k : St) (l : List Nat) : Prop := l.Nodup ∧ (∀ p ∈ l, p < 512) ∧ ∀ p, p ∈ l ↔ bit k.w p = true
theorem Link.new (seed : Int) : Link (new seed) [] := ⟨List.nodup_nil, fun p hp => (by cases hp), fun p => by simp [Bloom.new, bit]⟩
theorem Link.clear (k : St) : Link k.clear [] := ⟨List.nodup_nil, fun p hp => (by cases hp), fun p => by simp [St.clear, bit]⟩
theorem Link.has {k : St} {l : List Nat} (h : Link k l) (s : List UInt8) : rhas k.seed s l = k.has s := by
  unfold St.has
  rw [Bool.eq_iff_iff, rhas_iff, hasTo_iff]
  exact ⟨fun e i hi => (h.2.2 _).1 (e i hi), fun e i hi => (h.2.2 _).2 (e i hi)⟩
theorem Link.step {seed : Int} {w : Nat → Nat} {l : List Nat} (h : Link ⟨seed, w⟩ l) (s : List UInt8) (n : Nat) : Link ⟨seed, adds seed s w n⟩ (radds seed s l n) := by
  induction n with
  | zero => exact h
  | succ n ih =>
    obtain ⟨h1, h2, h3⟩ := ih
    have hb : ∀ q, bit (adds seed s w (n + 1)) q = (bit (adds seed s w n) q || decide (q = pl seed s n)) := fun q => bit_setB _ _ _
    have hr : radds seed s l (n + 1) = if pl seed s n ∈ radds seed s l n then radds seed s l n else radds seed s l n ++ [pl seed s n] := rfl
    rw [hr]
    by_cases hm : pl seed s n ∈ radds seed s l n
    · rw [if_pos hm]
      refine ⟨h1, h2, fun p => ?_⟩
      simp only [hb, Bool.or_eq_true, decide_eq_true_eq]
      rw [h3 p]
      constructor
      · exact .inl
      · rintro (e | rfl)
        · exact e
        · exact (h3 _).1 hm
    · rw [if_neg hm]
      refine ⟨?_, fun p hp => ?_, fun p => ?_⟩
      · rw [List.nodup_append]
        exact ⟨h1, by simp, fun a ha b hb e => by rw [List.mem_singleton] at hb; subst hb; subst e; exact hm ha⟩
      · rcases List.mem_append.1 hp with e | e
        · exact h2 p e
        · rw [List.mem_singleton] at e; subst e; exact pl_lt _ _ _
      · simp only [hb, Bool.or_eq_true, decide_eq_true_eq, List.mem_append, List.mem_singleton]
        rw [h3 p]
theorem Link.add {k : St} {l : List Nat} (h : Link k l) (s : List UInt8) : Link (k.add s) (radds k.seed s l 3) := Link.step h s 3
theorem Link.len {k : St} {l : List Nat} (h : Link k l) : k.ones = l.length := by
  unfold St.ones ones
  rw [List.countP_eq_length_filter]
  refine (List.Perm.length_eq ?_).symm
  rw [List.perm_ext_iff_of_nodup h.1 (List.Pairwise.filter _ List.nodup_range)]
  intro p
  rw [List.mem_filter, List.mem_range, h.2.2 p]
  exact ⟨fun e => ⟨h.2.1 p ((h.2.2 p).2 e), e⟩, fun e => e.2⟩
theorem Link.small {k : St} {l : List Nat} (h : Link k l) : l.length ≤ 512 := by
  rw [← h.len]; exact ones_le _ _
end Go.Proofs.YteonjgnnpgpnnaaGreat.BloomRef

/- The document's own judge of layer 6; its walks. -/
namespace Go.Proofs.YteonjgnnpgpnnaaGreat.TinyRef
open Go Go.RowKit Go.Proofs.YteonjgnnpgpnnaaGreat.Mem Go.Proofs.YteonjgnnpgpnnaaGreat.Tiny

/-- Its block, its filter's, its sketch's two. -/
structure RJ (w : World) (rb fb : Nat) (F : Nat → Prop) (sb sg : Nat) (j : St) (rl : List Nat) : Prop where
  blk : w.heap[rb]? = some (.cells #[.pointer (some ⟨fb, 0, none⟩), .pointer (some ⟨sb, 0, none⟩)] 127 (0, 0))
  f : BloomRef.RAt w fb F j.f.seed rl
  k : SketchRef.RAt w sb sg j.c
  link : BloomRef.Link j.f rl
  ok : Sketch.Ok j.c
  nr : ¬ F rb
  nb : ¬ F sb
  ng : ¬ F sg
  rs : rb ≠ sb
  rg : rb ≠ sg
/-- All that it holds. -/
def All (rb : Nat) (F : Nat → Prop) (sb sg : Nat) : Nat → Prop := fun x => x = rb ∨ F x ∨ x = sb ∨ x = sg
section
variable {w w' : World} {rb fb : Nat} {F : Nat → Prop} {sb sg : Nat} {j : St} {rl : List Nat}
theorem RJ.lt (h : RJ w rb fb F sb sg j rl) : ∀ x, All rb F sb sg x → x < w.heap.size := by
  rintro x (rfl | hx | rfl | rfl)
  · exact (Array.getElem?_eq_some_iff.1 h.blk).1
  · exact h.f.lt x hx
  · exact h.k.lt.1
  · exact h.k.lt.2
theorem RJ.same (h : RJ w rb fb F sb sg j rl) (hs : ∀ x, All rb F sb sg x → w'.heap[x]? = w.heap[x]?) (hz : w.heap.size ≤ w'.heap.size) : RJ w' rb fb F sb sg j rl :=
  ⟨(hs rb (.inl rfl)).trans h.blk, h.f.same (fun x hx => hs x (.inr (.inl hx))) hz, ⟨(hs sb (.inr (.inr (.inl rfl)))).trans h.k.blk, (hs sg (.inr (.inr (.inr rfl)))).trans h.k.row, h.k.ne⟩, h.link, h.ok, h.nr, h.nb, h.ng, h.rs, h.rg⟩
theorem RJ.below (h : RJ w rb fb F sb sg j rl) (hb : Below w.heap.size w w') : RJ w' rb fb F sb sg j rl := h.same (fun x hx => hb.block x (h.lt x hx)) hb.size
theorem RJ.drewN (h : RJ w rb fb F sb sg j rl) (n : Nat) : RJ (w.drewN n) rb fb F sb sg j rl := h.same (fun _ _ => rfl) (Nat.le_refl _)
theorem RJ.only (h : RJ w rb fb F sb sg j rl) {G : Nat → Prop} (ho : Only G w w') (hd : ∀ x, All rb F sb sg x → ¬ G x) : RJ w' rb fb F sb sg j rl := h.same (fun x hx => ho.same x (h.lt x hx) (hd x hx)) ho.size
end
set_option maxRecDepth 100000 in
set_option maxHeartbeats 1000000 in
theorem new_gives (seed : Int) (w : World) : Calls Tryz.prog 24 #[.int .u64 seed] w fun e w' =>
    ∃ (rb fb : Nat) (F : Nat → Prop) (sb sg : Nat), e = .returned (.pointer (some ⟨rb, 0, none⟩)) ∧ RJ w' rb fb F sb sg (new seed) [] ∧ (∀ x, All rb F sb sg x → w.heap.size ≤ x) ∧ Below w.heap.size w w' := by
  have hw := Hash.wrap_range (seed + 1)
  go_enter Tryz.func24, Tryz.ntmps24
  have hb0 : BloomRef.RAt (w.alloc (.cells #[.int .u64 seed, .slice none 0 0] 123)) w.heap.size (fun j => j = w.heap.size) seed [] :=
    ⟨_, Mem.new_block w _, World.ownsRow_nil _ _ _ _, rfl, fun g e => (by cases e), fun j e => by simp; omega⟩
  have HB := Lib.hid hb0
  clear hb0
  go_wp2_with fail
  refine (SketchRef.new_gives _ _).mono ?_
  rintro e w2 ⟨sb, sg, rfl, hA, ⟨hlb, hlg⟩, hb2⟩
  have H2 := Lib.hid (And.intro hA (And.intro hlb (And.intro hlg hb2)))
  clear hA hlb hlg hb2
  go_wp2_with fail
  go_ret
  obtain ⟨hA, hlb, hlg, hb2⟩ := H2.out
  have hl := hA.lt
  have hz := hb2.size
  simp only [World.size_alloc] at hlb hlg hz
  have hall : Below w2.heap.size w2 (w2.alloc (.cells #[.pointer (some ⟨w.heap.size, 0, none⟩), .pointer (some ⟨sb, 0, none⟩)] 127)) := Mem.al (Below.refl _ _) _
  refine ⟨_, w.heap.size, _, sb, sg, rfl, ⟨Mem.new_block w2 _, ((HB.out.below hb2)).below hall, hA.below hall, BloomRef.Link.new seed, Sketch.Ok.new hw.1 hw.2, ?_, ?_, ?_, ?_, ?_⟩, ?_, Mem.al (Mem.tr (Mem.al (Below.refl _ _) _) hb2) _⟩
  · omega
  · omega
  · omega
  · omega
  · omega
  · rintro x (rfl | rfl | rfl | rfl) <;> omega
def TouchPost (w : World) (rb fb : Nat) (F : Nat → Prop) (sb sg : Nat) (j : St) (s : List UInt8) (e : Ending) (w' : World) : Prop :=
  ∃ F' rl', e = .returned (.tuple #[]) ∧ RJ w' rb fb F' sb sg (j.touch s) rl' ∧ Only (All rb F sb sg) w w' ∧ Grows w F F'
set_option maxRecDepth 100000 in
set_option maxHeartbeats 2000000 in
theorem touch_any {w : World} {rb fb : Nat} {F : Nat → Prop} {sb sg : Nat} {j : St} {rl : List Nat} (h : RJ w rb fb F sb sg j rl) (s : ByteArray) (hs : s.size ≤ maxLen) :
    Calls Tryz.prog 61 #[.pointer (some ⟨rb, 0, none⟩), .string s] w (TouchPost w rb fb F sb sg j s.data.toList) := by
  have H := Lib.hid h
  have c0 : w.cell? ⟨rb, 0, none⟩ = some (.pointer (some ⟨fb, 0, none⟩)) := Mem.row_cell h.blk 0
  have hsm := h.link.small
  have hadd := BloomRef.add_any h.f (by omega) s hs
  clear h
  obtain ⟨q, hq⟩ : ∃ q, j.f.has s.data.toList = q := ⟨_, rfl⟩
  have HQ := Lib.hid hq
  unfold BloomRef.AddPost at hadd
  rw [H.out.link.has, hq] at hadd
  clear hq
  go_enter Tryz.func61, Tryz.ntmps61
  go_wp2_with fail
  refine hadd.mono ?_
  rintro e w1 ⟨F1, rfl, hf, ho, hg⟩
  have H1 := Lib.hid (And.intro (show RJ w1 rb fb F1 sb sg ⟨j.f.add s.data.toList, j.c⟩ (BloomRef.radds j.f.seed s.data.toList rl 3) from
    ⟨(ho.same rb (H.out.lt _ (.inl rfl)) H.out.nr).trans H.out.blk, hf, H.out.k.only ho ⟨H.out.nb, H.out.ng⟩, H.out.link.add _, H.out.ok,
      fun e => (hg _ e).elim H.out.nr (fun e => by have := H.out.lt rb (.inl rfl); omega), fun e => (hg _ e).elim H.out.nb (fun e => by have := H.out.k.lt; omega), fun e => (hg _ e).elim H.out.ng (fun e => by have := H.out.k.lt; omega), H.out.rs, H.out.rg⟩)
    (And.intro (ho.mono (F' := All rb F sb sg) (fun x hx => .inr (.inl hx))) hg))
  clear hf ho hg c0 hadd
  cases q
  · go_wp2_with fail
    go_end0
    refine ⟨F1, BloomRef.radds j.f.seed s.data.toList rl 3, rfl, ?_, H1.out.2⟩
    rw [has_touch_false HQ.out]
    exact H1.out.1
  have c1 : w1.cell? ⟨rb, 1, none⟩ = some (.pointer (some ⟨sb, 0, none⟩)) := Mem.row_cell H1.out.1.blk 1
  obtain ⟨v, hv⟩ : ∃ v, (j.c.add s.data.toList).1 = v := ⟨_, rfl⟩
  have HV := Lib.hid hv
  have hadd := SketchRef.add_any H1.out.1.k H1.out.1.ok s hs
  simp only at hadd
  rw [hv] at hadd
  clear hv
  go_wp2_with fail
  refine hadd.mono ?_
  rintro e w2 ⟨rfl, hk, ho⟩
  have hd : ∀ x, (x = sb ∨ x = sg) → ¬ F1 x ∧ x ≠ rb := fun x hx => by
    rcases hx with rfl | rfl
    · exact ⟨H1.out.1.nb, fun e => H1.out.1.rs e.symm⟩
    · exact ⟨H1.out.1.ng, fun e => H1.out.1.rg e.symm⟩
  have H2 := Lib.hid (And.intro (show RJ w2 rb fb F1 sb sg ⟨j.f.add s.data.toList, (j.c.add s.data.toList).2⟩ (BloomRef.radds j.f.seed s.data.toList rl 3) from
    ⟨(ho.same rb (H1.out.1.lt _ (.inl rfl)) (fun e => (hd _ e).2 rfl)).trans H1.out.1.blk, H1.out.1.f.only ho (fun x hx e => (hd x e).1 hx), hk, H1.out.1.link, H1.out.1.ok.add _, H1.out.1.nr, H1.out.1.nb, H1.out.1.ng, H1.out.1.rs, H1.out.1.rg⟩)
    (H1.out.2.1.trans (ho.mono (F' := All rb F sb sg) (fun x hx => .inr (.inr hx))) (Grows.refl _ _)))
  clear hk ho c1 hadd hd
  cases v
  · go_wp2_with fail
    go_end0
    refine ⟨F1, BloomRef.radds j.f.seed s.data.toList rl 3, rfl, ?_, H2.out.2, H1.out.2.2⟩
    rw [touch_false HQ.out HV.out]
    exact H2.out.1
  have c0 : w2.cell? ⟨rb, 0, none⟩ = some (.pointer (some ⟨fb, 0, none⟩)) := Mem.row_cell H2.out.1.blk 0
  obtain ⟨vv, hvv⟩ := H2.out.1.f
  have cv1 : w2.cell? ⟨fb, 1, none⟩ = some vv := Mem.row_cell hvv.blk 1
  have fv1 := Mem.row_free hvv.blk 1
  have hA4 := hvv.turn (w' := w2) (l' := []) (v' := .slice none 0 0) (fun _ _ _ => rfl) (Nat.le_refl _) (World.ownsRow_nil _ _ _ _) (fun g e => (by cases e))
  have ho4 : Only F1 w2 (w2.setCell ⟨fb, 1, none⟩ (.slice none 0 0)) := (Only.refl F1 w2).setCell (.inl hvv.fb) _
  have hgr : Grows w F (fun x => F1 x ∨ (Value.slice none 0 0).ownBlock = some x) := fun x hx => hx.elim (H1.out.2.2 x) (fun e => by cases e)
  have H3 := Lib.hid (And.intro (show RJ (w2.setCell ⟨fb, 1, none⟩ (.slice none 0 0)) rb fb (fun x => F1 x ∨ (Value.slice none 0 0).ownBlock = some x) sb sg ⟨(j.f.add s.data.toList).clear, (j.c.add s.data.toList).2⟩ [] from
    ⟨(ho4.same rb (H2.out.1.lt _ (.inl rfl)) H2.out.1.nr).trans H2.out.1.blk, ⟨_, hA4⟩, H2.out.1.k.only ho4 ⟨H2.out.1.nb, H2.out.1.ng⟩, BloomRef.Link.clear _, H2.out.1.ok,
      fun e => e.elim H2.out.1.nr (fun e => by cases e), fun e => e.elim H2.out.1.nb (fun e => by cases e), fun e => e.elim H2.out.1.ng (fun e => by cases e), H2.out.1.rs, H2.out.1.rg⟩)
    (And.intro (H2.out.2.trans (F' := All rb F1 sb sg) (ho4.mono (fun x hx => .inr (.inl hx))) (fun x hx => by
      rcases hx with rfl | hx | rfl | rfl
      · exact .inl (.inl rfl)
      · exact (H1.out.2.2 x hx).imp (fun e => .inr (.inl e)) id
      · exact .inl (.inr (.inr (.inl rfl)))
      · exact .inl (.inr (.inr (.inr rfl))))) hgr))
  clear hA4 ho4 hvv hgr
  go_wp2_with fail
  go_end0
  refine ⟨_, [], rfl, ?_, H3.out.2⟩
  rw [touch_true HQ.out HV.out]
  exact H3.out.1
set_option maxRecDepth 100000 in
set_option maxHeartbeats 1000000 in
theorem worth_any {w : World} {rb fb : Nat} {F : Nat → Prop} {sb sg : Nat} {j : St} {rl : List Nat} (h : RJ w rb fb F sb sg j rl) (s : ByteArray) (hs : s.size ≤ maxLen) :
    Calls Tryz.prog 106 #[.pointer (some ⟨rb, 0, none⟩), .string s] w fun e w' => e = .returned (.int .i64 (j.worth s.data.toList : Nat)) ∧ ∃ n, w' = w.drewN n := by
  have H := Lib.hid h
  have c1 : w.cell? ⟨rb, 1, none⟩ = some (.pointer (some ⟨sb, 0, none⟩)) := Mem.row_cell h.blk 1
  have hsm := h.link.small
  clear h
  obtain ⟨q, hq⟩ : ∃ q, j.f.has s.data.toList = q := ⟨_, rfl⟩
  have h15 : j.c.count s.data.toList ≤ 15 := Sketch.cnt_le15 _ _ _ _
  obtain ⟨n, hn⟩ : ∃ n, j.c.count s.data.toList = n := ⟨_, rfl⟩
  rw [hn] at h15
  have HQ := Lib.hid (And.intro hq hn)
  clear hq hn
  go_enter Tryz.func106, Tryz.ntmps106
  go_wp2_with fail
  refine (SketchRef.count_any H.out.k H.out.ok s hs).mono ?_
  rintro e w1 ⟨rfl, d, rfl⟩
  rw [HQ.out.2]
  have c0 : (w.drewN d).cell? ⟨rb, 0, none⟩ = some (.pointer (some ⟨fb, 0, none⟩)) := Mem.row_cell H.out.blk 0
  have hhas := BloomRef.has_any (H.out.drewN d).f (by omega) s hs
  rw [H.out.link.has, HQ.out.1] at hhas
  clear c1
  go_wp2_with fail
  refine hhas.mono ?_
  rintro e w2 ⟨rfl, rfl⟩
  cases q
  · go_wp2_with fail
    go_ret
    exact ⟨Tiny.ret_int (by unfold St.worth; rw [HQ.out.1, HQ.out.2]; rfl), d, rfl⟩
  · go_wp2_with fail
    go_ret
    exact ⟨Tiny.ret_int (by unfold St.worth; rw [HQ.out.1, HQ.out.2]; rfl), d, rfl⟩
theorem admit_any {w : World} {rb fb : Nat} {F : Nat → Prop} {sb sg : Nat} {j : St} {rl : List Nat} (h : RJ w rb fb F sb sg j rl) (s t : ByteArray) (hs : s.size ≤ maxLen) (ht : t.size ≤ maxLen) :
    Calls Tryz.prog 85 #[.pointer (some ⟨rb, 0, none⟩), .string s, .string t] w fun e w' => e = .returned (.bool (j.admit s.data.toList t.data.toList)) ∧ ∃ n, w' = w.drewN n := by
  have H := Lib.hid h
  clear h
  obtain ⟨n, hn⟩ : ∃ n, j.worth s.data.toList = n := ⟨_, rfl⟩
  obtain ⟨m, hm⟩ : ∃ m, j.worth t.data.toList = m := ⟨_, rfl⟩
  have HQ := Lib.hid (And.intro hn hm)
  clear hn hm
  go_enter Tryz.func85, Tryz.ntmps85
  go_wp2_with fail
  refine (worth_any H.out s hs).mono ?_
  rintro e w1 ⟨rfl, d, rfl⟩
  rw [HQ.out.1]
  go_wp2_with fail
  refine (worth_any (H.out.drewN d) t ht).mono ?_
  rintro e w2 ⟨rfl, d2, rfl⟩
  rw [HQ.out.2]
  go_wp2_with fail
  go_ret
  refine ⟨?_, d + d2, by simp [World.drewN]⟩
  unfold St.admit
  rw [HQ.out.1, HQ.out.2]
  rfl
end Go.Proofs.YteonjgnnpgpnnaaGreat.TinyRef

/- The document's own Bytes and Class of layer 7, by their walks. -/
namespace Go.Proofs.YteonjgnnpgpnnaaGreat.Slab
open Go Go.RowKit

set_option maxRecDepth 100000 in
set_option maxHeartbeats 400000 in
theorem rbytes_any (k : Int) (w : World) :
    Calls Tryz.prog 36 #[.int .i64 k] w fun e w' => e = .returned (.int .i64 (bytesI k)) ∧ w = w' := by
  by_cases h0 : k < 0
  · go_enter Tryz.func36, Tryz.ntmps36
    go_wp2
    go_ret
    exact ⟨ret_int (by unfold bytesI; rw [if_pos h0]), rfl⟩
  by_cases h6 : 6 ≤ k
  · go_enter Tryz.func36, Tryz.ntmps36
    go_wp2
    go_ret
    exact ⟨ret_int (by unfold bytesI; rw [if_neg (by omega), if_pos h6]), rfl⟩
  obtain ⟨n, rfl⟩ := Int.eq_ofNat_of_zero_le (by omega : 0 ≤ k)
  have hn : n < 6 := by omega
  clear h0 h6
  have hz : bytesI (0 : Nat) = 64 := by decide
  have hst : ∀ i, i < n → IntKind.i64.wrap (2 * bytesI (i : Nat)) = bytesI ((i + 1 : Nat) : Int) := fun i hi => by
    rw [bytes_at i (by omega), bytes_at (i + 1) (by omega), IntKind.wrap_i64]
    match i, (by omega : i < 6) with
    | 0, _ | 1, _ | 2, _ | 3, _ | 4, _ | 5, _ => decide
  have HS := Lib.hid hst
  clear hst
  go_enter Tryz.func36, Tryz.ntmps36
  go_wp2
  go_loop [3, 4] (fun a i => ∃ k : Nat, i = .int .i64 k ∧ k ≤ n ∧ a = .int .i64 (bytesI k)) (fun _ i => n - (intOf i).toNat)
  case atStart => exact ⟨0, rfl, Nat.zero_le _, by rw [hz]⟩
  case round =>
    obtain ⟨k, rfl, hk, rfl⟩ := hrel
    by_cases hlt : k < n
    · have hs := HS.out k hlt
      generalize bytesI (k : Nat) = x at *
      go_wp2
      go_round
      case rel => exact ⟨k + 1, by go_num, hlt, rfl⟩
      case measure => simp [intOf]; omega
    · have hkn : k = n := by omega
      subst hkn
      obtain ⟨x, hx⟩ : ∃ x, bytesI (k : Nat) = x := ⟨_, rfl⟩
      have HX := Lib.hid hx
      simp only [hx]
      clear hx HS
      go_wp2
      go_ret
      exact ⟨ret_int HX.out.symm, rfl⟩

set_option maxRecDepth 100000 in
set_option maxHeartbeats 400000 in
theorem rclass_any (size : Int) (w : World) :
    Calls Tryz.prog 53 #[.int .i64 size] w fun e w' => e = .returned (.tuple #[.int .i64 (classR size), .int .i64 (classE size)]) ∧ w = w' := by
  have h6 := class_six size
  go_enter Tryz.func53, Tryz.ntmps53
  go_wp2
  go_loop [4] (fun i => ∃ k : Nat, i = .int .i64 k ∧ k ≤ classN size) (fun i => 6 - (intOf i).toNat)
  case atStart => exact ⟨0, rfl, Nat.zero_le _⟩
  case round =>
    obtain ⟨k, rfl, hk⟩ := hrel
    by_cases hlt : k < 6
    · have hc := class_le size k hlt
      have hcl := class_six size
      by_cases hb : size ≤ bytesI k
      · have hkc : classN size = k := by have := hc.1 hb; omega
        have HR : Hid (classR size = (k : Int) ∧ classE size = 0) := by
          unfold classR classE; rw [hkc, if_neg (by omega), if_neg (by omega)]; exact ⟨rfl, rfl⟩
        clear hc hkc hcl hk h6
        go_wp2_with (go_at_call 36; refine (rbytes_any _ _).mono ?_; rintro e w' ⟨rfl, rfl⟩)
        go_ret2
        exact ⟨by rw [HR.out.1, HR.out.2]; rfl, rfl⟩
      · have hk1 : k + 1 ≤ classN size := by
          have : ¬ classN size ≤ k := fun h => hb (hc.2 h)
          omega
        clear hc hcl hk h6
        go_wp2_with (go_at_call 36; refine (rbytes_any _ _).mono ?_; rintro e w' ⟨rfl, rfl⟩)
        go_round
        case rel => exact ⟨k + 1, by go_num, hk1⟩
        case measure => simp [intOf]; omega
    · have hk6 : k = 6 := by omega
      subst hk6
      have HR : Hid (classR size = 0 ∧ classE size = 4) := by
        unfold classR classE; rw [if_pos (by omega), if_pos (by omega)]; exact ⟨rfl, rfl⟩
      clear hk h6
      go_wp2
      go_ret2
      exact ⟨by rw [HR.out.1, HR.out.2]; rfl, rfl⟩
end Go.Proofs.YteonjgnnpgpnnaaGreat.Slab

/- Layer 7's list of calls, as an argument. -/
namespace Go.Proofs.YteonjgnnpgpnnaaGreat.Slab
open Go Go.ChangeShapes Go.WideShapes Go.Deep Go.RowKit Go.Proofs.YteonjgnnpgpnnaaGreat.Ops

structure Op where
  kind : Int
  size : Int
  no : Int
  raw : Bool
  c : Int
  n : Int
def encO (o : Op) : List Value := [.int .i64 o.kind, .int .i64 o.size, .int .i64 o.no, .bool o.raw, .int .i64 o.c, .int .i64 o.n]
def isI (n : Int) : Prop := -9223372036854775808 ≤ n ∧ n ≤ 9223372036854775807
structure OpOk (o : Op) : Prop where
  kind : isI o.kind
  size : isI o.size
  no : isI o.no
  c : isI o.c
  n : isI o.n
theorem isI_of {n : Int} (h : (Lit.int .i64 n).wf = true) : isI n := by simpa [isI, Lit.wf, IntKind.min, IntKind.max, IntKind.signed, IntKind.bits] using h

section
variable {H : Type} {enc : TypeId × Value → H} {w : World} {base : Nat} {spare : Nat → Bool} {held : Bool}
end
end Go.Proofs.YteonjgnnpgpnnaaGreat.Slab

/- A list of chunks that a law keeps: its row, beside the slab's own memory. -/
namespace Go.Proofs.YteonjgnnpgpnnaaGreat.Slab
open Go Go.RowKit Go.Proofs.YteonjgnnpgpnnaaGreat.Mem

def cellsC (xs : List (Int × Int)) : List Value := xs.flatMap fun c => [.int .i64 c.1, .int .i64 c.2]
theorem cellsC_cons (c : Int × Int) (xs : List (Int × Int)) : cellsC (c :: xs) = .int .i64 c.1 :: .int .i64 c.2 :: cellsC xs := rfl
theorem cellsC_app (xs ys : List (Int × Int)) : cellsC (xs ++ ys) = cellsC xs ++ cellsC ys := by simp [cellsC]
theorem cellsC_len (xs : List (Int × Int)) : (cellsC xs).length = xs.length * 2 := by
  induction xs with
  | nil => rfl
  | cons c xs ih => rw [cellsC_cons, List.length_cons, List.length_cons, List.length_cons, ih]; omega
theorem cellsC_get : ∀ (xs : List (Int × Int)) (k : Nat) (c : Int × Int), xs[k]? = some c → (cellsC xs)[k * 2]? = some (.int .i64 c.1) ∧ (cellsC xs)[k * 2 + 1]? = some (.int .i64 c.2)
  | [], k, c, h => by simp at h
  | d :: xs, 0, c, h => by
    simp at h; subst h; exact ⟨rfl, rfl⟩
  | d :: xs, k + 1, c, h => by
    have := cellsC_get xs k c (by simpa using h)
    rw [cellsC_cons]
    refine ⟨?_, ?_⟩
    · rw [show (k + 1) * 2 = k * 2 + 1 + 1 from by omega, List.getElem?_cons_succ, List.getElem?_cons_succ]; exact this.1
    · rw [show (k + 1) * 2 + 1 = k * 2 + 1 + 1 + 1 from by omega, List.getElem?_cons_succ, List.getElem?_cons_succ]; exact this.2

theorem one_cellsC (xs : List (Int × Int)) : ∀ u ∈ cellsC xs, u.oneCell' = true := fun u hu => by
  simp only [cellsC, List.mem_flatMap] at hu
  obtain ⟨c, _, hc⟩ := hu
  rcases List.mem_cons.1 hc with rfl | hc
  · rfl
  · have : u = .int .i64 c.2 := by simpa using hc
    subst this; rfl
structure Row (W0 w : World) (F : Nat → Prop) (v : Value) (xs : List (Int × Int)) : Prop where
  own : w.ownsRow W0.heap.size 77 2 v xs.length (cellsC xs)
  off : ∀ g, v.ownBlock = some g → ¬ F g
theorem ownsRow_lt {w : World} {base : Nat} {e : TypeId} {size n : Nat} {v : Value} {xs : List Value} (h : w.ownsRow base e size v n xs) : ∀ g, v.ownBlock = some g → base ≤ g ∧ g < w.heap.size := fun g e => by
  rcases h.2 with ⟨e1, _⟩ | ⟨g', cap, cur, e1, h2, e2, _⟩
  · rw [e1] at e; cases e
  · rw [e1] at e
    have : g' = g := by simpa [Value.ownBlock] using e
    subst this
    exact ⟨h2, (Array.getElem?_eq_some_iff.1 e2).1⟩
theorem Row.nil (W0 w : World) (F : Nat → Prop) : Row W0 w F (.slice none 0 0) [] := ⟨World.ownsRow_nil _ _ _ _, fun g e => by cases e⟩
section
variable {W0 w w' : World} {F F' : Nat → Prop} {v : Value} {xs : List (Int × Int)}
theorem Row.only (h : Row W0 w F v xs) (ho : Only F w w') (hg : Grows w F F') : Row W0 w' F' v xs :=
  ⟨row_same h.own fun g e => ho.same g (ownsRow_lt h.own g e).2 (h.off g e), fun g e hF => (hg g hF).elim (h.off g e) (fun e' => by have := (ownsRow_lt h.own g e).2; omega)⟩
theorem Row.step (h : Row W0 w F v xs) (hb : Below w.heap.size w w') : Row W0 w' F v xs :=
  ⟨row_same h.own fun g e => hb.block g (ownsRow_lt h.own g e).2, h.off⟩
theorem Row.shape (h : Row W0 w F v xs) : ∃ a cap, v = .slice a xs.length cap := by
  rcases h.own.2 with ⟨e1, e2⟩ | ⟨g, cap, cur, e1, _⟩
  · exact ⟨none, 0, by rw [e1, e2]⟩
  · exact ⟨_, _, e1⟩
/-- The k-th chunk lies in memory. -/
theorem Row.get (h : Row W0 w F v xs) {k : Nat} {c : Int × Int} (hk : xs[k]? = some c) :
    ∃ g cap, v = .slice (some ⟨g, 0, none⟩) xs.length cap ∧ g < w.heap.size ∧ w.cell? ⟨g, k * 2, none⟩ = some (.int .i64 c.1) ∧ w.cell? ⟨g, k * 2 + 1, none⟩ = some (.int .i64 c.2) := by
  have hkl := (List.getElem?_eq_some_iff.1 hk).1
  obtain ⟨n, hn⟩ : ∃ n, xs.length = n + 1 := ⟨xs.length - 1, by omega⟩
  have ho := h.own
  rw [hn] at ho
  obtain ⟨g, cap, cur, e1, _, e2, _, _, e3⟩ := Mem.row_block ho
  obtain ⟨q1, q2⟩ := cellsC_get xs k c hk
  exact ⟨g, cap, by rw [hn]; exact e1, (Array.getElem?_eq_some_iff.1 e2).1, (Mem.row_cell e2 _).trans (e3 _ _ q1), (Mem.row_cell e2 _).trans (e3 _ _ q2)⟩
theorem Run.grown {N b : Nat} {s : St} {row : Option Nat} (h : Run W0 w N b F s) (hg : w.grownBy w' row) (hr : ∀ g, row = some g → ¬ F g ∧ W0.heap.size ≤ g) : Run W0 w' N b F s :=
  ⟨h.at_.same (fun k hk => hg.block k (h.lt k hk) fun e => (hr k e.symm).1 hk) hg.size, h.low,
    ⟨hg.os.trans h.below.os, hg.tape.trans h.below.tape, hg.output.trans h.below.output, Nat.le_trans h.below.size hg.size, fun k hk => (hg.block k (Nat.lt_of_lt_of_le hk h.below.size) fun e => by have := (hr k e.symm).2; omega).trans (h.below.block k hk)⟩, h.good⟩
/-- An appended list, behind an append onto its row. -/
theorem Row.appended {N b : Nat} {s : St} {c : Int × Int} {g cap : Nat} (h : Row W0 w F v xs) (hR : Run W0 w N b F s) (hown : w'.ownsRow W0.heap.size 77 2 (.slice (some ⟨g, 0, none⟩) (xs.length + 1) cap) (xs.length + 1) (cellsC xs ++ [.int .i64 c.1, .int .i64 c.2]))
    (hat : v.ownBlock = some g ∨ w.heap.size ≤ g) : Row W0 w' F (.slice (some ⟨g, 0, none⟩) (xs.length + 1) cap) (xs ++ [c]) :=
  ⟨by rw [List.length_append, cellsC_app]; exact hown, fun g' e hF => by
    have : g = g' := by simpa [Value.ownBlock] using e
    subst this
    exact hat.elim (fun e1 => h.off g e1 hF) (fun e1 => by have := hR.lt g hF; omega)⟩
end
/-- append of whatever lies at an address (none of it, too) onto a row of the call's own, as a step of a region that draws. -/
theorem step_append_own {P : Program} {w : World} {ops : Array Oper} {o : Oper} {a : Act} {K : Act → World → Prop} {Q : Exit → Act → World → Prop} {E : Prop} (hgd : o.guard = none) (s x : Operand) (t : TypeId)
    (ho : o.op = .call { callee := .builtin .append, args := #[s, x], argTypes := #[t, t] })
    (base : Nat) (e : TypeId) (i : TypeInfo) (z : Value) (size bytes : Nat) (ht : P.underlying t = some (.slice e)) (hi : P.info? e = some i) (hz : i.zero = some z)
    (hsize : i.size = size) (hby : i.bytes = bytes) (hzs : z.cells.size = size) (hsz : 0 < size) {v : Value} {n : Nat} {xs : List Value} (hs : a.eval s = v) (hown : w.ownsRow base e size v n xs)
    {ad : Addr} {m c : Nat} {news : List Value} (hx : a.eval x = .slice (some ad) m c) (hl : news.length = m * size) (hc : ∀ j u, news[j]? = some u → w.cell? (ad.add j) = some u) (h1 : ∀ u ∈ news, u.oneCell' = true)
    (h63 : n + m ≤ maxLen) (hbytes : (n + m) * bytes ≤ 140737488355328) (hbase : base ≤ w.heap.size)
    (hK : ∀ v' w', w'.ownsRow base e size v' (n + m) (xs ++ news) → w.grownBy w' v.ownBlock → (v'.ownBlock = v.ownBlock ∨ v'.ownBlock = some w.heap.size) → K (a.put o.dst v') w') :
    if Region.wanted o (yielded ops a.tmps) = true then Oper.wp P o a w K Q else E := by
  rw [if_pos (by simp [Region.wanted, hgd])]
  obtain ⟨v', w', hrun, h2, h3, _, h5⟩ := run_append_own_at (P := P) w base t o.type e i z size bytes ht hi hz hsize hby hzs hsz v n xs hown ad m c news hl hc h1 h63 hbytes hbase
  unfold Oper.wp
  simp [execOp, ho, resolve, invoke, builtin, hs, hx, hrun, Result.andThen]
  exact hK v' w' h2 h3 h5
theorem infoChunk : (Tryz.prog.info? 77).map (fun i => (i.zero, i.size, i.bytes)) = some (some (.agg #[.int .i64 0, .int .i64 0]), 2, 16) := by kernel_rfl
theorem addr_add (g off j : Nat) : (⟨g, off, none⟩ : Addr).add j = ⟨g, off + j, none⟩ := by
  unfold Addr.add
  by_cases h : j = 0
  · subst h; rfl
  · rw [if_neg h]
/-- The chunks ys lie at block g from the cell off on. -/
def ReadsC (w : World) (g off : Nat) (ys : List (Int × Int)) : Prop := ∀ j u, (cellsC ys)[j]? = some u → w.cell? ⟨g, off + j, none⟩ = some u
theorem ReadsC.same {w w' : World} {g off : Nat} {ys : List (Int × Int)} (h : ReadsC w g off ys) (hs : w'.heap[g]? = w.heap[g]?) : ReadsC w' g off ys := fun j u hu => (World.cell?_of_block hs).trans (h j u hu)
theorem Row.reads {W0 w : World} {F : Nat → Prop} {xs : List (Int × Int)} {g n c : Nat} (h : Row W0 w F (.slice (some ⟨g, 0, none⟩) n c) xs) : ReadsC w g 0 xs := fun j u hu => by
  have hlen : 0 < xs.length := by
    rcases Nat.eq_zero_or_pos xs.length with h0 | h0
    · rw [List.eq_nil_of_length_eq_zero h0] at hu; simp [cellsC] at hu
    · exact h0
  obtain ⟨n', hn'⟩ : ∃ n', xs.length = n' + 1 := ⟨xs.length - 1, by omega⟩
  have ho := h.own
  rw [hn'] at ho
  obtain ⟨g1, c1, cur, e1, _, e2, _, _, e3⟩ := Mem.row_block ho
  injection e1 with e1
  injection e1 with e1
  injection e1 with e1
  subst e1
  rw [Nat.zero_add]
  exact (Mem.row_cell e2 _).trans (e3 _ _ hu)
theorem cellsC_take (xs : List (Int × Int)) (k : Nat) : cellsC (xs.take k) = (cellsC xs).take (k * 2) := by
  rcases Nat.lt_or_ge k xs.length with h | h
  · conv => rhs; rw [← List.take_append_drop k xs]
    rw [cellsC_app, List.take_left']
    rw [cellsC_len, List.length_take]; omega
  · rw [List.take_of_length_le h, List.take_of_length_le (by rw [cellsC_len]; omega)]
theorem cellsC_drop (xs : List (Int × Int)) (k : Nat) : cellsC (xs.drop k) = (cellsC xs).drop (k * 2) := by
  rcases Nat.lt_or_ge k xs.length with h | h
  · conv => rhs; rw [← List.take_append_drop k xs]
    rw [cellsC_app, List.drop_left']
    rw [cellsC_len, List.length_take]; omega
  · rw [List.drop_eq_nil_of_le h, List.drop_eq_nil_of_le (by rw [cellsC_len]; omega)]; rfl
theorem ReadsC.take {w : World} {g off : Nat} {ys : List (Int × Int)} (h : ReadsC w g off ys) (k : Nat) : ReadsC w g off (ys.take k) := fun j u hu => h j u (by
  rw [cellsC_take, List.getElem?_take] at hu
  split at hu
  · exact hu
  · cases hu)
theorem ReadsC.drop {w : World} {g off : Nat} {ys : List (Int × Int)} (h : ReadsC w g off ys) (k : Nat) : ReadsC w g (off + k * 2) (ys.drop k) := fun j u hu => by
  rw [cellsC_drop, List.getElem?_drop] at hu
  rw [Nat.add_assoc]; exact h _ u hu
theorem Row.cap {W0 w : World} {F : Nat → Prop} {xs : List (Int × Int)} {a : Option Addr} {n c : Nat} (h : Row W0 w F (.slice a n c) xs) : xs.length ≤ c := by
  rcases h.own.2 with ⟨e1, e2⟩ | ⟨g1, c1, cur, e1, _, _, e2, _⟩
  · omega
  · injection e1 with _ _ e1; omega
/-- append of chunks that lie somewhere onto chunks of the call's own, as a step of a region that draws. -/
theorem step_appC {w : World} {ops : Array Oper} {o : Oper} {a : Act} {K : Act → World → Prop} {Q : Exit → Act → World → Prop} {E : Prop} (s x : Operand) (base : Nat) (v : Value) (xs ys : List (Int × Int)) (g off c : Nat) (hgd : o.guard = none)
    (ho : o.op = .call { callee := .builtin .append, args := #[s, x], argTypes := #[83, 83] }) (hs : a.eval s = v) (hx : a.eval x = .slice (some ⟨g, off, none⟩) ys.length c)
    (hown : w.ownsRow base 77 2 v xs.length (cellsC xs)) (hr : ReadsC w g off ys) (hb : xs.length + ys.length ≤ 1000000000) (hbase : base ≤ w.heap.size)
    (hK : ∀ v' w', w'.ownsRow base 77 2 v' (xs ++ ys).length (cellsC (xs ++ ys)) → w.grownBy w' v.ownBlock → (v'.ownBlock = v.ownBlock ∨ v'.ownBlock = some w.heap.size) → K (a.put o.dst v') w') :
    if Region.wanted o (yielded ops a.tmps) = true then Oper.wp Tryz.prog o a w K Q else E := by
  obtain ⟨i0, hi, hz0, hz1, hz2⟩ := info_parts infoChunk
  exact step_append_own hgd _ _ _ ho base 77 i0 _ 2 16 Tryz.underlying83 hi hz0 hz1 hz2 rfl (by decide) hs hown hx (cellsC_len ys) (fun j u hu => by rw [addr_add]; exact hr j u hu) (one_cellsC ys)
    (by unfold maxLen; omega) (by omega) hbase fun v' w' h1 h2 h3 => hK v' w' (by rw [List.length_append, cellsC_app]; exact h1) h2 h3
end Go.Proofs.YteonjgnnpgpnnaaGreat.Slab

/- A list of error numbers that a law keeps beside the slab and a list of chunks. -/
namespace Go.Proofs.YteonjgnnpgpnnaaGreat.Slab
open Go Go.RowKit Go.Proofs.YteonjgnnpgpnnaaGreat.Mem

def cellsE (xs : List Int) : List Value := xs.map (Value.int .i64)
structure RowE (W0 w : World) (F : Nat → Prop) (v : Value) (xs : List Int) : Prop where
  own : w.ownsRow W0.heap.size 53 1 v xs.length (cellsE xs)
  off : ∀ g, v.ownBlock = some g → ¬ F g
theorem RowE.nil (W0 w : World) (F : Nat → Prop) : RowE W0 w F (.slice none 0 0) [] := ⟨World.ownsRow_nil _ _ _ _, fun g e => by cases e⟩
section
variable {W0 w w' : World} {F F' : Nat → Prop} {v : Value} {xs : List Int}
theorem RowE.only (h : RowE W0 w F v xs) (ho : Only F w w') (hg : Grows w F F') : RowE W0 w' F' v xs :=
  ⟨row_same h.own fun g e => ho.same g (ownsRow_lt h.own g e).2 (h.off g e), fun g e hF => (hg g hF).elim (h.off g e) (fun e' => by have := (ownsRow_lt h.own g e).2; omega)⟩
theorem RowE.step (h : RowE W0 w F v xs) (hb : Below w.heap.size w w') : RowE W0 w' F v xs :=
  ⟨row_same h.own fun g e => hb.block g (ownsRow_lt h.own g e).2, h.off⟩
theorem RowE.shape (h : RowE W0 w F v xs) : ∃ a cap, v = .slice a xs.length cap := by
  rcases h.own.2 with ⟨e1, e2⟩ | ⟨g, cap, cur, e1, _⟩
  · exact ⟨none, 0, by rw [e1, e2]⟩
  · exact ⟨_, _, e1⟩
theorem RowE.get (h : RowE W0 w F v xs) {k : Nat} {c : Int} (hk : xs[k]? = some c) :
    ∃ g cap, v = .slice (some ⟨g, 0, none⟩) xs.length cap ∧ g < w.heap.size ∧ w.cell? ⟨g, k, none⟩ = some (.int .i64 c) := by
  have hkl := (List.getElem?_eq_some_iff.1 hk).1
  obtain ⟨n, hn⟩ : ∃ n, xs.length = n + 1 := ⟨xs.length - 1, by omega⟩
  have ho := h.own
  rw [hn] at ho
  obtain ⟨g, cap, cur, e1, _, e2, _, _, e3⟩ := Mem.row_block ho
  exact ⟨g, cap, by rw [hn]; exact e1, (Array.getElem?_eq_some_iff.1 e2).1, (Mem.row_cell e2 _).trans (e3 _ _ (by simp [cellsE, hk]))⟩
theorem RowE.appended {N b : Nat} {s : St} {c : Int} {g cap : Nat} (h : RowE W0 w F v xs) (hR : Run W0 w N b F s) (hown : w'.ownsRow W0.heap.size 53 1 (.slice (some ⟨g, 0, none⟩) (xs.length + 1) cap) (xs.length + 1) (cellsE xs ++ [.int .i64 c]))
    (hat : v.ownBlock = some g ∨ w.heap.size ≤ g) : RowE W0 w' F (.slice (some ⟨g, 0, none⟩) (xs.length + 1) cap) (xs ++ [c]) :=
  ⟨by rw [List.length_append, show cellsE (xs ++ [c]) = cellsE xs ++ [.int .i64 c] from by simp [cellsE]]; exact hown, fun g' e hF => by
    have : g = g' := by simpa [Value.ownBlock] using e
    subst this
    exact hat.elim (fun e1 => h.off g e1 hF) (fun e1 => by have := hR.lt g hF; omega)⟩
/-- Rows of two types are two blocks. -/
theorem rows_two {base base' : Nat} {e e' : TypeId} {size size' n n' : Nat} {v v' : Value} {xs ys : List Value} (h : w.ownsRow base e size v n xs) (h' : w.ownsRow base' e' size' v' n' ys) (hne : e ≠ e') : ∀ g, v.ownBlock = some g → v'.ownBlock ≠ some g := fun g e1 e2 => by
  rcases h.2 with ⟨q, _⟩ | ⟨g1, cap, cur, q, _, b1, _⟩
  · rw [q] at e1; cases e1
  rcases h'.2 with ⟨q', _⟩ | ⟨g2, cap', cur', q', _, b2, _⟩
  · rw [q'] at e2; cases e2
  rw [q] at e1; rw [q'] at e2
  have h1 : g1 = g := by simpa [Value.ownBlock] using e1
  have h2 : g2 = g := by simpa [Value.ownBlock] using e2
  subst h1; subst h2
  rw [b1] at b2
  injection b2 with b2
  injection b2 with _ b2
  exact hne b2
theorem RowE.grown {row : Option Nat} (h : RowE W0 w F v xs) (hg : w.grownBy w' row) (hr : ∀ g, v.ownBlock = some g → row ≠ some g) : RowE W0 w' F v xs :=
  ⟨row_same h.own fun g e => hg.block g (ownsRow_lt h.own g e).2 (Ne.symm (hr g e)), h.off⟩
theorem Row.grown {ys : List (Int × Int)} {row : Option Nat} (h : Row W0 w F v ys) (hg : w.grownBy w' row) (hr : ∀ g, v.ownBlock = some g → row ≠ some g) : Row W0 w' F v ys :=
  ⟨row_same h.own fun g e => hg.block g (ownsRow_lt h.own g e).2 (Ne.symm (hr g e)), h.off⟩
end
theorem infoErrno : (Tryz.prog.info? 53).map (fun i => (i.zero, i.size, i.bytes)) = some (some (.int .i64 0), 1, 8) := by kernel_rfl
end Go.Proofs.YteonjgnnpgpnnaaGreat.Slab

/- The document's own slab of layer 7: where it lies; New, Used, Has, Fits. -/
namespace Go.Proofs.YteonjgnnpgpnnaaGreat.RefSlab
open Go Go.RowKit Go.Proofs.YteonjgnnpgpnnaaGreat.Slab Go.Proofs.YteonjgnnpgpnnaaGreat.Mem

structure RSt where
  budget : Int
  inn : List (Int × Int)
  gone : List (Int × Int)
  made : Nat → Int
def rnew (budget : Int) : RSt := { budget, inn := [], gone := [], made := fun _ => 0 }
def rcells (r : RSt) (vi vg : Value) (gm : Nat) : Array Value := #[.int .i64 r.budget, vi, vg, .slice (some ⟨gm, 0, none⟩) 6 6]
def mcells (r : RSt) : Array Value := #[.int .i64 (r.made 0), .int .i64 (r.made 1), .int .i64 (r.made 2), .int .i64 (r.made 3), .int .i64 (r.made 4), .int .i64 (r.made 5)]
structure RAtW (w : World) (b : Nat) (F : Nat → Prop) (r : RSt) (vi vg : Value) (gm : Nat) : Prop where
  blk : w.heap[b]? = some (.cells (rcells r vi vg gm) 86 (0, 0))
  mad : w.heap[gm]? = some (.cells (mcells r) 3 (0, 0))
  ri : w.ownsRow 0 77 2 vi r.inn.length (cellsC r.inn)
  rg : w.ownsRow 0 77 2 vg r.gone.length (cellsC r.gone)
  fb : F b
  fm : F gm
  fi : ∀ g, vi.ownBlock = some g → F g
  fg : ∀ g, vg.ownBlock = some g → F g
  apart : ∀ g, vi.ownBlock = some g → vg.ownBlock ≠ some g
  lt : ∀ k, F k → k < w.heap.size
def RAt (w : World) (b : Nat) (F : Nat → Prop) (r : RSt) : Prop := ∃ vi vg gm, RAtW w b F r vi vg gm
section
variable {w w' : World} {b : Nat} {F : Nat → Prop} {r : RSt} {vi vg : Value} {gm : Nat}
theorem RAtW.same (h : RAtW w b F r vi vg gm) (hs : ∀ k, F k → w'.heap[k]? = w.heap[k]?) (hz : w.heap.size ≤ w'.heap.size) : RAtW w' b F r vi vg gm :=
  ⟨(hs _ h.fb).trans h.blk, (hs _ h.fm).trans h.mad, row_same h.ri fun g e => hs g (h.fi g e), row_same h.rg fun g e => hs g (h.fg g e), h.fb, h.fm, h.fi, h.fg, h.apart, fun k hk => Nat.lt_of_lt_of_le (h.lt k hk) hz⟩
theorem RAt.same (h : RAt w b F r) (hs : ∀ k, F k → w'.heap[k]? = w.heap[k]?) (hz : w.heap.size ≤ w'.heap.size) : RAt w' b F r := by
  obtain ⟨vi, vg, gm, h⟩ := h
  exact ⟨vi, vg, gm, h.same hs hz⟩
theorem RAt.lt (h : RAt w b F r) : ∀ k, F k → k < w.heap.size := by obtain ⟨_, _, _, h⟩ := h; exact h.lt
theorem RAt.below (h : RAt w b F r) (ho : Below w.heap.size w w') : RAt w' b F r := h.same (fun k hk => ho.block k (h.lt k hk)) ho.size
theorem RAt.only {G : Nat → Prop} (h : RAt w b F r) (ho : Only G w w') (hd : ∀ k, F k → ¬ G k) : RAt w' b F r := h.same (fun k hk => ho.same k (h.lt k hk) (hd k hk)) ho.size
end

theorem infoInt : (Tryz.prog.info? 3).map (fun i => (i.zero, i.size, i.bytes)) = some (some (.int .i64 0), 1, 8) := by kernel_rfl
theorem made6 : madeCells (Value.int .i64 0).cells (Int.toNat 6 * 1) = mcells (rnew 0) := by kernel_rfl
theorem make6 (w : World) : (Instr.makeSlice 84 (.int .i64 6) (.int .i64 6)).run Tryz.prog w = .ok (.slice (some ⟨w.heap.size, 0, none⟩) 6 6) (w.alloc (.cells (mcells (rnew 0)) 3)) := by
  obtain ⟨i0, hi, hz0, hz1, hz2⟩ := info_parts infoInt
  have := run_makeSlice (P := Tryz.prog) (w := w) 84 3 i0 _ Tryz.underlying84 hi hz0 .i64 .i64 6 6 (by decide) (by decide) (by rw [hz1]; decide) (by rw [hz2]; decide) (by decide)
  rw [this, hz1, made6]
  rfl

set_option maxRecDepth 100000 in
set_option maxHeartbeats 400000 in
theorem new_any (budget : Int) (w : World) : Calls Tryz.prog 23 #[.int .i64 budget] w fun e w' =>
    e = .returned (.pointer (some ⟨w.heap.size + 1, 0, none⟩)) ∧ w' = (w.alloc (.cells (mcells (rnew 0)) 3)).alloc (.cells (rcells (rnew budget) (.slice none 0 0) (.slice none 0 0) w.heap.size) 86) := by
  have hmk := make6
  go_enter Tryz.func23, Tryz.ntmps23
  go_wp2
  go_ret
  exact ⟨rfl, rfl⟩
theorem new_gives (budget : Int) (w : World) : Calls Tryz.prog 23 #[.int .i64 budget] w fun e w' =>
    ∃ (b : Nat) (F : Nat → Prop), e = .returned (.pointer (some ⟨b, 0, none⟩)) ∧ RAt w' b F (rnew budget) ∧ (∀ k, F k → w.heap.size ≤ k) ∧ Below w.heap.size w w' :=
  (new_any budget w).mono fun e w' ⟨he, hw⟩ => by
    subst hw
    refine ⟨_, fun k => k = w.heap.size ∨ k = w.heap.size + 1, he, ⟨.slice none 0 0, .slice none 0 0, w.heap.size, Mem.new_block2 w _ _, Mem.new_later (Mem.new_block w _) _, World.ownsRow_nil _ _ _ _, World.ownsRow_nil _ _ _ _, .inr rfl, .inl rfl, fun g e => (by cases e), fun g e => (by cases e), fun g e => (by cases e), ?_⟩, fun k hk => by omega, Mem.al (Mem.al (Below.refl _ _) _) _⟩
    rintro k (rfl | rfl) <;> simp <;> omega

/-- The cells of a row, read at an index. -/
theorem row_at {w : World} {v : Value} {xs : List (Int × Int)} (h : w.ownsRow 0 77 2 v xs.length (cellsC xs)) {k : Nat} {c : Int × Int} (hk : xs[k]? = some c) :
    ∃ g cap, v = .slice (some ⟨g, 0, none⟩) xs.length cap ∧ w.cell? ⟨g, k * 2, none⟩ = some (.int .i64 c.1) ∧ w.cell? ⟨g, k * 2 + 1, none⟩ = some (.int .i64 c.2) := by
  have hkl := (List.getElem?_eq_some_iff.1 hk).1
  obtain ⟨n, hn⟩ : ∃ n, xs.length = n + 1 := ⟨xs.length - 1, by omega⟩
  have ho := h
  rw [hn] at ho
  obtain ⟨g, cap, cur, e1, _, e2, _, _, e3⟩ := Mem.row_block ho
  obtain ⟨q1, q2⟩ := cellsC_get xs k c hk
  exact ⟨g, cap, by rw [hn]; exact e1, (Mem.row_cell e2 _).trans (e3 _ _ q1), (Mem.row_cell e2 _).trans (e3 _ _ q2)⟩
theorem row_shape {w : World} {v : Value} {xs : List (Int × Int)} (h : w.ownsRow 0 77 2 v xs.length (cellsC xs)) : ∃ a cap, v = .slice a xs.length cap := by
  rcases h.2 with ⟨e1, e2⟩ | ⟨g, cap, cur, e1, _⟩
  · exact ⟨none, 0, by rw [e1, e2]⟩
  · exact ⟨_, _, e1⟩

set_option maxRecDepth 100000 in
set_option maxHeartbeats 1000000 in
theorem used_any {w : World} {b : Nat} {F : Nat → Prop} {r : RSt} (h : RAt w b F r) (hl : r.inn.length ≤ 1000000) :
    Calls Tryz.prog 12 #[.pointer (some ⟨b, 0, none⟩)] w fun e w' => e = .returned (.int .i64 (total r.inn)) ∧ w = w' := by
  obtain ⟨vi, vg, gm, h⟩ := h
  obtain ⟨ya, yc, hv⟩ := row_shape h.ri
  have c1 : w.cell? ⟨b, 1, none⟩ = some vi := Mem.row_cell h.blk 1
  have HR := Lib.hid h.ri
  have hmax : ∀ j, total (r.inn.take j) ≤ 2048 * j := fun j => by
    induction j with
    | zero => simp [total]
    | succ j ih =>
      rcases hc : r.inn[j]? with _ | c
      · rw [List.take_add_one, hc]; simp; omega
      · rw [total_take hc]; have := bytes_range c.1; omega
  have HM := Lib.hid hmax
  clear h hmax
  subst hv
  go_enter Tryz.func12, Tryz.ntmps12
  go_wp2
  go_loopg [3, 4] r.inn.length (fun g n i wr => ∃ j : Nat, n = .int .i64 (total (r.inn.take j)) ∧ i = .int .i64 j ∧ g + j = r.inn.length ∧ wr = w)
  case atStart => exact ⟨0, rfl, rfl, by omega, rfl⟩
  case round =>
    obtain ⟨j, rfl, rfl, hg, rfl⟩ := hrel
    have HG3 := Lib.hid hg
    have htl := total_le r.inn j
    by_cases hj : j < r.inn.length
    · obtain ⟨⟨cj, nj⟩, hcj⟩ : ∃ q, r.inn[j]? = some q := ⟨_, List.getElem?_eq_getElem hj⟩
      obtain ⟨g', cap', hya, z0, z1⟩ := row_at HR.out hcj
      injection hya with hya hle hyc
      clear hle
      subst hya hyc
      have hji : (j : Int) < r.inn.length := by omega
      have htk := total_take hcj
      have htl1 := total_le r.inn (j + 1)
      have hmx := HM.out (j + 1)
      have hbr := bytes_range cj
      have hB := fun w => rbytes_any cj w
      simp only at htk
      have hwr : IntKind.i64.wrap (total (r.inn.take j) + bytesI cj) = total (r.inn.take (j + 1)) := by rw [htk, IntKind.wrap_i64]; omega
      have HT := Lib.hid hwr
      clear hg hcj htk htl1 hwr
      generalize total (r.inn.take j) = t at *
      generalize bytesI cj = bc at *
      go_wp2_with (refine (hB _).mono ?_; rintro e w' ⟨rfl, rfl⟩)
      go_roundg (r.inn.length - (j + 1))
      case measure => have := HG3.out; omega
      case rel => exact ⟨j + 1, congrArg (Value.int .i64) ((IntWalk.i64_left _).symm.trans HT.out), by go_num, by have := HG3.out; omega, rfl⟩
    · have hjl : j = r.inn.length := by omega
      have hjs : (r.inn.length : Int) ≤ j := by omega
      have htt : total (r.inn.take j) = total r.inn := by rw [hjl, List.take_length]
      rw [htt]
      clear hg htl htt hjl
      obtain ⟨u, hu⟩ : ∃ u, total r.inn = u := ⟨_, rfl⟩
      have HU := Lib.hid hu
      simp only [hu]
      clear hu
      go_wp2
      go_ret
      exact ⟨ret_int HU.out.symm, rfl⟩
end Go.Proofs.YteonjgnnpgpnnaaGreat.RefSlab

/- The walks of the slab's number, Fits, Take, Free. -/
namespace Go.Proofs.YteonjgnnpgpnnaaGreat.Slab
open Go Go.RowKit Go.Proofs.YteonjgnnpgpnnaaGreat.Mem

/-- What number comes to. -/
def NumberPost (w : World) (b : Nat) (F : Nat → Prop) (s : St) (k : Nat) (e : Ending) (w' : World) : Prop :=
  e = .returned (.int .i64 (s.number k).1) ∧ At w' b F (s.number k).2 ∧ Only F w w'

theorem AtW.setGone {w : World} {b : Nat} {F : Nat → Prop} {s : St} {mb : Nat} {gv : Nat → Value} (h : AtW w b F s mb gv) {k : Nat} (hk : k < 6) (v : Value) (l : List Int)
    (hv : w.ownsRow 0 3 1 v l.length (l.map (Value.int .i64))) (hown : v.ownBlock = (gv k).ownBlock ∨ v.ownBlock = none) :
    AtW (w.setCell ⟨b, 3 + k, none⟩ v) b F { s with gone := put s.gone k l } mb (put gv k v) := by
  have hsame : ∀ j, j ≠ b → (w.setCell ⟨b, 3 + k, none⟩ v).heap[j]? = w.heap[j]? := fun j hj => Below.heap_setCell _ _ _ _ hj
  have hvb : v.ownBlock ≠ some b := fun e => by
    rcases hown with h1 | h1
    · exact h.row_ne hk (h1 ▸ e)
    · rw [h1] at e; cases e
  refine ⟨?_, h.map.same (hsame _ h.map_ne), fun j hj => ?_, h.fb, h.fm, fun j hj g e => ?_, fun i j hi hj hij g e e' => ?_, fun j hj => Nat.lt_of_lt_of_le (h.lt j hj) (by simp [World.setCell])⟩
  · have := Mem.row_set h.blk (3 + k) v
    rwa [cells_set_gone k hk v l] at this
  · by_cases hjk : j = k
    · subst hjk
      simp only [put_same]
      exact row_same hv fun g e => hsame g (fun e' => hvb (e' ▸ e))
    · simp only [put_other _ _ hjk]
      exact row_same (h.rows j hj) fun g e => hsame g (fun e' => h.row_ne hj (e' ▸ e))
  · by_cases hjk : j = k
    · subst hjk
      rw [put_same] at e
      rcases hown with h1 | h1
      · exact h.fr j hj g (h1 ▸ e)
      · rw [h1] at e; cases e
    · rw [put_other _ _ hjk] at e
      exact h.fr j hj g e
  · by_cases hik : i = k
    · subst hik
      rw [put_same] at e
      rw [put_other _ _ (Ne.symm hij)] at e'
      rcases hown with h1 | h1
      · exact h.apart i j hi hj hij g (h1 ▸ e) e'
      · rw [h1] at e; cases e
    · rw [put_other _ _ hik] at e
      by_cases hjk : j = k
      · subst hjk
        rw [put_same] at e'
        rcases hown with h1 | h1
        · exact h.apart i j hi hj hij g e (h1 ▸ e')
        · rw [h1] at e'; cases e'
      · rw [put_other _ _ hjk] at e'
        exact h.apart i j hi hj hij g e e'
/-- A store into one of the struct's own plain cells. -/
theorem AtW.setOwn {w : World} {b : Nat} {F : Nat → Prop} {s t : St} {mb : Nat} {gv : Nat → Value} (h : AtW w b F s mb gv) (i : Nat) (v : Value) (hc : (cells s mb gv).setIfInBounds i v = cells t mb gv)
    (hi : t.inn = s.inn) (hg : t.gone = s.gone) : AtW (w.setCell ⟨b, i, none⟩ v) b F t mb gv := by
  have hsame : ∀ j, j ≠ b → (w.setCell ⟨b, i, none⟩ v).heap[j]? = w.heap[j]? := fun j hj => Below.heap_setCell _ _ _ _ hj
  refine ⟨?_, ?_, fun j hj => ?_, h.fb, h.fm, h.fr, h.apart, fun j hj => Nat.lt_of_lt_of_le (h.lt j hj) (by simp [World.setCell])⟩
  · have := Mem.row_set h.blk i v
    rwa [hc] at this
  · rw [hi]; exact h.map.same (hsame _ h.map_ne)
  · rw [hg]; exact row_same (h.rows j hj) fun g e => hsame g (fun e' => h.row_ne hj (e' ▸ e))

theorem number_none {s : St} {k : Nat} (h : s.gone k = []) : s.number k = (s.made k, { s with made := put s.made k (s.made k + 1) }) := by unfold St.number; rw [h]; rfl
theorem number_some {s : St} {k : Nat} (h : s.gone k ≠ []) : s.number k = ((s.gone k).getLast h, { s with gone := put s.gone k (s.gone k).dropLast }) := by
  unfold St.number; rw [List.getLast?_eq_some_getLast h]

set_option maxRecDepth 100000 in
set_option maxHeartbeats 1000000 in
theorem number_new {w : World} {b : Nat} {F : Nat → Prop} {s : St} (h : At w b F s) (k : Nat) (hk : k < 6) (m0 : 0 ≤ s.made k) (m1 : s.made k ≤ 1099511627776) (hg : s.gone k = []) :
    Calls Tryz.prog 78 #[.pointer (some ⟨b, 0, none⟩), .int .i64 k] w (NumberPost w b F s k) := by
  obtain ⟨mb, gv, h⟩ := h
  have ck : w.cell? ⟨b, 3 + k, none⟩ = some (gv k) := (Mem.row_cell h.blk (3 + k)).trans (cells_gone k hk)
  have cm : w.cell? ⟨b, 9 + k, none⟩ = some (.int .i64 (s.made k)) := (Mem.row_cell h.blk (9 + k)).trans (cells_made k hk)
  have fm := Mem.row_free h.blk (9 + k)
  obtain ⟨A, c, hv⟩ : ∃ A c, gv k = .slice A 0 c := by
    have hr := h.rows k hk
    rw [hg] at hr
    rcases hr.2 with ⟨e1, _⟩ | ⟨g, cap, cur, e1, _⟩
    · exact ⟨_, _, e1⟩
    · exact ⟨_, _, e1⟩
  rw [hv] at ck
  have hk0 : (0 : Int) ≤ k := by omega
  have hk6 : (k : Int) < 6 := by omega
  have hfin : ∀ w', w' = (w.setCell ⟨b, 9 + k, none⟩ (.int .i64 (s.made k + 1))).drew → NumberPost w b F s k (.returned (.int .i64 (s.made k))) w' := fun w' e => by
    subst e
    unfold NumberPost
    rw [number_none hg]
    exact ⟨rfl, At.same (w := w.setCell ⟨b, 9 + k, none⟩ (.int .i64 (s.made k + 1))) ⟨mb, gv, h.setOwn (t := { s with made := put s.made k (s.made k + 1) }) (9 + k) _ (cells_set_made k hk _) rfl rfl⟩ (fun _ _ => rfl) (Nat.le_refl _), ((Only.refl F w).setCell (.inl h.fb) _).drew⟩
  have hmk : s.made k + 1 - 1 = s.made k := by omega
  generalize s.made k = m at *
  clear hv h hg
  have HK := Lib.hid hmk
  clear hmk hk
  go_enter Tryz.func78, Tryz.ntmps78
  go_wp2
  refine wp_region_still_tail 10 (by kernel_rfl) (by kernel_rfl) ?_
  simp only [List.take_succ_cons, List.take_zero, List.drop_succ_cons, List.drop_zero]
  repeat still_step
  refine wpStill_nil ?_
  change wpList _ _ _ _ _ w.drew
  go_wp2
  go_ret
  exact hfin _ rfl

theorem row_pop {w : World} {base : Nat} {e : TypeId} {g n cap : Nat} {xs : List Value} (h : w.ownsRow base e 1 (.slice (some ⟨g, 0, none⟩) (n + 1) cap) (n + 1) xs) : w.ownsRow base e 1 (.slice (some ⟨g, 0, none⟩) n cap) n xs.dropLast := by
  have hl : xs.length = n + 1 := by have := h.1; omega
  refine ⟨by simp [hl], ?_⟩
  rcases h.2 with ⟨h1, _⟩ | ⟨g', cap', cur, h1, h2, h3, h4, h5, h6, h7⟩
  · cases h1
  · injection h1 with e1 _ e2
    injection e1 with e1
    injection e1 with e1
    subst e1; subst e2
    refine .inr ⟨g, cap, cur, rfl, h2, h3, by omega, h5, h6, ?_⟩
    rw [← h7, List.dropLast_eq_take, List.length_take, List.take_take]
    have : cur.toList.length = cap := by simp [h6]
    rw [this]
    congr 1
    omega

set_option maxRecDepth 100000 in
set_option maxHeartbeats 1000000 in
theorem number_old {w : World} {b : Nat} {F : Nat → Prop} {s : St} (h : At w b F s) (k : Nat) (hk : k < 6) (hg : s.gone k ≠ []) (hlen : (s.gone k).length ≤ 1099511627776) :
    Calls Tryz.prog 78 #[.pointer (some ⟨b, 0, none⟩), .int .i64 k] w (NumberPost w b F s k) := by
  obtain ⟨mb, gv, h⟩ := h
  obtain ⟨n, hn⟩ : ∃ n, (s.gone k).length = n + 1 := ⟨(s.gone k).length - 1, by have := List.length_pos_iff.2 hg; omega⟩
  have hr := h.rows k hk
  rw [hn] at hr hlen
  obtain ⟨g, cap, cur, hv, _, hgb, hcap, hcap', hcur⟩ := Mem.row_block hr
  have ck : w.cell? ⟨b, 3 + k, none⟩ = some (gv k) := (Mem.row_cell h.blk (3 + k)).trans (cells_gone k hk)
  have fk := Mem.row_free h.blk (3 + k)
  have hlast : ((s.gone k).map (Value.int .i64))[n]? = some (.int .i64 ((s.gone k).getLast hg)) := by
    rw [List.getElem?_map, List.getLast_eq_getElem, List.getElem?_eq_getElem (by omega)]
    simp [hn]
  have hgb' : g ≠ b := fun e => h.row_ne hk (by rw [hv, e]; rfl)
  have cl : (w.setCell ⟨b, 3 + k, none⟩ (.slice (some ⟨g, 0, none⟩) n cap)).cell? ⟨g, n, none⟩ = some (.int .i64 ((s.gone k).getLast hg)) := by
    rw [World.cell?_setCell_other _ _ _ _ (by intro e; injection e with e1; exact hgb' e1.symm)]
    exact (Mem.row_cell hgb n).trans (hcur n _ hlast)
  have hk0 : (0 : Int) ≤ k := by omega
  have hk6 : (k : Int) < 6 := by omega
  have hfin : ∀ w', w' = (w.setCell ⟨b, 3 + k, none⟩ (.slice (some ⟨g, 0, none⟩) n cap)).drew → NumberPost w b F s k (.returned (.int .i64 ((s.gone k).getLast hg))) w' := fun w' e => by
    subst e
    unfold NumberPost
    rw [number_some hg]
    rw [hv] at hr
    have hrow := row_pop hr
    refine ⟨rfl, At.same (w := w.setCell ⟨b, 3 + k, none⟩ (.slice (some ⟨g, 0, none⟩) n cap)) ⟨mb, _, h.setGone hk _ (s.gone k).dropLast ?_ (.inl (by rw [hv]; rfl))⟩ (fun _ _ => rfl) (Nat.le_refl _), ((Only.refl F w).setCell (.inl h.fb) _).drew⟩
    rw [List.length_dropLast, hn, List.map_dropLast]
    exact hrow
  rw [hv] at ck
  generalize (s.gone k).getLast hg = x at *
  have HN := Lib.hid hn
  have hw1 : IntKind.i64.wrap (n : Int) = n := by rw [IntKind.wrap_i64]; omega
  have hw2 : (n : Int) ≤ cap := by omega
  have hw3 : (0 : Int) ≤ n := by omega
  clear hr hv h hgb hcur hlast hn
  go_enter Tryz.func78, Tryz.ntmps78
  go_wp2
  refine wp_region_still_tail 10 (by kernel_rfl) (by kernel_rfl) ?_
  simp only [List.take_succ_cons, List.take_zero, List.drop_succ_cons, List.drop_zero]
  repeat still_step
  refine wpStill_nil ?_
  change wpList _ _ _ _ _ w.drew
  go_wp2
  go_ret
  exact hfin _ rfl

theorem number_any {w : World} {b : Nat} {F : Nat → Prop} {s : St} (h : At w b F s) {N : Nat} (hs : Small N s) (hN : N ≤ 1099511627776) (k : Nat) (hk : k < 6) :
    Calls Tryz.prog 78 #[.pointer (some ⟨b, 0, none⟩), .int .i64 k] w (NumberPost w b F s k) := by
  by_cases hg : s.gone k = []
  · exact number_new h k hk (hs.m0 k) (by have := hs.m1 k; omega) hg
  · exact number_old h k hk hg (Nat.le_trans (hs.g k) hN)

theorem classE_ok {size : Int} (h : classN size < 6) : classE size = 0 ∧ classR size = (classN size : Nat) := by unfold classE classR; rw [if_neg (by omega), if_neg (by omega)]; exact ⟨rfl, rfl⟩
theorem classE_no {size : Int} (h : classN size = 6) : classE size = 4 ∧ classR size = 0 := by unfold classE classR; rw [if_pos h, if_pos h]; exact ⟨rfl, rfl⟩

set_option maxRecDepth 100000 in
set_option maxHeartbeats 1000000 in
theorem fits_any {w : World} {b : Nat} {F : Nat → Prop} {s : St} (h : At w b F s) {N : Nat} (hs : Small N s) (hN : N ≤ 1099511627776) (size less : Int) (hl : -9223372036854775808 ≤ less ∧ less ≤ 9223372036854775807) :
    Calls Tryz.prog 72 #[.pointer (some ⟨b, 0, none⟩), .int .i64 size, .int .i64 less] w fun e w' => e = .returned (.bool (s.fits size less)) ∧ ∃ n, w' = w.drewN n := by
  obtain ⟨mb, gv, h⟩ := h
  have c0 : w.cell? ⟨b, 0, none⟩ = some (.int .i64 s.budget) := Mem.row_cell h.blk 0
  have c1 : w.cell? ⟨b, 1, none⟩ = some (.int .i64 s.used) := Mem.row_cell h.blk 1
  have u0 := hs.u0
  have u1 : s.used ≤ 2251799813685248 := by have := hs.u1; omega
  obtain ⟨l0, l1⟩ := hl
  clear h hs
  by_cases h6 : classN size = 6
  · have hr : s.fits size less = false := by unfold St.fits; simp [h6]
    rw [hr]
    have e0 : (classE size == 0) = false := by rw [(classE_no h6).1]; rfl
    clear h6 hr
    go_enter Tryz.func72, Tryz.ntmps72
    go_wp2_with (go_at_call 38; refine (class_any _ _).mono ?_; rintro e w' ⟨rfl, rfl⟩)
    go_quiet (fail)
    go_wp2
    go_ret
    exact ⟨rfl, _, rfl⟩
  have hc := class_six size
  have e0 : (classE size == 0) = true := by rw [(classE_ok (by omega)).1]; rfl
  have er : classR size = (classN size : Nat) := (classE_ok (by omega)).2
  have hb := bytes_range (classN size : Nat)
  by_cases h0 : 0 ≤ less
  case neg =>
    have hr : s.fits size less = false := by unfold St.fits; simp; intros; omega
    rw [hr]
    have d0 : decide ((0 : Int) ≤ less) = false := by simpa using h0
    clear h6 hr er hb hc h0
    go_enter Tryz.func72, Tryz.ntmps72
    go_wp2_with (go_at_call 38; refine (class_any _ _).mono ?_; rintro e w' ⟨rfl, rfl⟩)
    go_quiet (fail)
    go_wp2
    go_ret
    exact ⟨rfl, _, rfl⟩
  have d0 : decide ((0 : Int) ≤ less) = true := by simpa using h0
  by_cases h1 : less ≤ s.used
  case neg =>
    have hr : s.fits size less = false := by unfold St.fits; simp; intros; omega
    rw [hr]
    have d1 : decide (less ≤ s.used) = false := by simpa using h1
    clear h6 hr er hb hc h1
    go_enter Tryz.func72, Tryz.ntmps72
    go_wp2_with (go_at_call 38; refine (class_any _ _).mono ?_; rintro e w' ⟨rfl, rfl⟩)
    go_quiet (fail)
    go_wp2
    go_ret
    exact ⟨rfl, _, rfl⟩
  have d1 : decide (less ≤ s.used) = true := by simpa using h1
  have hr : s.fits size less = decide (s.used - less + bytesI (classR size) ≤ s.budget) := by
    unfold St.fits; rw [er]
    by_cases hx : s.used - less + bytesI ((classN size : Nat) : Int) ≤ s.budget
    · simp [hx, h0, h1]; omega
    · simp [hx]
  rw [hr]
  rw [← er] at hb
  obtain ⟨hb0, hb1⟩ := hb
  have w1 : IntKind.i64.wrap (s.used - less) = s.used - less := by rw [IntKind.wrap_i64]; omega
  have w2 : IntKind.i64.wrap (s.used - less + bytesI (classR size)) = s.used - less + bytesI (classR size) := by rw [IntKind.wrap_i64]; omega
  clear h6 hr er hc
  go_enter Tryz.func72, Tryz.ntmps72
  go_wp2_with (go_at_call 38; refine (class_any _ _).mono ?_; rintro e w' ⟨rfl, rfl⟩)
  go_quiet ((go_at_call 69; exact Calls.quiet_of_same ((bytes_any _ _).mono fun _ _ ⟨h, e⟩ => ⟨h, e.symm⟩)))
  go_wp2
  go_ret
  exact ⟨rfl, _, rfl⟩
end Go.Proofs.YteonjgnnpgpnnaaGreat.Slab

