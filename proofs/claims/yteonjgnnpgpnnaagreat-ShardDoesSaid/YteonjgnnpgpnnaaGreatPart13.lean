/- Part13: ShardA, ShardL4, RefSh9, Op11, ShardL3, ShardL5, ShardL6, ShardL2, RefSh10, ShardL7, Same8, RefSh11, RefSh12, RefSh13, one behind the other. -/
import Derived.Test.YteonjgnnpgpnnaaGreatPart3
import Derived.Test.YteonjgnnpgpnnaaGreatPart12
import Derived.Test.YteonjgnnpgpnnaaGreatPart6
import Derived.Test.YteonjgnnpgpnnaaGreatPart11
import Derived.Test.YteonjgnnpgpnnaaGreatPart2
import Derived.Deep.LoopGhost
import Derived.Laws.BytesArg
import Derived.Laws.IdiomStrings
import Derived.BigQuiet
/- Layer 11, plain: the chapter's example. -/
namespace Go.Proofs.YteonjgnnpgpnnaaGreat.Shard
open Go

def itemK (c : UInt8) : Item := ⟨⟨#[c]⟩, [], 0, 0, 0, 0, 0, false, false, false⟩
def env1 : Env := ⟨1, 0, 0, 0⟩
section
variable {s : St} {it : Item} {env : Env} {fresh : Nat}
theorem find_miss (h : Tab.get s.tab.L it.key = none) : s.find it.key env = (none, s.tick) := by unfold St.find; rw [h]
theorem roomed_miss (h : Tab.get s.tab.L it.key = none) : s.roomed it env = St.room it false 0 env (s.order.all.length + 1) s.tick := by
  unfold St.roomed
  rw [find_miss h]
  rfl
theorem store_eq (h6 : Slab.classN it.size < 6) : s.store fresh it env = if (s.roomed it env).1 = 0 then (0, (s.roomed it env).2.stored (s.find it.key env).1 fresh it) else s.roomed it env := by
  have e0 : s.store fresh it env = if Slab.classN it.size = 6 then (4, s) else if (s.roomed it env).1 = 0 then (0, (s.roomed it env).2.stored (s.find it.key env).1 fresh it) else s.roomed it env := rfl
  rw [e0, if_neg (by omega)]
/-- A new key that fits. -/
theorem store_new (h : Tab.get s.tab.L it.key = none) (h6 : Slab.classN it.size < 6) (hf : s.slab.fits it.size 0 = true) : s.store fresh it env = (0, (s.tick.added it.key fresh).fill fresh it) := by
  rw [store_eq h6, roomed_miss h, find_miss h, St.room, if_pos (show s.tick.slab.fits it.size 0 = true from hf)]
  rfl
/-- A new key that is worth less. -/
theorem store_lost {v : ByteArray} {x : Nat} (h : Tab.get s.tab.L it.key = none) (h6 : Slab.classN it.size < 6) (hf : s.slab.fits it.size 0 = false) (hv : s.order.victim it.key = some v) (hx : Tab.get s.tab.L v = some x) (hl : (s.ent x).it.live env = true) (ha : s.judge.admit it.key.data.toList v.data.toList = false) :
    s.store fresh it env = (8, s.tick.tick) := by
  have hr : s.roomed it env = (8, s.tick.tick) := by
    rw [roomed_miss h]
    rcases room_cases (it := it) (old := false) (less := 0) (env := env) s.order.all.length s.tick with ⟨e, _⟩ | ⟨_, e, _⟩ | ⟨_, v', e, _, _, ⟨e2, _⟩ | ⟨x', e2, ⟨e3, _⟩ | ⟨_, _, _, e3⟩⟩⟩
    · replace e : s.slab.fits it.size 0 = true := e
      rw [hf] at e; cases e
    · replace e : s.order.victim it.key = none := e
      rw [hv] at e; cases e
    · replace e : s.order.victim it.key = some v' := e
      rw [hv] at e; injection e with e; subst e
      replace e2 : Tab.get s.tab.L v = none := e2
      rw [hx] at e2; cases e2
    · replace e : s.order.victim it.key = some v' := e
      rw [hv] at e; injection e with e; subst e
      replace e2 : Tab.get s.tab.L v = some x' := e2
      rw [hx] at e2; injection e2 with e2; subst e2
      replace e3 : false = true ∨ (s.ent x).it.live env = false ∨ s.judge.admit it.key.data.toList v.data.toList = true := e3
      rw [hl, ha] at e3; simp at e3
    · exact e3
  rw [store_eq h6, hr]
  rfl
/-- A new key that is worth more than one. -/
theorem store_won {v : ByteArray} {x : Nat} (h : Tab.get s.tab.L it.key = none) (h6 : Slab.classN it.size < 6) (hf : s.slab.fits it.size 0 = false) (hv : s.order.victim it.key = some v) (hx : Tab.get s.tab.L v = some x) (ha : s.judge.admit it.key.data.toList v.data.toList = true) (hn : ∃ n, s.order.all.length = n + 1)
    (hf2 : (s.tick.tick.drop v).slab.fits it.size 0 = true) : s.store fresh it env = (0, ((s.tick.tick.drop v).added it.key fresh).fill fresh it) := by
  have hr : s.roomed it env = (0, s.tick.tick.drop v) := by
    rw [roomed_miss h]
    obtain ⟨n, hn⟩ := hn
    rcases room_cases (it := it) (old := false) (less := 0) (env := env) s.order.all.length s.tick with ⟨e, _⟩ | ⟨_, e, _⟩ | ⟨_, v', e, _, _, ⟨e2, _⟩ | ⟨x', e2, ⟨_, e3⟩ | ⟨_, _, e3, _⟩⟩⟩
    · replace e : s.slab.fits it.size 0 = true := e
      rw [hf] at e; cases e
    · replace e : s.order.victim it.key = none := e
      rw [hv] at e; cases e
    · replace e : s.order.victim it.key = some v' := e
      rw [hv] at e; injection e with e; subst e
      replace e2 : Tab.get s.tab.L v = none := e2
      rw [hx] at e2; cases e2
    · replace e : s.order.victim it.key = some v' := e
      rw [hv] at e; injection e with e; subst e
      rw [e3, hn, St.room, if_pos hf2]
    · replace e : s.order.victim it.key = some v' := e
      rw [hv] at e; injection e with e; subst e
      replace e3 : s.judge.admit it.key.data.toList v.data.toList = false := e3
      rw [ha] at e3; cases e3
  rw [store_eq h6, hr, find_miss h]
  rfl
end
def ex0 : St := St.new 1 128 1
def ex1 (f1 : Nat) : St := (ex0.tick.added (itemK 97).key f1).fill f1 (itemK 97)
def ex2 (f1 f2 : Nat) : St := ((ex1 f1).tick.added (itemK 98).key f2).fill f2 (itemK 98)
def St.used' (s : St) (k : ByteArray) : St := { s with judge := s.judge.touch k.data.toList, order := (s.order.hit k).2 }
def ex3 (f1 f2 : Nat) : St := (((ex2 f1 f2).tick.tick).used' (itemK 99).key).used' (itemK 99).key
def ex4 (f1 f2 f3 : Nat) : St := (((ex3 f1 f2).tick.tick.drop (itemK 97).key).added (itemK 99).key f3).fill f3 (itemK 99)
theorem ex_store1 (f1 : Nat) : ex0.store f1 (itemK 97) env1 = (0, ex1 f1) := store_new rfl (by decide) (by decide)
theorem ex1_L (f1 : Nat) : (ex1 f1).tab.L = [((itemK 97).key, f1)] := rfl
theorem ex_store2 (f1 f2 : Nat) : (ex1 f1).store f2 (itemK 98) env1 = (0, ex2 f1 f2) := store_new (by rfl) (by decide) (by rfl)
theorem ex2_used (f1 f2 : Nat) : (ex2 f1 f2).slab.used = 128 := by rfl
theorem ex2_ent (f1 f2 : Nat) (h : f1 ≠ f2) : (ex2 f1 f2).ent f1 = ⟨itemK 97, (0, 0)⟩ := by
  show upd (upd _ f1 _) f2 _ f1 = _
  rw [upd_other _ _ h, upd_same]
  rfl
theorem ex_store3 (f1 f2 f : Nat) (h : f1 ≠ f2) : (ex2 f1 f2).store f (itemK 99) env1 = (8, (ex2 f1 f2).tick.tick) :=
  store_lost (v := (itemK 97).key) (x := f1) (by rfl) (by decide) (by rfl) (by rfl) (by rfl) (by rw [ex2_ent f1 f2 h]; rfl) (by kernel_rfl)
theorem ex4_slab (f1 f2 : Nat) (h : f1 ≠ f2) : ((ex3 f1 f2).tick.tick.drop (itemK 97).key).slab = ((ex2 f1 f2).slab.free (0, 0)).2 := by
  have h1 : ((ex3 f1 f2).tick.tick.drop (itemK 97).key).slab = ((ex2 f1 f2).slab.free ((ex2 f1 f2).ent f1).chunk).2 := rfl
  rw [h1, ex2_ent f1 f2 h]
theorem ex_store4 (f1 f2 f3 : Nat) (h : f1 ≠ f2) : (ex3 f1 f2).store f3 (itemK 99) env1 = (0, ex4 f1 f2 f3) :=
  store_won (v := (itemK 97).key) (x := f1) (by rfl) (by decide) (by rfl) (by rfl) (by rfl) (by kernel_rfl) ⟨1, by rfl⟩ (by rw [ex4_slab f1 f2 h]; rfl)
theorem ex4_drops (f1 f2 f3 : Nat) : (ex4 f1 f2 f3).drops = [(itemK 97).key] := by rfl
theorem ex4_len (f1 f2 f3 : Nat) : (ex4 f1 f2 f3).tab.L.length = 2 := by rfl
end Go.Proofs.YteonjgnnpgpnnaaGreat.Shard

/- Layer 11, the laws' own functions: awake. -/
namespace Go.Proofs.YteonjgnnpgpnnaaGreat.Shard
set_option maxRecDepth 100000
open Go Go.RowKit Go.Proofs.YteonjgnnpgpnnaaGreat.Mem Go.Proofs.YteonjgnnpgpnnaaGreat.App

/-- A block of the law's own, behind a turn. -/
theorem Fr.own {col col' : Col} {w w' : World} (f : Fr col col' w w') {k : Nat} (hk : k < w.heap.size) (hc : col k = none) : w'.heap[k]? = w.heap[k]? ∧ col' k = none ∧ k < w'.heap.size :=
  ⟨f.keep hk hc, Classical.byContradiction fun e => (f.2 k e).elim (fun e1 => e1 hc) (fun e1 => by omega), Nat.lt_of_lt_of_le hk f.1.size⟩
theorem Run.none {W w : World} {M b : Nat} {col : Col} {seed : Int} {s : St} (h : Run W w M b col seed s) {k : Nat} (hk : w.heap.size ≤ k) : col k = .none := Classical.byContradiction fun e => by have := (h.low k e).2; omega
theorem src_nil (w : World) : SrcB w (.slice none 0 0) [] := .inr (.inl ⟨rfl, rfl, rfl⟩)
theorem apart_nil (col : Col) (v : Value) : Apart col v [] := fun h => absurd rfl h
theorem storeK {W w : World} {M b : Nat} {col : Col} {seed : Int} {s : St} (h : Run W w M b col seed s) (hM : M + 1 ≤ 400) (c : UInt8) (z : Int) (t : Nat → St) (ht : ∀ f, (∀ p ∈ s.tab.L, p.2 ≠ f) → s.store f (itemK c) env1 = (z, t f)) : Calls Tryz.prog 17 #[.pointer (some ⟨b, 0, none⟩), .agg #[.string ⟨#[c]⟩, .slice none 0 0, .int .u32 0, .int .i64 0, .int .u64 0, .int .i64 0, .int .u64 0, .bool false, .bool false, .bool false], .agg #[.int .i64 1, .int .u64 0, .int .i64 0, .int .u64 0]] w fun e w' =>
    ∃ fresh, (∀ p ∈ s.tab.L, p.2 ≠ fresh) ∧ e = .returned (.int .i64 z) ∧ RunTurn W w (M + 1) b col seed (t fresh) w' :=
  (store_run h hM (itemK c) Option.none 0 env1 (by show (1 : Nat) ≤ 300; omega) (Nat.zero_le _) (src_nil w) (apart_nil _ _)).mono fun e w' ⟨f, h1, h2, h3⟩ => by
    rw [ht f h1] at h2 h3
    exact ⟨f, h1, h2, h3⟩
theorem usedK {W w : World} {M b : Nat} {col : Col} {seed : Int} {s : St} (h : Run W w M b col seed s) : Calls Tryz.prog 11 #[.pointer (some ⟨b, 0, none⟩)] w fun e w' => e = .returned (.int .i64 s.slab.used) ∧ w = w' := used_any h.at_
set_option maxHeartbeats 4000000 in
theorem awake_any (W : World) : Calls Tryz.prog 4 #[] W fun e w' => e = .returned (.bool true) ∧ Below W.heap.size W w' := by
  have hnew := new_run (Below.refl W.heap.size W) 1 128 1 (by omega) (by omega) (by omega)
  go_enter Tryz.func4, Tryz.ntmps4
  go_wp2_with fail
  refine hnew.mono ?_
  rintro e w1 ⟨b, col1, rfl, r1, -, -⟩
  have hb12 : Below w1.heap.size w1 (w1.alloc (.cells env1.arr 36)) := Mem.al (Below.refl _ _) _
  have nB : (w1.alloc (.cells env1.arr 36)).heap[w1.heap.size]? = some (.cells env1.arr 36 (0, 0)) := Mem.new_block w1 _
  have hBl : w1.heap.size < (w1.alloc (.cells env1.arr 36)).heap.size := by simp
  have r2 := r1.step hb12
  have hcB : col1 w1.heap.size = .none := r1.none (Nat.le_refl _)
  have hst := storeK r2 (by omega) 97 0 ex1 (fun f _ => ex_store1 f)
  have H2 := Lib.hid (And.intro nB (And.intro hBl (And.intro hcB hb12)))
  have hb01 := Lib.hid r1.below
  clear hnew r1 r2 hb12 nB hBl hcB
  go_wp2_with fail
  refine hst.mono ?_
  rintro e w3 ⟨f1, -, rfl, col3, r3, fr3⟩
  obtain ⟨k3, c3, l3⟩ := fr3.own H2.out.2.1 H2.out.2.2.1
  have n3 := k3.trans H2.out.1
  have hst3 := storeK r3 (by omega) 98 0 (ex2 f1) (fun f _ => ex_store2 f1 f)
  have cel := fun j => Mem.row_cell n3 j
  have q0 := cel 0
  have q1 := cel 1
  have q2 := cel 2
  have q3 := cel 3
  simp only [Env.arr, env1, List.getElem?_toArray, List.getElem?_cons_zero, List.getElem?_cons_succ] at q0 q1 q2 q3
  have H3 := Lib.hid (And.intro n3 (And.intro l3 c3))
  clear cel hst k3 c3 l3 n3 r3 fr3
  go_wp2_with fail
  refine hst3.mono ?_
  rintro e w4 ⟨f2, hf2, rfl, col4, r4, fr4⟩
  have hne : f1 ≠ f2 := hf2 (_, f1) (by rw [ex1_L]; exact List.mem_singleton.2 rfl)
  obtain ⟨k4, c4, l4⟩ := fr4.own H3.out.2.1 H3.out.2.2
  have n4 := k4.trans H3.out.1
  have hus := usedK r4
  rw [ex2_used] at hus
  have hst4 := storeK r4 (by omega) 99 8 (fun _ => (ex2 f1 f2).tick.tick) (fun f _ => ex_store3 f1 f2 f hne)
  have cel := fun j => Mem.row_cell n4 j
  have q0 := cel 0
  have q1 := cel 1
  have q2 := cel 2
  have q3 := cel 3
  simp only [Env.arr, env1, List.getElem?_toArray, List.getElem?_cons_zero, List.getElem?_cons_succ] at q0 q1 q2 q3
  have HN := Lib.hid hne
  have H4 := Lib.hid (And.intro n4 (And.intro l4 c4))
  clear cel hst3 k4 c4 l4 n4 r4 fr4 hf2 hne
  go_wp2_with fail
  refine hus.mono ?_
  rintro e w4' ⟨rfl, rfl⟩
  clear hus
  go_wp2_with fail
  refine hst4.mono ?_
  rintro e w5 ⟨f3, -, rfl, col5, r5, fr5⟩
  obtain ⟨k5, c5, l5⟩ := fr5.own H4.out.2.1 H4.out.2.2
  have n5 := k5.trans H4.out.1
  have hu1 := use_run r5 (by omega) ⟨#[99]⟩ (by unfold maxLen; decide)
  have H5 := Lib.hid (And.intro n5 (And.intro l5 c5))
  clear hst4 k5 c5 l5 n5 r5 fr5 q0 q1 q2 q3
  go_wp2_with fail
  refine hu1.mono ?_
  rintro e w6 ⟨rfl, col6, r6, fr6⟩
  obtain ⟨k6, c6, l6⟩ := fr6.own H5.out.2.1 H5.out.2.2
  have n6 := k6.trans H5.out.1
  have hu2 := use_run r6 (by omega) ⟨#[99]⟩ (by unfold maxLen; decide)
  have H6 := Lib.hid (And.intro n6 (And.intro l6 c6))
  clear hu1 k6 c6 l6 n6 r6 fr6
  go_wp2_with fail
  refine hu2.mono ?_
  rintro e w7 ⟨rfl, col7, r7, fr7⟩
  obtain ⟨k7, c7, l7⟩ := fr7.own H6.out.2.1 H6.out.2.2
  have n7 := k7.trans H6.out.1
  have r7' : Run W w7 _ b col7 1 (ex3 f1 f2) := r7
  have hst7 := storeK r7' (by omega) 99 0 (ex4 f1 f2) (fun f _ => ex_store4 f1 f2 f HN.out)
  have cel := fun j => Mem.row_cell n7 j
  have q0 := cel 0
  have q1 := cel 1
  have q2 := cel 2
  have q3 := cel 3
  simp only [Env.arr, env1, List.getElem?_toArray, List.getElem?_cons_zero, List.getElem?_cons_succ] at q0 q1 q2 q3
  clear cel hu2 k7 c7 l7 n7 r7 r7' fr7
  go_wp2_with fail
  refine hst7.mono ?_
  rintro e w8 ⟨f8, -, rfl, col8, r8, fr8⟩
  have hdr := drops_run r8 (by omega)
  rw [ex4_drops] at hdr
  clear hst7 q0 q1 q2 q3 r8 fr8
  go_wp2_with fail
  refine hdr.mono ?_
  rintro e w9 ⟨v9, rfl, ⟨col9, r9, -⟩, hrow9⟩
  have hlen : Calls Tryz.prog 13 #[.pointer (some ⟨b, 0, none⟩)] w9 fun e w' => e = .returned (.int .i64 2) ∧ w9 = w' := len_any r9.at_
  have hbel := r9.below
  obtain ⟨g, cap, rfl, hc0⟩ : ∃ g cap, v9 = .slice (some ⟨g, 0, none⟩) 1 cap ∧ w9.cell? ⟨g, 0, none⟩ = some (.string ⟨#[97]⟩) := by
    rcases hrow9.2 with ⟨_, e⟩ | ⟨g, cap, cur, e1, _, hg, _, _, _, ht⟩
    · cases e
    · refine ⟨g, cap, e1, ?_⟩
      rw [Mem.row_cell hg 0]
      have h1 : (cur.toList.take 1)[0]? = some (.string ⟨#[97]⟩) := by
        have h2 := congrArg (fun l : List Value => l[0]?) ht
        simpa [cellsS, itemK] using h2
      simpa using h1
  have HB := Lib.hid hbel
  clear hdr r9 hrow9 hbel
  go_wp2_with fail
  refine hlen.mono ?_
  rintro e w10 ⟨rfl, rfl⟩
  clear hlen
  go_wp2_with fail
  go_ret
  exact ⟨rfl, HB.out⟩
end Go.Proofs.YteonjgnnpgpnnaaGreat.Shard

/- Layer 11, the document's own shard: New; both shards in a run. -/
namespace Go.Proofs.YteonjgnnpgpnnaaGreat.RefSh
open Go Go.RowKit Go.Proofs.YteonjgnnpgpnnaaGreat.Mem Go.Proofs.YteonjgnnpgpnnaaGreat.App Go.Proofs.YteonjgnnpgpnnaaGreat.Shard

set_option maxRecDepth 100000 in
set_option maxHeartbeats 2000000 in
theorem new_any {W w : World} (hb : Below W.heap.size W w) (seed budget protect : Int) :
    Calls Tryz.prog 7 #[.int .u64 seed, .int .i64 budget, .int .i64 protect] w fun e w' => ∃ b col, e = .returned (.pointer (some ⟨b, 0, none⟩)) ∧ RAt W w' 0 b col (St.new seed budget protect) ∧ (∀ k, col k ≠ none → w.heap.size ≤ k) ∧ Below w.heap.size w w' := by
  have hm := RefSlab.new_gives budget w
  have hj := fun w' => TinyRef.new_gives seed w'
  go_enter Tryz.func7, Tryz.ntmps7
  go_wp2_with fail
  refine hm.mono ?_
  rintro e w1 ⟨mb, F1, rfl, r1, l1, b1⟩
  have R1 := Lib.hid (And.intro r1 (And.intro l1 b1))
  clear hm r1 l1 b1
  go_wp2_with fail
  refine (hj _).mono ?_
  rintro e w3 ⟨jb, fb, F3, kb, gb, rfl, r3, l3, b3⟩
  have R3 := Lib.hid (And.intro r3 (And.intro l3 b3))
  clear hj r3 l3 b3
  go_wp2_with fail
  go_ret
  obtain ⟨r1, l1, b1⟩ := R1.out
  obtain ⟨r3, l3, b3⟩ := R3.out
  obtain ⟨w2, hw2⟩ : ∃ w2, w1.alloc (.cells #[.int .i64 protect, .slice none 0 0, .slice none 0 0] 69) = w2 := ⟨_, rfl⟩
  have b2 : Below w1.heap.size w1 w2 := by rw [← hw2]; exact Mem.al (Below.refl _ _) _
  have z21 : w2.heap.size = w1.heap.size + 1 := by rw [← hw2]; simp
  have n2 : w2.heap[w1.heap.size]? = some (RefSlru.rlistObj protect (.slice none 0 0) (.slice none 0 0)) := by rw [← hw2]; exact Mem.new_block w1 _
  rw [hw2] at l3 b3
  have z1 := b1.size
  have z3 := b3.size
  have b5 : Below w3.heap.size w3 (w3.alloc (rObj ⟨w3.heap.size, mb, w1.heap.size, jb, fb, kb, gb⟩ (.slice none 0 0) (.slice none 0 0))) := Mem.al (Below.refl _ _) _
  have b35 := Mem.tr b3 b5
  have b235 := Mem.tr b2 b35
  have hall := Mem.tr b1 b235
  have hlt3 := r3.lt
  have hn3 := (b35.block _ (by omega)).trans n2
  refine ⟨w3.heap.size, col0 w.heap.size w.heap.size w1.heap.size w2.heap.size w3.heap.size, rfl, ⟨⟨w3.heap.size, mb, w1.heap.size, jb, fb, kb, gb⟩, .slice none 0 0, .slice none 0 0, fun _ => .slice none 0 0, rfl, ?_⟩, fun k hk => ?_, hall⟩
  · refine ⟨Mem.new_block w3 _, col0_self (Nat.le_refl _) z1 (by omega) z3, World.ownsRow_nil _ _ _ _, fun g e => (by cases e), fun p hp => (by cases hp), ⟨F1, _, r1.same (fun k hk => b235.block k (r1.lt k hk)) b235.size, RefSlab.Link.new budget, fun k hk => col0_slab (Nat.le_refl _) (l1 k hk) (r1.lt k hk)⟩,
      ⟨fun k => k = w1.heap.size, ⟨.slice none 0 0, .slice none 0 0, hn3, World.ownsRow_nil _ _ _ _, .inl ⟨rfl, rfl⟩, rfl, fun g e => (by cases e), fun g e => (by cases e), fun g e => (by cases e), fun e => (by cases e), fun k hk => by rw [hk, World.size_alloc]; omega⟩, fun k hk => by rw [hk]; exact col0_order (Nat.le_refl _) z1 (Nat.le_refl _) (by omega)⟩,
      ⟨F3, [], r3.below b5, fun k hk => col0_judge (Nat.le_refl _) z1 (by omega) (l3 k hk) (hlt3 k hk)⟩, World.ownsRow_nil _ _ _ _, fun g e => (by cases e), fun k p e => ?_, Mem.tr hb hall⟩
    have := col0_lt e (Nat.le_refl _) z1 (by omega) z3
    have hs := hb.size
    refine ⟨by omega, ?_⟩
    rw [World.size_alloc]; omega
  · rcases hq : col0 w.heap.size w.heap.size w1.heap.size w2.heap.size w3.heap.size k with _ | p
    · exact absurd hq hk
    · exact (col0_lt hq (Nat.le_refl _) z1 (by omega) z3).1
/-- Both shards in a run: the program's at s, the document's at t. -/
structure Both (W w : World) (M M' b rb : Nat) (col rcol : Col) (seed : Int) (s t : St) : Prop where
  run : Run W w M b col seed s
  ref : RAt W w (nn M') rb rcol t
  sep : ∀ k, col k ≠ none → rcol k = none
section
variable {W w w' : World} {M M' M2 b rb : Nat} {col rcol : Col} {seed : Int} {s t u : St}
theorem Both.none (h : Both W w M M' b rb col rcol seed s t) {k : Nat} (hk : w.heap.size ≤ k) : col k = .none ∧ rcol k = .none :=
  ⟨h.run.none hk, Classical.byContradiction fun e => by have := (h.ref.lt k e).2; omega⟩
theorem Both.low (h : Both W w M M' b rb col rcol seed s t) {k : Nat} (hk : k < W.heap.size) : col k = .none ∧ rcol k = .none :=
  ⟨Classical.byContradiction fun e => by have := (h.run.low k e).1; omega, Classical.byContradiction fun e => by have := (h.ref.lt k e).1; omega⟩
theorem Both.step (h : Both W w M M' b rb col rcol seed s t) (hb : Below w.heap.size w w') : Both W w' M M' b rb col rcol seed s t := ⟨h.run.step hb, h.ref.step hb, h.sep⟩
theorem Both.shard (h : Both W w M M' b rb col rcol seed s t) (ht : RunTurn W w M2 b col seed u w') : ∃ col', Both W w' M2 M' b rb col' rcol seed u t ∧ Fr col col' w w' := by
  obtain ⟨col', r, f⟩ := ht
  refine ⟨col', ⟨r, h.ref.other f.1 (fun k hk => ⟨h.sep k hk, (h.run.low k hk).1⟩), fun k hk => ?_⟩, f⟩
  rcases f.2 k hk with e | e
  · exact h.sep k e
  · exact (h.none e).2
theorem Both.turn (h : Both W w M M' b rb col rcol seed s t) (ht : RTurn W w (nn M2) rb rcol u w') : ∃ rcol', Both W w' M M2 b rb col rcol' seed s u ∧ Fr rcol rcol' w w' := by
  obtain ⟨rcol', r, f⟩ := ht
  have hs : ∀ k, rcol k ≠ .none → col k = .none := fun k hk => Classical.byContradiction fun e => hk (h.sep k e)
  refine ⟨rcol', ⟨⟨h.run.at_.aside f.1 (fun k hk => ⟨hs k hk, (h.ref.lt k hk).1⟩), h.run.inv⟩, r, fun k hk => Classical.byContradiction fun e => ?_⟩, f⟩
  rcases f.2 k e with e1 | e1
  · exact e1 (h.sep k hk)
  · exact hk (h.none e1).1
end
end Go.Proofs.YteonjgnnpgpnnaaGreat.RefSh

/- Layer 11's list of calls, as an argument: items with values. -/
namespace Go.Proofs.YteonjgnnpgpnnaaGreat.Shard
set_option maxRecDepth 100000
open Go Go.ChangeShapes Go.WideShapes Go.Deep Go.RowKit Go.Proofs.YteonjgnnpgpnnaaGreat.Ops Go.Proofs.YteonjgnnpgpnnaaGreat.App

def isI (n : Int) : Prop := -9223372036854775808 ≤ n ∧ n ≤ 9223372036854775807
def isU (n : Int) : Prop := 0 ≤ n ∧ n ≤ 18446744073709551615
structure Op where
  kind : Int
  it : Item
  v : Value
  env : Env
def encO (o : Op) : List Value := [.int .i64 o.kind, .string o.it.key, o.v, .int .u32 o.it.flags, .int .i64 o.it.exp, .int .u64 o.it.cas, .int .i64 o.it.sec, .int .u64 o.it.seq, .bool o.it.stale, .bool o.it.won, .bool o.it.seen, .int .i64 o.env.now, .int .u64 o.env.seq, .int .i64 o.env.flush, .int .u64 o.env.flushSeq]
/-- What an item's numbers are. -/
structure ItemOk (it : Item) : Prop where
  key : it.key.size ≤ maxLen
  val : it.val.length ≤ maxLen
  flags : 0 ≤ it.flags ∧ it.flags ≤ 4294967295
  exp : isI it.exp
  cas : isU it.cas
  sec : isI it.sec
  seq : isU it.seq
structure EnvOk (env : Env) : Prop where
  now : isI env.now
  seq : isU env.seq
  flush : isI env.flush
  flushSeq : isU env.flushSeq
structure OpOk (w : World) (o : Op) : Prop where
  kind : isI o.kind
  it : ItemOk o.it
  env : EnvOk o.env
  src : SrcB w o.v o.it.val
  low : ∀ g, o.it.val ≠ [] → o.v.ownBlock = some g → g < w.heap.size
theorem isI_of {n : Int} (h : (Lit.int .i64 n).wf = true) : isI n := by simpa [isI, Lit.wf, IntKind.min, IntKind.max, IntKind.signed, IntKind.bits] using h
theorem isU_of {n : Int} (h : (Lit.int .u64 n).wf = true) : isU n := by simpa [isU, Lit.wf, IntKind.min, IntKind.max, IntKind.signed, IntKind.bits] using h
theorem u32_of {n : Int} (h : (Lit.int .u32 n).wf = true) : 0 ≤ n ∧ n ≤ 4294967295 := by simpa [Lit.wf, IntKind.min, IntKind.max, IntKind.signed, IntKind.bits] using h
theorem u8_of {n : Int} (h : (Lit.int .u8 n).wf = true) : 0 ≤ n ∧ n ≤ 255 := by simpa [Lit.wf, IntKind.min, IntKind.max, IntKind.signed, IntKind.bits] using h

section
variable {H : Type} {enc : TypeId × Value → H} {w : World} {base : Nat} {spare : Nat → Bool} {held : Bool}
/-- Bytes as a part of an argument. -/
theorem open_bytes {m : Nat} {cv : Value} {y : DataW H × List MemPlace} (h : DataW.trod enc Tryz.prog w base spare held m 31 [cv] = some y) : ∃ xs : List UInt8, SrcB w cv xs ∧ xs.length ≤ maxLen := by
  have hc1 : Tryz.prog.cellsOf 5 = 1 := by kernel_rfl
  rcases open_slice1 Tryz.underlying31 hc1 h with ⟨h0, _⟩ | ⟨a, len, cap, m', n', V, D, Pl, hcs, hb, hl, hm, hmm, hx, hi⟩
  · injection h0 with h0
    exact ⟨[], .inr (.inl ⟨h0, rfl, rfl⟩), by unfold maxLen; simp⟩
  · injection hcs with hcs
    subst hcs
    have hlm : len ≤ m' := by rw [hmm]; split <;> omega
    by_cases h0 : len = 0
    · subst h0
      exact ⟨[], .inl ⟨rfl, a, cap, rfl⟩, by unfold maxLen; simp⟩
    obtain ⟨B, off, sp⟩ := a
    have hsp : sp = none := by
      have h1 := (hi 0 (by omega)).1
      simpa [Addr.add] using World.cell?_spot h1
    subst hsp
    have hadd : ∀ k, (⟨B, off, none⟩ : Addr).add k = ⟨B, off + k, none⟩ := fun k => by unfold Addr.add; split <;> simp_all
    have hB : B < w.heap.size := by
      have h1 := (hi 0 (by omega)).1
      rw [hadd] at h1
      exact block_of_cell h1
    have hget : ∀ i, i < len → ∃ b : UInt8, V i = .int .u8 (b.toNat : Nat) := fun i hil => by
      obtain ⟨n0, e0, _, w0⟩ := DataW.trod_int Tryz.underlying5 (hi i (by omega)).2
      injection e0 with e0
      obtain ⟨r0, r1⟩ := u8_of w0
      refine ⟨UInt8.ofNat n0.toNat, ?_⟩
      rw [e0]
      congr 1
      rw [UInt8.toNat_ofNat']
      omega
    refine ⟨List.ofFn fun i : Fin len => Classical.choose (hget i.1 i.2), .inr (.inr ⟨B, off, cap, by rw [List.length_ofFn], by simp [cellsB], hB, fun j u hu => ?_⟩), by rw [List.length_ofFn]; omega⟩
    have hj : j < len := by
      have := (List.getElem?_eq_some_iff.1 hu).1
      simpa [cellsB] using this
    have h1 := (hi j (by omega)).1
    rw [hadd, Classical.choose_spec (hget j hj)] at h1
    rw [h1]
    simp only [cellsB, List.getElem?_map] at hu
    rw [List.getElem?_ofFn, dif_pos hj] at hu
    exact hu
theorem src_low {v : Value} {xs : List UInt8} (h : SrcB w v xs) : ∀ g, xs ≠ [] → v.ownBlock = some g → g < w.heap.size := fun g hx e => by
  rcases h with ⟨h0, _⟩ | h
  · exact absurd h0 hx
  · exact h.lt g e
theorem op_el (n : Nat) (cs : List Value) (y : DataW H × List MemPlace) (h : DataW.trod enc Tryz.prog w base spare held n 38 cs = some y) : ∃ o, cs = encO o ∧ OpOk w o := by
  obtain ⟨xs, m, _, _, hlen, hxl, hf⟩ := DataW.trod_struct Tryz.underlying38 h
  rw [show Tryz.prog.cellsOf 38 = 15 from by kernel_rfl] at hlen
  have hc1 : Tryz.prog.cellsOf 3 = 1 := by kernel_rfl
  have hc2 : Tryz.prog.cellsOf 4 = 1 := by kernel_rfl
  have hc3 : Tryz.prog.cellsOf 34 = 10 := by kernel_rfl
  have hc4 : Tryz.prog.cellsOf 36 = 4 := by kernel_rfl
  have hc5 : Tryz.prog.cellsOf 9 = 1 := by kernel_rfl
  have hc6 : Tryz.prog.cellsOf 31 = 1 := by kernel_rfl
  have hc7 : Tryz.prog.cellsOf 32 = 1 := by kernel_rfl
  have hc8 : Tryz.prog.cellsOf 22 = 1 := by kernel_rfl
  match cs, hlen, xs, hxl with
  | [c0, c1, c2, c3, c4, c5, c6, c7, c8, c9, c10, c11, c12, c13, c14], _, [x0, x1, x2], _ =>
    have g0 := hf 0 _ rfl
    have g1 := hf 1 _ rfl
    have g2 := hf 2 _ rfl
    simp [hc1, hc3, hc4] at g0 g1 g2
    obtain ⟨n0, e0, _, w0⟩ := DataW.trod_int Tryz.underlying3 g0
    obtain ⟨ys, m', _, _, _, hyl, hg⟩ := DataW.trod_struct Tryz.underlying34 g1
    obtain ⟨zs, m2, _, _, _, hzl, hh⟩ := DataW.trod_struct Tryz.underlying36 g2
    match ys, hyl, zs, hzl with
    | [y0, y1, y2, y3, y4, y5, y6, y7, y8, y9], _, [z0, z1, z2, z3], _ =>
      have k0 := hg 0 _ rfl
      have k1 := hg 1 _ rfl
      have k2 := hg 2 _ rfl
      have k3 := hg 3 _ rfl
      have k4 := hg 4 _ rfl
      have k5 := hg 5 _ rfl
      have k6 := hg 6 _ rfl
      have k7 := hg 7 _ rfl
      have k8 := hg 8 _ rfl
      have k9 := hg 9 _ rfl
      have l0 := hh 0 _ rfl
      have l1 := hh 1 _ rfl
      have l2 := hh 2 _ rfl
      have l3 := hh 3 _ rfl
      simp [hc1, hc2, hc5, hc6, hc7, hc8] at k0 k1 k2 k3 k4 k5 k6 k7 k8 k9 l0 l1 l2 l3
      obtain ⟨q0, e1, _, w1⟩ := DataW.trod_string Tryz.underlying9 k0
      obtain ⟨bs, hbs, hbl⟩ := open_bytes k1
      obtain ⟨q2, e3, _, w3⟩ := DataW.trod_int Tryz.underlying32 k2
      obtain ⟨q3, e4, _, w4⟩ := DataW.trod_int Tryz.underlying3 k3
      obtain ⟨q4, e5, _, w5⟩ := DataW.trod_int Tryz.underlying22 k4
      obtain ⟨q5, e6, _, w6⟩ := DataW.trod_int Tryz.underlying3 k5
      obtain ⟨q6, e7, _, w7⟩ := DataW.trod_int Tryz.underlying22 k6
      obtain ⟨q7, e8, _⟩ := DataW.trod_bool Tryz.underlying4 k7
      obtain ⟨q8, e9, _⟩ := DataW.trod_bool Tryz.underlying4 k8
      obtain ⟨q9, e10, _⟩ := DataW.trod_bool Tryz.underlying4 k9
      obtain ⟨p0, e11, _, w11⟩ := DataW.trod_int Tryz.underlying3 l0
      obtain ⟨p1, e12, _, w12⟩ := DataW.trod_int Tryz.underlying22 l1
      obtain ⟨p2, e13, _, w13⟩ := DataW.trod_int Tryz.underlying3 l2
      obtain ⟨p3, e14, _, w14⟩ := DataW.trod_int Tryz.underlying22 l3
      injection e0 with e0; injection e1 with e1; injection e3 with e3; injection e4 with e4; injection e5 with e5; injection e6 with e6; injection e7 with e7; injection e8 with e8; injection e9 with e9; injection e10 with e10; injection e11 with e11; injection e12 with e12; injection e13 with e13; injection e14 with e14
      subst e0 e1 e3 e4 e5 e6 e7 e8 e9 e10 e11 e12 e13 e14
      exact ⟨⟨n0, ⟨q0, bs, q2, q3, q4, q5, q6, q7, q8, q9⟩, c2, ⟨p0, p1, p2, p3⟩⟩, rfl, ⟨isI_of w0, ⟨w1, hbl, u32_of w3, isI_of w4, isU_of w5, isI_of w6, isU_of w7⟩, ⟨isI_of w11, isU_of w12, isI_of w13, isU_of w14⟩, hbs, src_low hbs⟩⟩
theorem open_ops {r : Reach} {b0 : Nat} {v : Value} {d : DataW H} {ps : List MemPlace} (hval : Value.okWide Tryz.prog w r b0 23 v) (hd : DataW.Trod enc Tryz.prog w base spare held 23 v d ps) :
    ∃ (x : Option Addr) (n c : Nat) (l : List Op), v = .slice x n c ∧ n = l.length ∧ n ≤ maxLen ∧ (∀ a ∈ l, OpOk w a) ∧ Lies w 15 encO x l :=
  open_list encO (OpOk w) Tryz.underlying23 (by kernel_rfl) (by decide) (fun _ => rfl) op_el hval hd
end
end Go.Proofs.YteonjgnnpgpnnaaGreat.Shard

/- Layer 11, the laws' own functions: Few. -/
namespace Go.Proofs.YteonjgnnpgpnnaaGreat.Shard
set_option maxRecDepth 100000
open Go Go.RowKit Go.Proofs.YteonjgnnpgpnnaaGreat.Mem Go.Proofs.YteonjgnnpgpnnaaGreat.App Go.Proofs.YteonjgnnpgpnnaaGreat.Ops
theorem str_ne {a b : ByteArray} (h : a ≠ b) : (a.toList == b.toList) = false := Slru.str_ne h
/-- Few: so many calls, so long. -/
def fewB (l : List Op) : Bool := decide (l.length ≤ 80 ∧ ∀ o ∈ l, o.it.key.size ≤ 300 ∧ o.it.val.length ≤ 3000)
set_option maxHeartbeats 2000000 in
theorem few_any {w W : World} {x : Option Addr} {c : Nat} {l : List Op} (hlies : Lies w 15 encO x l) (hlen : l.length ≤ maxLen) (hok : ∀ o ∈ l, OpOk W o) :
    Calls Tryz.prog 5 #[.slice x l.length c] w fun e w' => e = .returned (.bool (fewB l)) ∧ w = w' := by
  unfold maxLen at hlen
  by_cases hn : 80 < l.length
  · have e : fewB l = false := by unfold fewB; simp; omega
    rw [e]
    have hn' : (80 : Int) < l.length := by omega
    clear hlies e hn hok
    go_enter Tryz.func5, Tryz.ntmps5
    go_wp2_with fail
    go_ret
    exact ⟨rfl, rfl⟩
  have hn' : (l.length : Int) ≤ 80 := by omega
  have HL := Lib.hid (And.intro hlies (And.intro hn hok))
  clear hlies hn hok
  go_enter Tryz.func5, Tryz.ntmps5
  go_wp2_with fail
  go_loopg [3] l.length (fun g i wr => ∃ m : Nat, i = .int .i64 m ∧ g + m = l.length ∧ Hid (∀ (j : Nat) (o : Op), j < m → l[j]? = some o → o.it.key.size ≤ 300 ∧ o.it.val.length ≤ 3000) ∧ wr = w)
  case atStart => exact ⟨0, rfl, by omega, Lib.hid (fun j o h => absurd h (by omega)), rfl⟩
  case round =>
    obtain ⟨m, rfl, hg, hs, rfl⟩ := hrel
    have HG := Lib.hid hg
    clear hg
    by_cases hm : m < l.length
    · obtain ⟨o, ho⟩ : ∃ o, l[m]? = some o := ⟨_, List.getElem?_eq_getElem hm⟩
      obtain ⟨B, off, rfl, hB, hc⟩ := HL.out.1 m o ho
      have c1 := hc 1 _ rfl
      have c2 := hc 2 _ rfl
      obtain ⟨va, vc, hv⟩ := (HL.out.2.2 o (List.mem_of_getElem? ho)).src.shape
      have hvl := (HL.out.2.2 o (List.mem_of_getElem? ho)).it.val
      unfold maxLen at hvl
      rw [hv] at c2
      have hmi : (m : Int) < l.length := by omega
      have HO := Lib.hid ho
      clear hc hB ho hv
      by_cases hk : o.it.key.size ≤ 300
      · have hki : (o.it.key.size : Int) ≤ 300 := by omega
        by_cases hu : o.it.val.length ≤ 3000
        · have hui : (o.it.val.length : Int) ≤ 3000 := by omega
          have HK := Lib.hid (And.intro hk hu)
          clear hk hu
          go_wp2_with fail
          go_roundg (l.length - (m + 1))
          case measure => have := HG.out; omega
          case rel =>
            refine ⟨m + 1, by go_num, by have := HG.out; omega, Lib.hid (fun j p hj hp => ?_), rfl⟩
            by_cases e : j = m
            · subst e; rw [HO.out] at hp; injection hp with hp; subst hp; exact HK.out
            · exact hs.out j p (by omega) hp
        · have hui : (3000 : Int) < o.it.val.length := by omega
          have e : fewB l = false := by unfold fewB; exact decide_eq_false (fun h => hu (h.2 o (List.mem_of_getElem? HO.out)).2)
          have HE := Lib.hid e
          clear hk hu e
          go_wp2_with fail
          go_ret
          exact ⟨by rw [HE.out]; rfl, rfl⟩
      · have hki : (300 : Int) < o.it.key.size := by omega
        have e : fewB l = false := by unfold fewB; exact decide_eq_false (fun h => hk (h.2 o (List.mem_of_getElem? HO.out)).1)
        have HE := Lib.hid e
        clear hk e
        go_wp2_with fail
        go_ret
        exact ⟨by rw [HE.out]; rfl, rfl⟩
    · have hml : (l.length : Int) ≤ m := by omega
      have e : fewB l = true := by
        unfold fewB
        refine decide_eq_true ⟨by omega, fun p hp => ?_⟩
        obtain ⟨j, hj⟩ := List.mem_iff_getElem?.1 hp
        exact hs.out j p (by have := (List.getElem?_eq_some_iff.1 hj).1; omega) hj
      have HE := Lib.hid e
      clear e
      go_wp2_with fail
      go_ret
      exact ⟨by rw [HE.out]; rfl, rfl⟩
end Go.Proofs.YteonjgnnpgpnnaaGreat.Shard

/- Layer 11's laws: what they have in common. -/
namespace Go.Proofs.YteonjgnnpgpnnaaGreat.Shard
set_option maxRecDepth 100000
open Go Go.RowKit Go.Proofs.YteonjgnnpgpnnaaGreat.Mem Go.Proofs.YteonjgnnpgpnnaaGreat.App Go.Proofs.YteonjgnnpgpnnaaGreat.Ops

theorem rsize_any (it : Item) (a : Option Addr) (c : Nat) (w : World) (hk : it.key.size ≤ 1000000) (hv : it.val.length ≤ 1000000) :
    Calls Tryz.prog 52 #[.agg (it.arr (.slice a it.val.length c))] w fun e w' => e = .returned (.int .i64 it.size) ∧ Below w.heap.size w w' := by
  have e1 : it.size = 50 + it.key.size + it.val.length := rfl
  rw [e1]
  unfold Item.arr
  have hk1 : (it.key.size : Int) ≤ 1000000 := by omega
  have hv1 : (it.val.length : Int) ≤ 1000000 := by omega
  clear e1
  go_enter Tryz.func52, Tryz.ntmps52
  go_wp2
  go_ret
  exact ⟨rfl, Mem.al (Below.refl _ _) _⟩
theorem i64_range (n : Int) : -9223372036854775808 ≤ IntKind.i64.wrap n ∧ IntKind.i64.wrap n ≤ 9223372036854775807 := by
  have h1 : 0 ≤ n % 18446744073709551616 := Int.emod_nonneg _ (by omega)
  have h2 : n % 18446744073709551616 < 18446744073709551616 := Int.emod_lt_of_pos _ (by omega)
  have e : IntKind.i64.wrap n = if n % 18446744073709551616 ≥ 9223372036854775808 then n % 18446744073709551616 - 18446744073709551616 else n % 18446744073709551616 := by
    simp [IntKind.wrap, IntKind.signed, IntKind.bits]
  rw [e]
  split <;> omega
theorem i64_same {n : Int} (h0 : -9223372036854775808 ≤ n) (h1 : n ≤ 9223372036854775807) : IntKind.i64.wrap n = n := by
  have e : IntKind.i64.wrap n = if n % 18446744073709551616 ≥ 9223372036854775808 then n % 18446744073709551616 - 18446744073709551616 else n % 18446744073709551616 := by
    simp [IntKind.wrap, IntKind.signed, IntKind.bits]
  rw [e]
  split <;> omega
/-- What a look tells, in one form. -/
theorem look_res {s : St} {w w' : World} {y : Option Nat} {e : Ending} (h : match y with
      | some x => ∃ v, e = .returned (.tuple #[.agg ((s.ent x).it.arr v), .bool true]) ∧ OwnB w' w.heap.size v (s.ent x).it.val
      | none => e = .returned (.tuple #[.agg zeroI, .bool false])) : ∃ (it : Item) (va : Option Addr) (vc : Nat), e = .returned (.tuple #[.agg (it.arr (.slice va it.val.length vc)), .bool y.isSome]) ∧ (∀ x, y = some x → it = (s.ent x).it ∧ OwnB w' w.heap.size (.slice va it.val.length vc) it.val) := by
  cases y with
  | none => exact ⟨⟨⟨#[]⟩, [], 0, 0, 0, 0, 0, false, false, false⟩, Option.none, 0, h, fun x e => by cases e⟩
  | some xx =>
    obtain ⟨v, e1, e2⟩ := h
    obtain ⟨va, vc, hv⟩ := Src.shape (Src.of_row e2)
    subst hv
    exact ⟨_, va, vc, e1, fun x e => by injection e with e; subst e; exact ⟨rfl, e2⟩⟩
/-- What a call of the list has, in any world that keeps what there was. -/
structure OpAt (W w : World) (o : Op) (x : Option Addr) (i : Nat) : Prop where
  at_ : ∃ B off, x = some ⟨B, off, none⟩ ∧ B < W.heap.size ∧ ∀ j u, (encO o)[j]? = some u → w.cell? ⟨B, off + i * 15 + j, none⟩ = some u
  ok : OpOk W o
  shape : ∃ a c, o.v = .slice a o.it.val.length c
theorem op_at {W w : World} {x : Option Addr} {l : List Op} {i : Nat} {o : Op} (hl : Lies W 15 encO x l) (hok : ∀ o ∈ l, OpOk W o) (hb : Below W.heap.size W w) (h : l[i]? = some o) : OpAt W w o x i := by
  obtain ⟨B, off, e, hB, hc⟩ := hl i o h
  have ho := hok o (List.mem_of_getElem? h)
  exact ⟨⟨B, off, e, hB, fun j u hu => (World.cell?_of_block (hb.block B hB)).trans (hc j u hu)⟩, ho, ho.src.shape⟩
theorem OpAt.src {W w : World} {o : Op} {x : Option Addr} {i : Nat} (h : OpAt W w o x i) (hb : Below W.heap.size W w) : SrcB w o.v o.it.val := h.ok.src.below hb
theorem OpAt.apart {W w : World} {o : Op} {x : Option Addr} {i : Nat} (h : OpAt W w o x i) {col : Col} (hc : ∀ k, col k ≠ none → W.heap.size ≤ k) : Apart col o.v o.it.val := Apart.low hc fun hx g e => h.ok.low g hx e
theorem op_cell {W w : World} {Bx off : Nat} {l : List Op} {i : Nat} {o : Op} (hl : Lies W 15 encO (some ⟨Bx, off, Option.none⟩) l) (hb : Below W.heap.size W w) (h : l[i]? = some o) : Bx < w.heap.size ∧ ∀ j u, (encO o)[j]? = some u → w.cell? ⟨Bx, off + i * 15 + j, Option.none⟩ = some u := by
  obtain ⟨B, off', e, hB, hc⟩ := hl i o h
  injection e with e
  injection e with e1 e2
  subst e1 e2
  exact ⟨Nat.lt_of_lt_of_le hB hb.size, fun j u hu => (World.cell?_of_block (hb.block _ hB)).trans (hc j u hu)⟩
end Go.Proofs.YteonjgnnpgpnnaaGreat.Shard

/- Layer 11's laws: arguments by value; items that were handed back. -/
namespace Go.Proofs.YteonjgnnpgpnnaaGreat.Shard
set_option maxRecDepth 100000
open Go Go.ChangeShapes Go.WideShapes Go.Deep Go.RowKit Go.Proofs.YteonjgnnpgpnnaaGreat.Mem Go.Proofs.YteonjgnnpgpnnaaGreat.App Go.Proofs.YteonjgnnpgpnnaaGreat.Ops

theorem cellsI_at : ∀ (l : List (Item × Value)) (i : Nat) (p : Item × Value) (j : Nat) (u : Value), l[i]? = some p → (p.1.arr p.2).toList[j]? = some u → (cellsI l)[i * 10 + j]? = some u
  | [], _, _, _, _, h, _ => by simp at h
  | q :: l, 0, p, j, u, h, hu => by
    simp at h
    subst h
    simp only [cellsI, List.flatMap_cons]
    have hj : j < (q.1.arr q.2).toList.length := (List.getElem?_eq_some_iff.1 hu).1
    rw [Nat.zero_mul, Nat.zero_add, List.getElem?_append_left hj]
    exact hu
  | q :: l, i + 1, p, j, u, h, hu => by
    have h' : l[i]? = some p := by simpa using h
    have ih := cellsI_at l i p j u h' hu
    simp only [cellsI, List.flatMap_cons] at ih ⊢
    have hq : (q.1.arr q.2).toList.length = 10 := rfl
    rw [List.getElem?_append_right (by rw [hq]; omega), hq, show (i + 1) * 10 + j - 10 = i * 10 + j from by omega]
    exact ih
section
variable {w w' : World} {base : Nat} {xs : List Item} {v : Value}
theorem ItemsAt.shape (h : ItemsAt base xs v w) : ∃ a c, v = .slice a xs.length c := by
  obtain ⟨l, h1, h2, -⟩ := h
  obtain ⟨a, c, e⟩ := Src.shape (Src.of_row h2)
  exact ⟨a, c, by rw [e, ← h1, List.length_map]⟩
theorem ItemsAt.same (h : ItemsAt base xs v w) (hs : ∀ k, base ≤ k → k < w.heap.size → w'.heap[k]? = w.heap[k]?) : ItemsAt base xs v w' := by
  obtain ⟨l, h1, h2, h3⟩ := h
  exact ⟨l, h1, row_keep h2 fun g e => hs g (own_block_lt h2 g e).1 (own_block_lt h2 g e).2, fun p hp => row_keep (h3 p hp) fun g e => hs g (own_block_lt (h3 p hp) g e).1 (own_block_lt (h3 p hp) g e).2⟩
theorem ItemsAt.below (h : ItemsAt base xs v w) (hb : Below w.heap.size w w') : ItemsAt base xs v w' := h.same fun k _ hk => hb.block k hk
theorem ItemsAt.get (h : ItemsAt base xs v w) {i : Nat} {it : Item} (hi : xs[i]? = some it) : ∃ g cap va vc, v = .slice (some ⟨g, 0, Option.none⟩) xs.length cap ∧ base ≤ g ∧ g < w.heap.size ∧ OwnB w base (.slice va it.val.length vc) it.val ∧ ∀ j u, (it.arr (.slice va it.val.length vc)).toList[j]? = some u → w.cell? ⟨g, i * 10 + j, Option.none⟩ = some u := by
  obtain ⟨l, h1, h2, h3⟩ := h
  have hlen : l.length = xs.length := by rw [← h1, List.length_map]
  obtain ⟨p, hp, hpe⟩ : ∃ p, l[i]? = some p ∧ p.1 = it := by
    rw [← h1, List.getElem?_map, Option.map_eq_some_iff] at hi
    exact hi
  subst hpe
  have hv := h3 p (List.mem_of_getElem? hp)
  obtain ⟨va, vc, e⟩ := Src.shape (Src.of_row hv)
  have hil := (List.getElem?_eq_some_iff.1 hp).1
  rcases h2.2 with ⟨_, e0⟩ | ⟨g, cap, cur, e1, hb, hg, _, _, _, ht⟩
  · omega
  refine ⟨g, cap, va, vc, by rw [e1, hlen], hb, (Array.getElem?_eq_some_iff.1 hg).1, by rw [e] at hv; exact hv, fun j u hu => ?_⟩
  rw [← e] at hu
  have hc := cellsI_at l i p j u hp hu
  rw [Mem.row_cell hg]
  have hj : j < 10 := (List.getElem?_eq_some_iff.1 hu).1
  have h5 : (cur.toList.take (l.length * 10))[i * 10 + j]? = some u := by rw [ht]; exact hc
  rw [List.getElem?_take, if_pos (by omega), Array.getElem?_toList] at h5
  exact h5
end
section
variable {H : Type} {enc : TypeId × Value → H} {w : World} {base : Nat} {spare : Nat → Bool} {held : Bool}
theorem env_el (n : Nat) (cs : List Value) (y : DataW H × List MemPlace) (h : DataW.trod enc Tryz.prog w base spare held n 36 cs = some y) : ∃ env : Env, cs = env.arr.toList ∧ EnvOk env := by
  obtain ⟨zs, m2, _, _, hlen, hzl, hh⟩ := DataW.trod_struct Tryz.underlying36 h
  rw [show Tryz.prog.cellsOf 36 = 4 from by kernel_rfl] at hlen
  have hc1 : Tryz.prog.cellsOf 3 = 1 := by kernel_rfl
  have hc8 : Tryz.prog.cellsOf 22 = 1 := by kernel_rfl
  match cs, hlen, zs, hzl with
  | [c0, c1, c2, c3], _, [z0, z1, z2, z3], _ =>
    have l0 := hh 0 _ rfl
    have l1 := hh 1 _ rfl
    have l2 := hh 2 _ rfl
    have l3 := hh 3 _ rfl
    simp [hc1, hc8] at l0 l1 l2 l3
    obtain ⟨p0, e11, _, w11⟩ := DataW.trod_int Tryz.underlying3 l0
    obtain ⟨p1, e12, _, w12⟩ := DataW.trod_int Tryz.underlying22 l1
    obtain ⟨p2, e13, _, w13⟩ := DataW.trod_int Tryz.underlying3 l2
    obtain ⟨p3, e14, _, w14⟩ := DataW.trod_int Tryz.underlying22 l3
    injection e11 with e11; injection e12 with e12; injection e13 with e13; injection e14 with e14
    subst e11 e12 e13 e14
    exact ⟨⟨p0, p1, p2, p3⟩, rfl, ⟨isI_of w11, isU_of w12, isI_of w13, isU_of w14⟩⟩
theorem open_env {r : Reach} {b0 : Nat} {v : Value} {d : DataW H} {ps : List MemPlace} (hval : Value.okWide Tryz.prog w r b0 36 v) (hd : DataW.Trod enc Tryz.prog w base spare held 36 v d ps) : ∃ env : Env, v = .agg env.arr ∧ EnvOk env := by
  obtain ⟨cs, rfl, -⟩ := okWide_struct Tryz.underlying36 hval
  obtain ⟨fuel, hf⟩ := hd
  obtain ⟨env, he, hok⟩ := env_el fuel _ _ hf
  refine ⟨env, ?_, hok⟩
  congr 1
  have h2 : cs.toList = env.arr.toList := he
  exact Array.toList_inj.1 h2
theorem item_el (n : Nat) (cs : List Value) (y : DataW H × List MemPlace) (h : DataW.trod enc Tryz.prog w base spare held n 34 cs = some y) : ∃ (it : Item) (v : Value), cs = (it.arr v).toList ∧ ItemOk it ∧ SrcB w v it.val := by
  obtain ⟨ys, m', _, _, hlen, hyl, hg⟩ := DataW.trod_struct Tryz.underlying34 h
  rw [show Tryz.prog.cellsOf 34 = 10 from by kernel_rfl] at hlen
  have hc1 : Tryz.prog.cellsOf 3 = 1 := by kernel_rfl
  have hc2 : Tryz.prog.cellsOf 4 = 1 := by kernel_rfl
  have hc5 : Tryz.prog.cellsOf 9 = 1 := by kernel_rfl
  have hc6 : Tryz.prog.cellsOf 31 = 1 := by kernel_rfl
  have hc7 : Tryz.prog.cellsOf 32 = 1 := by kernel_rfl
  have hc8 : Tryz.prog.cellsOf 22 = 1 := by kernel_rfl
  match cs, hlen, ys, hyl with
  | [c1, c2, c3, c4, c5, c6, c7, c8, c9, c10], _, [y0, y1, y2, y3, y4, y5, y6, y7, y8, y9], _ =>
    have k0 := hg 0 _ rfl
    have k1 := hg 1 _ rfl
    have k2 := hg 2 _ rfl
    have k3 := hg 3 _ rfl
    have k4 := hg 4 _ rfl
    have k5 := hg 5 _ rfl
    have k6 := hg 6 _ rfl
    have k7 := hg 7 _ rfl
    have k8 := hg 8 _ rfl
    have k9 := hg 9 _ rfl
    simp [hc1, hc2, hc5, hc6, hc7, hc8] at k0 k1 k2 k3 k4 k5 k6 k7 k8 k9
    obtain ⟨q0, e1, _, w1⟩ := DataW.trod_string Tryz.underlying9 k0
    obtain ⟨bs, hbs, hbl⟩ := open_bytes k1
    obtain ⟨q2, e3, _, w3⟩ := DataW.trod_int Tryz.underlying32 k2
    obtain ⟨q3, e4, _, w4⟩ := DataW.trod_int Tryz.underlying3 k3
    obtain ⟨q4, e5, _, w5⟩ := DataW.trod_int Tryz.underlying22 k4
    obtain ⟨q5, e6, _, w6⟩ := DataW.trod_int Tryz.underlying3 k5
    obtain ⟨q6, e7, _, w7⟩ := DataW.trod_int Tryz.underlying22 k6
    obtain ⟨q7, e8, _⟩ := DataW.trod_bool Tryz.underlying4 k7
    obtain ⟨q8, e9, _⟩ := DataW.trod_bool Tryz.underlying4 k8
    obtain ⟨q9, e10, _⟩ := DataW.trod_bool Tryz.underlying4 k9
    injection e1 with e1; injection e3 with e3; injection e4 with e4; injection e5 with e5; injection e6 with e6; injection e7 with e7; injection e8 with e8; injection e9 with e9; injection e10 with e10
    subst e1 e3 e4 e5 e6 e7 e8 e9 e10
    exact ⟨⟨q0, bs, q2, q3, q4, q5, q6, q7, q8, q9⟩, c2, rfl, ⟨w1, hbl, u32_of w3, isI_of w4, isU_of w5, isI_of w6, isU_of w7⟩, hbs⟩
theorem open_item {r : Reach} {b0 : Nat} {v : Value} {d : DataW H} {ps : List MemPlace} (hval : Value.okWide Tryz.prog w r b0 34 v) (hd : DataW.Trod enc Tryz.prog w base spare held 34 v d ps) : ∃ (it : Item) (a : Option Addr) (c : Nat), v = .agg (it.arr (.slice a it.val.length c)) ∧ ItemOk it ∧ SrcB w (.slice a it.val.length c) it.val := by
  obtain ⟨cs, rfl, -⟩ := okWide_struct Tryz.underlying34 hval
  obtain ⟨fuel, hf⟩ := hd
  obtain ⟨it, u, he, hok, hs⟩ := item_el fuel _ _ hf
  obtain ⟨a, c, hu⟩ := hs.shape
  subst hu
  refine ⟨it, a, c, ?_, hok, hs⟩
  congr 1
  have h2 : cs.toList = (it.arr (.slice a it.val.length c)).toList := he
  exact Array.toList_inj.1 h2
/-- Bytes as an argument. -/
theorem open_bytesv {r : Reach} {b0 : Nat} {v : Value} {d : DataW H} {ps : List MemPlace} (hval : Value.okWide Tryz.prog w r b0 31 v) (hd : DataW.Trod enc Tryz.prog w base spare held 31 v d ps) : ∃ (xs : List UInt8) (a : Option Addr) (c : Nat), v = .slice a xs.length c ∧ xs.length ≤ maxLen ∧ SrcB w (.slice a xs.length c) xs := by
  obtain ⟨a, n, c, rfl⟩ := okWide_slice Tryz.underlying31 hval
  obtain ⟨fuel, hf⟩ := hd
  obtain ⟨xs, hs, hl⟩ := open_bytes (cv := .slice a n c) hf
  obtain ⟨a', c', e⟩ := hs.shape
  rw [e] at hs
  exact ⟨xs, a', c', e, hl, hs⟩
end
end Go.Proofs.YteonjgnnpgpnnaaGreat.Shard

/- Layer 11, the laws' own functions: Same, Few. -/
namespace Go.Proofs.YteonjgnnpgpnnaaGreat.Shard
set_option maxRecDepth 100000
open Go Go.RowKit Go.Proofs.YteonjgnnpgpnnaaGreat.Mem Go.Proofs.YteonjgnnpgpnnaaGreat.App Go.Proofs.YteonjgnnpgpnnaaGreat.Ops

def bs (xs : List UInt8) : ByteArray := ⟨xs.toArray⟩
theorem conv_any {w : World} {v : Value} {xs : List UInt8} (h : SrcB w v xs) : (convert 31 9 v).run Tryz.prog w = .ok (.string (bs xs)) w := by
  rcases h with ⟨rfl, a, c, rfl⟩ | ⟨rfl, h1, h2⟩ | ⟨g, off, c, rfl, h1, h2, h3⟩
  · have := run_convert_bytes_back (P := Tryz.prog) w 31 9 5 a c [] Tryz.underlying31 Tryz.underlying5 Tryz.underlying9 (fun j hj => by simp at hj)
    exact this
  · have hx : xs = [] := List.eq_nil_of_length_eq_zero h2
    subst hx
    exact run_convert_bytes_nil w 31 5 Tryz.underlying31 Tryz.underlying5 0 0 9 Tryz.underlying9
  · refine run_convert_bytes_back (P := Tryz.prog) w 31 9 5 ⟨g, off, none⟩ c xs Tryz.underlying31 Tryz.underlying5 Tryz.underlying9 (fun j hj => ?_)
    rw [addr_add]
    refine h3 j _ ?_
    simp [cellsB, List.getElem?_eq_getElem hj]
theorem bs_eq {xs ys : List UInt8} : bs xs = bs ys ↔ xs = ys := by
  constructor
  · intro h
    have h1 := congrArg ByteArray.data h
    have h2 := congrArg Array.toList h1
    simpa [bs] using h2
  · intro h; rw [h]
set_option maxHeartbeats 4000000 in
theorem same_any {w : World} {v u : Value} (x y : Item) (hx : SrcB w v x.val) (hy : SrcB w u y.val) :
    Calls Tryz.prog 28 #[.agg (x.arr v), .agg (y.arr u)] w fun e w' => e = .returned (.bool (decide (x = y))) ∧ Below w.heap.size w w' := by
  have hb2 : Below w.heap.size w ((w.alloc (.cells (x.arr v) 34)).alloc (.cells (y.arr u) 34)) := Mem.al (Mem.al (Below.refl _ _) _) _
  have hcx := conv_any (hx.below hb2)
  have hcy := conv_any (hy.below hb2)
  have HB := Lib.hid hb2
  clear hb2 hx hy
  obtain ⟨a0, a1, a2, a3, a4, a5, a6, a7, a8, a9⟩ := x
  obtain ⟨b0, b1, b2, b3, b4, b5, b6, b7, b8, b9⟩ := y
  unfold Item.arr at *
  simp only at *
  by_cases h0 : a0 ≠ b0
  · have HE : Hid (decide ((⟨a0, a1, a2, a3, a4, a5, a6, a7, a8, a9⟩ : Item) = ⟨b0, b1, b2, b3, b4, b5, b6, b7, b8, b9⟩) = false) := Lib.hid (decide_eq_false (fun e => h0 (by injection e)))
    have hf : (a0.toList == b0.toList) = false := str_ne h0
    clear h0
    go_enter Tryz.func28, Tryz.ntmps28
    go_wp2
    go_ret
    exact ⟨by rw [HE.out]; rfl, HB.out⟩
  have e0 : a0 = b0 := Classical.byContradiction h0
  subst e0
  clear h0
  by_cases h1 : a1 ≠ b1
  · have HE : Hid (decide ((⟨a0, a1, a2, a3, a4, a5, a6, a7, a8, a9⟩ : Item) = ⟨a0, b1, b2, b3, b4, b5, b6, b7, b8, b9⟩) = false) := Lib.hid (decide_eq_false (fun e => h1 (by injection e)))
    have hf : ((bs a1).toList == (bs b1).toList) = false := str_ne (fun e => h1 (bs_eq.1 e))
    clear h1
    go_enter Tryz.func28, Tryz.ntmps28
    go_wp2
    go_ret
    exact ⟨by rw [HE.out]; rfl, HB.out⟩
  have e1 : a1 = b1 := Classical.byContradiction h1
  subst e1
  clear h1
  by_cases h2 : a2 ≠ b2
  · have HE : Hid (decide ((⟨a0, a1, a2, a3, a4, a5, a6, a7, a8, a9⟩ : Item) = ⟨a0, a1, b2, b3, b4, b5, b6, b7, b8, b9⟩) = false) := Lib.hid (decide_eq_false (fun e => h2 (by injection e)))
    have hf : (a2 == b2) = false := by simpa using h2
    clear h2
    go_enter Tryz.func28, Tryz.ntmps28
    go_wp2
    go_ret
    exact ⟨by rw [HE.out]; rfl, HB.out⟩
  have e2 : a2 = b2 := Classical.byContradiction h2
  subst e2
  clear h2
  by_cases h3 : a3 ≠ b3
  · have HE : Hid (decide ((⟨a0, a1, a2, a3, a4, a5, a6, a7, a8, a9⟩ : Item) = ⟨a0, a1, a2, b3, b4, b5, b6, b7, b8, b9⟩) = false) := Lib.hid (decide_eq_false (fun e => h3 (by injection e)))
    have hf : (a3 == b3) = false := by simpa using h3
    clear h3
    go_enter Tryz.func28, Tryz.ntmps28
    go_wp2
    go_ret
    exact ⟨by rw [HE.out]; rfl, HB.out⟩
  have e3 : a3 = b3 := Classical.byContradiction h3
  subst e3
  clear h3
  by_cases h4 : a4 ≠ b4
  · have HE : Hid (decide ((⟨a0, a1, a2, a3, a4, a5, a6, a7, a8, a9⟩ : Item) = ⟨a0, a1, a2, a3, b4, b5, b6, b7, b8, b9⟩) = false) := Lib.hid (decide_eq_false (fun e => h4 (by injection e)))
    have hf : (a4 == b4) = false := by simpa using h4
    clear h4
    go_enter Tryz.func28, Tryz.ntmps28
    go_wp2
    go_ret
    exact ⟨by rw [HE.out]; rfl, HB.out⟩
  have e4 : a4 = b4 := Classical.byContradiction h4
  subst e4
  clear h4
  by_cases h5 : a5 ≠ b5
  · have HE : Hid (decide ((⟨a0, a1, a2, a3, a4, a5, a6, a7, a8, a9⟩ : Item) = ⟨a0, a1, a2, a3, a4, b5, b6, b7, b8, b9⟩) = false) := Lib.hid (decide_eq_false (fun e => h5 (by injection e)))
    have hf : (a5 == b5) = false := by simpa using h5
    clear h5
    go_enter Tryz.func28, Tryz.ntmps28
    go_wp2
    go_ret
    exact ⟨by rw [HE.out]; rfl, HB.out⟩
  have e5 : a5 = b5 := Classical.byContradiction h5
  subst e5
  clear h5
  by_cases h6 : a6 ≠ b6
  · have HE : Hid (decide ((⟨a0, a1, a2, a3, a4, a5, a6, a7, a8, a9⟩ : Item) = ⟨a0, a1, a2, a3, a4, a5, b6, b7, b8, b9⟩) = false) := Lib.hid (decide_eq_false (fun e => h6 (by injection e)))
    have hf : (a6 == b6) = false := by simpa using h6
    clear h6
    go_enter Tryz.func28, Tryz.ntmps28
    go_wp2
    go_ret
    exact ⟨by rw [HE.out]; rfl, HB.out⟩
  have e6 : a6 = b6 := Classical.byContradiction h6
  subst e6
  clear h6
  by_cases h7 : a7 ≠ b7
  · have HE : Hid (decide ((⟨a0, a1, a2, a3, a4, a5, a6, a7, a8, a9⟩ : Item) = ⟨a0, a1, a2, a3, a4, a5, a6, b7, b8, b9⟩) = false) := Lib.hid (decide_eq_false (fun e => h7 (by injection e)))
    have hf : (a7 == b7) = false := by simpa using h7
    clear h7
    go_enter Tryz.func28, Tryz.ntmps28
    go_wp2
    go_ret
    exact ⟨by rw [HE.out]; rfl, HB.out⟩
  have e7 : a7 = b7 := Classical.byContradiction h7
  subst e7
  clear h7
  by_cases h8 : a8 ≠ b8
  · have HE : Hid (decide ((⟨a0, a1, a2, a3, a4, a5, a6, a7, a8, a9⟩ : Item) = ⟨a0, a1, a2, a3, a4, a5, a6, a7, b8, b9⟩) = false) := Lib.hid (decide_eq_false (fun e => h8 (by injection e)))
    have hf : (a8 == b8) = false := by simpa using h8
    clear h8
    go_enter Tryz.func28, Tryz.ntmps28
    go_wp2
    go_ret
    exact ⟨by rw [HE.out]; rfl, HB.out⟩
  have e8 : a8 = b8 := Classical.byContradiction h8
  subst e8
  clear h8
  by_cases h9 : a9 ≠ b9
  · have HE : Hid (decide ((⟨a0, a1, a2, a3, a4, a5, a6, a7, a8, a9⟩ : Item) = ⟨a0, a1, a2, a3, a4, a5, a6, a7, a8, b9⟩) = false) := Lib.hid (decide_eq_false (fun e => h9 (by injection e)))
    have hf : (a9 == b9) = false := by simpa using h9
    clear h9
    go_enter Tryz.func28, Tryz.ntmps28
    go_wp2
    go_ret
    exact ⟨by rw [HE.out]; rfl, HB.out⟩
  have e9 : a9 = b9 := Classical.byContradiction h9
  subst e9
  clear h9
  have HE : Hid (decide ((⟨a0, a1, a2, a3, a4, a5, a6, a7, a8, a9⟩ : Item) = ⟨a0, a1, a2, a3, a4, a5, a6, a7, a8, a9⟩) = true) := Lib.hid (decide_eq_true rfl)
  go_enter Tryz.func28, Tryz.ntmps28
  go_wp2
  go_ret
  exact ⟨by first | rfl | (rw [decide_eq_true rfl]; rfl) | simp, HB.out⟩
end Go.Proofs.YteonjgnnpgpnnaaGreat.Shard

/- Layer 11's law: items (the program's list is the document's). -/
namespace Go.Proofs.YteonjgnnpgpnnaaGreat.RefSh
set_option maxRecDepth 100000
open Go Go.RowKit Go.Proofs.YteonjgnnpgpnnaaGreat.Mem Go.Proofs.YteonjgnnpgpnnaaGreat.App Go.Proofs.YteonjgnnpgpnnaaGreat.Shard

set_option maxHeartbeats 4000000 in
theorem items_any {W w : World} {N b : Nat} {col : Col} {s : St} (h : RAt W w N b col s) {base : Nat} {va : Value} (hit : ItemsAt base s.items va w) (hl : s.items.length ≤ 1000) : ∃ vL, w.cell? ⟨b, 0, none⟩ = some vL ∧ (∃ a c, vL = .slice a s.items.length c) ∧
    Calls Tryz.prog 9 #[va, vL] w fun e w' => e = .returned (.bool true) ∧ Below w.heap.size w w' := by
  obtain ⟨ad, vL, vd, vv, rfl, h⟩ := h
  obtain ⟨a, c, rfl, hc, hcell⟩ := h.shape
  rw [← items_len] at hc
  have hcl : ∀ i p, s.tab.L[i]? = some p → ∃ g vx vc, a = some ⟨g, 0, none⟩ ∧ SrcB w (.slice vx (s.ent p.2).it.val.length vc) (s.ent p.2).it.val ∧ ∀ j, j < 10 → w.cell? ⟨g, i * 12 + j, none⟩ = ((s.ent p.2).it.arr (.slice vx (s.ent p.2).it.val.length vc))[j]? := fun i p hi => by
    obtain ⟨g, e, h1⟩ := hcell i p hi
    obtain ⟨hs, -⟩ := h.vals p (List.mem_of_getElem? hi)
    obtain ⟨vx, vc, hv⟩ := hs.shape
    rw [hv] at hs h1
    refine ⟨g, vx, vc, e, hs, fun j hj => (h1 j (by omega)).1.trans ?_⟩
    match j, hj with
    | 0, _ => rfl
    | 1, _ => rfl
    | 2, _ => rfl
    | 3, _ => rfl
    | 4, _ => rfl
    | 5, _ => rfl
    | 6, _ => rfl
    | 7, _ => rfl
    | 8, _ => rfl
    | 9, _ => rfl
    | j + 10, hj => omega
  refine ⟨.slice a s.tab.L.length c, Mem.row_cell h.self 0, ⟨a, c, by rw [items_len]⟩, ?_⟩
  obtain ⟨xa, xc, rfl⟩ := hit.shape
  have hz : ∀ k, k < w.heap.size → k < w.heap.size := fun _ h => h
  rw [← items_len]
  have hxc : s.items.length ≤ xc := by
    obtain ⟨l, h1, h2, -⟩ := hit
    rcases h2.2 with ⟨e1, e2⟩ | ⟨g1, c1, cur, e1, _, _, e2, _⟩
    · rw [← h1, List.length_map]; omega
    · injection e1 with _ _ e1
      rw [← h1, List.length_map, e1]; exact e2
  have HI := Lib.hid (And.intro hit hcl)
  obtain ⟨n, hn⟩ : ∃ n, s.items.length = n := ⟨_, rfl⟩
  have HN := Lib.hid hn
  have hl' : (n : Int) ≤ 1000 := by omega
  rw [hn] at hc hxc ⊢
  clear h hcell hcl hit hl hz hn
  go_enter Tryz.func9, Tryz.ntmps9
  go_wp2_with fail
  go_loopg [5, 6] n (fun g i _ wr => ∃ m : Nat, i = .int .i64 m ∧ g + m = n ∧ Hid (Below w.heap.size w wr))
  case atStart => exact ⟨0, rfl, by omega, Lib.hid (Below.refl _ _)⟩
  case round =>
    obtain ⟨m, rfl, hg, hb⟩ := hrel
    have HG := Lib.hid hg
    clear hg
    by_cases hm : m < n
    · obtain ⟨p, hp⟩ : ∃ p, s.tab.L[m]? = some p := ⟨_, List.getElem?_eq_getElem (by have := HN.out; rw [items_len] at this; omega)⟩
      have hpi : s.items[m]? = some (s.ent p.2).it := by rw [items_at, hp]; rfl
      obtain ⟨g, vx, vc, rfl, hs, hcc⟩ := HI.out.2 m p hp
      obtain ⟨g2, cap2, va2, vc2, ex, -, hg2, hown, hc2⟩ := HI.out.1.get hpi
      injection ex with ex _ ex2
      subst ex ex2
      have hmi : (m : Int) < n := by omega
      have hm0 : (0 : Int) ≤ m := by omega
      have hgl : g < w.heap.size := by
        have := hcc 0 (by omega)
        exact block_lt_of_cell this
      have hk : ∀ (g j : Nat), g < w.heap.size → wr.cell? ⟨g, j, none⟩ = w.cell? ⟨g, j, none⟩ := fun g j hg => World.cell?_of_block (hb.out.block g hg)
      have a0 := (hk _ _ hg2).trans (hc2 0 _ rfl)
      have a1 := (hk _ _ hg2).trans (hc2 1 _ rfl)
      have a2 := (hk _ _ hg2).trans (hc2 2 _ rfl)
      have a3 := (hk _ _ hg2).trans (hc2 3 _ rfl)
      have a4 := (hk _ _ hg2).trans (hc2 4 _ rfl)
      have a5 := (hk _ _ hg2).trans (hc2 5 _ rfl)
      have a6 := (hk _ _ hg2).trans (hc2 6 _ rfl)
      have a7 := (hk _ _ hg2).trans (hc2 7 _ rfl)
      have a8 := (hk _ _ hg2).trans (hc2 8 _ rfl)
      have a9 := (hk _ _ hg2).trans (hc2 9 _ rfl)
      have b0 := (hk _ _ hgl).trans (hcc 0 (by omega))
      have b1 := (hk _ _ hgl).trans (hcc 1 (by omega))
      have b2 := (hk _ _ hgl).trans (hcc 2 (by omega))
      have b3 := (hk _ _ hgl).trans (hcc 3 (by omega))
      have b4 := (hk _ _ hgl).trans (hcc 4 (by omega))
      have b5 := (hk _ _ hgl).trans (hcc 5 (by omega))
      have b6 := (hk _ _ hgl).trans (hcc 6 (by omega))
      have b7 := (hk _ _ hgl).trans (hcc 7 (by omega))
      have b8 := (hk _ _ hgl).trans (hcc 8 (by omega))
      have b9 := (hk _ _ hgl).trans (hcc 9 (by omega))
      simp only [Nat.add_zero, Item.arr, List.getElem?_toArray, List.getElem?_cons_zero, List.getElem?_cons_succ] at a0 a1 a2 a3 a4 a5 a6 a7 a8 a9 b0 b1 b2 b3 b4 b5 b6 b7 b8 b9
      have hbd := Mem.tr hb.out (Below.drew (Below.refl _ wr))
      have hsm := same_any (s.ent p.2).it (s.ent p.2).it ((SrcB.of_row hown).below hbd) (hs.below hbd)
      have hde : decide ((s.ent p.2).it = (s.ent p.2).it) = true := by simp
      rw [hde] at hsm
      unfold Item.arr at hsm
      clear hp hpi hs hcc hown hc2 hg2 hgl hk hbd hde
      go_wp2_with fail
      refine wp_region_still_tail 9 (by kernel_rfl) (by kernel_rfl) ?_
      simp only [List.take_succ_cons, List.take_zero, List.drop_succ_cons, List.drop_zero]
      repeat still_step
      refine wpStill_nil ?_
      change wpList _ _ _ _ _ wr.drew
      clear a0 a1 a2 a3 a4 a5 a6 a7 a8 a9 b0 b1 b2 b3 b4 b5 b6 b7 b8 b9
      go_wp2_with fail
      refine hsm.mono ?_
      rintro e w3 ⟨rfl, hb3⟩
      have H3 := Lib.hid (Mem.tr (Mem.tr hb.out (Below.drew (Below.refl _ wr))) hb3)
      clear hsm hb3
      go_wp2_with fail
      go_roundg (n - (m + 1))
      case measure => have := HG.out; omega
      case rel => exact ⟨m + 1, by go_num, by have := HG.out; omega, H3⟩
    · have hml : (n : Int) ≤ m := by omega
      clear hm
      go_wp2_with fail
      go_ret
      exact ⟨rfl, hb.out⟩
end Go.Proofs.YteonjgnnpgpnnaaGreat.RefSh

/- Layer 11: Drops hands its row over: it is the caller's own from then on. -/
namespace Go.Proofs.YteonjgnnpgpnnaaGreat.Shard
set_option maxRecDepth 100000
open Go Go.RowKit Go.Proofs.YteonjgnnpgpnnaaGreat.Mem Go.Proofs.YteonjgnnpgpnnaaGreat.App

/-- The drops' blocks are no longer the shard's. -/
def shed (col : Col) : Col := fun k => if col k = some .drops then none else col k
theorem shed_of {col : Col} {k : Nat} {p : Part} (h : col k = some p) (hp : p ≠ .drops) : shed col k = some p := by
  unfold shed
  rw [if_neg (by rw [h]; intro e; injection e with e; exact hp e)]; exact h
theorem of_shed {col : Col} {k : Nat} {p : Part} (h : shed col k = some p) : col k = some p := by
  unfold shed at h
  split at h
  · cases h
  · exact h
theorem shed_ne {col : Col} {k : Nat} (h : shed col k ≠ none) : col k ≠ none := by
  rcases hc : shed col k with _ | p
  · exact absurd hc h
  · rw [of_shed hc]; simp
theorem Parts.shed {W w : World} {n : Nat} {hl : Nat → Prop} {col : Col} {ad : Addrs} {seed : Int} {s : St} {vd : Value} {vv : Nat → Value} (h : Parts W w n hl col ad seed s vd vv) (hv : vd.ownBlock = none) : Parts W w n hl (Shard.shed col) ad seed s vd vv := by
  obtain ⟨Ft, ht1, ht2⟩ := h.tab
  obtain ⟨Fs, hs1, hs2⟩ := h.slab
  obtain ⟨Fo, ho1, ho2⟩ := h.order
  refine ⟨h.self, shed_of h.csb (by simp), ⟨Ft, ht1, fun k hk => shed_of (ht2 k hk) (by simp)⟩, h.sm, ⟨Fs, hs1, fun k hk => shed_of (hs2 k hk) (by simp)⟩, ⟨Fo, ho1, fun k hk => shed_of (ho2 k hk) (by simp)⟩, h.judge, ⟨shed_of h.cj.1 (by simp), shed_of h.cj.2.1 (by simp), shed_of h.cj.2.2 (by simp)⟩, h.drops, fun g e => (by rw [hv] at e; cases e), fun q hq hn => ?_, fun k p e => h.lt k p (of_shed e), h.below⟩
  obtain ⟨a1, a2, a3, a4, a5⟩ := h.ents q hq hn
  exact ⟨a1, a2, a3, shed_of a4 (by simp), fun g e => ⟨shed_of (a5 g e).1 (by simp), (a5 g e).2⟩⟩
section
variable {W w : World} {n b M : Nat} {col : Col} {seed : Int} {s : St}
theorem drops_own (h : At W w n b col seed s) : Calls Tryz.prog 15 #[.pointer (some ⟨b, 0, none⟩)] w fun e w' => ∃ v col', e = .returned v ∧ At W w' n b col' seed { s with drops := [] } ∧ Fr col col' w w' ∧ w'.ownsRow W.heap.size 9 1 v s.drops.length (cellsS s.drops) ∧ ∀ g, v.ownBlock = some g → col' g = Option.none := by
  obtain ⟨ad, vd, vv, rfl, h⟩ := h
  have c4 : w.cell? ⟨ad.sb, 4, none⟩ = some vd := Mem.row_cell h.self 4
  have f4 := Mem.row_free h.self 4
  obtain ⟨a, c, hv⟩ := Src.shape (Src.of_row h.drops)
  subst hv
  have HH := Lib.hid h
  clear h
  go_enter Tryz.func15, Tryz.ntmps15
  go_wp2_with fail
  go_ret
  have h := HH.out
  have ht := (h.turnDrops (Only.refl _ _) (l := []) (vd' := .slice none 0 0) (World.ownsRow_nil _ _ _ _) (fun g e => by cases e)).shed rfl
  refine ⟨_, _, rfl, ⟨ad, _, vv, rfl, ht⟩, ⟨(Only.refl _ _).setCell (p := ⟨ad.sb, 4, none⟩) (.inl (by rw [h.csb]; simp)) _, fun k hk => ?_⟩, ?_, fun g e => ?_⟩
  · have hk := shed_ne hk
    unfold recol at hk
    by_cases h1 : k < w.heap.size
    · rw [if_pos h1] at hk; exact .inl hk
    · exact .inr (by omega)
  · refine row_keep ⟨h.drops.1, ?_⟩ fun g e => Below.heap_setCell _ _ _ _ (fun e1 => ?_)
    · rcases h.drops.2 with h1 | ⟨g, cap, cur, h1, h2, h3⟩
      · exact .inl h1
      · exact .inr ⟨g, cap, cur, h1, (h.lt _ _ (h.cd g (by rw [h1]; rfl))).1, h3⟩
    · have h1 := h.cd g e
      rw [show g = ad.sb from e1, h.csb] at h1
      cases h1
  · unfold Shard.shed
    rw [if_pos (h.recol_of (h.cd g e))]
theorem drops_run2 (h : Run W w M b col seed s) :
    Calls Tryz.prog 15 #[.pointer (some ⟨b, 0, none⟩)] w fun e w' => ∃ v col', e = .returned v ∧ Run W w' M b col' seed { s with drops := [] } ∧ Fr col col' w w' ∧ w'.ownsRow W.heap.size 9 1 v s.drops.length (cellsS s.drops) ∧ ∀ g, v.ownBlock = some g → col' g = Option.none := by
  refine (drops_own h.at_).mono ?_
  rintro e w' ⟨v, col', h1, h2, h3, h4, h5⟩
  exact ⟨v, col', h1, ⟨h2, h.inv.emptied⟩, h3, h4, h5⟩
end
end Go.Proofs.YteonjgnnpgpnnaaGreat.Shard

/- The laws' own function Same, of two lists of keys. -/
namespace Go.Proofs.YteonjgnnpgpnnaaGreat.Same8
set_option maxRecDepth 100000
open Go Go.RowKit Go.Proofs.YteonjgnnpgpnnaaGreat.Mem Go.Proofs.YteonjgnnpgpnnaaGreat.Slru
open Go.Proofs.YteonjgnnpgpnnaaGreat.Shard (cellsS)
/-- Keys that lie behind a slice's value. -/
def ReadsK (w : World) (v : Value) (xs : List ByteArray) : Prop := ∃ a c, v = .slice a xs.length c ∧ xs.length ≤ c ∧ ∀ i k, xs[i]? = some k → ∃ g, a = some ⟨g, 0, none⟩ ∧ g < w.heap.size ∧ w.cell? ⟨g, i, none⟩ = some (.string k)
theorem ReadsK.of_row {w : World} {base : Nat} {v : Value} {xs : List ByteArray} (h : w.ownsRow base 9 1 v xs.length (cellsS xs)) : ReadsK w v xs := by
  rcases h.2 with ⟨e1, e2⟩ | ⟨g, cap, cur, e1, _, e2, e3, _, e4, e5⟩
  · have : xs = [] := List.eq_nil_of_length_eq_zero (by omega)
    subst this
    exact ⟨none, 0, by rw [e1]; rfl, Nat.le_refl _, fun i k hi => by simp at hi⟩
  · refine ⟨some ⟨g, 0, none⟩, cap, e1, e3, fun i k hi => ⟨g, rfl, (Array.getElem?_eq_some_iff.1 e2).1, ?_⟩⟩
    rw [Mem.row_cell e2 i]
    have hil := (List.getElem?_eq_some_iff.1 hi).1
    have h1 : (cur.toList.take (xs.length * 1))[i]? = some (.string k) := by rw [e5, cellsS, List.getElem?_map, hi]; rfl
    rw [List.getElem?_take, if_pos (by omega)] at h1
    simpa using h1
theorem ReadsK.below {w w' : World} {v : Value} {xs : List ByteArray} (h : ReadsK w v xs) (hb : Below w.heap.size w w') : ReadsK w' v xs := by
  obtain ⟨a, c, h1, h2, h3⟩ := h
  refine ⟨a, c, h1, h2, fun i k hi => ?_⟩
  obtain ⟨g, e, hg, hc⟩ := h3 i k hi
  exact ⟨g, e, Nat.lt_of_lt_of_le hg hb.size, (World.cell?_of_block (hb.block g hg)).trans hc⟩
set_option maxHeartbeats 1000000 in
theorem same_any {w : World} {va vb : Value} {xs ys : List ByteArray} (ha : ReadsK w va xs) (hb : ReadsK w vb ys) (hl : xs.length ≤ 1000000000000) :
    Calls Tryz.prog 14 #[va, vb] w fun e w' => e = .returned (.bool (decide (xs = ys))) ∧ ∃ d, w' = w.drewN d := by
  obtain ⟨a, c, rfl, hac, ha⟩ := ha
  obtain ⟨a', c', rfl, hbc, hb⟩ := hb
  by_cases hlen : xs.length = ys.length
  case neg =>
    have e : decide (xs = ys) = false := by simp; exact fun e => hlen (by rw [e])
    rw [e]
    have hne : ((xs.length : Int) != ys.length) = true := by simp; omega
    clear ha hb e hlen
    go_enter Tryz.func14, Tryz.ntmps14
    go_wp2_with fail
    go_ret
    exact ⟨rfl, 0, rfl⟩
  have HH := Lib.hid (And.intro ha (And.intro hb hlen))
  have hbc' : xs.length ≤ c' := by omega
  rw [← hlen]
  have hee : ((xs.length : Int) != xs.length) = false := by simp
  clear ha hb hlen hbc
  go_enter Tryz.func14, Tryz.ntmps14
  go_wp2_with fail
  go_loopg [5] xs.length (fun g i wr => ∃ m : Nat, i = .int .i64 m ∧ g + m = xs.length ∧ Hid (xs.take m = ys.take m) ∧ ∃ d, wr = w.drewN d)
  case atStart => exact ⟨0, rfl, by omega, Lib.hid rfl, 0, rfl⟩
  case round =>
    obtain ⟨m, rfl, hg, hs, d, rfl⟩ := hrel
    have HG := Lib.hid hg
    clear hg
    by_cases hm : m < xs.length
    · obtain ⟨k, hk⟩ : ∃ k, xs[m]? = some k := ⟨_, List.getElem?_eq_getElem hm⟩
      obtain ⟨k', hk'⟩ : ∃ k, ys[m]? = some k := ⟨_, List.getElem?_eq_getElem (by have := HH.out.2.2; omega)⟩
      obtain ⟨g, rfl, hg, c0⟩ := HH.out.1 m k hk
      obtain ⟨g', rfl, hg', c0'⟩ := HH.out.2.1 m k' hk'
      have hmi : (m : Int) < xs.length := by omega
      have c0 : (w.drewN d).cell? ⟨g, m, none⟩ = some (.string k) := c0
      have c0' : (w.drewN d).cell? ⟨g', m, none⟩ = some (.string k') := c0'
      have HK := Lib.hid (And.intro hk hk')
      clear hk hk' hg hg'
      by_cases hkk : k = k'
      · subst hkk
        have hse := str_eq k
        go_wp2_with fail
        go_quiet (fail)
        go_wp2_with fail
        go_roundg (xs.length - (m + 1))
        case measure => have := HG.out; omega
        case rel => exact ⟨m + 1, by go_num, by have := HG.out; omega, Lib.hid (by rw [List.take_add_one, List.take_add_one, hs.out, HK.out.1, HK.out.2]), _, rfl⟩
      · have hse := str_ne hkk
        have e : decide (xs = ys) = false := by
          simp; intro e
          have h1 := HK.out.1
          rw [e, HK.out.2] at h1
          injection h1 with h1
          exact hkk h1.symm
        have HE := Lib.hid e
        clear hkk e
        go_wp2_with fail
        go_quiet (fail)
        go_wp2_with fail
        go_ret
        exact ⟨by rw [HE.out]; rfl, d + nq, by simp⟩
    · have hml : (xs.length : Int) ≤ m := by omega
      have e : decide (xs = ys) = true := by
        have h1 := hs.out
        rw [List.take_of_length_le (by omega), List.take_of_length_le (by have := HH.out.2.2; omega)] at h1
        simpa using h1
      have HE := Lib.hid e
      clear e
      go_wp2_with fail
      go_ret
      exact ⟨by rw [HE.out]; rfl, _, rfl⟩
end Go.Proofs.YteonjgnnpgpnnaaGreat.Same8

/- Layer 11's law: do (one call, of both shards). -/
namespace Go.Proofs.YteonjgnnpgpnnaaGreat.RefSh
set_option maxRecDepth 100000
open Go Go.RowKit Go.Proofs.YteonjgnnpgpnnaaGreat.Mem Go.Proofs.YteonjgnnpgpnnaaGreat.App Go.Proofs.YteonjgnnpgpnnaaGreat.Shard

def oarr (kd : Int) (it : Shard.Item) (v : Value) (env : Env) : Array Value := #[.int .i64 kd, .string it.key, v, .int .u32 it.flags, .int .i64 it.exp, .int .u64 it.cas, .int .i64 it.sec, .int .u64 it.seq, .bool it.stale, .bool it.won, .bool it.seen, .int .i64 env.now, .int .u64 env.seq, .int .i64 env.flush, .int .u64 env.flushSeq]
/-- Both shards in a call, beside a box of the call's own. -/
structure InDo (W w0 w : World) (M M' b rb B : Nat) (col rcol : Col) (seed : Int) (o : Obj) (v : Value) (xs : List UInt8) (s t : St) : Prop where
  both : ∃ col' rcol', Both W w M M' b rb col' rcol' seed s t ∧ (∀ k, k < w0.heap.size → col k = none → col' k = none) ∧ ∀ k, k < w0.heap.size → rcol k = none → rcol' k = none
  box : w.heap[B]? = some o
  src : SrcB w v xs
  size : w0.heap.size ≤ w.heap.size
section
variable {W w0 w w' : World} {M M' M2 b rb B : Nat} {col rcol : Col} {seed : Int} {o : Obj} {v : Value} {xs : List UInt8} {s t u : St}
theorem InDo.step (h : InDo W w0 w M M' b rb B col rcol seed o v xs s t) (hb : Below w.heap.size w w') : InDo W w0 w' M M' b rb B col rcol seed o v xs s t := by
  obtain ⟨c1, r1, h1, h2, h3⟩ := h.both
  exact ⟨⟨c1, r1, h1.step hb, h2, h3⟩, (hb.block _ (Array.getElem?_eq_some_iff.1 h.box).1).trans h.box, h.src.below hb, Nat.le_trans h.size hb.size⟩
structure Free (w0 : World) (B : Nat) (col rcol : Col) (v : Value) (xs : List UInt8) : Prop where
  box : B < w0.heap.size ∧ col B = none ∧ rcol B = none
  val : xs ≠ [] → ∀ g, v.ownBlock = some g → g < w0.heap.size ∧ col g = none ∧ rcol g = none
/-- The program's shard is turned. -/
theorem InDo.shard (h : InDo W w0 w M M' b rb B col rcol seed o v xs s t) (hf : Free w0 B col rcol v xs) {c1 r1 : Col} (hB : Both W w M M' b rb c1 r1 seed s t) (h2 : ∀ k, k < w0.heap.size → col k = none → c1 k = none) (h3 : ∀ k, k < w0.heap.size → rcol k = none → r1 k = none) (ht : RunTurn W w M2 b c1 seed u w') : InDo W w0 w' M2 M' b rb B col rcol seed o v xs u t := by
  obtain ⟨c2, hB2, f⟩ := hB.shard ht
  have hz := h.size
  have hk : ∀ k, k < w0.heap.size → col k = none → w'.heap[k]? = w.heap[k]? ∧ c2 k = none := fun k hk hc => by
    obtain ⟨e1, e2, -⟩ := f.own (Nat.lt_of_lt_of_le hk hz) (h2 k hk hc)
    exact ⟨e1, e2⟩
  exact ⟨⟨c2, r1, hB2, fun k h1 h2 => (hk k h1 h2).2, h3⟩, (hk B hf.box.1 hf.box.2.1).1.trans h.box, h.src.same (fun hx g e _ => (hk g (hf.val hx g e).1 (hf.val hx g e).2.1).1) f.1.size, Nat.le_trans hz f.1.size⟩
theorem InDo.turn (h : InDo W w0 w M M' b rb B col rcol seed o v xs s t) (hf : Free w0 B col rcol v xs) {c1 r1 : Col} (hB : Both W w M M' b rb c1 r1 seed s t) (h2 : ∀ k, k < w0.heap.size → col k = none → c1 k = none) (h3 : ∀ k, k < w0.heap.size → rcol k = none → r1 k = none) (ht : RTurn W w (nn M2) rb r1 u w') : InDo W w0 w' M M2 b rb B col rcol seed o v xs s u := by
  obtain ⟨r2, hB2, f⟩ := hB.turn ht
  have hz := h.size
  have hk : ∀ k, k < w0.heap.size → rcol k = none → w'.heap[k]? = w.heap[k]? ∧ r2 k = none := fun k hk hc => by
    obtain ⟨e1, e2, -⟩ := f.own (Nat.lt_of_lt_of_le hk hz) (h3 k hk hc)
    exact ⟨e1, e2⟩
  exact ⟨⟨c1, r2, hB2, h2, fun k h1 h2 => (hk k h1 h2).2⟩, (hk B hf.box.1 hf.box.2.2).1.trans h.box, h.src.same (fun hx g e _ => (hk g (hf.val hx g e).1 (hf.val hx g e).2.2).1) f.1.size, Nat.le_trans hz f.1.size⟩
/-- A store, by both. -/
theorem InDo.store {it : Shard.Item} {a : Option Addr} {c : Nat} (h : InDo W w0 w M M b rb B col rcol seed o (.slice a it.val.length c) it.val s s) (hf : Free w0 B col rcol (.slice a it.val.length c) it.val) (hM : M + 1 ≤ 400) (env : Env) (hks : it.key.size ≤ 300) (hvs : it.val.length ≤ 3000) :
    Calls Tryz.prog 17 #[.pointer (some ⟨b, 0, none⟩), .agg (it.arr (.slice a it.val.length c)), .agg env.arr] w fun e w' => ∃ fresh, e = .returned (.int .i64 (s.store fresh it env).1) ∧ InDo W w0 w' (M + 1) M b rb B col rcol seed o (.slice a it.val.length c) it.val (s.store fresh it env).2 s ∧
      Calls Tryz.prog 25 #[.pointer (some ⟨rb, 0, none⟩), .agg (it.arr (.slice a it.val.length c)), .agg env.arr] w' fun e w2 => e = .returned (.int .i64 (s.store fresh it env).1) ∧ InDo W w0 w2 (M + 1) (M + 1) b rb B col rcol seed o (.slice a it.val.length c) it.val (s.store fresh it env).2 (s.store fresh it env).2 := by
  obtain ⟨c1, r1, hB, h2, h3⟩ := h.both
  have hn := nn_max (M := M) (by omega)
  refine (store_run hB.run hM it a c env hks hvs h.src (fun hx g e => h2 g (hf.val hx g e).1 (hf.val hx g e).2.1)).mono ?_
  rintro e w' ⟨fresh, h4, rfl, ht⟩
  have hd := h.shard hf hB h2 h3 ht
  obtain ⟨c2, r2, hB2, h5, h6⟩ := hd.both
  refine ⟨fresh, rfl, hd, (RefSh.store_any hB2.ref hB.run.inv (by omega) (by omega) it a c env hks hvs hd.src (fun hx g e => h6 g (hf.val hx g e).1 (hf.val hx g e).2.2) fresh h4).mono ?_⟩
  rintro e w2 ⟨rfl, ht2⟩
  exact ⟨rfl, hd.turn hf hB2 h5 h6 (ht2.more (nn_succ M))⟩
/-- An update, by both. -/
theorem InDo.update {it : Shard.Item} {a : Option Addr} {c : Nat} (h : InDo W w0 w M M b rb B col rcol seed o (.slice a it.val.length c) it.val s s) (hf : Free w0 B col rcol (.slice a it.val.length c) it.val) (hM : M + 1 ≤ 400) (hks : it.key.size ≤ 300) (hvs : it.val.length ≤ 3000) :
    Calls Tryz.prog 30 #[.pointer (some ⟨b, 0, none⟩), .agg (it.arr (.slice a it.val.length c))] w fun e w' => e = .returned (.int .i64 (s.update it).1) ∧ InDo W w0 w' M M b rb B col rcol seed o (.slice a it.val.length c) it.val (s.update it).2 s ∧
      Calls Tryz.prog 31 #[.pointer (some ⟨rb, 0, none⟩), .agg (it.arr (.slice a it.val.length c))] w' fun e w2 => e = .returned (.int .i64 (s.update it).1) ∧ InDo W w0 w2 M M b rb B col rcol seed o (.slice a it.val.length c) it.val (s.update it).2 (s.update it).2 := by
  obtain ⟨c1, r1, hB, h2, h3⟩ := h.both
  refine (update_run hB.run (by omega) it a c hks hvs h.src (fun hx g e => h2 g (hf.val hx g e).1 (hf.val hx g e).2.1)).mono ?_
  rintro e w' ⟨rfl, ht⟩
  have hd := h.shard hf hB h2 h3 ht
  obtain ⟨c2, r2, hB2, h5, h6⟩ := hd.both
  refine ⟨rfl, hd, (RefSh.update_any hB2.ref hB.run.inv (by omega) it a c hvs hd.src).mono ?_⟩
  rintro e w2 ⟨rfl, ht2⟩
  exact ⟨rfl, hd.turn hf hB2 h5 h6 ht2⟩
/-- A remove, by both. -/
theorem InDo.remove (h : InDo W w0 w M M b rb B col rcol seed o v xs s s) (hf : Free w0 B col rcol v xs) (hM : M + 1 ≤ 400) (k : ByteArray) (hk : k.size ≤ 300) :
    Calls Tryz.prog 32 #[.pointer (some ⟨b, 0, none⟩), .string k] w fun e w' => e = .returned (.bool (s.remove k).1) ∧ InDo W w0 w' (M + 1) M b rb B col rcol seed o v xs (s.remove k).2 s ∧
      Calls Tryz.prog 33 #[.pointer (some ⟨rb, 0, none⟩), .string k] w' fun e w2 => e = .returned (.bool (s.remove k).1) ∧ InDo W w0 w2 (M + 1) (M + 1) b rb B col rcol seed o v xs (s.remove k).2 (s.remove k).2 := by
  obtain ⟨c1, r1, hB, h2, h3⟩ := h.both
  have hn := nn_max (M := M) (by omega)
  have hs := nn_succ M
  refine (remove_run hB.run hM k (by unfold maxLen; omega)).mono ?_
  rintro e w' ⟨rfl, ht⟩
  have hd := h.shard hf hB h2 h3 ht
  obtain ⟨c2, r2, hB2, h5, h6⟩ := hd.both
  refine ⟨rfl, hd, (RefSh.remove_any hB2.ref hB.run.inv (by omega) (by omega) k).mono ?_⟩
  rintro e w2 ⟨rfl, ht2⟩
  exact ⟨rfl, hd.turn hf hB2 h5 h6 (ht2.more (by omega))⟩
/-- A use, by both. -/
theorem InDo.use (h : InDo W w0 w M M b rb B col rcol seed o v xs s s) (hf : Free w0 B col rcol v xs) (hM : M + 1 ≤ 400) (k : ByteArray) (hk : k.size ≤ 300) :
    Calls Tryz.prog 18 #[.pointer (some ⟨b, 0, none⟩), .string k] w fun e w' => e = .returned (.tuple #[]) ∧ InDo W w0 w' M M b rb B col rcol seed o v xs { s with judge := s.judge.touch k.data.toList, order := (s.order.hit k).2 } s ∧
      Calls Tryz.prog 29 #[.pointer (some ⟨rb, 0, none⟩), .string k] w' fun e w2 => e = .returned (.tuple #[]) ∧ InDo W w0 w2 M M b rb B col rcol seed o v xs { s with judge := s.judge.touch k.data.toList, order := (s.order.hit k).2 } { s with judge := s.judge.touch k.data.toList, order := (s.order.hit k).2 } := by
  obtain ⟨c1, r1, hB, h2, h3⟩ := h.both
  have hol := hB.run.olen
  refine (use_run hB.run (by omega) k (by unfold maxLen; omega)).mono ?_
  rintro e w' ⟨rfl, ht⟩
  have hd := h.shard hf hB h2 h3 ht
  obtain ⟨c2, r2, hB2, h5, h6⟩ := hd.both
  refine ⟨rfl, hd, (RefSh.use_any hB2.ref k (by unfold maxLen; omega) (by omega)).mono ?_⟩
  rintro e w2 ⟨rfl, ht2⟩
  exact ⟨rfl, hd.turn hf hB2 h5 h6 ht2⟩
end
end Go.Proofs.YteonjgnnpgpnnaaGreat.RefSh

/- Layer 11's law: Look and Drops, of both shards. -/
namespace Go.Proofs.YteonjgnnpgpnnaaGreat.RefSh
set_option maxRecDepth 100000
open Go Go.RowKit Go.Proofs.YteonjgnnpgpnnaaGreat.Mem Go.Proofs.YteonjgnnpgpnnaaGreat.App Go.Proofs.YteonjgnnpgpnnaaGreat.Shard Go.Proofs.YteonjgnnpgpnnaaGreat.Same8

/-- Drops: the row that is handed over was the shard's. -/
theorem drops_col {W w : World} {n b : Nat} {col : Col} {seed : Int} {s : St} (h : At W w n b col seed s) : Calls Tryz.prog 15 #[.pointer (some ⟨b, 0, none⟩)] w fun e w' => ∃ v, e = .returned v ∧ Turn W w n b col seed { s with drops := [] } w' ∧ w'.ownsRow W.heap.size 9 1 v s.drops.length (cellsS s.drops) ∧ ∀ g, v.ownBlock = some g → col g ≠ Option.none := by
  obtain ⟨ad, vd, vv, rfl, h⟩ := h
  have c4 : w.cell? ⟨ad.sb, 4, none⟩ = some vd := Mem.row_cell h.self 4
  have f4 := Mem.row_free h.self 4
  obtain ⟨a, c, hv⟩ := Src.shape (Src.of_row h.drops)
  subst hv
  have HH := Lib.hid h
  clear h
  go_enter Tryz.func15, Tryz.ntmps15
  go_wp2_with fail
  go_ret
  have h := HH.out
  refine ⟨_, rfl, ⟨_, ⟨ad, _, vv, rfl, h.turnDrops (Only.refl _ _) (l := []) (vd' := .slice none 0 0) (World.ownsRow_nil _ _ _ _) (fun g e => by cases e)⟩, (Only.refl _ _).setCell (p := ⟨ad.sb, 4, none⟩) (.inl (by rw [h.csb]; simp)) _, fun k hk => ?_⟩, ?_, fun g e => by rw [h.cd g e]; simp⟩
  · replace hk : recol col w w .drops k ≠ none := hk
    unfold recol at hk
    by_cases h1 : k < w.heap.size
    · rw [if_pos h1] at hk; exact .inl hk
    · exact .inr (by omega)
  refine row_keep ⟨h.drops.1, ?_⟩ fun g e => Below.heap_setCell _ _ _ _ (fun e1 => ?_)
  · rcases h.drops.2 with h1 | ⟨g, cap, cur, h1, h2, h3⟩
    · exact .inl h1
    · exact .inr ⟨g, cap, cur, h1, (h.lt _ _ (h.cd g (by rw [h1]; rfl))).1, h3⟩
  · have h1 := h.cd g e
    rw [show g = ad.sb from e1, h.csb] at h1
    cases h1
theorem reads_same {w w' : World} {base n : Nat} {v : Value} {l : List ByteArray} (h : w.ownsRow base 9 1 v n (cellsS l)) (hn : n = l.length) (hs : ∀ g, v.ownBlock = some g → w'.heap[g]? = w.heap[g]?) : ReadsK w' v l := by
  subst hn
  exact ReadsK.of_row (row_keep h hs)
section
variable {W w0 w w' : World} {M M' M2 b rb B : Nat} {col rcol : Col} {seed : Int} {o : Obj} {v : Value} {xs : List UInt8} {s t u : St}
/-- Drops, by both. -/
theorem InDo.drops (h : InDo W w0 w M M b rb B col rcol seed o v xs s s) (hf : Free w0 B col rcol v xs) (hM : M + 1 ≤ 400) :
    Calls Tryz.prog 15 #[.pointer (some ⟨b, 0, none⟩)] w fun e w' => ∃ v1, e = .returned v1 ∧ InDo W w0 w' M M b rb B col rcol seed o v xs { s with drops := [] } s ∧
      Calls Tryz.prog 16 #[.pointer (some ⟨rb, 0, none⟩)] w' fun e w2 => ∃ v2, e = .returned v2 ∧ InDo W w0 w2 M M b rb B col rcol seed o v xs { s with drops := [] } { s with drops := [] } ∧ ReadsK w2 v1 s.drops ∧ ReadsK w2 v2 s.drops := by
  obtain ⟨c1, r1, hB, h2, h3⟩ := h.both
  refine (drops_col hB.run.at_).mono ?_
  rintro e w' ⟨v1, rfl, ht, hrow, hcol⟩
  have hrt : RunTurn W w M b c1 seed { s with drops := [] } w' := RunTurn.of ht (Nat.le_refl _) (by omega) hB.run.inv.emptied
  have hd := h.shard hf hB h2 h3 hrt
  obtain ⟨c2, r2, hB2, h5, h6⟩ := hd.both
  obtain ⟨c3, hB3, f3⟩ := hB.shard hrt
  refine ⟨v1, rfl, h.shard hf hB h2 h3 hrt, (RefSh.drops_any hB3.ref).mono ?_⟩
  rintro e w2 ⟨v2, rfl, ht2, hrow2⟩
  have hd3 : InDo W w0 w' M M b rb B col rcol seed o v xs { s with drops := [] } s := hd
  have hc3 : ∀ k, k < w0.heap.size → col k = Option.none → c3 k = Option.none := fun k hk hc => (f3.own (Nat.lt_of_lt_of_le hk h.size) (h2 k hk hc)).2.1
  obtain ⟨r4, hr4, f4⟩ := ht2
  refine ⟨v2, rfl, hd.turn hf hB3 hc3 h3 ⟨r4, hr4, f4⟩, reads_same hrow rfl fun g e => ?_, ReadsK.of_row hrow2⟩
  exact f4.keep (own_block_lt hrow g e).2 (hB.sep g (hcol g e))
/-- A look, by both. -/
theorem InDo.look (h : InDo W w0 w M M b rb B col rcol seed o v xs s s) (hf : Free w0 B col rcol v xs) (hM : M + 1 ≤ 400) (k : ByteArray) (env : Env) (hk : k.size ≤ 300) :
    Calls Tryz.prog 26 #[.pointer (some ⟨b, 0, none⟩), .string k, .agg env.arr] w fun e w' => ∃ (it : Shard.Item) (va : Option Addr) (vc : Nat) (q : Bool), e = .returned (.tuple #[.agg (it.arr (.slice va it.val.length vc)), .bool q]) ∧ InDo W w0 w' (M + 1) M b rb B col rcol seed o v xs (s.find k env).2 s ∧
      ∀ w1, Below w'.heap.size w' w1 → Calls Tryz.prog 27 #[.pointer (some ⟨rb, 0, none⟩), .string k, .agg env.arr] w1 fun e w2 => ∃ (ua : Option Addr) (uc : Nat), e = .returned (.tuple #[.agg (it.arr (.slice ua it.val.length uc)), .bool q]) ∧ InDo W w0 w2 (M + 1) (M + 1) b rb B col rcol seed o v xs (s.find k env).2 (s.find k env).2 ∧
        SrcB w2 (.slice va it.val.length vc) it.val ∧ SrcB w2 (.slice ua it.val.length uc) it.val ∧ ∀ j, w'.heap.size ≤ j → j < w1.heap.size → w2.heap[j]? = w1.heap[j]? := by
  obtain ⟨c1, r1, hB, h2, h3⟩ := h.both
  have hn := nn_max (M := M) (by omega)
  have hns := nn_succ M
  have hlow := hB.ref.lt
  refine (look_run hB.run hM k env (by unfold maxLen; omega)).mono ?_
  rintro e w' ⟨ht, he⟩
  have hd := h.shard hf hB h2 h3 ht
  obtain ⟨c3, hB3, f3⟩ := hB.shard ht
  have hc3 : ∀ k, k < w0.heap.size → col k = Option.none → c3 k = Option.none := fun k hk hc => (f3.own (Nat.lt_of_lt_of_le hk h.size) (h2 k hk hc)).2.1
  have hrl : ∀ w1, Below w'.heap.size w' w1 → Calls Tryz.prog 27 #[.pointer (some ⟨rb, 0, none⟩), .string k, .agg env.arr] w1 (LookPost W w1 (nn M + 1) rb r1 s (s.find k env)) := fun w1 hb => RefSh.look_any (hB3.ref.step hb) hB.run.inv (by omega) (by omega) k env
  have hin : ∀ w1 w2, Below w'.heap.size w' w1 → RTurn W w1 (nn M + 1) rb r1 (s.find k env).2 w2 → InDo W w0 w2 (M + 1) (M + 1) b rb B col rcol seed o v xs (s.find k env).2 (s.find k env).2 ∧ (∀ j, j < w1.heap.size → r1 j = Option.none → w2.heap[j]? = w1.heap[j]?) := fun w1 w2 hb ht2 => by
    have ht3 := ht2.more (show nn M + 1 ≤ nn (M + 1) by omega)
    refine ⟨(hd.step hb).turn hf (hB3.step hb) hc3 h3 ht3, fun j hj hr => ?_⟩
    obtain ⟨r4, hr4, f4⟩ := ht2
    exact f4.keep hj hr
  have hfar : ∀ j, w'.heap.size ≤ j → r1 j = Option.none := fun j hj => Classical.byContradiction fun e => by have := (hlow j e).2; have := f3.1.size; omega
  rcases hy : (s.find k env).1 with _ | x
  · rw [hy] at he
    refine ⟨⟨⟨#[]⟩, [], 0, 0, 0, 0, 0, false, false, false⟩, Option.none, 0, false, he, hd, fun w1 hb => (hrl w1 hb).mono ?_⟩
    rintro e w2 ⟨ht2, he2⟩
    rw [hy] at he2
    obtain ⟨q1, q2⟩ := hin w1 w2 hb ht2
    exact ⟨Option.none, 0, he2, q1, src_nil _, src_nil _, fun j h1 h2 => q2 j h2 (hfar j h1)⟩
  · rw [hy] at he
    obtain ⟨v1, he, hown⟩ := he
    obtain ⟨va, vc, hv⟩ := Src.shape (Src.of_row hown)
    subst hv
    refine ⟨(s.ent x).it, va, vc, true, he, hd, fun w1 hb => (hrl w1 hb).mono ?_⟩
    rintro e w2 ⟨ht2, he2⟩
    rw [hy] at he2
    obtain ⟨u1, he2, hs2⟩ := he2
    obtain ⟨ua, uc, hu⟩ := hs2.shape
    subst hu
    obtain ⟨q1, q2⟩ := hin w1 w2 hb ht2
    refine ⟨ua, uc, he2, q1, SrcB.same ((SrcB.of_row hown).below hb) (fun _ g e hg => q2 g hg ?_) ?_, hs2, fun j h1 h2 => q2 j h2 (hfar j h1)⟩
    · exact Classical.byContradiction fun e1 => by have := (hlow g e1).2; have := (own_block_lt hown g e).1; omega
    · obtain ⟨r4, hr4, f4⟩ := ht2
      exact f4.1.size
end
end Go.Proofs.YteonjgnnpgpnnaaGreat.RefSh

/- Layer 11's law: do. -/
namespace Go.Proofs.YteonjgnnpgpnnaaGreat.RefSh
set_option maxRecDepth 100000
open Go Go.RowKit Go.Proofs.YteonjgnnpgpnnaaGreat.Mem Go.Proofs.YteonjgnnpgpnnaaGreat.App Go.Proofs.YteonjgnnpgpnnaaGreat.Shard Go.Proofs.YteonjgnnpgpnnaaGreat.Same8

def DoPost (W : World) (M b rb : Nat) (seed : Int) (e : Ending) (w' : World) : Prop := e = .returned (.bool true) ∧ ∃ col' rcol' s', Both W w' (M + 1) (M + 1) b rb col' rcol' seed s' s'
theorem InDo.done {W w0 w : World} {M b rb B m : Nat} {col rcol : Col} {seed : Int} {o : Obj} {v : Value} {xs : List UInt8} {s : St} (h : InDo W w0 w m m b rb B col rcol seed o v xs s s) (hm : m ≤ M + 1) (hM : M + 1 ≤ 400) : DoPost W M b rb seed (.returned (.bool true)) w := by
  obtain ⟨c1, r1, hB, -, -⟩ := h.both
  exact ⟨rfl, c1, r1, s, hB.run.more hm hM, hB.ref.more (nn_le hm), hB.sep⟩
set_option maxHeartbeats 4000000 in
theorem do_store {W w : World} {M b rb : Nat} {col rcol : Col} {seed : Int} {s : St} (hB : Both W w M M b rb col rcol seed s s) (hM : M + 1 ≤ 400) (it : Shard.Item) (a : Option Addr) (c : Nat) (env : Env) (hsrc : SrcB w (.slice a it.val.length c) it.val) (hlow : it.val ≠ [] → ∀ g, (Value.slice a it.val.length c).ownBlock = some g → g < W.heap.size) (hks : it.key.size ≤ 300) (hvs : it.val.length ≤ 3000) :
    Calls Tryz.prog 8 #[.pointer (some ⟨b, 0, none⟩), .pointer (some ⟨rb, 0, none⟩), .agg (oarr 0 it (.slice a it.val.length c) env)] w (DoPost W M b rb seed) := by
  have hba := Mem.al (Below.refl w.heap.size w) (.cells (oarr 0 it (.slice a it.val.length c) env) 38)
  have nb := Mem.new_block w (.cells (oarr 0 it (.slice a it.val.length c) env) 38)
  have hz : (w.alloc (.cells (oarr 0 it (.slice a it.val.length c) env) 38)).heap.size = w.heap.size + 1 := by simp
  obtain ⟨w0, hw0⟩ : ∃ w0, w.alloc (.cells (oarr 0 it (.slice a it.val.length c) env) 38) = w0 := ⟨_, rfl⟩
  rw [hw0] at hba nb hz
  have hWw := hB.run.below.size
  have hf : Free w0 w.heap.size col rcol (.slice a it.val.length c) it.val := ⟨⟨by omega, (hB.none (Nat.le_refl _)).1, (hB.none (Nat.le_refl _)).2⟩, fun hx g e => ⟨by have := hlow hx g e; omega, (hB.low (hlow hx g e)).1, (hB.low (hlow hx g e)).2⟩⟩
  have hi : InDo W w0 w0 M M b rb w.heap.size col rcol seed (.cells (oarr 0 it (.slice a it.val.length c) env) 38 (0, 0)) (.slice a it.val.length c) it.val s s := ⟨⟨col, rcol, hB.step hba, fun _ _ h => h, fun _ _ h => h⟩, nb, hsrc.below hba, Nat.le_refl _⟩
  have HF := Lib.hid hf
  have HI := Lib.hid hi
  have i0 := Mem.row_cell nb 0
  have i1 := Mem.row_cell nb 1
  have i2 := Mem.row_cell nb 2
  have i3 := Mem.row_cell nb 3
  have i4 := Mem.row_cell nb 4
  have i5 := Mem.row_cell nb 5
  have i6 := Mem.row_cell nb 6
  have i7 := Mem.row_cell nb 7
  have i8 := Mem.row_cell nb 8
  have i9 := Mem.row_cell nb 9
  have i10 := Mem.row_cell nb 10
  have i11 := Mem.row_cell nb 11
  have i12 := Mem.row_cell nb 12
  have i13 := Mem.row_cell nb 13
  have i14 := Mem.row_cell nb 14
  simp only [oarr, List.getElem?_toArray, List.getElem?_cons_zero, List.getElem?_cons_succ] at i0 i1 i2 i3 i4 i5 i6 i7 i8 i9 i10 i11 i12 i13 i14
  have hst := (hi.step (Below.drew (Below.refl _ w0))).store hf hM env hks hvs
  unfold Item.arr Env.arr at hst
  clear hB hba nb hz hWw hf hi hsrc hlow
  unfold oarr at hw0 ⊢
  go_enter Tryz.func8, Tryz.ntmps8
  go_wp2_with fail
  go_region_held3 (fun W' : World => W'.cell? ⟨w.heap.size, 1, none⟩ = some (.string it.key) ∧ W'.cell? ⟨w.heap.size, 2, none⟩ = some (.slice a it.val.length c) ∧ W'.cell? ⟨w.heap.size, 3, none⟩ = some (.int .u32 it.flags) ∧ W'.cell? ⟨w.heap.size, 4, none⟩ = some (.int .i64 it.exp) ∧ W'.cell? ⟨w.heap.size, 5, none⟩ = some (.int .u64 it.cas) ∧ W'.cell? ⟨w.heap.size, 6, none⟩ = some (.int .i64 it.sec) ∧ W'.cell? ⟨w.heap.size, 7, none⟩ = some (.int .u64 it.seq) ∧ W'.cell? ⟨w.heap.size, 8, none⟩ = some (.bool it.stale) ∧ W'.cell? ⟨w.heap.size, 9, none⟩ = some (.bool it.won) ∧ W'.cell? ⟨w.heap.size, 10, none⟩ = some (.bool it.seen) ∧ W'.cell? ⟨w.heap.size, 11, none⟩ = some (.int .i64 env.now) ∧ W'.cell? ⟨w.heap.size, 12, none⟩ = some (.int .u64 env.seq) ∧ W'.cell? ⟨w.heap.size, 13, none⟩ = some (.int .i64 env.flush) ∧ W'.cell? ⟨w.heap.size, 14, none⟩ = some (.int .u64 env.flushSeq))
    (first
      | exact ⟨i1, i2, i3, i4, i5, i6, i7, i8, i9, i10, i11, i12, i13, i14⟩
      | (have hk9 := fun j => Mem.row_cell H2.out.box j; exact ⟨hk9 1, hk9 2, hk9 3, hk9 4, hk9 5, hk9 6, hk9 7, hk9 8, hk9 9, hk9 10, hk9 11, hk9 12, hk9 13, hk9 14⟩)
      | (have hk9 := fun j => Mem.row_cell H1.out.box j; exact ⟨hk9 1, hk9 2, hk9 3, hk9 4, hk9 5, hk9 6, hk9 7, hk9 8, hk9 9, hk9 10, hk9 11, hk9 12, hk9 13, hk9 14⟩))
    (first
      | (go_at_call 17; refine hst.mono ?_; rintro en w1 ⟨fresh, rfl, h1, h2⟩; have H1 := Lib.hid h1; clear h1)
      | (go_at_call 25; refine h2.mono ?_; rintro en w2 ⟨rfl, h3⟩; have H2 := Lib.hid h3; clear h3))
  clear i0 i1 i2 i3 i4 i5 i6 i7 i8 i9 i10 i11 i12 i13 i14
  go_wp2_with fail
  go_ret
  exact H2.out.done (by omega) hM
set_option maxHeartbeats 4000000 in
theorem do_update {W w : World} {M b rb : Nat} {col rcol : Col} {seed : Int} {s : St} (hB : Both W w M M b rb col rcol seed s s) (hM : M + 1 ≤ 400) (it : Shard.Item) (a : Option Addr) (c : Nat) (env : Env) (hsrc : SrcB w (.slice a it.val.length c) it.val) (hlow : it.val ≠ [] → ∀ g, (Value.slice a it.val.length c).ownBlock = some g → g < W.heap.size) (hks : it.key.size ≤ 300) (hvs : it.val.length ≤ 3000) :
    Calls Tryz.prog 8 #[.pointer (some ⟨b, 0, none⟩), .pointer (some ⟨rb, 0, none⟩), .agg (oarr 3 it (.slice a it.val.length c) env)] w (DoPost W M b rb seed) := by
  have hba := Mem.al (Below.refl w.heap.size w) (.cells (oarr 3 it (.slice a it.val.length c) env) 38)
  have nb := Mem.new_block w (.cells (oarr 3 it (.slice a it.val.length c) env) 38)
  have hz : (w.alloc (.cells (oarr 3 it (.slice a it.val.length c) env) 38)).heap.size = w.heap.size + 1 := by simp
  obtain ⟨w0, hw0⟩ : ∃ w0, w.alloc (.cells (oarr 3 it (.slice a it.val.length c) env) 38) = w0 := ⟨_, rfl⟩
  rw [hw0] at hba nb hz
  have hWw := hB.run.below.size
  have hf : Free w0 w.heap.size col rcol (.slice a it.val.length c) it.val := ⟨⟨by omega, (hB.none (Nat.le_refl _)).1, (hB.none (Nat.le_refl _)).2⟩, fun hx g e => ⟨by have := hlow hx g e; omega, (hB.low (hlow hx g e)).1, (hB.low (hlow hx g e)).2⟩⟩
  have hi : InDo W w0 w0 M M b rb w.heap.size col rcol seed (.cells (oarr 3 it (.slice a it.val.length c) env) 38 (0, 0)) (.slice a it.val.length c) it.val s s := ⟨⟨col, rcol, hB.step hba, fun _ _ h => h, fun _ _ h => h⟩, nb, hsrc.below hba, Nat.le_refl _⟩
  have HF := Lib.hid hf
  have HI := Lib.hid hi
  have i0 := Mem.row_cell nb 0
  have i1 := Mem.row_cell nb 1
  have i2 := Mem.row_cell nb 2
  have i3 := Mem.row_cell nb 3
  have i4 := Mem.row_cell nb 4
  have i5 := Mem.row_cell nb 5
  have i6 := Mem.row_cell nb 6
  have i7 := Mem.row_cell nb 7
  have i8 := Mem.row_cell nb 8
  have i9 := Mem.row_cell nb 9
  have i10 := Mem.row_cell nb 10
  simp only [oarr, List.getElem?_toArray, List.getElem?_cons_zero, List.getElem?_cons_succ] at i0 i1 i2 i3 i4 i5 i6 i7 i8 i9 i10
  have hst := (hi.step (Below.drew (Below.refl _ w0))).update hf hM hks hvs
  unfold Item.arr at hst
  clear hB hba nb hz hWw hf hi hsrc hlow
  unfold oarr at hw0 ⊢
  go_enter Tryz.func8, Tryz.ntmps8
  go_wp2_with fail
  go_region_held3 (fun W' : World => W'.cell? ⟨w.heap.size, 1, none⟩ = some (.string it.key) ∧ W'.cell? ⟨w.heap.size, 2, none⟩ = some (.slice a it.val.length c) ∧ W'.cell? ⟨w.heap.size, 3, none⟩ = some (.int .u32 it.flags) ∧ W'.cell? ⟨w.heap.size, 4, none⟩ = some (.int .i64 it.exp) ∧ W'.cell? ⟨w.heap.size, 5, none⟩ = some (.int .u64 it.cas) ∧ W'.cell? ⟨w.heap.size, 6, none⟩ = some (.int .i64 it.sec) ∧ W'.cell? ⟨w.heap.size, 7, none⟩ = some (.int .u64 it.seq) ∧ W'.cell? ⟨w.heap.size, 8, none⟩ = some (.bool it.stale) ∧ W'.cell? ⟨w.heap.size, 9, none⟩ = some (.bool it.won) ∧ W'.cell? ⟨w.heap.size, 10, none⟩ = some (.bool it.seen))
    (first
      | exact ⟨i1, i2, i3, i4, i5, i6, i7, i8, i9, i10⟩
      | (have hk9 := fun j => Mem.row_cell H2.out.box j; exact ⟨hk9 1, hk9 2, hk9 3, hk9 4, hk9 5, hk9 6, hk9 7, hk9 8, hk9 9, hk9 10⟩)
      | (have hk9 := fun j => Mem.row_cell H1.out.box j; exact ⟨hk9 1, hk9 2, hk9 3, hk9 4, hk9 5, hk9 6, hk9 7, hk9 8, hk9 9, hk9 10⟩))
    (first
      | (go_at_call 30; refine hst.mono ?_; rintro en w1 ⟨rfl, h1, h2⟩; have H1 := Lib.hid h1; clear h1)
      | (go_at_call 31; refine h2.mono ?_; rintro en w2 ⟨rfl, h3⟩; have H2 := Lib.hid h3; clear h3))
  clear i0 i1 i2 i3 i4 i5 i6 i7 i8 i9 i10
  go_wp2_with fail
  go_ret
  exact H2.out.done (by omega) hM
set_option maxHeartbeats 4000000 in
theorem do_remove {W w : World} {M b rb : Nat} {col rcol : Col} {seed : Int} {s : St} (hB : Both W w M M b rb col rcol seed s s) (hM : M + 1 ≤ 400) (it : Shard.Item) (a : Option Addr) (c : Nat) (env : Env) (hsrc : SrcB w (.slice a it.val.length c) it.val) (hlow : it.val ≠ [] → ∀ g, (Value.slice a it.val.length c).ownBlock = some g → g < W.heap.size) (hks : it.key.size ≤ 300) :
    Calls Tryz.prog 8 #[.pointer (some ⟨b, 0, none⟩), .pointer (some ⟨rb, 0, none⟩), .agg (oarr 4 it (.slice a it.val.length c) env)] w (DoPost W M b rb seed) := by
  have hba := Mem.al (Below.refl w.heap.size w) (.cells (oarr 4 it (.slice a it.val.length c) env) 38)
  have nb := Mem.new_block w (.cells (oarr 4 it (.slice a it.val.length c) env) 38)
  have hz : (w.alloc (.cells (oarr 4 it (.slice a it.val.length c) env) 38)).heap.size = w.heap.size + 1 := by simp
  obtain ⟨w0, hw0⟩ : ∃ w0, w.alloc (.cells (oarr 4 it (.slice a it.val.length c) env) 38) = w0 := ⟨_, rfl⟩
  rw [hw0] at hba nb hz
  have hWw := hB.run.below.size
  have hf : Free w0 w.heap.size col rcol (.slice a it.val.length c) it.val := ⟨⟨by omega, (hB.none (Nat.le_refl _)).1, (hB.none (Nat.le_refl _)).2⟩, fun hx g e => ⟨by have := hlow hx g e; omega, (hB.low (hlow hx g e)).1, (hB.low (hlow hx g e)).2⟩⟩
  have hi : InDo W w0 w0 M M b rb w.heap.size col rcol seed (.cells (oarr 4 it (.slice a it.val.length c) env) 38 (0, 0)) (.slice a it.val.length c) it.val s s := ⟨⟨col, rcol, hB.step hba, fun _ _ h => h, fun _ _ h => h⟩, nb, hsrc.below hba, Nat.le_refl _⟩
  have HF := Lib.hid hf
  have HI := Lib.hid hi
  have i0 := Mem.row_cell nb 0
  have i1 := Mem.row_cell nb 1
  simp only [oarr, List.getElem?_toArray, List.getElem?_cons_zero, List.getElem?_cons_succ] at i0 i1
  have hst := (hi.step (Below.drew (Below.refl _ w0))).remove hf hM it.key hks
  clear hB hba nb hz hWw hf hi hsrc hlow
  unfold oarr at hw0 ⊢
  go_enter Tryz.func8, Tryz.ntmps8
  go_wp2_with fail
  go_region_held3 (fun W' : World => W'.cell? ⟨w.heap.size, 1, none⟩ = some (.string it.key))
    (first
      | exact i1
      | (have hk9 := fun j => Mem.row_cell H2.out.box j; exact hk9 1)
      | (have hk9 := fun j => Mem.row_cell H1.out.box j; exact hk9 1))
    (first
      | (go_at_call 32; refine hst.mono ?_; rintro en w1 ⟨rfl, h1, h2⟩; have H1 := Lib.hid h1; clear h1)
      | (go_at_call 33; refine h2.mono ?_; rintro en w2 ⟨rfl, h3⟩; have H2 := Lib.hid h3; clear h3))
  clear i0 i1
  go_wp2_with fail
  go_ret
  exact H2.out.done (by omega) hM
set_option maxHeartbeats 4000000 in
theorem do_look {W w : World} {M b rb : Nat} {col rcol : Col} {seed : Int} {s : St} (hB : Both W w M M b rb col rcol seed s s) (hM : M + 1 ≤ 400) (it : Shard.Item) (a : Option Addr) (c : Nat) (env : Env) (hsrc : SrcB w (.slice a it.val.length c) it.val) (hlow : it.val ≠ [] → ∀ g, (Value.slice a it.val.length c).ownBlock = some g → g < W.heap.size) (hks : it.key.size ≤ 300) :
    Calls Tryz.prog 8 #[.pointer (some ⟨b, 0, none⟩), .pointer (some ⟨rb, 0, none⟩), .agg (oarr 1 it (.slice a it.val.length c) env)] w (DoPost W M b rb seed) := by
  have hba := Mem.al (Below.refl w.heap.size w) (.cells (oarr 1 it (.slice a it.val.length c) env) 38)
  have nb := Mem.new_block w (.cells (oarr 1 it (.slice a it.val.length c) env) 38)
  have hz : (w.alloc (.cells (oarr 1 it (.slice a it.val.length c) env) 38)).heap.size = w.heap.size + 1 := by simp
  obtain ⟨w0, hw0⟩ : ∃ w0, w.alloc (.cells (oarr 1 it (.slice a it.val.length c) env) 38) = w0 := ⟨_, rfl⟩
  rw [hw0] at hba nb hz
  have hWw := hB.run.below.size
  have hf : Free w0 w.heap.size col rcol (.slice a it.val.length c) it.val := ⟨⟨by omega, (hB.none (Nat.le_refl _)).1, (hB.none (Nat.le_refl _)).2⟩, fun hx g e => ⟨by have := hlow hx g e; omega, (hB.low (hlow hx g e)).1, (hB.low (hlow hx g e)).2⟩⟩
  have hi : InDo W w0 w0 M M b rb w.heap.size col rcol seed (.cells (oarr 1 it (.slice a it.val.length c) env) 38 (0, 0)) (.slice a it.val.length c) it.val s s := ⟨⟨col, rcol, hB.step hba, fun _ _ h => h, fun _ _ h => h⟩, nb, hsrc.below hba, Nat.le_refl _⟩
  have HF := Lib.hid hf
  have HI := Lib.hid hi
  have i0 := Mem.row_cell nb 0
  have i1 := Mem.row_cell nb 1
  have i11 := Mem.row_cell nb 11
  have i12 := Mem.row_cell nb 12
  have i13 := Mem.row_cell nb 13
  have i14 := Mem.row_cell nb 14
  simp only [oarr, List.getElem?_toArray, List.getElem?_cons_zero, List.getElem?_cons_succ] at i0 i1 i11 i12 i13 i14
  have hlk := hi.look hf hM it.key env hks
  unfold Item.arr Env.arr at hlk
  clear hB hba nb hz hWw hf hi hsrc hlow
  unfold oarr at hw0 ⊢
  go_enter Tryz.func8, Tryz.ntmps8
  go_wp2_with fail
  refine hlk.mono ?_
  rintro e w1 ⟨x, va, vc, q, rfl, h1, h2⟩
  have hb1 := Mem.al (Below.refl w1.heap.size w1) (.cells (x.arr (.slice va x.val.length vc)) 34)
  have nb1 := Mem.new_block w1 (.cells (x.arr (.slice va x.val.length vc)) 34)
  have h2' := h2 _ hb1
  have hz1 : (w1.alloc (.cells (x.arr (.slice va x.val.length vc)) 34)).heap.size = w1.heap.size + 1 := by simp
  have hbx := (h1.step hb1).box
  have j1 := Mem.row_cell hbx 1
  have j11 := Mem.row_cell hbx 11
  have j12 := Mem.row_cell hbx 12
  have j13 := Mem.row_cell hbx 13
  have j14 := Mem.row_cell hbx 14
  simp only [oarr, List.getElem?_toArray, List.getElem?_cons_zero, List.getElem?_cons_succ] at j1 j11 j12 j13 j14
  obtain ⟨w2, hw2⟩ : ∃ w2, w1.alloc (.cells (x.arr (.slice va x.val.length vc)) 34) = w2 := ⟨_, rfl⟩
  rw [hw2] at h2' nb1 hz1 j1 j11 j12 j13 j14
  have H2 := Lib.hid (And.intro nb1 hz1)
  unfold Item.arr at hw2
  clear hlk h1 h2 hb1 hbx nb1 hz1 i0 i1 i11 i12 i13 i14
  go_wp2_with fail
  refine h2'.mono ?_
  rintro e w3 ⟨ua, uc, rfl, h3, s1, s2, hfar⟩
  have nb3 := (hfar w1.heap.size (Nat.le_refl _) (by have := H2.out.2; omega)).trans H2.out.1
  have hb3 := Mem.al (Below.refl w3.heap.size w3) (.cells (x.arr (.slice ua x.val.length uc)) 34)
  have na := (hb3.block _ (Array.getElem?_eq_some_iff.1 nb3).1).trans nb3
  have nc := Mem.new_block w3 (.cells (x.arr (.slice ua x.val.length uc)) 34)
  have hsm := same_any x x (s1.below hb3) (s2.below hb3)
  have hde : decide (x = x) = true := by simp
  rw [hde] at hsm
  have H3 := Lib.hid (h3.step hb3)
  obtain ⟨w4, hw4⟩ : ∃ w4, w3.alloc (.cells (x.arr (.slice ua x.val.length uc)) 34) = w4 := ⟨_, rfl⟩
  rw [hw4] at hsm na nc H3
  have a0 := Mem.row_cell na 0
  have b0 := Mem.row_cell nc 0
  have a1 := Mem.row_cell na 1
  have b1 := Mem.row_cell nc 1
  have a2 := Mem.row_cell na 2
  have b2 := Mem.row_cell nc 2
  have a3 := Mem.row_cell na 3
  have b3 := Mem.row_cell nc 3
  have a4 := Mem.row_cell na 4
  have b4 := Mem.row_cell nc 4
  have a5 := Mem.row_cell na 5
  have b5 := Mem.row_cell nc 5
  have a6 := Mem.row_cell na 6
  have b6 := Mem.row_cell nc 6
  have a7 := Mem.row_cell na 7
  have b7 := Mem.row_cell nc 7
  have a8 := Mem.row_cell na 8
  have b8 := Mem.row_cell nc 8
  have a9 := Mem.row_cell na 9
  have b9 := Mem.row_cell nc 9
  simp only [Item.arr, List.getElem?_toArray, List.getElem?_cons_zero, List.getElem?_cons_succ] at a0 a1 a2 a3 a4 a5 a6 a7 a8 a9 b0 b1 b2 b3 b4 b5 b6 b7 b8 b9
  unfold Item.arr at hw4 hsm
  clear h2' h3 s1 s2 hfar nb3 hb3 na nc hde j1 j11 j12 j13 j14
  go_wp2_with fail
  refine hsm.mono ?_
  rintro e w5 ⟨rfl, hb5⟩
  have H5 := Lib.hid (H3.out.step hb5)
  clear hsm hb5 a0 a1 a2 a3 a4 a5 a6 a7 a8 a9 b0 b1 b2 b3 b4 b5 b6 b7 b8 b9
  cases q
  all_goals
    go_wp2_with fail
    go_ret
    exact H5.out.done (by omega) hM
set_option maxHeartbeats 4000000 in
theorem do_use {W w : World} {M b rb : Nat} {col rcol : Col} {seed : Int} {s : St} (hB : Both W w M M b rb col rcol seed s s) (hM : M + 1 ≤ 400) (it : Shard.Item) (a : Option Addr) (c : Nat) (env : Env) (hsrc : SrcB w (.slice a it.val.length c) it.val) (hlow : it.val ≠ [] → ∀ g, (Value.slice a it.val.length c).ownBlock = some g → g < W.heap.size) (hks : it.key.size ≤ 300) :
    Calls Tryz.prog 8 #[.pointer (some ⟨b, 0, none⟩), .pointer (some ⟨rb, 0, none⟩), .agg (oarr 2 it (.slice a it.val.length c) env)] w (DoPost W M b rb seed) := by
  have hba := Mem.al (Below.refl w.heap.size w) (.cells (oarr 2 it (.slice a it.val.length c) env) 38)
  have nb := Mem.new_block w (.cells (oarr 2 it (.slice a it.val.length c) env) 38)
  have hz : (w.alloc (.cells (oarr 2 it (.slice a it.val.length c) env) 38)).heap.size = w.heap.size + 1 := by simp
  obtain ⟨w0, hw0⟩ : ∃ w0, w.alloc (.cells (oarr 2 it (.slice a it.val.length c) env) 38) = w0 := ⟨_, rfl⟩
  rw [hw0] at hba nb hz
  have hWw := hB.run.below.size
  have hf : Free w0 w.heap.size col rcol (.slice a it.val.length c) it.val := ⟨⟨by omega, (hB.none (Nat.le_refl _)).1, (hB.none (Nat.le_refl _)).2⟩, fun hx g e => ⟨by have := hlow hx g e; omega, (hB.low (hlow hx g e)).1, (hB.low (hlow hx g e)).2⟩⟩
  have hi : InDo W w0 w0 M M b rb w.heap.size col rcol seed (.cells (oarr 2 it (.slice a it.val.length c) env) 38 (0, 0)) (.slice a it.val.length c) it.val s s := ⟨⟨col, rcol, hB.step hba, fun _ _ h => h, fun _ _ h => h⟩, nb, hsrc.below hba, Nat.le_refl _⟩
  have HF := Lib.hid hf
  have HI := Lib.hid hi
  have i0 := Mem.row_cell nb 0
  have i1 := Mem.row_cell nb 1
  simp only [oarr, List.getElem?_toArray, List.getElem?_cons_zero, List.getElem?_cons_succ] at i0 i1
  have hlk := hi.use hf hM it.key hks
  clear hB hba nb hz hWw hf hi hsrc hlow
  unfold oarr at hw0 ⊢
  go_enter Tryz.func8, Tryz.ntmps8
  go_wp2_with fail
  refine hlk.mono ?_
  rintro e w1 ⟨rfl, h1, h2⟩
  have j1 := Mem.row_cell h1.box 1
  simp only [oarr, List.getElem?_toArray, List.getElem?_cons_zero, List.getElem?_cons_succ] at j1
  clear hlk h1 i0 i1
  go_wp2_with fail
  refine h2.mono ?_
  rintro e w2 ⟨rfl, h3⟩
  have H3 := Lib.hid h3
  clear h2 h3 j1
  go_wp2_with fail
  go_ret
  exact H3.out.done (by omega) hM
set_option maxHeartbeats 4000000 in
theorem do_drops {W w : World} {M b rb : Nat} {col rcol : Col} {seed : Int} {s : St} (hB : Both W w M M b rb col rcol seed s s) (hM : M + 1 ≤ 400) (it : Shard.Item) (a : Option Addr) (c : Nat) (env : Env) (hsrc : SrcB w (.slice a it.val.length c) it.val) (hlow : it.val ≠ [] → ∀ g, (Value.slice a it.val.length c).ownBlock = some g → g < W.heap.size) :
    Calls Tryz.prog 8 #[.pointer (some ⟨b, 0, none⟩), .pointer (some ⟨rb, 0, none⟩), .agg (oarr 5 it (.slice a it.val.length c) env)] w (DoPost W M b rb seed) := by
  have hba := Mem.al (Below.refl w.heap.size w) (.cells (oarr 5 it (.slice a it.val.length c) env) 38)
  have nb := Mem.new_block w (.cells (oarr 5 it (.slice a it.val.length c) env) 38)
  have hz : (w.alloc (.cells (oarr 5 it (.slice a it.val.length c) env) 38)).heap.size = w.heap.size + 1 := by simp
  obtain ⟨w0, hw0⟩ : ∃ w0, w.alloc (.cells (oarr 5 it (.slice a it.val.length c) env) 38) = w0 := ⟨_, rfl⟩
  rw [hw0] at hba nb hz
  have hWw := hB.run.below.size
  have hf : Free w0 w.heap.size col rcol (.slice a it.val.length c) it.val := ⟨⟨by omega, (hB.none (Nat.le_refl _)).1, (hB.none (Nat.le_refl _)).2⟩, fun hx g e => ⟨by have := hlow hx g e; omega, (hB.low (hlow hx g e)).1, (hB.low (hlow hx g e)).2⟩⟩
  have hi : InDo W w0 w0 M M b rb w.heap.size col rcol seed (.cells (oarr 5 it (.slice a it.val.length c) env) 38 (0, 0)) (.slice a it.val.length c) it.val s s := ⟨⟨col, rcol, hB.step hba, fun _ _ h => h, fun _ _ h => h⟩, nb, hsrc.below hba, Nat.le_refl _⟩
  have HF := Lib.hid hf
  have HI := Lib.hid hi
  have i0 := Mem.row_cell nb 0
  simp only [oarr, List.getElem?_toArray, List.getElem?_cons_zero] at i0
  have hlk := hi.drops hf hM
  have hdl : s.drops.length ≤ 1000000000000 := by have := hB.run.inv.dl; have := nn_max (M := M) (by omega); omega
  clear hB hba nb hz hWw hf hi hsrc hlow
  unfold oarr at hw0 ⊢
  go_enter Tryz.func8, Tryz.ntmps8
  go_wp2_with fail
  refine hlk.mono ?_
  rintro e w1 ⟨v1, rfl, h1, h2⟩
  clear hlk h1 i0
  go_wp2_with fail
  refine h2.mono ?_
  rintro e w2 ⟨v2, rfl, h3, s1, s2⟩
  have hsm := Same8.same_any s1 s2 hdl
  have hde : decide (s.drops = s.drops) = true := by simp
  rw [hde] at hsm
  have H3 := Lib.hid h3
  clear h2 h3 s1 s2 hde hdl
  go_wp2_with fail
  refine hsm.mono ?_
  rintro e w3 ⟨rfl, d, hw3⟩
  have hb3 : Below w2.heap.size w2 w3 := by rw [hw3]; exact Mem.dn (Below.refl _ _) _
  have H4 := Lib.hid (H3.out.step hb3)
  clear hsm hw3 hb3
  go_wp2_with fail
  go_ret
  exact H4.out.done (by omega) hM
set_option maxHeartbeats 4000000 in
theorem do_other {W w : World} {M b rb : Nat} {col rcol : Col} {seed : Int} {s : St} (hB : Both W w M M b rb col rcol seed s s) (hM : M + 1 ≤ 400) (it : Shard.Item) (a : Option Addr) (c : Nat) (env : Env) (hsrc : SrcB w (.slice a it.val.length c) it.val) (hlow : it.val ≠ [] → ∀ g, (Value.slice a it.val.length c).ownBlock = some g → g < W.heap.size) (kd : Int) (k0 : (kd == 0) = false) (k1 : (kd == 1) = false) (k2 : (kd == 2) = false) (k3 : (kd == 3) = false) (k4 : (kd == 4) = false) (k5 : (kd == 5) = false) :
    Calls Tryz.prog 8 #[.pointer (some ⟨b, 0, none⟩), .pointer (some ⟨rb, 0, none⟩), .agg (oarr kd it (.slice a it.val.length c) env)] w (DoPost W M b rb seed) := by
  have hba := Mem.al (Below.refl w.heap.size w) (.cells (oarr kd it (.slice a it.val.length c) env) 38)
  have nb := Mem.new_block w (.cells (oarr kd it (.slice a it.val.length c) env) 38)
  have hz : (w.alloc (.cells (oarr kd it (.slice a it.val.length c) env) 38)).heap.size = w.heap.size + 1 := by simp
  obtain ⟨w0, hw0⟩ : ∃ w0, w.alloc (.cells (oarr kd it (.slice a it.val.length c) env) 38) = w0 := ⟨_, rfl⟩
  rw [hw0] at hba nb hz
  have hWw := hB.run.below.size
  have hf : Free w0 w.heap.size col rcol (.slice a it.val.length c) it.val := ⟨⟨by omega, (hB.none (Nat.le_refl _)).1, (hB.none (Nat.le_refl _)).2⟩, fun hx g e => ⟨by have := hlow hx g e; omega, (hB.low (hlow hx g e)).1, (hB.low (hlow hx g e)).2⟩⟩
  have hi : InDo W w0 w0 M M b rb w.heap.size col rcol seed (.cells (oarr kd it (.slice a it.val.length c) env) 38 (0, 0)) (.slice a it.val.length c) it.val s s := ⟨⟨col, rcol, hB.step hba, fun _ _ h => h, fun _ _ h => h⟩, nb, hsrc.below hba, Nat.le_refl _⟩
  have HF := Lib.hid hf
  have HI := Lib.hid hi
  have i0 := Mem.row_cell nb 0
  simp only [oarr, List.getElem?_toArray, List.getElem?_cons_zero] at i0
  clear hB hba nb hz hWw hf hi hsrc hlow
  unfold oarr at hw0 ⊢
  go_enter Tryz.func8, Tryz.ntmps8
  go_wp2_with fail
  go_ret
  exact HI.out.done (by omega) hM
theorem do_any {W w : World} {M b rb : Nat} {col rcol : Col} {seed : Int} {s : St} (hB : Both W w M M b rb col rcol seed s s) (hM : M + 1 ≤ 400) (kd : Int) (it : Shard.Item) (a : Option Addr) (c : Nat) (env : Env) (hsrc : SrcB w (.slice a it.val.length c) it.val) (hlow : it.val ≠ [] → ∀ g, (Value.slice a it.val.length c).ownBlock = some g → g < W.heap.size) (hks : it.key.size ≤ 300) (hvs : it.val.length ≤ 3000) :
    Calls Tryz.prog 8 #[.pointer (some ⟨b, 0, none⟩), .pointer (some ⟨rb, 0, none⟩), .agg (oarr kd it (.slice a it.val.length c) env)] w (DoPost W M b rb seed) := by
  by_cases k0 : kd = 0
  · subst k0; exact do_store hB hM it a c env hsrc hlow hks hvs
  by_cases k1 : kd = 1
  · subst k1; exact do_look hB hM it a c env hsrc hlow hks
  by_cases k2 : kd = 2
  · subst k2; exact do_use hB hM it a c env hsrc hlow hks
  by_cases k3 : kd = 3
  · subst k3; exact do_update hB hM it a c env hsrc hlow hks hvs
  by_cases k4 : kd = 4
  · subst k4; exact do_remove hB hM it a c env hsrc hlow hks
  by_cases k5 : kd = 5
  · subst k5; exact do_drops hB hM it a c env hsrc hlow
  exact do_other hB hM it a c env hsrc hlow kd (by simpa using k0) (by simpa using k1) (by simpa using k2) (by simpa using k3) (by simpa using k4) (by simpa using k5)
end Go.Proofs.YteonjgnnpgpnnaaGreat.RefSh

