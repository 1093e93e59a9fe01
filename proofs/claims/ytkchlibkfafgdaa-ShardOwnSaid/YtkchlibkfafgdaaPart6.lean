/- Part6: Shard7, ShardQ, Shard8, Shard9, Shard10, one behind the other. -/
import Derived.Test.YtkchlibkfafgdaaPart5
import Derived.Test.YtkchlibkfafgdaaPart3
import Derived.Deep.RegionHeld3
import Derived.Deep.CutBlock
import Derived.WalkMore
import Derived.Deep.MidRow
/- Layer 11: room. -/
namespace Go.Proofs.Ytkchlibkfafgdaa.Shard
open Go Go.RowKit Go.Proofs.Ytkchlibkfafgdaa.Mem Go.Proofs.Ytkchlibkfafgdaa.App

/-- A shard in a loop, beside two boxes of the caller's own. -/
structure Beside (W w0 : World) (n b B B' : Nat) (col : Col) (seed : Int) (o1 o2 : Obj) (s : St) (w : World) : Prop where
  run : ∃ col', At W w n b col' seed s ∧ Fr col col' w0 w
  b1 : w.heap[B]? = some o1
  b2 : w.heap[B']? = some o2
theorem Beside.below {W w0 w w' : World} {n b B B' : Nat} {col : Col} {seed : Int} {o1 o2 : Obj} {s : St} (h : Beside W w0 n b B B' col seed o1 o2 s w) (hb : Below w.heap.size w w') : Beside W w0 n b B B' col seed o1 o2 s w' := by
  obtain ⟨col1, a1, f1⟩ := h.run
  exact ⟨⟨col1, a1.step hb, f1.trans (Fr.below hb)⟩, (hb.block _ (Array.getElem?_eq_some_iff.1 h.b1).1).trans h.b1, (hb.block _ (Array.getElem?_eq_some_iff.1 h.b2).1).trans h.b2⟩
/-- What a walk reads of a shard. -/
theorem Beside.reads {W w0 w : World} {n b B B' : Nat} {col : Col} {seed : Int} {o1 o2 : Obj} {s : St} (h : Beside W w0 n b B B' col seed o1 o2 s w) : ∃ (ad : Addrs) (F G : Nat → Prop),
    w.cell? ⟨b, 0, none⟩ = some (.pointer (some ⟨ad.tb, 0, none⟩)) ∧ w.cell? ⟨b, 1, none⟩ = some (.pointer (some ⟨ad.mb, 0, none⟩)) ∧ w.cell? ⟨b, 2, none⟩ = some (.pointer (some ⟨ad.ob, 0, none⟩)) ∧ w.cell? ⟨b, 3, none⟩ = some (.pointer (some ⟨ad.jb, 0, none⟩)) ∧
    Slab.At w ad.mb F s.slab ∧ Slru.At w ad.ob G s.order ∧ Tiny.Run W w ad.jb ad.fb ad.cb s.judge := by
  obtain ⟨col1, ⟨ad, vd, vv, rfl, h1⟩, f1⟩ := h.run
  obtain ⟨F, hs, -⟩ := h1.slab
  obtain ⟨G, ho, -⟩ := h1.order
  exact ⟨ad, F, G, Mem.row_cell h1.self 0, Mem.row_cell h1.self 1, Mem.row_cell h1.self 2, Mem.row_cell h1.self 3, hs, ho, h1.judge⟩
/-- A look at the table, in a turn. -/
theorem Beside.get {W w0 w : World} {n b B B' : Nat} {col : Col} {seed : Int} {o1 o2 : Obj} {s : St} (h : Beside W w0 n b B B' col seed o1 o2 s w) (hB : B ≤ B' ∧ B' < w0.heap.size) (hc : ∀ j, B ≤ j → col j = none) (k : ByteArray) (hk : k.size ≤ maxLen) : ∃ ad : Addrs,
    w.cell? ⟨b, 0, none⟩ = some (.pointer (some ⟨ad.tb, 0, none⟩)) ∧
    Calls Try.prog 44 #[.pointer (some ⟨ad.tb, 0, none⟩), .string k] w fun e w' => e = .returned (TabE.getV s.tab.L k) ∧ Beside W w0 n b B B' col seed o1 o2 s.tick w' ∧ w'.cell? ⟨b, 0, none⟩ = some (.pointer (some ⟨ad.tb, 0, none⟩)) := by
  obtain ⟨col1, ⟨ad, vd, vv, rfl, h1⟩, f1⟩ := h.run
  obtain ⟨F, hs, hF⟩ := h1.tab
  refine ⟨ad, Mem.row_cell h1.self 0, (TabE.get_any hs h1.sm k hk).mono ?_⟩
  rintro e w1 ⟨F1, rfl, ha, ho, hgr⟩
  refine ⟨rfl, ?_⟩
  have h2 := h1.turnTab (hl' := fun _ => False) hF ha ho hgr h1.sm.tick (fun q hq _ => ⟨hq, fun e => e⟩)
  have hn : ∀ j, B ≤ j → j < w0.heap.size → col1 j = none := fun j h1 h2 => Classical.byContradiction fun e => (f1.2 j e).elim (fun e1 => e1 (hc j h1)) (fun e1 => by omega)
  have hz := f1.1.size
  have f2 := Fr.of hF ho
  exact ⟨⟨⟨_, ⟨ad, vd, vv, rfl, h2⟩, f1.trans f2⟩, (f2.keep (by omega) (hn _ (Nat.le_refl _) (by omega))).trans h.b1, (f2.keep (by omega) (hn _ (by omega) (by omega))).trans h.b2⟩, Mem.row_cell h2.self 0⟩
/-- An entry's cells. -/
theorem Beside.entry {W w0 w : World} {n b B B' : Nat} {col : Col} {seed : Int} {o1 o2 : Obj} {s : St} (h : Beside W w0 n b B B' col seed o1 o2 s w) {k : ByteArray} {x : Nat} (hm : (k, x) ∈ s.tab.L) : ∃ v, w.heap[x]? = some (.cells ((s.ent x).arr v) 78 (0, 0)) ∧ OwnB w 0 v (s.ent x).it.val := by
  obtain ⟨col1, ⟨ad, vd, vv, rfl, h1⟩, f1⟩ := h.run
  obtain ⟨e1, e2, -⟩ := h1.ents (k, x) hm (fun e => e)
  exact ⟨_, e1, e2⟩
section
variable {W w : World} {n N b : Nat} {col : Col} {seed : Int} {s : St}
theorem Inv.smallN {n N : Nat} {s : St} (h : Inv n N s) : Slab.Small N s.slab := h.slab.small
/-- A drop, in a loop. -/
theorem Beside.drop {W w0 w : World} {n n0 N b B B' : Nat} {col : Col} {seed : Int} {o1 o2 : Obj} {s : St} (h : Beside W w0 n b B B' col seed o1 o2 s w) (hB : B ≤ B' ∧ B' < w0.heap.size) (hc : ∀ j, B ≤ j → col j = none) (hi : Inv n0 N s) (hn : n0 ≤ 1000000) (hN : N ≤ 1000000) (k : ByteArray) (hk : k.size ≤ maxLen) :
    Calls Try.prog 50 #[.pointer (some ⟨b, 0, none⟩), .string k] w fun e w' => e = .returned (.tuple #[]) ∧ Beside W w0 n b B B' col seed o1 o2 (s.drop k) w' := by
  obtain ⟨col1, a1, f1⟩ := h.run
  refine (drop_any a1 k hk (by have := hi.olen; have := hi.len; omega) hi.smallN (by omega) (by rw [remove_drops]; have := hi.dl; omega)).mono ?_
  rintro e w1 ⟨rfl, col2, a2, f2⟩
  have hn : ∀ j, B ≤ j → j < w0.heap.size → col1 j = none := fun j h1 h2 => Classical.byContradiction fun e => (f1.2 j e).elim (fun e1 => e1 (hc j h1)) (fun e1 => by omega)
  have hz := f1.1.size
  exact ⟨rfl, ⟨col2, a2, f1.trans f2⟩, (f2.keep (by omega) (hn _ (Nat.le_refl _) (by omega))).trans h.b1, (f2.keep (by omega) (hn _ (by omega) (by omega))).trans h.b2⟩
theorem Inv.drop_len {n N : Nat} {t : St} (h : Inv n N t) {k : ByteArray} (hk : k ∈ t.order.all) : (t.tick.drop k).order.all.length + 1 = t.order.all.length := by
  have h1 := (h.tick.drop k).olen
  have h2 := h.olen
  rw [drop_L t.tick k h.rise] at h1
  have := Tab.del_len h.rise ((h.keys k).1 hk)
  show (t.tick.drop k).order.all.length + 1 = _
  rw [h1, h2]; exact this
theorem less_range (s : St) (o : Option Nat) : 0 ≤ s.less o ∧ s.less o ≤ 2048 := by
  unfold St.less
  split
  · exact Slab.bytes_range _
  · omega
set_option maxRecDepth 100000 in
theorem eql_old (old : Option Nat) (w : World) : (binOp .neq 63 (ptrE old) (.pointer none)).run Try.prog w = .ok (.bool old.isSome) w := by cases old <;> rfl
set_option maxRecDepth 100000 in
theorem eqg_old (old : Option Nat) (o1 o2 : Operand) (w : World) : (eqGuard .neq 63 o1 o2 (ptrE old) (.pointer none)).run Try.prog w = .ok () w := by cases old <;> rfl
def RoomPost (W w : World) (n b : Nat) (col : Col) (seed : Int) (y : Int × St) (e : Ending) (w' : World) : Prop := e = .returned (.int .i64 y.1) ∧ Turn W w n b col seed y.2 w'
set_option maxRecDepth 100000 in
set_option maxHeartbeats 4000000 in
theorem room_any (h : At W w n b col seed s) {n0 : Nat} (hi : Inv n0 N s) (it : Item) (a : Option Addr) (c : Nat) (old : Option Nat) (env : Env) (hks : it.key.size ≤ 300) (hvs : it.val.length ≤ 3000) (hold : ∀ x, old = some x → ∃ k, (k, x) ∈ s.tab.L) (hn0 : n0 ≤ 1000) (hN : N ≤ 500000) :
    Calls Try.prog 33 #[.pointer (some ⟨b, 0, none⟩), .agg (it.arr (.slice a it.val.length c)), ptrE old, .agg env.arr] w (RoomPost W w n b col seed (St.room it old.isSome (s.less old) env (s.order.all.length + 1) s)) := by
  obtain ⟨L, hL⟩ : ∃ L, s.order.all.length = L := ⟨_, rfl⟩
  have hLn : L ≤ 1000 := by have := hi.olen; have := hi.len; omega
  obtain ⟨y, hy⟩ : ∃ y, St.room it old.isSome (s.less old) env (L + 1) s = y := ⟨_, rfl⟩
  rw [hL, hy]
  have hcn : ∀ j, w.heap.size ≤ j → col j = none := fun j hj => Classical.byContradiction fun e => by have := h.lt j e; omega
  have hb2 : Below w.heap.size w ((w.alloc (.cells (it.arr (.slice a it.val.length c)) 31)).alloc (.cells env.arr 33)) := Mem.al (Mem.al (Below.refl _ _) _) _
  have n1 : ((w.alloc (.cells (it.arr (.slice a it.val.length c)) 31)).alloc (.cells env.arr 33)).heap[w.heap.size]? = some (.cells (it.arr (.slice a it.val.length c)) 31 (0, 0)) := Mem.new_later (Mem.new_block w _) _
  have n2 : ((w.alloc (.cells (it.arr (.slice a it.val.length c)) 31)).alloc (.cells env.arr 33)).heap[w.heap.size + 1]? = some (.cells env.arr 33 (0, 0)) := Mem.new_block2 w _ _
  have hsz : w.heap.size ≤ w.heap.size + 1 ∧ w.heap.size + 1 < ((w.alloc (.cells (it.arr (.slice a it.val.length c)) 31)).alloc (.cells env.arr 33)).heap.size := by simp
  have hbs : Beside W ((w.alloc (.cells (it.arr (.slice a it.val.length c)) 31)).alloc (.cells env.arr 33)) n b w.heap.size (w.heap.size + 1) col seed (.cells (it.arr (.slice a it.val.length c)) 31 (0, 0)) (.cells env.arr 33 (0, 0)) s ((w.alloc (.cells (it.arr (.slice a it.val.length c)) 31)).alloc (.cells env.arr 33)) := ⟨⟨col, h.step hb2, Fr.refl _ _⟩, n1, n2⟩
  obtain ⟨w0, hw0⟩ : ∃ w0, (w.alloc (.cells (it.arr (.slice a it.val.length c)) 31)).alloc (.cells env.arr 33) = w0 := ⟨_, rfl⟩
  rw [hw0] at hbs hb2 hsz
  have HB := Lib.hid (And.intro hcn (And.intro hb2 hsz))
  have HS := Lib.hid hbs
  have HY := Lib.hid hy
  have HI := Lib.hid hi
  have HLn := Lib.hid hL
  have HO := Lib.hid hold
  have heq := eql_old old
  have hqg := eqg_old old
  clear n1 n2 hcn hb2 hsz h hbs hy hi hold hL
  obtain ⟨pv, hpv⟩ : ∃ pv, ptrE old = pv := ⟨_, rfl⟩
  rw [hpv] at heq hqg ⊢
  obtain ⟨q, hq⟩ : ∃ q, old.isSome = q := ⟨_, rfl⟩
  rw [hq] at heq
  have HP := Lib.hid (And.intro hpv hq)
  clear hpv hq
  unfold Item.arr Env.arr at hw0 ⊢
  go_enter Try.func33, Try.ntmps33
  go_wp2_with fail
  go_step3
  go_upto_if 15 with (fail)
  go_cut [9] from 16 to 21 (fun z wx => z = .int .i64 (s.less old) ∧ w0 = wx)
  case first =>
    obtain ⟨hpv, hq⟩ := HP.out
    cases old with
    | none =>
      subst hpv hq
      go_wp2_with fail
      go_meet
      exact ⟨rfl, rfl⟩
    | some x =>
      obtain ⟨k, hk⟩ := HO.out x rfl
      obtain ⟨v, e1, -⟩ := HS.out.entry hk
      have d10 : w0.cell? ⟨x, 10, none⟩ = some (.int .i64 (s.ent x).chunk.1) := Mem.row_cell e1 10
      have d11 : w0.cell? ⟨x, 11, none⟩ = some (.int .i64 (s.ent x).chunk.2) := Mem.row_cell e1 11
      have hby := Slab.bytes_any (s.ent x).chunk.1 w0
      subst hpv hq
      clear hk e1
      unfold ptrE
      go_wp2_with fail
      refine hby.mono ?_
      rintro e w1 ⟨rfl, rfl⟩
      go_wp2_with fail
      go_meet
      exact ⟨rfl, rfl⟩
  case rest =>
    obtain ⟨rfl, rfl⟩ := hcut
    obtain ⟨hl0, hl1⟩ := less_range s old
    obtain ⟨le, hle⟩ : ∃ le, s.less old = le := ⟨_, rfl⟩
    have HY2 : Hid (St.room it q le env (L + 1) s = y) := Lib.hid (by have := HY.out; rw [HP.out.2, hle] at this; exact this)
    rw [hle] at hl0 hl1 ⊢
    clear hle HY
    go_wp2_with fail
    go_step3
    go_wp2_with fail
    go_loopg [10, 11, 12, 13] L (fun gh _ _ _ _ wr => ∃ (t : St) (g : Nat), g = gh ∧ Hid (Beside W w0 n b w.heap.size (w.heap.size + 1) col seed (.cells (it.arr (.slice a it.val.length c)) 31 (0, 0)) (.cells env.arr 33 (0, 0)) t wr ∧ Inv n0 (N + (L - g)) t ∧ t.order.all.length = g ∧ g ≤ L ∧ St.room it q le env (g + 1) t = y))
    case atStart => exact ⟨s, L, rfl, Lib.hid ⟨HS.out, by rw [Nat.sub_self]; exact HI.out, HLn.out, Nat.le_refl _, HY2.out⟩⟩
    case round =>
      obtain ⟨t, g, rfl, HT⟩ := hrel
      obtain ⟨ad, F, G, d0, d1, d2, d3, hsl, hor, hju⟩ := HT.out.1.reads
      have cel := fun j => Mem.row_cell HT.out.1.b1 j
      have i0 := cel 0
      have i1 := cel 1
      have i2 := cel 2
      have i3 := cel 3
      have i4 := cel 4
      have i5 := cel 5
      have i6 := cel 6
      have i7 := cel 7
      have i8 := cel 8
      have i9 := cel 9
      simp only [Item.arr, List.getElem?_toArray, List.getElem?_cons_zero, List.getElem?_cons_succ] at i0 i1 i2 i3 i4 i5 i6 i7 i8 i9
      have hsz := fun w' => size_any it a c w' (by omega) (by omega)
      unfold Item.arr at hsz
      have hfit := fun w' (hb : Below wr.heap.size wr w') => Slab.fits_any (hsl.below hb) HT.out.2.1.smallN (by omega) it.size le (by omega)
      have hb0 : Below wr.heap.size wr wr := Below.refl _ _
      have hbl : b < wr.heap.size := block_lt_of_cell d1
      have hBl : w.heap.size < wr.heap.size := block_lt_of_cell i0
      have HR := Lib.hid (And.intro d0 (And.intro d2 (And.intro d3 (And.intro hor hju))))
      clear cel d0 d2 d3 hor hju
      go_wp2_with fail
      go_region_held3 (fun W' : World => Below wr.heap.size wr W' ∧ W'.cell? ⟨b, 1, none⟩ = some (.pointer (some ⟨ad.mb, 0, none⟩)) ∧ W'.cell? ⟨w.heap.size, 0, none⟩ = some (.string it.key) ∧ W'.cell? ⟨w.heap.size, 1, none⟩ = some (.slice a it.val.length c) ∧ W'.cell? ⟨w.heap.size, 2, none⟩ = some (.int .u32 it.flags) ∧ W'.cell? ⟨w.heap.size, 3, none⟩ = some (.int .i64 it.exp) ∧ W'.cell? ⟨w.heap.size, 4, none⟩ = some (.int .u64 it.cas) ∧ W'.cell? ⟨w.heap.size, 5, none⟩ = some (.int .i64 it.sec) ∧ W'.cell? ⟨w.heap.size, 6, none⟩ = some (.int .u64 it.seq) ∧ W'.cell? ⟨w.heap.size, 7, none⟩ = some (.bool it.stale) ∧ W'.cell? ⟨w.heap.size, 8, none⟩ = some (.bool it.won) ∧ W'.cell? ⟨w.heap.size, 9, none⟩ = some (.bool it.seen))
        (first
          | exact ⟨hb0.drew, d1, i0, i1, i2, i3, i4, i5, i6, i7, i8, i9⟩
          | (go_split_ands; have hbx : Below wr.heap.size wr _ := (by assumption); have hk9 := fun (B i : Nat) (hB : B < wr.heap.size) => World.cell?_of_block (a := ⟨B, i, none⟩) (hbS.block B (Nat.lt_of_lt_of_le hB hbx.size)); exact ⟨Mem.tr hbx hbS, (hk9 b 1 hbl).trans (by assumption), (hk9 _ 0 hBl).trans (by assumption), (hk9 _ 1 hBl).trans (by assumption), (hk9 _ 2 hBl).trans (by assumption), (hk9 _ 3 hBl).trans (by assumption), (hk9 _ 4 hBl).trans (by assumption), (hk9 _ 5 hBl).trans (by assumption), (hk9 _ 6 hBl).trans (by assumption), (hk9 _ 7 hBl).trans (by assumption), (hk9 _ 8 hBl).trans (by assumption), (hk9 _ 9 hBl).trans (by assumption)⟩)
          | (go_split_ands; exact ⟨Mem.dn (by assumption) _, by assumption, by assumption, by assumption, by assumption, by assumption, by assumption, by assumption, by assumption, by assumption, by assumption, by assumption⟩))
        (first
          | (go_at_call 23; go_split_ands; refine (hsz _).mono ?_; rintro e wS ⟨rfl, hbS⟩)
          | (go_at_call 51; go_split_ands; refine (hfit _ (by assumption)).mono ?_; rintro e wF ⟨rfl, dF, rfl⟩))
      have hbF : Below wr.heap.size wr (wS.drewN dF) := Mem.tr (Below.drew (Below.refl _ wr)) (Mem.dn hbS dF)
      obtain ⟨w1, hw1⟩ : ∃ w1, wS.drewN dF = w1 := ⟨_, rfl⟩
      rw [hw1] at hbF ⊢
      have H1 := Lib.hid (HT.out.1.below hbF)
      clear hbF hbS hw1 hsz hfit hb0 hsl d1 i0 i1 i2 i3 i4 i5 i6 i7 i8 i9 hbl hBl
      have hcase := room_cases (it := it) (old := q) (less := le) (env := env) g t
      obtain ⟨fit, hfitv⟩ : ∃ f, t.slab.fits it.size le = f := ⟨_, rfl⟩
      rw [hfitv] at hcase ⊢
      have HC := Lib.hid hcase
      clear hcase
      cases fit with
      | true =>
        clear hfitv
        go_wp2_with fail
        go_ret
        obtain ⟨-, e2⟩ | ⟨e1, -⟩ | ⟨e1, -⟩ := HC.out
        · have hyt : y = (0, t) := HT.out.2.2.2.2.symm.trans e2
          obtain ⟨col1, a1, f1⟩ := H1.out.run
          rw [hyt]
          exact ⟨rfl, col1, a1, (Fr.below HB.out.2.1).trans f1⟩
        · cases e1
        · cases e1
      | false =>
        clear hfitv
        obtain ⟨ad2, F2, G2, -, -, d2, -, -, hor, -⟩ := H1.out.reads
        have i0 : w1.cell? ⟨w.heap.size, 0, none⟩ = some (.string it.key) := Mem.row_cell H1.out.b1 0
        have hvic := fun w' (hb : Below w1.heap.size w1 w') => Slru.victim_any (hor.below hb) it.key
        have hb0 : Below w1.heap.size w1 w1 := Below.refl _ _
        have hbl : b < w1.heap.size := block_lt_of_cell d2
        have hBl : w.heap.size < w1.heap.size := block_lt_of_cell i0
        clear hor
        have HC2 : Hid ((t.order.victim it.key = none ∧ St.room it q le env (g + 1) t = (5, t)) ∨ (∃ v, t.order.victim it.key = some v ∧ v ≠ it.key ∧ v ∈ t.order.all ∧ ((Tab.get t.tab.L v = none ∧ St.room it q le env (g + 1) t = (5, t)) ∨ ∃ x, Tab.get t.tab.L v = some x ∧
          (((q = true ∨ (t.ent x).it.live env = false ∨ t.judge.admit it.key.data.toList v.data.toList = true) ∧ St.room it q le env (g + 1) t = St.room it q le env g (t.tick.drop v)) ∨
           (q = false ∧ (t.ent x).it.live env = true ∧ t.judge.admit it.key.data.toList v.data.toList = false ∧ St.room it q le env (g + 1) t = (8, t.tick)))))) := Lib.hid (by
          obtain ⟨e1, -⟩ | ⟨-, e2⟩ | ⟨-, e2⟩ := HC.out
          · cases e1
          · exact .inl e2
          · exact .inr e2)
        clear HC
        rcases HC2.out with ⟨e1, e2⟩ | ⟨v, e1, hvk, hvm, e2⟩
        · have hvv : Slru.vic t.order it.key = (ByteArray.empty, false) := by unfold Slru.vic; rw [e1]
          rw [hvv] at hvic
          have HE := Lib.hid e2
          clear e1 e2 hvv HC2
          go_wp2_with fail
          go_region_held3 (fun W' : World => Below w1.heap.size w1 W' ∧ W'.cell? ⟨b, 2, none⟩ = some (.pointer (some ⟨ad2.ob, 0, none⟩)) ∧ W'.cell? ⟨w.heap.size, 0, none⟩ = some (.string it.key))
            (first
              | exact ⟨hb0.drew, d2, i0⟩
              | (go_split_ands; have hbx : Below w1.heap.size w1 _ := (by assumption); have hk9 := fun (B i : Nat) (hB : B < w1.heap.size) => World.cell?_of_block (a := ⟨B, i, none⟩) (hbS.block B (Nat.lt_of_lt_of_le hB hbx.size)); exact ⟨Mem.tr hbx hbS, (hk9 b 2 hbl).trans (by assumption), (hk9 _ 0 hBl).trans (by assumption)⟩))
            (first | (go_at_call 52; go_split_ands; refine (hvic _ (by assumption)).mono ?_; rintro e w2 ⟨rfl, hbS⟩))
          have H2 := Lib.hid (H1.out.below (Mem.tr (Below.drew (Below.refl _ w1)) hbS))
          clear hvic hbS d2 i0 hb0 hbl hBl
          go_wp2_with fail
          go_ret
          have hyt : y = (5, t) := HT.out.2.2.2.2.symm.trans HE.out
          obtain ⟨col1, a1, f1⟩ := H2.out.run
          rw [hyt]
          exact ⟨rfl, col1, a1, (Fr.below HB.out.2.1).trans f1⟩
        · have hvv : Slru.vic t.order it.key = (v, true) := by unfold Slru.vic; rw [e1]
          rw [hvv] at hvic
          have HE := Lib.hid (And.intro e2 (And.intro hvk hvm))
          clear e1 e2 hvv HC2 hvk hvm
          go_wp2_with fail
          go_region_held3 (fun W' : World => Below w1.heap.size w1 W' ∧ W'.cell? ⟨b, 2, none⟩ = some (.pointer (some ⟨ad2.ob, 0, none⟩)) ∧ W'.cell? ⟨w.heap.size, 0, none⟩ = some (.string it.key))
            (first
              | exact ⟨hb0.drew, d2, i0⟩
              | (go_split_ands; have hbx : Below w1.heap.size w1 _ := (by assumption); have hk9 := fun (B i : Nat) (hB : B < w1.heap.size) => World.cell?_of_block (a := ⟨B, i, none⟩) (hbS.block B (Nat.lt_of_lt_of_le hB hbx.size)); exact ⟨Mem.tr hbx hbS, (hk9 b 2 hbl).trans (by assumption), (hk9 _ 0 hBl).trans (by assumption)⟩))
            (first | (go_at_call 52; go_split_ands; refine (hvic _ (by assumption)).mono ?_; rintro e w2 ⟨rfl, hbS⟩))
          have H2 := Lib.hid (H1.out.below (Mem.tr (Below.drew (Below.refl _ w1)) hbS))
          clear hvic hbS d2 i0 hb0 hbl hBl
          have hvsz : v.size ≤ maxLen := by
            obtain ⟨p, hp, e⟩ := List.mem_map.1 ((HT.out.2.1.keys v).1 HE.out.2.2)
            have := (HT.out.2.1.ents p hp).2.1
            rw [← e]; unfold maxLen; omega
          obtain ⟨ad3, c0, hget⟩ := H2.out.get HB.out.2.2 HB.out.1 v hvsz
          obtain ⟨x, hx⟩ : ∃ x, Tab.get t.tab.L v = some x := by
            rcases hg : Tab.get t.tab.L v with _ | x
            · exact absurd ((HT.out.2.1.keys v).1 HE.out.2.2) (get_none HT.out.2.1.rise hg)
            · exact ⟨x, rfl⟩
          have hgv : TabE.getV t.tab.L v = .tuple #[.pointer (some ⟨x, 0, none⟩), .bool true] := by unfold TabE.getV; rw [hx]
          rw [hgv] at hget
          have HX := Lib.hid hx
          clear hgv hx
          go_wp2_with fail
          refine hget.mono ?_
          rintro e w3 ⟨rfl, h3, -⟩
          have H3 := Lib.hid h3
          clear hget h3 c0
          have hm : (v, x) ∈ t.tick.tab.L := (Tab.get_mem HT.out.2.1.rise.nodup).1 HX.out
          have HE2 : Hid (((q = true ∨ (t.ent x).it.live env = false ∨ t.judge.admit it.key.data.toList v.data.toList = true) ∧ St.room it q le env (g + 1) t = St.room it q le env g (t.tick.drop v)) ∨
           (q = false ∧ (t.ent x).it.live env = true ∧ t.judge.admit it.key.data.toList v.data.toList = false ∧ St.room it q le env (g + 1) t = (8, t.tick))) := Lib.hid (by
            rcases HE.out.1 with ⟨e1, -⟩ | ⟨x2, e1, e2⟩
            · rw [HX.out] at e1; cases e1
            · rw [HX.out] at e1
              injection e1 with e1
              subst e1
              exact e2)
          have HV := Lib.hid hvsz
          have hN2 : N + (L - g) ≤ 600000 := by omega
          have hdrop := fun w' (h : Beside W w0 n b w.heap.size (w.heap.size + 1) col seed (.cells (it.arr (.slice a it.val.length c)) 31 (0, 0)) (.cells env.arr 33 (0, 0)) t.tick w') => h.drop HB.out.2.2 HB.out.1 HT.out.2.1.tick (by omega) (by omega) v HV.out
          have HD := Lib.hid hdrop
          have hg1 : 1 ≤ g := by rw [← HT.out.2.2.1]; exact List.length_pos_of_mem HE.out.2.2
          have hnext : ∀ w4, Beside W w0 n b w.heap.size (w.heap.size + 1) col seed (.cells (it.arr (.slice a it.val.length c)) 31 (0, 0)) (.cells env.arr 33 (0, 0)) (t.tick.drop v) w4 → St.room it q le env (g + 1) t = St.room it q le env g (t.tick.drop v) →
              Hid (Beside W w0 n b w.heap.size (w.heap.size + 1) col seed (.cells (it.arr (.slice a it.val.length c)) 31 (0, 0)) (.cells env.arr 33 (0, 0)) (t.tick.drop v) w4 ∧ Inv n0 (N + (L - (g - 1))) (t.tick.drop v) ∧ (t.tick.drop v).order.all.length = g - 1 ∧ g - 1 ≤ L ∧ St.room it q le env (g - 1 + 1) (t.tick.drop v) = y) := fun w4 hb4 he => Lib.hid (by
            have h1 := HT.out.2.1.drop_len HE.out.2.2
            have h2 := HT.out.2.2.1
            have h3 := HT.out.2.2.2.1
            refine ⟨hb4, (HT.out.2.1.tick.drop v).mono (Nat.le_refl _) (by omega), by omega, by omega, ?_⟩
            rw [show g - 1 + 1 = g from by omega, ← he]
            exact HT.out.2.2.2.2)
          have HNx := Lib.hid hnext
          have HG := Lib.hid hg1
          clear hdrop hnext hg1 hN2 hvsz
          cases q with
          | true =>
            have hd3 := HD.out w3 H3.out
            clear hm
            go_wp2_with fail
            refine hd3.mono ?_
            rintro e w4 ⟨rfl, h4⟩
            have H4 := HNx.out w4 h4 (by obtain ⟨-, e⟩ | ⟨e, -⟩ := HE2.out; exact e; cases e)
            clear hd3 h4
            go_wp2_with fail
            go_roundg (g - 1)
            case measure => have := HG.out; omega
            case rel => exact ⟨_, _, rfl, H4⟩
          | false =>
            obtain ⟨vx, ex, -⟩ := H3.out.entry hm
            have cex := fun j => Mem.row_cell ex j
            have x0 := cex 0
            have x1 := cex 1
            have x2 := cex 2
            have x3 := cex 3
            have x4 := cex 4
            have x5 := cex 5
            have x6 := cex 6
            have x7 := cex 7
            have x8 := cex 8
            have x9 := cex 9
            simp only [St.tick, Ent.arr, List.getElem?_toArray, List.getElem?_cons_zero, List.getElem?_cons_succ] at x0 x1 x2 x3 x4 x5 x6 x7 x8 x9
            have cen := fun j => Mem.row_cell H3.out.b2 j
            have e0 := cen 0
            have e1 := cen 1
            have e2 := cen 2
            have e3 := cen 3
            simp only [Env.arr, List.getElem?_toArray, List.getElem?_cons_zero, List.getElem?_cons_succ] at e0 e1 e2 e3
            have hlive := live_any (t.ent x).it vx env w3.drew
            unfold Item.arr Env.arr at hlive
            obtain ⟨lv, hlv⟩ : ∃ lv, (t.ent x).it.live env = lv := ⟨_, rfl⟩
            rw [hlv] at hlive
            have HLV := Lib.hid hlv
            clear hm ex cex cen hlv
            go_wp2_with fail
            refine wp_region_still_tail 5 (by kernel_rfl) (by kernel_rfl) ?_
            simp only [List.take_succ_cons, List.take_zero, List.drop_succ_cons, List.drop_zero]
            repeat still_step
            refine wpStill_nil ?_
            change wpList _ _ _ _ _ w3.drew
            clear x0 x1 x2 x3 x4 x5 x6 x7 x8 x9 e0 e1 e2 e3
            go_wp2_with fail
            refine hlive.mono ?_
            rintro e w4 ⟨rfl, hb4⟩
            have H4 := Lib.hid (H3.out.below (Mem.tr (Below.drew (Below.refl _ w3)) hb4))
            clear hlive hb4
            cases lv with
            | false =>
              have hd4 := HD.out w4 H4.out
              go_wp2_with fail
              refine hd4.mono ?_
              rintro e w5 ⟨rfl, h5⟩
              have H5 := HNx.out w5 h5 (by obtain ⟨-, e⟩ | ⟨-, e, -⟩ := HE2.out; exact e; rw [HLV.out] at e; cases e)
              clear hd4 h5
              go_wp2_with fail
              go_roundg (g - 1)
              case measure => have := HG.out; omega
              case rel => exact ⟨_, _, rfl, H5⟩
            | true =>
              obtain ⟨ad4, -, -, -, -, -, d3, -, -, -⟩ := H4.out.reads
              have i0 : w4.cell? ⟨w.heap.size, 0, none⟩ = some (.string it.key) := Mem.row_cell H4.out.b1 0
              have hadm : Calls Try.prog 53 #[.pointer (some ⟨ad4.jb, 0, none⟩), .string it.key, .string v] w4.drew fun e w' => e = .returned (.bool (t.judge.admit it.key.data.toList v.data.toList)) ∧ Below w4.drew.heap.size w4.drew w' := by
                obtain ⟨ad5, F5, G5, -, -, -, c3, -, -, hj⟩ := (H4.out.below (Below.drew (Below.refl _ w4))).reads
                have e3 : ad5.jb = ad4.jb := by
                  have h1 : w4.cell? ⟨b, 3, none⟩ = some (.pointer (some ⟨ad5.jb, 0, none⟩)) := c3
                  rw [d3] at h1
                  injection h1 with h1; injection h1 with h1; injection h1 with h1; injection h1 with h1
                  exact h1.symm
                rw [e3] at hj
                exact (Tiny.admit_run hj it.key v (by unfold maxLen; omega) HV.out).mono fun e w' ⟨h1, _, h3⟩ => ⟨h1, h3⟩
              obtain ⟨am, ham⟩ : ∃ am, t.judge.admit it.key.data.toList v.data.toList = am := ⟨_, rfl⟩
              rw [ham] at hadm
              have HAM := Lib.hid ham
              clear ham
              go_wp2_with fail
              refine wp_region_still_tail 7 (by kernel_rfl) (by kernel_rfl) ?_
              simp only [List.take_succ_cons, List.take_zero, List.drop_succ_cons, List.drop_zero]
              repeat still_step
              refine wpStill_nil ?_
              change wpList _ _ _ _ _ w4.drew
              clear d3 i0
              go_wp2_with fail
              refine hadm.mono ?_
              rintro e w5 ⟨rfl, hb5⟩
              have H5 := Lib.hid (H4.out.below (Mem.tr (Below.drew (Below.refl _ w4)) hb5))
              clear hadm hb5
              cases am with
              | false =>
                go_wp2_with fail
                go_ret
                obtain ⟨e1, -⟩ | ⟨-, -, -, e2⟩ := HE2.out
                · rw [HLV.out, HAM.out] at e1; simp at e1
                · have hyt : y = (8, t.tick) := HT.out.2.2.2.2.symm.trans e2
                  obtain ⟨col1, a1, f1⟩ := H5.out.run
                  rw [hyt]
                  exact ⟨rfl, col1, a1, (Fr.below HB.out.2.1).trans f1⟩
              | true =>
                have hd5 := HD.out w5 H5.out
                go_wp2_with fail
                refine hd5.mono ?_
                rintro e w6 ⟨rfl, h6⟩
                have H6 := HNx.out w6 h6 (by obtain ⟨-, e⟩ | ⟨-, -, e, -⟩ := HE2.out; exact e; rw [HAM.out] at e; cases e)
                clear hd5 h6
                go_wp2_with fail
                go_roundg (g - 1)
                case measure => have := HG.out; omega
                case rel => exact ⟨_, _, rfl, H6⟩
end
end Go.Proofs.Ytkchlibkfafgdaa.Shard

/- Layer 11, plain: what a store comes to; budgets; drops. -/
namespace Go.Proofs.Ytkchlibkfafgdaa.Shard
open Go

def St.new (seed budget protect : Int) : St := ⟨Tab.new, fun _ => ⟨⟨ByteArray.empty, [], 0, 0, 0, 0, 0, false, false, false⟩, (0, 0)⟩, Slab.new budget, Slru.new protect, Tiny.new seed, []⟩
def St.items (s : St) : List Item := s.tab.L.map fun p => (s.ent p.2).it
theorem Inv.new (seed budget protect : Int) (h : -9223372036854775808 ≤ budget ∧ budget ≤ 9223372036854775807) : Inv 0 0 (St.new seed budget protect) :=
  ⟨Slab.Good.new budget h, List.Pairwise.nil, fun k => ⟨fun h => (by cases h), fun h => (by cases h)⟩, List.nodup_nil, fun p h => (by cases h), List.Perm.refl _, Nat.le_refl _, Nat.le_refl _⟩
section
variable {n m N M : Nat} {s t : St} {it : Item} {old : Option Nat} {less : Int} {env : Env} {fresh : Nat} {B : Int} {k : ByteArray}
theorem items_len (s : St) : s.items.length = s.tab.L.length := by simp [St.items]
/-- What a store has, right ahead of its end. -/
structure Ready (n N : Nat) (it : Item) (old : Option Nat) (t : St) : Prop where
  inv : Inv n N t
  hold : ∀ x, old = some x → (it.key, x) ∈ t.tab.L
  hnew : old = none → it.key ∉ t.tab.L.map (·.1)
  fits : t.slab.fits it.size (t.less old) = true
def St.roomed (s : St) (it : Item) (env : Env) : Int × St := St.room it (s.find it.key env).1.isSome ((s.find it.key env).2.less (s.find it.key env).1) env ((s.find it.key env).2.order.all.length + 1) (s.find it.key env).2
/-- A store, parted. -/
theorem store_two (h : Inv n N s) (it : Item) (env : Env) (fresh : Nat) : (Slab.classN it.size = 6 ∧ s.store fresh it env = (4, s)) ∨
    (Slab.classN it.size < 6 ∧ Inv n (N + n + 2) (s.roomed it env).2 ∧ (∀ p, p ∈ (s.roomed it env).2.tab.L → p ∈ s.tab.L) ∧
      (((s.roomed it env).1 = 0 ∧ Ready n (N + n + 2) it (s.find it.key env).1 (s.roomed it env).2 ∧ s.store fresh it env = (0, (s.roomed it env).2.stored (s.find it.key env).1 fresh it)) ∨
       ((s.roomed it env).1 ≠ 0 ∧ s.store fresh it env = s.roomed it env))) := by
  have hc := Slab.class_six it.size
  have e0 : s.store fresh it env = if Slab.classN it.size = 6 then (4, s) else if (s.roomed it env).1 = 0 then (0, (s.roomed it env).2.stored (s.find it.key env).1 fresh it) else s.roomed it env := rfl
  rw [e0]
  by_cases h6 : Slab.classN it.size = 6
  · rw [if_pos h6]; exact .inl ⟨h6, rfl⟩
  rw [if_neg h6]
  refine .inr ⟨by omega, ?_⟩
  unfold St.roomed
  have h1 := h.find it.key env
  obtain ⟨k1, k2, k3⟩ := find_key h it.key env
  have hlen := h1.olen
  have hl1 := h1.len
  generalize s.find it.key env = y at *
  have h2 := h1.room (it := it) (old := y.1.isSome) (less := y.2.less y.1) (env := env) (y.2.order.all.length + 1)
  have hft := room_fits (it := it) (old := y.1.isSome) (less := y.2.less y.1) (env := env) (y.2.order.all.length + 1) y.2
  have hke := room_key (it := it) (old := y.1.isSome) (less := y.2.less y.1) (env := env) (y.2.order.all.length + 1) y.2 h1.rise
  have hen := room_ent (it := it) (old := y.1.isSome) (less := y.2.less y.1) (env := env) (y.2.order.all.length + 1) y.2
  generalize St.room it y.1.isSome (y.2.less y.1) env (y.2.order.all.length + 1) y.2 = z at *
  have h3 : Inv n (N + n + 2) z.2 := h2.mono (Nat.le_refl _) (by omega)
  refine ⟨h3, fun p hp => k3 p (hke.2.1 p hp), ?_⟩
  by_cases h0 : z.1 = 0
  · rw [if_pos h0]
    refine .inl ⟨h0, ⟨h3, fun x e => hke.2.2 _ rfl (k1 x e), fun e hm => ?_, by rw [less_at y.2 z.2 hen]; exact hft h0⟩, rfl⟩
    obtain ⟨p, hp, e1⟩ := List.mem_map.1 hm
    exact k2 e (List.mem_map.2 ⟨p, hke.2.1 p hp, e1⟩)
  · rw [if_neg h0]; exact .inr ⟨h0, rfl⟩
/-- What is stored is there. -/
theorem Ready.there (h : Ready n N it old t) : ∃ y, (it.key, y) ∈ (t.stored old fresh it).tab.L ∧ ((t.stored old fresh it).ent y).it = it := by
  cases old with
  | some x =>
    refine ⟨x, h.hold x rfl, ?_⟩
    show (upd t.ent x _ x).it = it
    rw [upd_same]
  | none =>
    refine ⟨fresh, ?_, ?_⟩
    · show _ ∈ (t.tab.put it.key fresh).L
      rw [Tab.put_L, Tab.mem_put h.inv.rise]
      exact .inl rfl
    · show (upd t.ent fresh _ fresh).it = it
      rw [upd_same]
theorem store_there (h : Inv n N s) (h0 : (s.store fresh it env).1 = 0) : it ∈ (s.store fresh it env).2.items := by
  rcases store_two h it env fresh with ⟨_, e⟩ | ⟨_, _, _, ⟨_, hr, e⟩ | ⟨h1, e⟩⟩
  · rw [e] at h0; cases h0
  · rw [e]
    obtain ⟨y, h1, h2⟩ := hr.there (fresh := fresh)
    exact List.mem_map.2 ⟨_, h1, h2⟩
  · rw [e] at h0; exact absurd h0 h1

/-! ### the budget -/
structure Cap (B : Int) (s : St) : Prop where
  budget : s.slab.budget = B
  used : s.slab.used ≤ max B 0
theorem slab_free_le (x : Slab.St) (c : Int × Int) : (x.free c).2.budget = x.budget ∧ (x.free c).2.used ≤ x.used := by
  unfold Slab.St.free
  split
  · have := (Slab.bytes_range c.1).1
    exact ⟨rfl, by show x.used - _ ≤ x.used; omega⟩
  · exact ⟨rfl, Int.le_refl _⟩
theorem Cap.new (seed budget protect : Int) : Cap budget (St.new seed budget protect) := ⟨rfl, by show (0 : Int) ≤ _; omega⟩
theorem Cap.tick (h : Cap B s) : Cap B s.tick := ⟨h.budget, h.used⟩
theorem Cap.remove (h : Cap B s) (k : ByteArray) : Cap B (s.remove k).2 := by
  unfold St.remove
  split
  · rename_i x _
    obtain ⟨h1, h2⟩ := slab_free_le s.slab (s.ent x).chunk
    exact ⟨h1.trans h.budget, Int.le_trans h2 h.used⟩
  · exact h.tick
theorem Cap.drop (h : Cap B s) (k : ByteArray) : Cap B (s.drop k) := ⟨(h.remove k).budget, (h.remove k).used⟩
theorem Cap.find (h : Cap B s) (k : ByteArray) (env : Env) : Cap B (s.find k env).2 := by
  unfold St.find
  split
  · split
    · exact h.tick
    · exact h.tick.drop k
  · exact h.tick
theorem Cap.roomed (h : Cap B s) : Cap B (s.roomed it env).2 :=
  room_ind (P := fun _ t => Cap B t) (fun _ _ h => h.tick) (fun _ _ h => h) (fun _ _ v _ h _ _ _ _ => h.tick.drop v) _ _ (h.find it.key env)
theorem Cap.store (hi : Inv n N s) (h : Cap B s) : Cap B (s.store fresh it env).2 := by
  rcases store_two hi it env fresh with ⟨_, e⟩ | ⟨_, _, _, ⟨_, hr, e⟩ | ⟨h1, e⟩⟩
  · rw [e]; exact h
  · rw [e]
    have hc := h.roomed (it := it) (env := env)
    generalize (s.roomed it env).2 = t at *
    obtain ⟨f6, f0, f1, f2⟩ := fits_true hr.fits
    have hb := hc.budget
    rcases ho : (s.find it.key env).1 with _ | x
    · rw [ho] at f2 hr
      replace f2 : t.slab.used - 0 + Slab.bytesI (Slab.classN it.size) ≤ t.slab.budget := f2
      obtain ⟨nn, h1, h2, h3, h4⟩ := take_ok hr.inv.slab f6 (by omega)
      exact ⟨h4.trans hb, by show (t.slab.take it.size).2.used ≤ _; rw [h3]; omega⟩
    · rw [ho] at f2 hr
      replace f2 : t.slab.used - Slab.bytesI (t.ent x).chunk.1 + Slab.bytesI (Slab.classN it.size) ≤ t.slab.budget := f2
      obtain ⟨g1, g2⟩ := hr.inv.rest (hr.hold x rfl)
      obtain ⟨-, f1, f2', f3⟩ := Slab.free_in g1
      obtain ⟨nn, h1, h2, h3, h4⟩ := take_ok (hr.inv.slab.free (t.ent x).chunk) f6 (by rw [f2', f3]; exact f2)
      exact ⟨(h4.trans f3).trans hb, by show ((t.slab.free (t.ent x).chunk).2.take it.size).2.used ≤ _; rw [h3, f2']; omega⟩
  · rw [e]; exact h.roomed

/-! ### drops of one key -/
def cnt (l : List ByteArray) (k : ByteArray) : Nat := (l.filter fun x => decide (x = k)).length
theorem cnt_app (l m : List ByteArray) (k : ByteArray) : cnt (l ++ m) k = cnt l k + cnt m k := by unfold cnt; rw [List.filter_append, List.length_append]
theorem drop_drops (s : St) (k : ByteArray) : (s.drop k).drops = s.drops ++ [k] := by
  show (s.remove k).2.drops ++ [k] = _
  rw [remove_drops]
theorem find_cnt (s : St) (k : ByteArray) (env : Env) : cnt (s.find k env).2.drops k ≤ cnt s.drops k + 1 := by
  unfold St.find
  split
  · split
    · show cnt s.drops k ≤ _; omega
    · show cnt (s.tick.drop k).drops k ≤ _
      rw [drop_drops, cnt_app]
      show cnt s.drops k + cnt [k] k ≤ _
      have : cnt [k] k = 1 := by simp [cnt]
      omega
  · show cnt s.drops k ≤ _; omega
theorem roomed_cnt (s : St) : cnt (s.roomed it env).2.drops it.key ≤ cnt s.drops it.key + 1 :=
  room_ind (P := fun _ t => cnt t.drops it.key ≤ cnt s.drops it.key + 1) (fun _ _ h => h) (fun _ _ h => h) (fun _ t v _ h _ hne _ _ => by
    rw [drop_drops, cnt_app]
    show cnt t.drops it.key + cnt [v] it.key ≤ _
    have : cnt [v] it.key = 0 := by simp [cnt, hne]
    omega) _ _ (find_cnt s it.key env)
theorem stored_drops (t : St) (old : Option Nat) (fresh : Nat) (it : Item) : (t.stored old fresh it).drops = t.drops := by cases old <;> rfl
theorem store_cnt (h : Inv n N s) : cnt (s.store fresh it env).2.drops it.key ≤ cnt s.drops it.key + 1 := by
  rcases store_two h it env fresh with ⟨_, e⟩ | ⟨_, _, _, ⟨_, hr, e⟩ | ⟨h1, e⟩⟩
  · rw [e]; show cnt s.drops _ ≤ _; omega
  · rw [e]; show cnt (St.drops (St.stored _ _ _ _)) _ ≤ _; rw [stored_drops]; exact roomed_cnt s
  · rw [e]; exact roomed_cnt s

/-! ### as long as there is room -/
structure Keeps (i : Nat) (K : ByteArray → Prop) (B : Int) (s : St) : Prop where
  budget : s.slab.budget = B
  len : s.tab.L.length ≤ i
  exp : ∀ p ∈ s.tab.L, (s.ent p.2).it.exp = 0
  drops : s.drops = []
  keys : ∀ k, k ∈ s.tab.L.map (·.1) ↔ K k
theorem live_ever {it : Item} {env : Env} (h1 : it.exp = 0) (h2 : env.flush = 0) : it.live env = true := by
  unfold Item.live
  rw [if_neg (fun e => e.1 h1), if_neg (fun e => e.1 h2)]
theorem total_some (l : List (Int × Int)) : Slab.total l ≤ 2048 * l.length := by
  induction l with
  | nil => exact Int.le_refl _
  | cons c l ih =>
    rw [Slab.total_cons]
    have := (Slab.bytes_range c.1).2
    simp only [List.length_cons]
    omega
theorem Inv.usedLe (h : Inv n N s) : s.slab.used ≤ 2048 * s.tab.L.length := by
  have h1 := total_some s.slab.inn
  rw [h.slab.sum]
  have := h.mem.length_eq
  rw [List.length_map] at this
  omega
theorem Keeps.find {i : Nat} {K : ByteArray → Prop} (h : Keeps i K B s) (hi : Inv n N s) (he : env.flush = 0) (k : ByteArray) : s.find k env = (Tab.get s.tab.L k, s.tick) := by
  unfold St.find
  rcases hg : Tab.get s.tab.L k with _ | x
  · rfl
  · have hm := (Tab.get_mem hi.rise.nodup).1 hg
    show (if (s.ent x).it.live env = true then _ else _) = _
    rw [if_pos (live_ever (h.exp _ hm) he)]
theorem Keeps.found {i : Nat} {K : ByteArray → Prop} (h : Keeps i K B s) (hi : Inv n N s) (k : ByteArray) : (Tab.get s.tab.L k).isSome = true ↔ K k := by
  rw [← h.keys k]
  constructor
  · intro h1
    obtain ⟨x, hx⟩ := Option.isSome_iff_exists.1 h1
    exact List.mem_map.2 ⟨_, (Tab.get_mem hi.rise.nodup).1 hx, rfl⟩
  · intro h1
    obtain ⟨p, hp, rfl⟩ := List.mem_map.1 h1
    rw [(Tab.get_mem hi.rise.nodup (k := p.1) (v := p.2)).2 hp]; rfl
theorem Keeps.store {i : Nat} {K : ByteArray → Prop} (h : Keeps i K B s) (hi : Inv n N s) (he : env.flush = 0) (hx : it.exp = 0) (hB : 2048 * ((i : Int) + 1) ≤ B) (hf : ∀ p ∈ s.tab.L, p.2 ≠ fresh) :
    (Slab.classN it.size = 6 ∧ s.store fresh it env = (4, s)) ∨ (Slab.classN it.size < 6 ∧ (s.store fresh it env).1 = 0 ∧ Keeps (i + 1) (fun k => K k ∨ k = it.key) B (s.store fresh it env).2) := by
  rcases store_two hi it env fresh with ⟨h6, e⟩ | ⟨h6, hir, hsub, h3⟩
  · exact .inl ⟨h6, e⟩
  have hfind := h.find hi he it.key
  have hfit : s.slab.fits it.size (s.less (Tab.get s.tab.L it.key)) = true := by
    have hu := hi.usedLe
    have hl := h.len
    have hb := h.budget
    have u0 := hi.slab.small.u0
    have hc := Slab.bytes_range (Slab.classN it.size : Nat)
    have h0 : 0 ≤ s.less (Tab.get s.tab.L it.key) ∧ s.less (Tab.get s.tab.L it.key) ≤ s.slab.used := by
      unfold St.less
      split
      · rename_i x hg
        obtain ⟨g1, -⟩ := hi.rest ((Tab.get_mem hi.rise.nodup).1 hg)
        exact ⟨(Slab.bytes_range _).1, by rw [hi.slab.sum]; exact Slab.total_mem g1⟩
      · exact ⟨Int.le_refl _, u0⟩
    unfold Slab.St.fits
    exact decide_eq_true ⟨h6, h0.1, h0.2, by omega⟩
  have hro : s.roomed it env = (0, s.tick) := by
    unfold St.roomed
    rw [hfind, St.room]
    exact if_pos hfit
  rw [hro] at h3
  obtain ⟨hr, e⟩ : Ready n (N + n + 2) it (s.find it.key env).1 s.tick ∧ s.store fresh it env = (0, s.tick.stored (s.find it.key env).1 fresh it) := h3.elim (fun h => h.2) (fun h => absurd rfl h.1)
  refine .inr ⟨h6, by rw [e], ?_⟩
  rw [e]
  simp only
  rw [hfind] at hr ⊢
  obtain ⟨f6, f0, f1, f2⟩ := fits_true hfit
  rcases ho : Tab.get s.tab.L it.key with _ | x
  · rw [ho] at hr f2
    replace f2 : s.slab.used - 0 + Slab.bytesI (Slab.classN it.size) ≤ s.slab.budget := f2
    obtain ⟨nn, h1, h2, h3, h4⟩ := take_ok hi.slab f6 (by omega)
    have hL : (s.tick.stored none fresh it).tab.L = Tab.put s.tab.L it.key fresh := Tab.put_L _ _ _
    have hk : it.key ∉ s.tab.L.map (·.1) := hr.hnew rfl
    refine ⟨h4.trans h.budget, by rw [hL, Tab.put_len_new hi.rise fresh hk]; have := h.len; omega, fun p hp => ?_, h.drops, fun k => ?_⟩
    · rw [hL, Tab.mem_put hi.rise] at hp
      show (upd s.ent fresh _ p.2).it.exp = 0
      rcases hp with rfl | ⟨hp, _⟩
      · rw [upd_same]; exact hx
      · rw [upd_other _ _ (hf p hp)]; exact h.exp p hp
    · rw [hL, ((put_perm hi.rise hk).map (·.1)).mem_iff, List.map_cons, List.mem_cons, h.keys]
      exact or_comm
  · rw [ho] at hr f2
    replace f2 : s.slab.used - Slab.bytesI (s.ent x).chunk.1 + Slab.bytesI (Slab.classN it.size) ≤ s.slab.budget := f2
    have hm : (it.key, x) ∈ s.tab.L := hr.hold x rfl
    obtain ⟨g1, g2⟩ := hi.rest hm
    obtain ⟨-, f1, f2', f3⟩ := Slab.free_in g1
    obtain ⟨nn, h1, h2, h3, h4⟩ := take_ok (hi.slab.free (s.ent x).chunk) f6 (by rw [f2', f3]; exact f2)
    refine ⟨(h4.trans f3).trans h.budget, Nat.le_succ_of_le h.len, fun p hp => ?_, h.drops, fun k => ?_⟩
    · show (upd s.ent x ⟨it, ((s.slab.free (s.ent x).chunk).2.take it.size).1.1⟩ p.2).it.exp = 0
      by_cases e : p.2 = x
      · rw [e, upd_same]; exact hx
      · rw [upd_other _ _ e]; exact h.exp p hp
    · show k ∈ s.tab.L.map (·.1) ↔ _
      rw [h.keys]
      refine ⟨.inl, fun e1 => e1.elim id (fun e1 => ?_)⟩
      rw [← h.keys, e1]
      exact List.mem_map.2 ⟨_, hm, rfl⟩

/-! ### what an update, a remove, a look leave -/
theorem items_at (s : St) (i : Nat) : s.items[i]? = (s.tab.L[i]?).map fun p => (s.ent p.2).it := by simp [St.items]
theorem update_items (h : Inv n N s) (it : Item) : (s.update it).2.slab = s.slab ∧ (s.update it).2.items.length = s.items.length ∧
    (∀ (i : Nat) (a : Item), s.items[i]? = some a → (s.update it).2.items[i]? = some (if (s.update it).1 = 0 ∧ a.key = it.key then it else a) ∧ (a.key = it.key → ((s.update it).1 = 0 ↔ a.val.length = it.val.length))) := by
  have hk : ∀ (i : Nat) (a : Item), s.items[i]? = some a → ∃ p, s.tab.L[i]? = some p ∧ a = (s.ent p.2).it ∧ a.key = p.1 := fun i a ha => by
    rw [items_at, Option.map_eq_some_iff] at ha
    obtain ⟨p, hp, rfl⟩ := ha
    exact ⟨p, hp, rfl, (h.ents p (List.mem_of_getElem? hp)).1⟩
  unfold St.update
  rcases hg : Tab.get s.tab.L it.key with _ | x
  · refine ⟨rfl, rfl, fun i a ha => ⟨?_, fun e => ?_⟩⟩
    · rw [if_neg (fun e => by cases e.1)]; exact ha
    · exfalso
      obtain ⟨p, hp, rfl, h1⟩ := hk i a ha
      exact get_none h.rise hg (List.mem_map.2 ⟨p, List.mem_of_getElem? hp, by rw [← h1, e]⟩)
  · have hm := (Tab.get_mem h.rise.nodup).1 hg
    have hx : ∀ p ∈ s.tab.L, p.1 = it.key → p.2 = x := fun p hp e => by
      have := (Tab.get_mem h.rise.nodup (k := p.1) (v := p.2)).2 hp
      rw [e, hg] at this
      injection this with this
      exact this.symm
    simp only
    by_cases hl : (s.ent x).it.val.length = it.val.length
    · rw [if_pos hl]
      refine ⟨rfl, by simp [St.items, St.tick], fun i a ha => ?_⟩
      obtain ⟨p, hp, rfl, h1⟩ := hk i a ha
      have hpm := List.mem_of_getElem? hp
      refine ⟨?_, fun e => ?_⟩
      · rw [items_at]
        show (s.tab.L[i]?).map _ = _
        rw [hp]
        show some (upd s.ent x _ p.2).it = _
        by_cases e : p.1 = it.key
        · rw [hx p hpm e, upd_same, if_pos ⟨rfl, by rw [← hx p hpm e, h1, e]⟩]
        · have hne : p.2 ≠ x := fun e1 => e (by
            have h2 := (h.ents _ hm).1
            simp only at h2
            rw [← h1, e1, h2])
          rw [upd_other _ _ hne, if_neg (fun e2 => e (h1.symm.trans e2.2))]
      · have e1 : p.2 = x := hx p hpm (h1.symm.trans e)
        rw [e1]
        exact ⟨fun _ => hl, fun _ => rfl⟩
    · rw [if_neg hl]
      refine ⟨rfl, rfl, fun i a ha => ⟨?_, fun e => ?_⟩⟩
      · rw [if_neg (fun e => by cases e.1)]; exact ha
      · obtain ⟨p, hp, rfl, h1⟩ := hk i a ha
        have e1 : p.2 = x := hx p (List.mem_of_getElem? hp) (h1.symm.trans e)
        rw [e1]
        exact ⟨fun e => (by cases e), fun e => absurd e hl⟩
theorem remove_two (h : Inv n N s) (k : ByteArray) : ((s.remove k).1 = false ∧ (s.remove k).2 = s.tick ∧ ∀ a ∈ s.items, a.key ≠ k) ∨
    ((s.remove k).1 = true ∧ ∃ a, a ∈ s.items ∧ a.key = k ∧ a.size ≤ 2048 ∧ (∀ b ∈ s.items, b.key = k → b = a) ∧ (s.remove k).2.items = s.items.filter (fun a => decide (a.key ≠ k)) ∧ (s.remove k).2.items.length + 1 = s.items.length ∧ (s.remove k).2.slab.used = s.slab.used - Slab.bytesI (Slab.classN a.size) ∧ (∀ b ∈ (s.remove k).2.items, b.key ≠ k)) := by
  have hk : ∀ a ∈ s.items, ∃ p ∈ s.tab.L, a = (s.ent p.2).it ∧ a.key = p.1 := fun a ha => by
    obtain ⟨p, hp, rfl⟩ := List.mem_map.1 ha
    exact ⟨p, hp, rfl, (h.ents p hp).1⟩
  have e1 := remove_L s k h.rise
  have e2 := remove_ent s k
  have hf : (s.remove k).2.items = s.items.filter (fun a => decide (a.key ≠ k)) := by
    unfold St.items
    rw [e1, e2, List.filter_map]
    unfold Tab.del
    refine congrArg _ (List.filter_congr fun p hp => ?_)
    show decide (p.1 ≠ k) = decide ((s.ent p.2).it.key ≠ k)
    rw [(h.ents p hp).1]
  rcases hg : Tab.get s.tab.L k with _ | x
  · have e : s.remove k = (false, s.tick) := by unfold St.remove; rw [hg]; rfl
    refine .inl ⟨by rw [e], by rw [e], fun a ha e3 => ?_⟩
    obtain ⟨p, hp, rfl, h1⟩ := hk a ha
    exact get_none h.rise hg (List.mem_map.2 ⟨p, hp, by rw [← h1, e3]⟩)
  · have hm := (Tab.get_mem h.rise.nodup).1 hg
    obtain ⟨g1, -⟩ := h.rest hm
    obtain ⟨-, -, f2, -⟩ := Slab.free_in g1
    have hee := h.ents _ hm
    simp only at hee
    refine .inr ⟨by unfold St.remove; rw [hg], (s.ent x).it, List.mem_map.2 ⟨_, hm, rfl⟩, hee.1, hee.2.2.1, fun b hb e3 => ?_, hf, ?_, ?_, fun b hb e3 => ?_⟩
    · obtain ⟨p, hp, rfl, h1⟩ := hk b hb
      have := (Tab.get_mem h.rise.nodup (k := p.1) (v := p.2)).2 hp
      rw [← h1, e3, hg] at this
      injection this with this
      rw [← this]
    · rw [items_len, items_len, e1]
      exact Tab.del_len h.rise (List.mem_map.2 ⟨_, hm, rfl⟩)
    · have e : (s.remove k).2.slab = (s.slab.free (s.ent x).chunk).2 := by unfold St.remove; rw [hg]
      rw [e, f2, hee.2.2.2]
    · rw [hf] at hb
      exact (of_decide_eq_true (List.mem_filter.1 hb).2) e3
/-- A key that is there, and what finds it. -/
theorem there_iff (h : Inv n N s) (k : ByteArray) : (∃ a ∈ s.items, a.key = k) ↔ (Tab.get s.tab.L k).isSome = true := by
  constructor
  · rintro ⟨a, ha, e⟩
    obtain ⟨p, hp, rfl⟩ := List.mem_map.1 ha
    have := (Tab.get_mem h.rise.nodup (k := p.1) (v := p.2)).2 hp
    rw [← (h.ents p hp).1, e] at this
    rw [this]; rfl
  · intro h1
    obtain ⟨x, hx⟩ := Option.isSome_iff_exists.1 h1
    have hm := (Tab.get_mem h.rise.nodup).1 hx
    exact ⟨_, List.mem_map.2 ⟨_, hm, rfl⟩, (h.ents _ hm).1⟩
/-- Two looks, one behind the other. -/
theorem look_law (h : Inv n N s) (k : ByteArray) (env : Env) (hd : s.drops = []) :
    let f := s.find k env
    let g := ({ f.2 with drops := [] } : St).find k env
    (f.1.isSome = true → (∃ a ∈ s.items, a.key = k) ∧ g.1.isSome = true ∧ f.2.drops = [] ∧ g.2.items.length = s.items.length) ∧
    (f.1.isSome = false → (∃ a ∈ s.items, a.key = k) → g.1.isSome = false ∧ f.2.drops = [k] ∧ g.2.items.length + 1 = s.items.length ∧ g.2.drops = []) ∧
    (f.1.isSome = false → ¬ (∃ a ∈ s.items, a.key = k) → g.1.isSome = false ∧ f.2.drops = [] ∧ g.2.items.length = s.items.length) := by
  have hnone : ∀ t : St, Tab.get t.tab.L k = none → t.find k env = (none, t.tick) := fun t e => by unfold St.find; rw [e]
  simp only
  rcases hf : (s.find k env).1 with _ | x
  · rcases find_none hf with ⟨h1, h2⟩ | ⟨x, h1, h2, h3⟩
    · have hnt : ¬ (∃ a ∈ s.items, a.key = k) := fun e => by have := (there_iff h k).1 e; rw [h1] at this; cases this
      rw [h2, hnone { s.tick with drops := [] } h1]
      exact ⟨fun e => (by cases e), fun _ e => absurd e hnt, fun _ _ => ⟨rfl, hd, rfl⟩⟩
    · have hyt : ∃ a ∈ s.items, a.key = k := (there_iff h k).2 (by rw [h1]; rfl)
      have hL := drop_L s.tick k h.rise
      have hg : Tab.get (Tab.del s.tab.L k) k = none := by rw [Tab.get_del h.rise, if_pos rfl]
      have hm := (Tab.get_mem h.rise.nodup).1 h1
      rw [h3, hnone { s.tick.drop k with drops := [] } (by show Tab.get (s.tick.drop k).tab.L k = none; rw [hL]; exact hg)]
      refine ⟨fun e => (by cases e), fun _ _ => ⟨rfl, ?_, ?_, rfl⟩, fun _ e => absurd hyt e⟩
      · rw [drop_drops]; show s.drops ++ [k] = _; rw [hd]; rfl
      · rw [items_len, items_len]
        show (s.tick.drop k).tab.L.length + 1 = _
        rw [hL]
        exact Tab.del_len h.rise (List.mem_map.2 ⟨_, hm, rfl⟩)
  · obtain ⟨h1, h2, h3⟩ := find_some hf
    have hyt : ∃ a ∈ s.items, a.key = k := (there_iff h k).2 (by rw [h1]; rfl)
    have hg : ({ s.tick with drops := [] } : St).find k env = (some x, ({ s.tick with drops := [] } : St).tick) := by
      unfold St.find
      show (match Tab.get s.tab.L k with | some x => _ | none => _) = _
      rw [h1]
      exact if_pos h2
    rw [h3, hg]
    exact ⟨fun _ => ⟨hyt, rfl, hd, rfl⟩, fun e => (by cases e), fun e => (by cases e)⟩
end
end Go.Proofs.Ytkchlibkfafgdaa.Shard

/- Layer 11: what a store does to the parts. -/
namespace Go.Proofs.Ytkchlibkfafgdaa.Shard
open Go Go.RowKit Go.Proofs.Ytkchlibkfafgdaa.Mem Go.Proofs.Ytkchlibkfafgdaa.App

section
variable {W w0 w w' : World} {n m n0 N b B B' : Nat} {hl hl' : Nat → Prop} {col : Col} {ad : Addrs} {seed : Int} {o1 o2 : Obj} {s : St} {vd : Value} {vv : Nat → Value}
theorem Parts.hole (h : Parts W w n hl col ad seed s vd vv) (hh : ∀ k, hl k → hl' k) : Parts W w n hl' col ad seed s vd vv :=
  ⟨h.self, h.csb, h.tab, h.sm, h.slab, h.order, h.judge, h.cj, h.drops, h.cd, fun q hq hn => h.ents q hq (fun e => hn (hh _ e)), h.lt, h.below⟩
theorem Parts.more (h : Parts W w n hl col ad seed s vd vv) (hm : n ≤ m) (hm2 : m ≤ 1000000000) : Parts W w m hl col ad seed s vd vv :=
  ⟨h.self, h.csb, h.tab, h.sm.mono hm hm2, h.slab, h.order, h.judge, h.cj, h.drops, h.cd, h.ents, h.lt, h.below⟩
theorem At.more (h : At W w n b col seed s) (hm : n ≤ m) (hm2 : m ≤ 1000000000) : At W w m b col seed s := by
  obtain ⟨ad, vd, vv, e, h⟩ := h
  exact ⟨ad, vd, vv, e, h.more hm hm2⟩
/-- A block of the caller's own becomes an entry's. -/
def paint (col : Col) (x : Nat) : Col := fun k => if k = x then some (.ent x) else col k
theorem Parts.paint (h : Parts W w n hl col ad seed s vd vv) {x : Nat} (hc : col x = none) (h1 : W.heap.size ≤ x) (h2 : x < w.heap.size) : Parts W w n hl (paint col x) ad seed s vd vv := by
  have ho : ∀ k p, col k = some p → Shard.paint col x k = some p := fun k p e => by
    unfold Shard.paint
    rw [if_neg (fun e1 => by rw [e1, hc] at e; cases e)]; exact e
  obtain ⟨Ft, ht1, ht2⟩ := h.tab
  obtain ⟨Fs, hs1, hs2⟩ := h.slab
  obtain ⟨Fo, ho1, ho2⟩ := h.order
  refine ⟨h.self, ho _ _ h.csb, ⟨Ft, ht1, fun k hk => ho _ _ (ht2 k hk)⟩, h.sm, ⟨Fs, hs1, fun k hk => ho _ _ (hs2 k hk)⟩, ⟨Fo, ho1, fun k hk => ho _ _ (ho2 k hk)⟩, h.judge, ⟨ho _ _ h.cj.1, ho _ _ h.cj.2.1, ho _ _ h.cj.2.2⟩, h.drops, fun g e => ho _ _ (h.cd g e), fun q hq hn => ?_, fun k p e => ?_, h.below⟩
  · obtain ⟨a1, a2, a3, a4, a5⟩ := h.ents q hq hn
    exact ⟨a1, a2, a3, ho _ _ a4, fun g e => ⟨ho _ _ (a5 g e).1, (a5 g e).2⟩⟩
  · unfold Shard.paint at e
    by_cases e1 : k = x
    · subst e1; exact ⟨h1, h2⟩
    · rw [if_neg e1] at e; exact h.lt k p e
/-- A shard between a put and its end: the entry x is not filled yet. -/
structure Held (W w0 : World) (n b B B' : Nat) (col : Col) (seed : Int) (o1 o2 : Obj) (s : St) (x : Nat) (e : Ent) (u : Value) (w : World) : Prop where
  run : ∃ col' ad vd vv, ad.sb = b ∧ Parts W w n (fun q => q = x) col' ad seed s vd vv ∧ Fr col col' w0 w ∧ col' x = some (.ent x)
  b1 : w.heap[B]? = some o1
  b2 : w.heap[B']? = some o2
  blk : w.heap[x]? = some (.cells (e.arr u) 78 (0, 0))
theorem Beside.frees (h : Beside W w0 n b B B' col seed o1 o2 s w) (hB : B ≤ B' ∧ B' < w0.heap.size) (hc : ∀ j, B ≤ j → col j = none) (hi : Slab.Small N s.slab) (hN : N ≤ 1000000) (c : Int × Int) : ∃ ad : Addrs, w.cell? ⟨b, 1, none⟩ = some (.pointer (some ⟨ad.mb, 0, none⟩)) ∧
    ∀ w', Below w.heap.size w w' → Calls Try.prog 34 #[.pointer (some ⟨ad.mb, 0, none⟩), .agg #[.int .i64 c.1, .int .i64 c.2]] w' fun e w'' => (∃ z, e = .returned (.int .i64 z)) ∧ Beside W w0 n b B B' col seed o1 o2 { s with slab := (s.slab.free c).2 } w'' := by
  obtain ⟨col1, ⟨ad, vd, vv, rfl, h1⟩, f1⟩ := h.run
  refine ⟨ad, Mem.row_cell h1.self 1, fun w' hb => ?_⟩
  have h2 := h1.step hb
  obtain ⟨F, hs, hF⟩ := h2.slab
  refine (Slab.free_any hs hi (by omega) c.1 c.2).mono ?_
  rintro e w1 ⟨F1, rfl, ha, ho, hgr⟩
  have h3 := h2.turnSlab hF ha (slab_lt ha) ho hgr
  have hn : ∀ j, B ≤ j → j < w0.heap.size → col1 j = none := fun j h1 h2 => Classical.byContradiction fun e => (f1.2 j e).elim (fun e1 => e1 (hc j h1)) (fun e1 => by omega)
  have hz := f1.1.size
  have f2 := (Fr.below (col := col1) hb).trans (Fr.of hF ho)
  exact ⟨⟨_, rfl⟩, ⟨_, ⟨ad, vd, vv, rfl, h3⟩, f1.trans f2⟩, (f2.keep (by omega) (hn _ (Nat.le_refl _) (by omega))).trans h.b1, (f2.keep (by omega) (hn _ (by omega) (by omega))).trans h.b2⟩
theorem Beside.takes (h : Beside W w0 n b B B' col seed o1 o2 s w) (hB : B ≤ B' ∧ B' < w0.heap.size) (hc : ∀ j, B ≤ j → col j = none) (hi : Slab.Small N s.slab) (hN : N ≤ 1000000) (z : Int) : ∃ ad : Addrs, w.cell? ⟨b, 1, none⟩ = some (.pointer (some ⟨ad.mb, 0, none⟩)) ∧
    ∀ w', Below w.heap.size w w' → Calls Try.prog 38 #[.pointer (some ⟨ad.mb, 0, none⟩), .int .i64 z] w' fun e w'' => e = .returned (.tuple #[.agg #[.int .i64 (s.slab.take z).1.1.1, .int .i64 (s.slab.take z).1.1.2], .int .i64 (s.slab.take z).1.2]) ∧ Beside W w0 n b B B' col seed o1 o2 { s with slab := (s.slab.take z).2 } w'' ∧ w''.cell? ⟨b, 1, none⟩ = some (.pointer (some ⟨ad.mb, 0, none⟩)) := by
  obtain ⟨col1, ⟨ad, vd, vv, rfl, h1⟩, f1⟩ := h.run
  refine ⟨ad, Mem.row_cell h1.self 1, fun w' hb => ?_⟩
  have h2 := h1.step hb
  obtain ⟨F, hs, hF⟩ := h2.slab
  refine (Slab.take_any hs hi (by omega) z).mono ?_
  rintro e w1 ⟨F1, rfl, ha, ho, hgr⟩
  have h3 := h2.turnSlab hF ha (slab_lt ha) ho hgr
  have hn : ∀ j, B ≤ j → j < w0.heap.size → col1 j = none := fun j h1 h2 => Classical.byContradiction fun e => (f1.2 j e).elim (fun e1 => e1 (hc j h1)) (fun e1 => by omega)
  have hz := f1.1.size
  have f2 := (Fr.below (col := col1) hb).trans (Fr.of hF ho)
  exact ⟨rfl, ⟨⟨_, ⟨ad, vd, vv, rfl, h3⟩, f1.trans f2⟩, (f2.keep (by omega) (hn _ (Nat.le_refl _) (by omega))).trans h.b1, (f2.keep (by omega) (hn _ (by omega) (by omega))).trans h.b2⟩, Mem.row_cell h3.self 1⟩
theorem Beside.finds (h : Beside W w0 n b B B' col seed o1 o2 s w) (hB : B ≤ B' ∧ B' < w0.heap.size) (hc : ∀ j, B ≤ j → col j = none) (hi : Inv n0 N s) (hn : n0 ≤ 1000000) (hN : N ≤ 1000000) (k : ByteArray) (env : Env) (hk : k.size ≤ maxLen) :
    Calls Try.prog 32 #[.pointer (some ⟨b, 0, none⟩), .string k, .agg env.arr] w fun e w' => e = .returned (ptrE (s.find k env).1) ∧ Beside W w0 n b B B' col seed o1 o2 (s.find k env).2 w' := by
  obtain ⟨col1, a1, f1⟩ := h.run
  refine (find_any a1 k env hk (by have := hi.olen; have := hi.len; omega) hi.smallN (by omega) (by rw [remove_drops]; have := hi.dl; show s.drops.length ≤ _; omega)).mono ?_
  rintro e w1 ⟨rfl, col2, a2, f2⟩
  have hn : ∀ j, B ≤ j → j < w0.heap.size → col1 j = none := fun j h1 h2 => Classical.byContradiction fun e => (f1.2 j e).elim (fun e1 => e1 (hc j h1)) (fun e1 => by omega)
  have hz := f1.1.size
  exact ⟨rfl, ⟨col2, a2, f1.trans f2⟩, (f2.keep (by omega) (hn _ (Nat.le_refl _) (by omega))).trans h.b1, (f2.keep (by omega) (hn _ (by omega) (by omega))).trans h.b2⟩
theorem Beside.rooms (h : Beside W w0 n b B B' col seed o1 o2 s w) (hB : B ≤ B' ∧ B' < w0.heap.size) (hc : ∀ j, B ≤ j → col j = none) (hi : Inv n0 N s) (hn0 : n0 ≤ 1000) (hN : N ≤ 500000) (it : Item) (a : Option Addr) (c : Nat) (old : Option Nat) (env : Env) (hks : it.key.size ≤ 300) (hvs : it.val.length ≤ 3000) (hold : ∀ x, old = some x → ∃ k, (k, x) ∈ s.tab.L) :
    Calls Try.prog 33 #[.pointer (some ⟨b, 0, none⟩), .agg (it.arr (.slice a it.val.length c)), ptrE old, .agg env.arr] w fun e w' => e = .returned (.int .i64 (St.room it old.isSome (s.less old) env (s.order.all.length + 1) s).1) ∧ Beside W w0 n b B B' col seed o1 o2 (St.room it old.isSome (s.less old) env (s.order.all.length + 1) s).2 w' := by
  obtain ⟨col1, a1, f1⟩ := h.run
  refine (room_any a1 hi it a c old env hks hvs hold hn0 hN).mono ?_
  rintro e w1 ⟨rfl, col2, a2, f2⟩
  have hn : ∀ j, B ≤ j → j < w0.heap.size → col1 j = none := fun j h1 h2 => Classical.byContradiction fun e => (f1.2 j e).elim (fun e1 => e1 (hc j h1)) (fun e1 => by omega)
  have hz := f1.1.size
  exact ⟨rfl, ⟨col2, a2, f1.trans f2⟩, (f2.keep (by omega) (hn _ (Nat.le_refl _) (by omega))).trans h.b1, (f2.keep (by omega) (hn _ (by omega) (by omega))).trans h.b2⟩
/-- The new entry's key is put. -/
theorem Beside.puts (h : Beside W w0 n b B B' col seed o1 o2 s w) (hB : B ≤ B' ∧ B' < w0.heap.size) (hc : ∀ j, B ≤ j → col j = none) (hn : n + 1 ≤ 1000000000) (k : ByteArray) (hk : k.size ≤ maxLen) (e : Ent) (u : Value) : ∃ ad : Addrs, w.cell? ⟨b, 0, none⟩ = some (.pointer (some ⟨ad.tb, 0, none⟩)) ∧ ∀ w', Below w.heap.size w w' →
    w'.heap[w.heap.size]? = some (.cells (e.arr u) 78 (0, 0)) → Calls Try.prog 35 #[.pointer (some ⟨ad.tb, 0, none⟩), .string k, .pointer (some ⟨w.heap.size, 0, none⟩)] w' fun en w'' => en = .returned (.tuple #[]) ∧ Held W w0 (n + 1) b B B' col seed o1 o2 { s with tab := s.tab.put k w.heap.size } w.heap.size e u w'' := by
  obtain ⟨col1, ⟨ad, vd, vv, rfl, h1⟩, f1⟩ := h.run
  refine ⟨ad, Mem.row_cell h1.self 0, fun w' hb hx => ?_⟩
  have h2 := h1.step hb
  have hxl : w.heap.size < w'.heap.size := (Array.getElem?_eq_some_iff.1 hx).1
  have hcx : col1 w.heap.size = none := Classical.byContradiction fun e => by
    rcases hq : col1 w.heap.size with _ | p
    · exact e hq
    · have := (h1.lt _ p hq).2; omega
  obtain ⟨F, hs, hF⟩ := h2.tab
  have hrise : Tab.Rising s.tab.L := hs.rise
  refine (TabE.put_any hs h2.sm hn k w.heap.size hk).mono ?_
  rintro en w1 ⟨F1, rfl, ha, ho, hgr⟩
  have h3 := h2.turnTab (hl' := fun q => q = w.heap.size) hF ha ho hgr (h2.sm.put hn k w.heap.size) (fun q hq hne => by
    rw [Tab.put_L, Tab.mem_put hrise] at hq
    rcases hq with rfl | ⟨hq, _⟩
    · exact absurd rfl hne
    · exact ⟨hq, fun e => e⟩)
  have hn : ∀ j, B ≤ j → j < w0.heap.size → col1 j = none := fun j h1 h2 => Classical.byContradiction fun e => (f1.2 j e).elim (fun e1 => e1 (hc j h1)) (fun e1 => by omega)
  have hz := f1.1.size
  have hz1 := ho.size
  have fx := Fr.of hF ho
  have f2 := (Fr.below (col := col1) hb).trans fx
  have hrx : recol col1 w' w1 .table w.heap.size = none := by unfold recol; rw [if_pos hxl]; exact hcx
  have h4 := h3.paint (x := w.heap.size) hrx h1.below.size (by omega)
  have f3 : Fr col (paint (recol col1 w' w1 .table) w.heap.size) w0 w1 := ⟨(f1.trans f2).1, fun j hj => by
    by_cases e : j = w.heap.size
    · exact .inr (by omega)
    · exact (f1.trans f2).2 j (by have hj : paint (recol col1 w' w1 .table) w.heap.size j ≠ none := hj; unfold paint at hj; rw [if_neg e] at hj; exact hj)⟩
  exact ⟨rfl, ⟨_, ad, vd, vv, rfl, h4, f3, by unfold paint; rw [if_pos rfl]⟩, (f2.keep (by omega) (hn _ (Nat.le_refl _) (by omega))).trans h.b1, (f2.keep (by omega) (hn _ (by omega) (by omega))).trans h.b2, (fx.keep hxl hcx).trans hx⟩
/-- The new entry's key is added to the list. -/
theorem Held.adds {x : Nat} {e : Ent} {u : Value} (h : Held W w0 n b B B' col seed o1 o2 s x e u w) (hB : B ≤ B' ∧ B' < w0.heap.size) (hc : ∀ j, B ≤ j → col j = none) (k : ByteArray) (hl : s.order.all.length ≤ 1000000) : ∃ ad : Addrs, w.cell? ⟨b, 2, none⟩ = some (.pointer (some ⟨ad.ob, 0, none⟩)) ∧ ∀ w', Below w.heap.size w w' →
    Calls Try.prog 36 #[.pointer (some ⟨ad.ob, 0, none⟩), .string k] w' fun en w'' => (∃ z, en = .returned (.int .i64 z)) ∧ Held W w0 n b B B' col seed o1 o2 { s with order := (s.order.add k).2 } x e u w'' := by
  obtain ⟨col1, ad, vd, vv, rfl, h1, f1, hx⟩ := h.run
  refine ⟨ad, Mem.row_cell h1.self 2, fun w' hb => ?_⟩
  have h2 := h1.step hb
  obtain ⟨F, hs, hF⟩ := h2.order
  refine (Slru.add_any hs k (by show s.order.all.length + 1 ≤ _; omega)).mono ?_
  rintro en w1 ⟨F1, rfl, ha, ho, hgr⟩
  have h3 := h2.turnOrder hF ha ha.lt ho hgr
  have hn : ∀ j, B ≤ j → j < w0.heap.size → col1 j = none := fun j h1 h2 => Classical.byContradiction fun e => (f1.2 j e).elim (fun e1 => e1 (hc j h1)) (fun e1 => by omega)
  have hz := f1.1.size
  have f2 := (Fr.below (col := col1) hb).trans (Fr.of hF ho)
  refine ⟨⟨_, rfl⟩, ⟨_, ad, vd, vv, rfl, h3, f1.trans f2, ?_⟩, (f2.keep (by omega) (hn _ (Nat.le_refl _) (by omega))).trans h.b1, (f2.keep (by omega) (hn _ (by omega) (by omega))).trans h.b2, ?_⟩
  · exact h2.recol_of hx
  · exact ((h2.far (Parts.onlyOf hF ho) hx (by simp)).trans (hb.block _ (h1.lt _ _ hx).2)).trans h.blk
theorem Held.below {x : Nat} {e : Ent} {u : Value} (h : Held W w0 n b B B' col seed o1 o2 s x e u w) (hb : Below w.heap.size w w') : Held W w0 n b B B' col seed o1 o2 s x e u w' := by
  obtain ⟨col1, ad, vd, vv, rfl, h1, f1, hx⟩ := h.run
  exact ⟨⟨col1, ad, vd, vv, rfl, h1.step hb, f1.trans (Fr.below hb), hx⟩, (hb.block _ (Array.getElem?_eq_some_iff.1 h.b1).1).trans h.b1, (hb.block _ (Array.getElem?_eq_some_iff.1 h.b2).1).trans h.b2, (hb.block _ (Array.getElem?_eq_some_iff.1 h.blk).1).trans h.blk⟩
theorem lay_item (e : Ent) (u v : Value) (it : Item) : lay (e.arr u) 0 (it.arr v).toList = (⟨it, e.chunk⟩ : Ent).arr v := by
  simp [lay, Ent.arr, Item.arr]
theorem lay_chunk (e : Ent) (u : Value) (c : Int × Int) : lay (e.arr u) 10 [.int .i64 c.1, .int .i64 c.2] = (⟨e.it, c⟩ : Ent).arr u := by
  simp [lay, Ent.arr]
/-- The entry's item is stored. -/
theorem Held.item {x : Nat} {e : Ent} {u v : Value} {it : Item} (h : Held W w0 n b B B' col seed o1 o2 s x e u w) (hB : B ≤ B' ∧ B' < w0.heap.size) (hc : ∀ j, B ≤ j → col j = none) (hb : Below w.heap.size w w') (hown : OwnB w' w.heap.size v it.val) (hkey : ∀ q ∈ s.tab.L, q.2 = x → it.key = q.1) :
    Beside W w0 n b B B' col seed o1 o2 { s with ent := upd s.ent x ⟨it, e.chunk⟩ } (w'.setCells x 0 (it.arr v).toList) ∧ (w'.setCells x 0 (it.arr v).toList).heap[x]? = some (.cells ((⟨it, e.chunk⟩ : Ent).arr v) 78 (0, 0)) := by
  obtain ⟨col1, ad, vd, vv, rfl, h1, f1, hx⟩ := h.run
  have hxl := (h1.lt _ _ hx).2
  have hblk : w'.heap[x]? = some (.cells (e.arr u) 78 (0, 0)) := (hb.block _ hxl).trans h.blk
  have hset := Mem.set_cells (it.arr v).toList 0 _ hblk
  rw [lay_item] at hset
  have ho : Only (Of col1 (.ent x)) w (w'.setCells x 0 (it.arr v).toList) := Only.setCells (.inl hx) _ _ (Only.of_below hb (fun k h1 h2 => by omega))
  have hgx : ∀ g, v.ownBlock = some g → w.heap.size ≤ g := fun g e => (own_block_lt hown g e).1
  have h2 := h1.turnEnt (x := ⟨it, e.chunk⟩) (v := v) (hl' := fun _ => False) hset ho hx (row_keep (Mem.row_less hown (Nat.zero_le _)) fun g e => Mem.set_cells_far _ _ (fun e1 => by have := hgx g e; omega)) (fun g e => ⟨.inr (hgx g e), fun e1 => by have := hgx g e; omega⟩) hkey (fun q _ hne _ e => hne e)
  have hn : ∀ j, B ≤ j → j < w0.heap.size → col1 j = none := fun j h1 h2 => Classical.byContradiction fun e => (f1.2 j e).elim (fun e1 => e1 (hc j h1)) (fun e1 => by omega)
  have hz := f1.1.size
  have f2 : Fr col1 (recol col1 w (w'.setCells x 0 (it.arr v).toList) (.ent x)) w (w'.setCells x 0 (it.arr v).toList) := Fr.of (p := .ent x) (fun k hk => hk) ho
  exact ⟨⟨⟨_, ⟨ad, vd, _, rfl, h2⟩, f1.trans f2⟩, (f2.keep (by omega) (hn _ (Nat.le_refl _) (by omega))).trans h.b1, (f2.keep (by omega) (hn _ (by omega) (by omega))).trans h.b2⟩, hset⟩
/-- An entry's chunk is stored. -/
theorem Beside.chunk {x : Nat} {k : ByteArray} (h : Beside W w0 n b B B' col seed o1 o2 s w) (hB : B ≤ B' ∧ B' < w0.heap.size) (hc : ∀ j, B ≤ j → col j = none) (hm : (k, x) ∈ s.tab.L) (c : Int × Int) : Beside W w0 n b B B' col seed o1 o2 { s with ent := upd s.ent x ⟨(s.ent x).it, c⟩ } (w.setCells x 10 [.int .i64 c.1, .int .i64 c.2]) := by
  obtain ⟨col1, ⟨ad, vd, vv, rfl, h1⟩, f1⟩ := h.run
  obtain ⟨e1, e2, e3, e4, e5⟩ := h1.ents (k, x) hm (fun e => e)
  simp only at e1 e2 e3 e4 e5
  have hset := Mem.set_cells [.int .i64 c.1, .int .i64 c.2] 10 _ e1
  rw [lay_chunk] at hset
  have ho : Only (Of col1 (.ent x)) w (w.setCells x 10 [.int .i64 c.1, .int .i64 c.2]) := Only.setCells (.inl e4) _ _ (Only.refl _ _)
  have h2 := h1.turnEnt (x := ⟨(s.ent x).it, c⟩) (v := vv x) (hl' := fun _ => False) hset ho e4 (row_keep e2 fun g e => Mem.set_cells_far _ _ (e5 g e).2) (fun g e => ⟨.inl (e5 g e).1, (e5 g e).2⟩) (fun q hq e => by
    have := (h1.ents q hq (fun e => e)).2.2.1
    rw [e] at this; exact this) (fun _ _ _ _ e => e)
  have hn : ∀ j, B ≤ j → j < w0.heap.size → col1 j = none := fun j h1 h2 => Classical.byContradiction fun e => (f1.2 j e).elim (fun e1 => e1 (hc j h1)) (fun e1 => by omega)
  have hz := f1.1.size
  have f2 : Fr col1 (recol col1 w (w.setCells x 10 [.int .i64 c.1, .int .i64 c.2]) (.ent x)) w (w.setCells x 10 [.int .i64 c.1, .int .i64 c.2]) := Fr.of (p := .ent x) (fun k hk => hk) ho
  exact ⟨⟨_, ⟨ad, vd, _, rfl, h2⟩, f1.trans f2⟩, (f2.keep (by omega) (hn _ (Nat.le_refl _) (by omega))).trans h.b1, (f2.keep (by omega) (hn _ (by omega) (by omega))).trans h.b2⟩
/-- An elder entry is held as a new one is. -/
theorem Beside.held {x : Nat} {k : ByteArray} (h : Beside W w0 n b B B' col seed o1 o2 s w) (hm : (k, x) ∈ s.tab.L) (hnm : n ≤ m) (hm2 : m ≤ 1000000000) : ∃ u, Held W w0 m b B B' col seed o1 o2 s x (s.ent x) u w := by
  obtain ⟨col1, ⟨ad, vd, vv, rfl, h1⟩, f1⟩ := h.run
  obtain ⟨e1, e2, e3, e4, e5⟩ := h1.ents (k, x) hm (fun e => e)
  exact ⟨_, ⟨_, ad, vd, vv, rfl, (h1.more hnm hm2).hole (fun _ e => e.elim), f1, e4⟩, h.b1, h.b2, e1⟩
/-- A value that the caller has kept. -/
theorem Beside.src {it : Item} {v : Value} {w1 : World} (h : Beside W w0 n b B B' col seed o1 o2 s w) (hs : SrcB w1 v it.val) (hb : Below w1.heap.size w1 w0) (hc : it.val ≠ [] → ∀ g, v.ownBlock = some g → col g = none) : SrcB w v it.val := by
  obtain ⟨col1, a1, f1⟩ := h.run
  have h0 := hs.below hb
  exact h0.same (fun hx g e hg => f1.keep hg (hc hx g e)) f1.1.size
theorem Held.src {x : Nat} {e : Ent} {u : Value} {it : Item} {v : Value} {w1 : World} (h : Held W w0 n b B B' col seed o1 o2 s x e u w) (hs : SrcB w1 v it.val) (hb : Below w1.heap.size w1 w0) (hc : it.val ≠ [] → ∀ g, v.ownBlock = some g → col g = none) : SrcB w v it.val := by
  obtain ⟨col1, ad, vd, vv, rfl, h1, f1, hx⟩ := h.run
  have h0 := hs.below hb
  exact h0.same (fun hx g e hg => f1.keep hg (hc hx g e)) f1.1.size
end
end Go.Proofs.Ytkchlibkfafgdaa.Shard

/- Layer 11: Store. -/
namespace Go.Proofs.Ytkchlibkfafgdaa.Shard
open Go Go.RowKit Go.Proofs.Ytkchlibkfafgdaa.Mem Go.Proofs.Ytkchlibkfafgdaa.App

section
variable {W w : World} {n N b : Nat} {col : Col} {seed : Int} {s : St}
/-- What a store comes to. -/
def StorePost (W w : World) (n b : Nat) (col : Col) (seed : Int) (s : St) (it : Item) (env : Env) (e : Ending) (w' : World) : Prop :=
  ∃ fresh, (∀ p ∈ s.tab.L, p.2 ≠ fresh) ∧ e = .returned (.int .i64 (s.store fresh it env).1) ∧ Turn W w n b col seed (s.store fresh it env).2 w'
theorem At.more_turn {m : Nat} {w' : World} (h : Turn W w n b col seed s w') (hm : n ≤ m) (hm2 : m ≤ 1000000000) : Turn W w m b col seed s w' := by
  obtain ⟨c, a, f⟩ := h
  exact ⟨c, a.more hm hm2, f⟩
theorem zero_ent : (⟨⟨⟨#[]⟩, [], 0, 0, 0, 0, 0, false, false, false⟩, (0, 0)⟩ : Ent).arr (.slice none 0 0) = #[.string ⟨#[]⟩, .slice none 0 0, .int .u32 0, .int .i64 0, .int .u64 0, .int .i64 0, .int .u64 0, .bool false, .bool false, .bool false, .int .i64 0, .int .i64 0] := rfl
theorem upd_upd {α : Type} (f : Nat → α) (k : Nat) (v v' : α) : upd (upd f k v) k v' = upd f k v' := by
  funext j
  unfold upd
  split <;> rfl
set_option maxRecDepth 100000 in
set_option maxHeartbeats 4000000 in
theorem store_any (h : At W w n b col seed s) (hn : n + 1 ≤ 1000) {n0 : Nat} (hi : Inv n0 N s) (it : Item) (a : Option Addr) (c : Nat) (env : Env) (hks : it.key.size ≤ 300) (hvs : it.val.length ≤ 3000) (hsrc : SrcB w (.slice a it.val.length c) it.val) (hsc : it.val ≠ [] → ∀ g, (Value.slice a it.val.length c).ownBlock = some g → col g = none) (hn0 : n0 ≤ 1000) (hN : N ≤ 400000) :
    Calls Try.prog 12 #[.pointer (some ⟨b, 0, none⟩), .agg (it.arr (.slice a it.val.length c)), .agg env.arr] w (StorePost W w (n + 1) b col seed s it env) := by
  have hcn : ∀ j, w.heap.size ≤ j → col j = none := fun j hj => Classical.byContradiction fun e => by have := h.lt j e; omega
  have hfr : ∀ p ∈ s.tab.L, p.2 < w.heap.size := fun p hp => by
    obtain ⟨ad, vd, vv, rfl, h⟩ := h
    exact (h.lt _ _ (h.ents p hp (fun e => e)).2.2.2.1).2
  have hb2 : Below w.heap.size w ((w.alloc (.cells (it.arr (.slice a it.val.length c)) 31)).alloc (.cells env.arr 33)) := Mem.al (Mem.al (Below.refl _ _) _) _
  have n1 : ((w.alloc (.cells (it.arr (.slice a it.val.length c)) 31)).alloc (.cells env.arr 33)).heap[w.heap.size]? = some (.cells (it.arr (.slice a it.val.length c)) 31 (0, 0)) := Mem.new_later (Mem.new_block w _) _
  have n2 : ((w.alloc (.cells (it.arr (.slice a it.val.length c)) 31)).alloc (.cells env.arr 33)).heap[w.heap.size + 1]? = some (.cells env.arr 33 (0, 0)) := Mem.new_block2 w _ _
  have hsz : w.heap.size ≤ w.heap.size + 1 ∧ w.heap.size + 1 < ((w.alloc (.cells (it.arr (.slice a it.val.length c)) 31)).alloc (.cells env.arr 33)).heap.size := by simp
  have hbs : Beside W ((w.alloc (.cells (it.arr (.slice a it.val.length c)) 31)).alloc (.cells env.arr 33)) n b w.heap.size (w.heap.size + 1) col seed (.cells (it.arr (.slice a it.val.length c)) 31 (0, 0)) (.cells env.arr 33 (0, 0)) s ((w.alloc (.cells (it.arr (.slice a it.val.length c)) 31)).alloc (.cells env.arr 33)) := ⟨⟨col, h.step hb2, Fr.refl _ _⟩, n1, n2⟩
  obtain ⟨w0, hw0⟩ : ∃ w0, (w.alloc (.cells (it.arr (.slice a it.val.length c)) 31)).alloc (.cells env.arr 33) = w0 := ⟨_, rfl⟩
  rw [hw0] at hbs hb2 hsz
  have HB := Lib.hid (And.intro hcn (And.intro hb2 hsz))
  have HI := Lib.hid (And.intro hi (And.intro hsrc (And.intro hsc hfr)))
  have hsz1 := fun w' => size_any it a c w' (by omega) (by omega)
  have hcl := fun w' => Slab.class_any it.size w'
  have HS := Lib.hid hbs
  have cel := fun j => Mem.row_cell hbs.b1 j
  have i0 := cel 0
  have i1 := cel 1
  have i2 := cel 2
  have i3 := cel 3
  have i4 := cel 4
  have i5 := cel 5
  have i6 := cel 6
  have i7 := cel 7
  have i8 := cel 8
  have i9 := cel 9
  simp only [Item.arr, List.getElem?_toArray, List.getElem?_cons_zero, List.getElem?_cons_succ] at i0 i1 i2 i3 i4 i5 i6 i7 i8 i9
  clear n1 n2 hcn hb2 hsz h hbs hi hsrc hsc hfr cel
  unfold Item.arr at hsz1
  unfold Item.arr Env.arr at hw0 ⊢
  go_enter Try.func12, Try.ntmps12
  go_wp2_with fail
  refine (hsz1 _).mono ?_
  rintro e w1 ⟨rfl, hb1⟩
  have H1 := Lib.hid (HS.out.below hb1)
  clear hsz1 hb1 i0 i1 i2 i3 i4 i5 i6 i7 i8 i9
  go_wp2_with fail
  refine (hcl _).mono ?_
  rintro e w1' ⟨rfl, rfl⟩
  clear hcl
  have hst := fun fresh => store_two HI.out.1 it env fresh
  have HT := Lib.hid hst
  clear hst
  by_cases h6 : Slab.classN it.size = 6
  · obtain ⟨k1, k2⟩ := Slab.classE_no h6
    rw [k1, k2]
    clear k1 k2
    have HH6 := Lib.hid h6
    clear h6
    go_wp2_with fail
    go_ret
    obtain ⟨col1, a1, f1⟩ := H1.out.run
    rcases HT.out w.heap.size with ⟨-, e⟩ | ⟨e, -⟩
    · refine ⟨w.heap.size, fun p hp => Nat.ne_of_lt (HI.out.2.2.2 p hp), by rw [e]; rfl, ?_⟩
      rw [e]
      exact At.more_turn ⟨col1, a1, (Fr.below HB.out.2.1).trans f1⟩ (by omega) (by omega)
    · have := HH6.out; omega
  have h6' : Slab.classN it.size < 6 := by have := Slab.class_six it.size; omega
  obtain ⟨k1, k2⟩ := Slab.classE_ok h6'
  rw [k1, k2]
  clear k1 k2
  have HH6 := Lib.hid h6'
  clear h6 h6'
  obtain ⟨f, hf⟩ : ∃ f, s.find it.key env = f := ⟨_, rfl⟩
  obtain ⟨r, hr⟩ : ∃ r, s.roomed it env = r := ⟨_, rfl⟩
  have HT2 : Hid (∀ fresh, Inv n0 (N + n0 + 2) r.2 ∧ (∀ p, p ∈ r.2.tab.L → p ∈ s.tab.L) ∧ ((r.1 = 0 ∧ Ready n0 (N + n0 + 2) it f.1 r.2 ∧ s.store fresh it env = (0, r.2.stored f.1 fresh it)) ∨ (r.1 ≠ 0 ∧ s.store fresh it env = r))) := Lib.hid (fun fresh => by
    rcases HT.out fresh with ⟨e, -⟩ | ⟨-, h⟩
    · have := HH6.out; omega
    · rw [hf, hr] at h; exact h)
  clear HT
  have hfi := HI.out.1.find it.key env
  have hfk := find_key HI.out.1 it.key env
  have hfind := H1.out.finds HB.out.2.2 HB.out.1 HI.out.1 (by omega) (by omega) it.key env (by unfold maxLen; omega)
  have hro : St.room it f.1.isSome (f.2.less f.1) env (f.2.order.all.length + 1) f.2 = r := by rw [← hr, ← hf]; rfl
  rw [hf] at hfi hfk hfind
  have hrooms := fun w' (h : Beside W w0 n b w.heap.size (w.heap.size + 1) col seed (.cells (it.arr (.slice a it.val.length c)) 31 (0, 0)) (.cells env.arr 33 (0, 0)) f.2 w') => h.rooms HB.out.2.2 HB.out.1 hfi hn0 (by omega) it a c f.1 env hks hvs (fun x e => ⟨_, hfk.1 x e⟩)
  rw [hro] at hrooms
  have HRM := Lib.hid (And.intro hrooms (And.intro hfi hfk))
  clear hro hrooms hfi hfk hf hr
  have i0 : w1.cell? ⟨w.heap.size, 0, none⟩ = some (.string it.key) := Mem.row_cell H1.out.b1 0
  have cen := fun j => Mem.row_cell H1.out.b2 j
  have e0 := cen 0
  have e1 := cen 1
  have e2 := cen 2
  have e3 := cen 3
  simp only [Env.arr, List.getElem?_toArray, List.getElem?_cons_zero, List.getElem?_cons_succ] at e0 e1 e2 e3
  clear cen
  unfold Env.arr at hfind
  go_wp2_with fail
  refine hfind.mono ?_
  rintro e w2 ⟨rfl, h2⟩
  have H2 := Lib.hid h2
  clear hfind h2 e0 e1 e2 e3 i0
  have cel := fun j => Mem.row_cell H2.out.b1 j
  have i0 := cel 0
  have i1 := cel 1
  have i2 := cel 2
  have i3 := cel 3
  have i4 := cel 4
  have i5 := cel 5
  have i6 := cel 6
  have i7 := cel 7
  have i8 := cel 8
  have i9 := cel 9
  simp only [Item.arr, List.getElem?_toArray, List.getElem?_cons_zero, List.getElem?_cons_succ] at i0 i1 i2 i3 i4 i5 i6 i7 i8 i9
  clear cel
  have cen := fun j => Mem.row_cell H2.out.b2 j
  have e0 := cen 0
  have e1 := cen 1
  have e2 := cen 2
  have e3 := cen 3
  simp only [List.getElem?_toArray, List.getElem?_cons_zero, List.getElem?_cons_succ] at e0 e1 e2 e3
  clear cen
  have hroom := HRM.out.1 w2 H2.out
  have heq := eql_old f.1
  have hqg := eqg_old f.1
  obtain ⟨pv, hpv⟩ : ∃ pv, ptrE f.1 = pv := ⟨_, rfl⟩
  rw [hpv] at heq hqg hroom ⊢
  obtain ⟨q, hq⟩ : ∃ q, f.1.isSome = q := ⟨_, rfl⟩
  rw [hq] at heq
  have HPV := Lib.hid (And.intro hpv hq)
  clear hpv hq
  unfold Item.arr Env.arr at hroom
  go_wp2_with fail
  refine hroom.mono ?_
  rintro e w3 ⟨rfl, h3⟩
  have H3 := Lib.hid h3
  clear hroom h3 i0 i1 i2 i3 i4 i5 i6 i7 i8 i9 e0 e1 e2 e3
  by_cases hz : r.1 ≠ 0
  · have hzb : (r.1 != 0) = true := by simpa using hz
    have HZ : Hid (r.1 ≠ 0) := Lib.hid hz
    clear hz
    go_wp2_with fail
    go_ret
    obtain ⟨col1, a1, f1⟩ := H3.out.run
    rcases HT2.out w.heap.size with ⟨-, -, ⟨e, -⟩ | ⟨-, e⟩⟩
    · exact absurd e HZ.out
    · refine ⟨w.heap.size, fun p hp => Nat.ne_of_lt (HI.out.2.2.2 p hp), by rw [e]; rfl, ?_⟩
      rw [e]
      exact At.more_turn ⟨col1, a1, (Fr.below HB.out.2.1).trans f1⟩ (by omega) (by omega)
  have hz0 : r.1 = 0 := Classical.byContradiction hz
  rw [hz0]
  have HZ := Lib.hid hz0
  clear hz hz0
  have hready := HT2.out w.heap.size
  have HR : Hid (Inv n0 (N + n0 + 2) r.2 ∧ Ready n0 (N + n0 + 2) it f.1 r.2) := Lib.hid (by
    rcases HT2.out w.heap.size with ⟨e0, -, ⟨-, e, -⟩ | ⟨e, -⟩⟩
    · exact ⟨e0, e⟩
    · exact absurd HZ.out e)
  have HST : Hid (∀ fresh, s.store fresh it env = (0, r.2.stored f.1 fresh it)) := Lib.hid (fun fresh => by
    rcases HT2.out fresh with ⟨-, -, ⟨-, -, e⟩ | ⟨e, -⟩⟩
    · exact e
    · exact absurd HZ.out e)
  have HSU : Hid (∀ p, p ∈ r.2.tab.L → p ∈ s.tab.L) := Lib.hid (HT2.out w.heap.size).2.1
  clear hready HT2
  go_upto_if 34 with (fail)
  go_cut [9] from 35 to 60 (fun p wx => ∃ (x : Nat) (s' : St) (e : Ent) (u : Value) (fresh : Nat), p = .pointer (some ⟨x, 0, none⟩) ∧ Hid (Held W w0 (n + 1) b w.heap.size (w.heap.size + 1) col seed (.cells (it.arr (.slice a it.val.length c)) 31 (0, 0)) (.cells env.arr 33 (0, 0)) s' x e u wx ∧
    (∀ q ∈ s'.tab.L, q.2 = x → it.key = q.1) ∧ (it.key, x) ∈ s'.tab.L ∧ Slab.Small 1000000 s'.slab ∧ (∀ p ∈ s.tab.L, p.2 ≠ fresh) ∧ s.store fresh it env = (0, s'.fill x it)))
  case first =>
    obtain ⟨hpv, hq⟩ := HPV.out
    clear heq hqg HPV
    rcases hf1 : f.1 with _ | x
    · rw [hf1] at hpv hq
      subst hpv hq
      have HF1 := Lib.hid hf1
      clear hf1
      obtain ⟨ad, c0, hput⟩ := H3.out.puts HB.out.2.2 HB.out.1 (by omega) it.key (by unfold maxLen; omega) ⟨⟨⟨#[]⟩, [], 0, 0, 0, 0, 0, false, false, false⟩, (0, 0)⟩ (.slice none 0 0)
      have i0 : w3.cell? ⟨w.heap.size, 0, none⟩ = some (.string it.key) := Mem.row_cell H3.out.b1 0
      have hb3 : Below w3.heap.size w3 (w3.alloc (.cells ((⟨⟨⟨#[]⟩, [], 0, 0, 0, 0, 0, false, false, false⟩, (0, 0)⟩ : Ent).arr (.slice none 0 0)) 78)).drew := Below.drew (Mem.al (Below.refl _ _) _)
      have hput2 := hput _ hb3 (Mem.new_block w3 _)
      have hlt3 : b < w3.heap.size := block_lt_of_cell c0
      have hlB3 : w.heap.size < w3.heap.size := block_lt_of_cell i0
      have c0A : (w3.alloc (.cells ((⟨⟨⟨#[]⟩, [], 0, 0, 0, 0, 0, false, false, false⟩, (0, 0)⟩ : Ent).arr (.slice none 0 0)) 78)).cell? ⟨b, 0, none⟩ = some (.pointer (some ⟨ad.tb, 0, none⟩)) := (World.cell?_of_block (Below.heap_alloc _ _ b hlt3)).trans c0
      have i0A : (w3.alloc (.cells ((⟨⟨⟨#[]⟩, [], 0, 0, 0, 0, 0, false, false, false⟩, (0, 0)⟩ : Ent).arr (.slice none 0 0)) 78)).cell? ⟨w.heap.size, 0, none⟩ = some (.string it.key) := (World.cell?_of_block (Below.heap_alloc _ _ _ hlB3)).trans i0
      obtain ⟨wA, hwA⟩ : ∃ wA, w3.alloc (.cells ((⟨⟨⟨#[]⟩, [], 0, 0, 0, 0, 0, false, false, false⟩, (0, 0)⟩ : Ent).arr (.slice none 0 0)) 78) = wA := ⟨_, rfl⟩
      rw [hwA] at hb3 hput2 c0A i0A
      have HB3 := Lib.hid hb3
      clear hput hb3 c0 i0 hlt3 hlB3
      rw [zero_ent] at hwA
      go_wp2_with fail
      refine wp_region_still_tail 7 (by kernel_rfl) (by kernel_rfl) ?_
      simp only [List.take_succ_cons, List.take_zero, List.drop_succ_cons, List.drop_zero]
      repeat still_step
      refine wpStill_nil ?_
      change wpList _ _ _ _ _ wA.drew
      clear c0A i0A
      go_wp2_with fail
      refine hput2.mono ?_
      rintro e w4 ⟨rfl, h4⟩
      have H4 := Lib.hid h4
      clear hput2 h4
      have hol : r.2.order.all.length ≤ 1000000 := by have := HR.out.1.olen; have := HR.out.1.len; omega
      obtain ⟨ad2, c2, hadd⟩ := H4.out.adds HB.out.2.2 HB.out.1 it.key hol
      have i0 : w4.cell? ⟨w.heap.size, 0, none⟩ = some (.string it.key) := Mem.row_cell H4.out.b1 0
      have hadd2 := hadd w4.drew (Below.drew (Below.refl _ _))
      clear hadd hol
      go_wp2_with fail
      refine wp_region_still_tail 6 (by kernel_rfl) (by kernel_rfl) ?_
      simp only [List.take_succ_cons, List.take_zero, List.drop_succ_cons, List.drop_zero]
      repeat still_step
      refine wpStill_nil ?_
      change wpList _ _ _ _ _ w4.drew
      clear c2 i0
      go_wp2_with fail
      refine hadd2.mono ?_
      rintro e w5 ⟨⟨z, rfl⟩, h5⟩
      have H5 := Lib.hid h5
      clear hadd2 h5
      go_wp2_with fail
      go_meet
      have hx3 := (Array.getElem?_eq_some_iff.1 H3.out.b1).1
      have hpx : ∀ p ∈ s.tab.L, p.2 ≠ w3.heap.size := fun p hp => by have := HI.out.2.2.2 p hp; omega
      refine ⟨w3.heap.size, r.2.added it.key w3.heap.size, _, _, w3.heap.size, rfl, Lib.hid ⟨H5.out, fun q hq e => ?_, ?_, HR.out.1.slab.small.mono (by omega), hpx, ?_⟩⟩
      · replace hq : q ∈ (r.2.tab.put it.key w3.heap.size).L := hq
        rw [Tab.put_L, Tab.mem_put HR.out.1.rise] at hq
        rcases hq with rfl | ⟨hq, _⟩
        · rfl
        · exact absurd e (hpx q (HSU.out q hq))
      · show _ ∈ (r.2.tab.put it.key w3.heap.size).L
        rw [Tab.put_L, Tab.mem_put HR.out.1.rise]
        exact .inl rfl
      · rw [HST.out, HF1.out]; rfl
    · rw [hf1] at hpv hq
      subst hpv hq
      have HF1 := Lib.hid hf1
      clear hf1
      have hmx : (it.key, x) ∈ r.2.tab.L := HR.out.2.hold x HF1.out
      obtain ⟨v, ex, -⟩ := H3.out.entry hmx
      have d10 : w3.cell? ⟨x, 10, none⟩ = some (.int .i64 (r.2.ent x).chunk.1) := Mem.row_cell ex 10
      have d11 : w3.cell? ⟨x, 11, none⟩ = some (.int .i64 (r.2.ent x).chunk.2) := Mem.row_cell ex 11
      obtain ⟨ad, c1, hfree⟩ := H3.out.frees HB.out.2.2 HB.out.1 (HR.out.1.smallN.mono (by omega : N + n0 + 2 ≤ 1000000)) (Nat.le_refl _) (r.2.ent x).chunk
      have hfree2 := hfree w3.drew (Below.drew (Below.refl _ _))
      have HM := Lib.hid hmx
      clear ex hfree hmx
      unfold ptrE
      go_wp2_with fail
      refine wp_region_still_tail 8 (by kernel_rfl) (by kernel_rfl) ?_
      simp only [List.take_succ_cons, List.take_zero, List.drop_succ_cons, List.drop_zero]
      repeat still_step
      refine wpStill_nil ?_
      change wpList _ _ _ _ _ w3.drew
      go_wp2_with fail
      refine hfree2.mono ?_
      rintro e w4 ⟨⟨z, rfl⟩, h4⟩
      obtain ⟨u, hh⟩ := h4.held (m := n + 1) HM.out (by omega) (by omega)
      have HH := Lib.hid hh
      clear hfree2 h4 hh c1 d10 d11
      go_wp2_with fail
      go_meet
      refine ⟨x, r.2.freed x, r.2.ent x, u, w.heap.size, rfl, Lib.hid ⟨HH.out, fun q hq e => ?_, HM.out, (HR.out.1.slab.free _).small.mono (by omega), fun p hp => Nat.ne_of_lt (HI.out.2.2.2 p hp), ?_⟩⟩
      · have h1 := HR.out.1.apart HM.out
        exact Classical.byContradiction fun h2 => h1 q (Tab.mem_del.2 ⟨hq, fun e1 => h2 e1.symm⟩) e
      · rw [HST.out w.heap.size, HF1.out]; rfl
  case rest =>
    obtain ⟨x, s', e, u, fresh, rfl, HX⟩ := hcut
    have cel := fun j => Mem.row_cell HX.out.1.b1 j
    have i0 := cel 0
    have i1 := cel 1
    have i2 := cel 2
    have i3 := cel 3
    have i4 := cel 4
    have i5 := cel 5
    have i6 := cel 6
    have i7 := cel 7
    have i8 := cel 8
    have i9 := cel 9
    simp only [Item.arr, List.getElem?_toArray, List.getElem?_cons_zero, List.getElem?_cons_succ] at i0 i1 i2 i3 i4 i5 i6 i7 i8 i9
    clear cel
    have hcl := owned_any it (HX.out.1.src HI.out.2.1 HB.out.2.1 HI.out.2.2.1) (by omega)
    unfold Item.arr at hcl
    go_wp2_with fail
    refine hcl.mono ?_
    rintro en w6 ⟨v6, rfl, hown6, hb6⟩
    obtain ⟨ya, yc, hv6⟩ := Src.shape (Src.of_row hown6)
    subst hv6
    have hit := HX.out.1.item HB.out.2.2 HB.out.1 hb6 hown6 HX.out.2.1
    have hth : w6.there x 0 (it.arr (.slice ya it.val.length yc)).size := fun j hj => by
      have h1 := (HX.out.1.below hb6).blk
      rw [Nat.zero_add, Mem.row_cell h1 j]
      refine ⟨?_, Mem.row_free h1 j⟩
      have h2 : j < (e.arr u).size := by
        have : (it.arr (.slice ya it.val.length yc)).size = 10 := rfl
        have : (e.arr u).size = 12 := rfl
        omega
      rw [Array.getElem?_eq_getElem h2]; rfl
    have H6 := Lib.hid (And.intro hit (And.intro hth (item_one it hown6)))
    clear hcl hown6 hb6 hit hth i0 i1 i2 i3 i4 i5 i6 i7 i8 i9
    go_wp2_with (first | (refine wpList_store_mid rfl 31 _ _ rfl x 0 (it.arr (.slice ya it.val.length yc)) rfl rfl H6.out.2.1 (item_size it _) H6.out.2.2 ?_) | fail)
    obtain ⟨w7, hw7⟩ : ∃ w7, w6.setCells x 0 (it.arr (.slice ya it.val.length yc)).toList = w7 := ⟨_, rfl⟩
    have H7 : Hid (Beside W w0 (n + 1) b w.heap.size (w.heap.size + 1) col seed (.cells (it.arr (.slice a it.val.length c)) 31 (0, 0)) (.cells env.arr 33 (0, 0)) { s' with ent := upd s'.ent x ⟨it, e.chunk⟩ } w7 ∧ (it.key, x) ∈ s'.tab.L) := Lib.hid (by have := H6.out.1.1; rw [hw7] at this; exact ⟨this, HX.out.2.2.1⟩)
    rw [hw7]
    have HX2 := Lib.hid HX.out.2.2.2.2
    have hsm := HX.out.2.2.2.1
    clear hw7
    have cel := fun j => Mem.row_cell H7.out.1.b1 j
    have i0 := cel 0
    have i1 := cel 1
    have i2 := cel 2
    have i3 := cel 3
    have i4 := cel 4
    have i5 := cel 5
    have i6 := cel 6
    have i7 := cel 7
    have i8 := cel 8
    have i9 := cel 9
    simp only [Item.arr, List.getElem?_toArray, List.getElem?_cons_zero, List.getElem?_cons_succ] at i0 i1 i2 i3 i4 i5 i6 i7 i8 i9
    clear cel
    have hsz2 := fun w' => size_any it a c w' (by omega) (by omega)
    unfold Item.arr at hsz2
    obtain ⟨ad, c1, htk⟩ := H7.out.1.takes HB.out.2.2 HB.out.1 hsm (Nat.le_refl _) it.size
    obtain ⟨⟨ck1, ck2⟩, hck⟩ : ∃ ck, (s'.slab.take it.size).1.1 = ck := ⟨_, rfl⟩
    obtain ⟨ce, hce⟩ : ∃ ce, (s'.slab.take it.size).1.2 = ce := ⟨_, rfl⟩
    have htk2 := fun w' hb => htk w' hb
    simp only [hck, hce] at htk2
    have HCK := Lib.hid hck
    have hbl : b < w7.heap.size := block_lt_of_cell c1
    have hBl : w.heap.size < w7.heap.size := block_lt_of_cell i0
    have hmx' : (it.key, x) ∈ ({ s' with ent := upd s'.ent x ⟨it, e.chunk⟩ } : St).tab.L := H7.out.2
    obtain ⟨v7, e7, o7⟩ := H7.out.1.entry hmx'
    obtain ⟨z7, y7, hv7⟩ := Src.shape (Src.of_row o7)
    subst hv7
    have hbx : b ≠ x := fun e9 => by
      have h1 := Mem.row_cell e7 1
      rw [← e9, c1] at h1
      have h2 := congrArg (fun o => o.getD undef) h1
      simp [Ent.arr] at h2
    have hBx : w.heap.size ≠ x := fun e9 => by
      have h1 := H7.out.1.b1
      rw [e9, e7] at h1
      injection h1 with h1
      injection h1 with h1
      have := congrArg Array.size h1
      cases this
    clear htk hck hce hsm hmx' e7 o7
    go_upto_region 14 with (fail)
    go_region_held3 (fun W' : World => W'.cell? ⟨b, 1, none⟩ = some (.pointer (some ⟨ad.mb, 0, none⟩)) ∧ W'.cell? ⟨w.heap.size, 0, none⟩ = some (.string it.key) ∧ W'.cell? ⟨w.heap.size, 1, none⟩ = some (.slice a it.val.length c) ∧ W'.cell? ⟨w.heap.size, 2, none⟩ = some (.int .u32 it.flags) ∧ W'.cell? ⟨w.heap.size, 3, none⟩ = some (.int .i64 it.exp) ∧ W'.cell? ⟨w.heap.size, 4, none⟩ = some (.int .u64 it.cas) ∧ W'.cell? ⟨w.heap.size, 5, none⟩ = some (.int .i64 it.sec) ∧ W'.cell? ⟨w.heap.size, 6, none⟩ = some (.int .u64 it.seq) ∧ W'.cell? ⟨w.heap.size, 7, none⟩ = some (.bool it.stale) ∧ W'.cell? ⟨w.heap.size, 8, none⟩ = some (.bool it.won) ∧ W'.cell? ⟨w.heap.size, 9, none⟩ = some (.bool it.seen))
      (first
        | exact ⟨c1, i0, i1, i2, i3, i4, i5, i6, i7, i8, i9⟩
        | (have hk9 := fun (B i : Nat) (hB : B < w7.heap.size) => World.cell?_of_block (a := ⟨B, i, none⟩) (hbS.block B hB); exact ⟨(hk9 b 1 hbl).trans c1, (hk9 _ 0 hBl).trans i0, (hk9 _ 1 hBl).trans i1, (hk9 _ 2 hBl).trans i2, (hk9 _ 3 hBl).trans i3, (hk9 _ 4 hBl).trans i4, (hk9 _ 5 hBl).trans i5, (hk9 _ 6 hBl).trans i6, (hk9 _ 7 hBl).trans i7, (hk9 _ 8 hBl).trans i8, (hk9 _ 9 hBl).trans i9⟩)
        | (have hk9 := fun j => Mem.row_cell HT.out.1.b1 j; exact ⟨HT.out.2, hk9 0, hk9 1, hk9 2, hk9 3, hk9 4, hk9 5, hk9 6, hk9 7, hk9 8, hk9 9⟩)
        | (have hk9 := fun j => Mem.row_cell HT.out.1.b1 j; have hs9 := fun (B i : Nat) (hB : B ≠ x) => (World.cell?_of_block (a := ⟨B, i, none⟩) ((Below.heap_setCell (wT.setCell ⟨x, 10, none⟩ (.int .i64 ck1)) ⟨x, 11, none⟩ (.int .i64 ck2) B hB).trans (Below.heap_setCell wT ⟨x, 10, none⟩ (.int .i64 ck1) B hB))); exact ⟨(hs9 b 1 hbx).trans HT.out.2, (hs9 _ 0 hBx).trans (hk9 0), (hs9 _ 1 hBx).trans (hk9 1), (hs9 _ 2 hBx).trans (hk9 2), (hs9 _ 3 hBx).trans (hk9 3), (hs9 _ 4 hBx).trans (hk9 4), (hs9 _ 5 hBx).trans (hk9 5), (hs9 _ 6 hBx).trans (hk9 6), (hs9 _ 7 hBx).trans (hk9 7), (hs9 _ 8 hBx).trans (hk9 8), (hs9 _ 9 hBx).trans (hk9 9)⟩))
      (first
        | (go_at_call 23; refine (hsz2 _).mono ?_; rintro en wS ⟨rfl, hbS⟩)
        | (go_at_call 38; refine (htk2 _ (Mem.tr (Below.drew (Below.refl _ w7)) hbS)).mono ?_; rintro en wT ⟨rfl, hT⟩; have HT := Lib.hid hT; obtain ⟨vT, eT, -⟩ := hT.1.entry (k := it.key) (x := x) H7.out.2; have d10 : wT.cell? ⟨x, 10, none⟩ = some (.int .i64 e.chunk.1) := (Mem.row_cell eT 10).trans (by simp [Ent.arr]); have d11 : wT.cell? ⟨x, 11, none⟩ = some (.int .i64 e.chunk.2) := (Mem.row_cell eT 11).trans (by simp [Ent.arr]); have g10 := Mem.row_free eT 10; have g11 := Mem.row_free eT 11; clear hT eT))
    have hfin : Beside W w0 (n + 1) b w.heap.size (w.heap.size + 1) col seed (.cells (it.arr (.slice a it.val.length c)) 31 (0, 0)) (.cells env.arr 33 (0, 0)) (s'.fill x it) ((wT.setCell ⟨x, 10, none⟩ (.int .i64 ck1)).setCell ⟨x, 11, none⟩ (.int .i64 ck2)) := by
      have h1 := HT.out.1.chunk HB.out.2.2 HB.out.1 H7.out.2 (ck1, ck2)
      have h2 : ({ { { s' with ent := upd s'.ent x ⟨it, e.chunk⟩ } with slab := (s'.slab.take it.size).2 } with ent := upd (upd s'.ent x ⟨it, e.chunk⟩) x ⟨((upd s'.ent x ⟨it, e.chunk⟩) x).it, (ck1, ck2)⟩ } : St) = s'.fill x it := by
        unfold St.fill
        rw [HCK.out, upd_same]
        rw [upd_upd]
      rw [← h2]
      exact h1
    have HFN := Lib.hid hfin
    clear hfin htk2 hsz2 d10 d11 g10 g11 c1 i0 i1 i2 i3 i4 i5 i6 i7 i8 i9 hbx hBx hbl hBl
    go_wp2_with fail
    go_ret
    obtain ⟨col1, a1, f1⟩ := HFN.out.run
    refine ⟨fresh, HX2.out.1, by rw [HX2.out.2]; rfl, ?_⟩
    rw [HX2.out.2]
    exact ⟨col1, a1, (Fr.below HB.out.2.1).trans f1⟩
end
end Go.Proofs.Ytkchlibkfafgdaa.Shard

/- Layer 11: Update. -/
namespace Go.Proofs.Ytkchlibkfafgdaa.Shard
open Go Go.RowKit Go.Proofs.Ytkchlibkfafgdaa.Mem Go.Proofs.Ytkchlibkfafgdaa.App

section
variable {W w : World} {n N b : Nat} {col : Col} {seed : Int} {s : St}
def TurnPost (W w : World) (n b : Nat) (col : Col) (seed : Int) (y : Int × St) (e : Ending) (w' : World) : Prop := e = .returned (.int .i64 y.1) ∧ Turn W w n b col seed y.2 w'
set_option maxRecDepth 100000 in
set_option maxHeartbeats 4000000 in
theorem update_any (h : At W w n b col seed s) (hn : n ≤ 1000) {n0 : Nat} (hi : Inv n0 N s) (it : Item) (a : Option Addr) (c : Nat) (hks : it.key.size ≤ 300) (hvs : it.val.length ≤ 3000) (hsrc : SrcB w (.slice a it.val.length c) it.val) (hsc : it.val ≠ [] → ∀ g, (Value.slice a it.val.length c).ownBlock = some g → col g = none) :
    Calls Try.prog 27 #[.pointer (some ⟨b, 0, none⟩), .agg (it.arr (.slice a it.val.length c))] w (TurnPost W w n b col seed (s.update it)) := by
  have hcn : ∀ j, w.heap.size ≤ j → col j = none := fun j hj => Classical.byContradiction fun e => by have := h.lt j e; omega
  have hb2 : Below w.heap.size w (w.alloc (.cells (it.arr (.slice a it.val.length c)) 31)) := Mem.al (Below.refl _ _) _
  have n1 : (w.alloc (.cells (it.arr (.slice a it.val.length c)) 31)).heap[w.heap.size]? = some (.cells (it.arr (.slice a it.val.length c)) 31 (0, 0)) := Mem.new_block w _
  have hsz : w.heap.size ≤ w.heap.size ∧ w.heap.size < (w.alloc (.cells (it.arr (.slice a it.val.length c)) 31)).heap.size := by simp
  have hbs : Beside W (w.alloc (.cells (it.arr (.slice a it.val.length c)) 31)) n b w.heap.size w.heap.size col seed (.cells (it.arr (.slice a it.val.length c)) 31 (0, 0)) (.cells (it.arr (.slice a it.val.length c)) 31 (0, 0)) s (w.alloc (.cells (it.arr (.slice a it.val.length c)) 31)) := ⟨⟨col, h.step hb2, Fr.refl _ _⟩, n1, n1⟩
  obtain ⟨w0, hw0⟩ : ∃ w0, w.alloc (.cells (it.arr (.slice a it.val.length c)) 31) = w0 := ⟨_, rfl⟩
  rw [hw0] at hbs hb2 hsz
  have HB := Lib.hid (And.intro hcn (And.intro hb2 hsz))
  have HI := Lib.hid (And.intro hi (And.intro hsrc hsc))
  have HS := Lib.hid hbs
  obtain ⟨y, hy⟩ : ∃ y, s.update it = y := ⟨_, rfl⟩
  have hyu : (match Tab.get s.tab.L it.key with | none => (6, s.tick) | some x => if (s.ent x).it.val.length = it.val.length then (0, { s.tick with ent := upd s.ent x ⟨it, (s.ent x).chunk⟩ }) else (1, s.tick)) = y := hy
  rw [hy]
  have HY := Lib.hid hyu
  obtain ⟨ad, c0, hget⟩ := (hbs.below (Below.drew (Below.refl _ w0))).get hsz hcn it.key (by unfold maxLen; omega)
  replace c0 : w0.cell? ⟨b, 0, none⟩ = some (.pointer (some ⟨ad.tb, 0, none⟩)) := c0
  have i0 : w0.cell? ⟨w.heap.size, 0, none⟩ = some (.string it.key) := Mem.row_cell hbs.b1 0
  clear n1 hcn hb2 hsz h hbs hi hsrc hsc hy hyu
  unfold Item.arr at hw0 ⊢
  rcases hg : Tab.get s.tab.L it.key with _ | x
  · have hgv : TabE.getV s.tab.L it.key = .tuple #[.pointer none, .bool false] := by unfold TabE.getV; rw [hg]
    rw [hgv] at hget
    have HG := Lib.hid hg
    clear hg hgv
    go_enter Try.func27, Try.ntmps27
    go_wp2_with fail
    go_region_held3 (fun W' : World => W'.cell? ⟨b, 0, none⟩ = some (.pointer (some ⟨ad.tb, 0, none⟩)) ∧ W'.cell? ⟨w.heap.size, 0, none⟩ = some (.string it.key))
      (first
        | exact ⟨c0, i0⟩
        | exact ⟨H1.out.2, Mem.row_cell H1.out.1.b1 0⟩)
      (first
        | (go_at_call 44; refine hget.mono ?_; rintro en w1 ⟨rfl, h1⟩; have H1 := Lib.hid h1; clear h1))
    clear hget c0 i0
    go_wp2_with fail
    go_ret
    obtain ⟨col1, a1, f1⟩ := H1.out.1.run
    have e := HY.out
    rw [HG.out] at e
    rw [← e]
    exact ⟨rfl, col1, a1, (Fr.below HB.out.2.1).trans f1⟩
  · have hgv : TabE.getV s.tab.L it.key = .tuple #[.pointer (some ⟨x, 0, none⟩), .bool true] := by unfold TabE.getV; rw [hg]
    rw [hgv] at hget
    have hm : (it.key, x) ∈ s.tick.tab.L := (Tab.get_mem HI.out.1.rise.nodup).1 hg
    have HG := Lib.hid (And.intro hg hm)
    clear hg hgv hm
    go_enter Try.func27, Try.ntmps27
    go_wp2_with fail
    go_region_held3 (fun W' : World => W'.cell? ⟨b, 0, none⟩ = some (.pointer (some ⟨ad.tb, 0, none⟩)) ∧ W'.cell? ⟨w.heap.size, 0, none⟩ = some (.string it.key))
      (first
        | exact ⟨c0, i0⟩
        | exact ⟨H1.out.2, Mem.row_cell H1.out.1.b1 0⟩)
      (first
        | (go_at_call 44; refine hget.mono ?_; rintro en w1 ⟨rfl, h1⟩; have H1 := Lib.hid h1; clear h1))
    clear hget c0 i0
    obtain ⟨vx, ex, ox⟩ := H1.out.1.entry HG.out.2
    obtain ⟨za, zc, hvx⟩ := Src.shape (Src.of_row ox)
    subst hvx
    have d1 : w1.cell? ⟨x, 1, none⟩ = some (.slice za (s.ent x).it.val.length zc) := Mem.row_cell ex 1
    have i1 : w1.cell? ⟨w.heap.size, 1, none⟩ = some (.slice a it.val.length c) := Mem.row_cell H1.out.1.b1 1
    clear ex ox
    by_cases hl : (s.ent x).it.val.length = it.val.length
    · have hlb : (((s.ent x).it.val.length : Int) != (it.val.length : Int)) = false := by rw [hl]; simp
      have HL := Lib.hid hl
      clear hl
      go_wp2_with fail
      go_quiet (fail)
      clear d1 i1 hlb
      obtain ⟨w2, hw2⟩ : ∃ w2, w1.drewN nq = w2 := ⟨_, rfl⟩
      have hb12 : Below w1.heap.size w1 w2 := by rw [← hw2]; exact Mem.dn (Below.refl _ _) _
      rw [hw2]
      have H2 := Lib.hid (H1.out.1.below hb12)
      obtain ⟨u, hheld⟩ := H2.out.held HG.out.2 (Nat.le_refl n) (by omega)
      have HX := Lib.hid hheld
      clear hw2 hb12 hheld
      have cel := fun j => Mem.row_cell H2.out.b1 j
      have i0 := cel 0
      have i1 := cel 1
      have i2 := cel 2
      have i3 := cel 3
      have i4 := cel 4
      have i5 := cel 5
      have i6 := cel 6
      have i7 := cel 7
      have i8 := cel 8
      have i9 := cel 9
      simp only [Item.arr, List.getElem?_toArray, List.getElem?_cons_zero, List.getElem?_cons_succ] at i0 i1 i2 i3 i4 i5 i6 i7 i8 i9
      clear cel
      have hcl := owned_any it (HX.out.src HI.out.2.1 HB.out.2.1 HI.out.2.2) (by omega)
      unfold Item.arr at hcl
      go_wp2_with fail
      refine hcl.mono ?_
      rintro en w6 ⟨v6, rfl, hown6, hb6⟩
      obtain ⟨ya, yc, hv6⟩ := Src.shape (Src.of_row hown6)
      subst hv6
      have hkey : ∀ q ∈ s.tick.tab.L, q.2 = x → it.key = q.1 := fun q hq e => by
        have h1 := HI.out.1.apart HG.out.2
        exact Classical.byContradiction fun h2 => h1 q (Tab.mem_del.2 ⟨hq, fun e1 => h2 e1.symm⟩) e
      have hit := HX.out.item HB.out.2.2 HB.out.1 hb6 hown6 hkey
      have hth : w6.there x 0 (it.arr (.slice ya it.val.length yc)).size := fun j hj => by
        have h1 := (HX.out.below hb6).blk
        rw [Nat.zero_add, Mem.row_cell h1 j]
        refine ⟨?_, Mem.row_free h1 j⟩
        have h2 : j < ((s.tick.ent x).arr u).size := by
          have : (it.arr (.slice ya it.val.length yc)).size = 10 := rfl
          have : ((s.tick.ent x).arr u).size = 12 := rfl
          omega
        rw [Array.getElem?_eq_getElem h2]; rfl
      have H6 := Lib.hid (And.intro hit (And.intro hth (item_one it hown6)))
      clear hcl hown6 hb6 hit hth hkey i0 i1 i2 i3 i4 i5 i6 i7 i8 i9
      go_wp2_with (first | (refine wpList_store_mid rfl 31 _ _ rfl x 0 (it.arr (.slice ya it.val.length yc)) rfl rfl H6.out.2.1 (item_size it _) H6.out.2.2 ?_) | fail)
      go_ret
      obtain ⟨col1, a1, f1⟩ := H6.out.1.1.run
      have e := HY.out
      rw [HG.out.1] at e
      simp only at e
      rw [if_pos HL.out] at e
      rw [← e]
      exact ⟨rfl, col1, a1, (Fr.below HB.out.2.1).trans f1⟩
    · have hlb : (((s.ent x).it.val.length : Int) != (it.val.length : Int)) = true := by simp; omega
      have HL := Lib.hid hl
      clear hl
      go_wp2_with fail
      go_quiet (fail)
      clear d1 i1 hlb
      go_wp2_with fail
      go_ret
      obtain ⟨col1, a1, f1⟩ := H1.out.1.run
      have e := HY.out
      rw [HG.out.1] at e
      simp only at e
      rw [if_neg HL.out] at e
      rw [← e]
      exact ⟨rfl, col1, a1.step (Mem.dn (Below.refl _ _) _), ((Fr.below HB.out.2.1).trans f1).trans (Fr.below (Mem.dn (Below.refl _ _) _))⟩
end
end Go.Proofs.Ytkchlibkfafgdaa.Shard

