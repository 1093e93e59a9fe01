/- Part11: ShardL9, ShardL10, ShardL11, ShardL12, one behind the other. -/
import Derived.Test.YtkchlibkfafgdaaPart9
import Derived.Test.YtkchlibkfafgdaaPart8
import Derived.Test.YtkchlibkfafgdaaPart10
/- Layer 11: the caller writes into rows of its own; the shard is as it was. -/
namespace Go.Proofs.Ytkchlibkfafgdaa.Shard
set_option maxRecDepth 100000
open Go Go.RowKit Go.Proofs.Ytkchlibkfafgdaa.Mem Go.Proofs.Ytkchlibkfafgdaa.App Go.Proofs.Ytkchlibkfafgdaa.Ops
section
variable {W w w' : World} {n M b : Nat} {hl : Nat → Prop} {col : Col} {ad : Addrs} {seed : Int} {s : St} {vd : Value} {vv : Nat → Value}
theorem Run.aside (h : Run W w M b col seed s) {F : Nat → Prop} (ho : Only F w w') (hF : ∀ k, F k → col k = Option.none ∧ W.heap.size ≤ k) : Run W w' M b col seed s := by
  obtain ⟨⟨ad, vd, vv, e, hp⟩, hi⟩ := h
  exact ⟨⟨ad, vd, vv, e, hp.aside ho hF⟩, hi⟩
/-- A row of bytes under a write of one of them. -/
theorem ownB_set {base : Nat} {v : Value} {xs : List UInt8} (h : OwnB w base v xs) {i : Nat} (hi : i < xs.length) (u : UInt8) : ∃ g cap, v = .slice (some ⟨g, 0, Option.none⟩) xs.length cap ∧ base ≤ g ∧ g < w.heap.size ∧ (∃ o, w.cell? ⟨g, i, Option.none⟩ = some (.int .u8 o)) ∧ w.frozen? ⟨g, i, Option.none⟩ = false ∧ OwnB (w.setCell ⟨g, i, Option.none⟩ (.int .u8 (u.toNat : Nat))) base v (xs.set i u) := by
  rcases h.2 with ⟨e1, e2⟩ | ⟨g, cap, cur, e1, h1, e2, e3, h4, h5, h6⟩
  · omega
  · have hlt := (Array.getElem?_eq_some_iff.1 e2).1
    rw [Nat.mul_one] at h6
    refine ⟨g, cap, e1, h1, hlt, ⟨((xs[i]).toNat : Nat), ?_⟩, Mem.row_free e2 i, ?_, .inr ⟨g, cap, cur.setIfInBounds i (.int .u8 (u.toNat : Nat)), ?_, h1, Mem.row_set e2 i _, ?_, h4, ?_, ?_⟩⟩
    · rw [Mem.row_cell e2 i]
      have h7 : (cur.toList.take xs.length)[i]? = (cellsB xs)[i]? := by rw [h6]
      rw [List.getElem?_take, if_pos hi, Array.getElem?_toList] at h7
      rw [h7]
      simp [cellsB, List.getElem?_eq_getElem hi]
    · simp [cellsB]
    · rw [List.length_set]; exact e1
    · rw [List.length_set]; exact e3
    · rw [Array.size_setIfInBounds]; exact h5
    · rw [List.length_set, Nat.mul_one, Array.toList_setIfInBounds, List.take_set, h6]
      simp [cellsB, List.map_set]
end
end Go.Proofs.Ytkchlibkfafgdaa.Shard

/- Layer 11, plain: one item stored into an empty shard is the one that is there. -/
namespace Go.Proofs.Ytkchlibkfafgdaa.Shard
set_option maxRecDepth 100000
open Go Go.RowKit

def itemV (key : ByteArray) (xs : List UInt8) : Item := ⟨key, xs, 0, 0, 0, 0, 0, false, false, false⟩
theorem class_lt {z : Int} (h : z ≤ 2048) : Slab.classN z < 6 := by
  unfold Slab.classN
  repeat' split
  all_goals omega
theorem own_law (fresh : Nat) (key : ByteArray) (xs : List UInt8) (hk : key.size ≤ 250) (hv : xs.length ≤ 1000) :
    ((St.new 1 100000 3).store fresh (itemV key xs) env1).1 = 0 ∧ ∃ x, ((St.new 1 100000 3).store fresh (itemV key xs) env1).2.find key env1 = (some x, ((St.new 1 100000 3).store fresh (itemV key xs) env1).2.tick) ∧
      (((St.new 1 100000 3).store fresh (itemV key xs) env1).2.ent x).it = itemV key xs ∧ ((St.new 1 100000 3).store fresh (itemV key xs) env1).2.tick.items = [itemV key xs] ∧
      (((St.new 1 100000 3).store fresh (itemV key xs) env1).2.tick.find key env1).1 = some x := by
  have hi : Inv 0 0 (St.new 1 100000 3) := Inv.new 1 100000 3 (by omega)
  have h0 : Keeps 0 (fun _ => False) 100000 (St.new 1 100000 3) := ⟨rfl, Nat.le_refl _, fun p hp => (by cases hp), rfl, fun k => (by show k ∈ ([] : List ByteArray) ↔ False; simp)⟩
  rcases h0.store (it := itemV key xs) (env := env1) (fresh := fresh) hi rfl rfl (by omega) (fun p hp => (by cases hp)) with ⟨h6, _⟩ | ⟨_, h1, h2⟩
  · have : Slab.classN (itemV key xs).size < 6 := class_lt (by show (50 + (key.size : Int) + (xs.length : Int)) ≤ 2048; omega)
    omega
  have hit := store_there hi h1
  have hiT := hi.store (fresh := fresh) (it := itemV key xs) (env := env1)
  generalize (St.new 1 100000 3).store fresh (itemV key xs) env1 = y at *
  obtain ⟨e, t⟩ := y
  simp only at *
  have hT := hiT (by show key.size ≤ 300; omega) (fun p hp => (by cases hp))
  have hl : t.items.length ≤ 1 := by rw [items_len]; exact h2.len
  have hil : t.items = [itemV key xs] := by
    generalize t.items = m at *
    match m, hl, hit with
    | [z], _, hz => rw [List.mem_singleton.1 hz]
  have hfi := h2.find hT (env := env1) rfl key
  have hso := (h2.found hT key).2 (.inr rfl)
  obtain ⟨x, hx⟩ := Option.isSome_iff_exists.1 hso
  rw [hx] at hfi
  have hmem := (Tab.get_mem hT.rise.nodup).1 hx
  have hent : (t.ent x).it = itemV key xs := by
    have h3 : (t.ent x).it ∈ t.items := List.mem_map.2 ⟨_, hmem, rfl⟩
    rw [hil] at h3
    exact List.mem_singleton.1 h3
  have hk2 : Keeps (0 + 1) (fun k => False ∨ k = (itemV key xs).key) 100000 t.tick := ⟨h2.budget, h2.len, h2.exp, h2.drops, h2.keys⟩
  refine ⟨h1, x, hfi, hent, hil, ?_⟩
  rw [hk2.find hT.tick (env := env1) rfl key]
  exact hx
end Go.Proofs.Ytkchlibkfafgdaa.Shard

/- append of bytes onto nil; a byte row under writes. -/
namespace Go.Proofs.Ytkchlibkfafgdaa.Shard
set_option maxRecDepth 100000
open Go Go.RowKit Go.Proofs.Ytkchlibkfafgdaa.Mem Go.Proofs.Ytkchlibkfafgdaa.App

theorem wpList_append_B {w : World} {ops : Array Oper} {rest : List Oper} {o : Oper} {a : Act} {Q : Exit → Act → World → Prop} (s x : Operand) (y : Value) (xs : List UInt8) (hgd : o.guard = none)
    (ho : o.op = .call { callee := .builtin .append, args := #[s, x], argTypes := #[28, 28] }) (hs : a.eval s = .slice none 0 0) (hx : a.eval x = y) (hr : SrcB w y xs) (hl : xs.length ≤ 1000000)
    (hK : ∀ v' w', OwnB w' w.heap.size v' xs → Below w.heap.size w w' → wpList Try.prog ops Q rest (a.put o.dst v') w') :
    wpList Try.prog ops Q (o :: rest) a w := by
  obtain ⟨i0, hi, hz0, hz1, hz2⟩ := info_parts infoByte
  have hn : ∀ g, (Value.slice none 0 0).ownBlock = some g → w.heap.size ≤ g := fun g e => by cases e
  rcases hr with ⟨rfl, ⟨g, off, sp⟩, c, rfl⟩ | h
  · refine wpList_append_none _ _ _ _ _ _ i0 _ 1 1 w.heap.size _ ⟨g, off, sp⟩ c 0 [] hgd ho Try.underlying28 Try.underlying28 hi hz0 hz1 hz2 rfl (by decide) hs hx (World.ownsRow_nil _ _ _ _) (by unfold maxLen; omega) (by omega) (Nat.le_refl _) ?_
    intro v3 w3 hown3 hgr3 hat3
    exact hK v3 w3 hown3 ((Below.refl w.heap.size w).grown hgr3 (Nat.le_refl _) hn)
  · refine wpList_append_src _ _ _ _ _ _ i0 _ 1 1 w.heap.size _ _ 0 xs.length [] (cellsB xs) hgd ho Try.underlying28 Try.underlying28 hi hz0 hz1 hz2 rfl (by decide) hs hx (World.ownsRow_nil _ _ _ _) h (one_cellsB _) (by unfold maxLen; omega) (by omega) (Nat.le_refl _) ?_
    intro v3 w3 hown3 hgr3 hat3
    rw [Nat.zero_add, List.nil_append] at hown3
    exact hK v3 w3 hown3 ((Below.refl w.heap.size w).grown hgr3 (Nat.le_refl _) hn)
/-- A row of bytes that is being written over: nothing else changes. -/
def Over (w0 : World) (base : Nat) (v : Value) (n : Nat) (w : World) : Prop := (∃ ys, ys.length = n ∧ OwnB w base v ys) ∧ Only (fun k => v.ownBlock = some k) w0 w
theorem Over.start {w : World} {base : Nat} {v : Value} {xs : List UInt8} (h : OwnB w base v xs) : Over w base v xs.length w := ⟨⟨xs, rfl, h⟩, Only.refl _ _⟩
theorem Over.round {w0 w : World} {base n : Nat} {v : Value} (h : Over w0 base v n w) {i : Nat} (hi : i < n) (u : UInt8) : ∃ g cap, v = .slice (some ⟨g, 0, none⟩) n cap ∧ (∃ o, w.cell? ⟨g, i, none⟩ = some (.int .u8 o)) ∧ w.frozen? ⟨g, i, none⟩ = false ∧ Over w0 base v n (w.setCell ⟨g, i, none⟩ (.int .u8 (u.toNat : Nat))) := by
  obtain ⟨⟨ys, rfl, h1⟩, h2⟩ := h
  obtain ⟨g, cap, e, -, -, h3, h4, h5⟩ := ownB_set h1 hi u
  exact ⟨g, cap, e, h3, h4, ⟨_, List.length_set .., h5⟩, h2.setCell (p := ⟨g, i, none⟩) (.inl (by rw [e]; rfl)) _⟩
end Go.Proofs.Ytkchlibkfafgdaa.Shard

/- Layer 11: what a look that finds answers is the caller's own. -/
namespace Go.Proofs.Ytkchlibkfafgdaa.Shard
open Go Go.RowKit Go.Proofs.Ytkchlibkfafgdaa.Mem Go.Proofs.Ytkchlibkfafgdaa.App
section
variable {W w : World} {n N b : Nat} {col : Col} {seed : Int} {s : St}
set_option maxRecDepth 100000 in
set_option maxHeartbeats 2000000 in
theorem look_own (h : At W w n b col seed s) (k : ByteArray) (env : Env) (hk : k.size ≤ maxLen) (hl : s.order.all.length ≤ 1000000000) (hsm : Slab.Small N s.slab) (hN : N ≤ 1099511627776) (hd : (s.tick.remove k).2.drops.length ≤ 1000000000) (hv : ∀ x, Tab.get s.tab.L k = some x → (s.ent x).it.val.length ≤ 1000000) {x : Nat} (hy : (s.find k env).1 = some x) :
    Calls Try.prog 15 #[.pointer (some ⟨b, 0, none⟩), .string k, .agg env.arr] w fun e w' => ∃ v col', e = .returned (.tuple #[.agg ((s.ent x).it.arr v), .bool true]) ∧ At W w' n b col' seed (s.find k env).2 ∧ Fr col col' w w' ∧ OwnB w' w.heap.size v (s.ent x).it.val ∧ ∀ g, v.ownBlock = some g → col' g = none := by
  have hb2 : Below w.heap.size w ((w.alloc (.cells env.arr 33)).alloc (.cells zeroI 31)) := Mem.al (Mem.al (Below.refl _ _) _) _
  have n1 : ((w.alloc (.cells env.arr 33)).alloc (.cells zeroI 31)).heap[w.heap.size]? = some (.cells env.arr 33 (0, 0)) := Mem.new_later (Mem.new_block w _) _
  have n2 : ((w.alloc (.cells env.arr 33)).alloc (.cells zeroI 31)).heap[w.heap.size + 1]? = some (.cells zeroI 31 (0, 0)) := Mem.new_block2 w _ _
  have hsz : ((w.alloc (.cells env.arr 33)).alloc (.cells zeroI 31)).heap.size = w.heap.size + 2 := by simp
  have hcn : ∀ j, w.heap.size ≤ j → col j = none := fun j hj => Classical.byContradiction fun e => by have := h.lt j e; omega
  have h2 := h.step hb2
  have hfind := find_any h2 k env hk hl hsm hN hd
  obtain ⟨w0, hw0⟩ : ∃ w0, (w.alloc (.cells env.arr 33)).alloc (.cells zeroI 31) = w0 := ⟨_, rfl⟩
  rw [hw0] at hfind n1 n2 hsz hb2
  have q0 := Mem.row_cell n1 0
  have q1 := Mem.row_cell n1 1
  have q2 := Mem.row_cell n1 2
  have q3 := Mem.row_cell n1 3
  simp only [Env.arr, List.getElem?_toArray, List.getElem?_cons_zero, List.getElem?_cons_succ] at q0 q1 q2 q3
  have HL : Hid (W.heap.size ≤ w.heap.size) := Lib.hid h.size
  have HN := Lib.hid (And.intro n2 (And.intro hsz (And.intro hcn hb2)))
  have HW := Lib.hid hw0
  clear n1 n2 hsz hcn hb2 h2 h
  unfold Env.arr zeroI at hw0
  unfold Env.arr at hfind ⊢
  go_enter Try.func15, Try.ntmps15
  go_wp2_with fail
  refine hfind.mono ?_
  rintro e w1 ⟨rfl, col1, a1, f1⟩
  have m2 : w1.heap[w.heap.size + 1]? = some (.cells zeroI 31 (0, 0)) := (f1.keep (by rw [HN.out.2.1]; omega) (HN.out.2.2.1 _ (by omega))).trans HN.out.1
  have HF0 := Lib.hid f1
  have f1 := (Fr.below HN.out.2.2.2).trans f1
  have H1 := Lib.hid (And.intro a1 (And.intro f1 m2))
  clear hfind a1 f1 m2
  obtain ⟨g1, g2, g3⟩ := find_some hy
  have a1 := H1.out.1
  rw [g3] at a1
  obtain ⟨v, e1, hown, -, hcx, -⟩ := a1.entry (k := k) (x := x) g1
  have hvx := hv x g1
  have cell := fun j => Mem.row_cell e1 j
  have d0 := cell 0
  have d1 := cell 1
  have d2 := cell 2
  have d3 := cell 3
  have d4 := cell 4
  have d5 := cell 5
  have d6 := cell 6
  have d7 := cell 7
  have d8 := cell 8
  have d9 := cell 9
  simp only [St.tick, Ent.arr, List.getElem?_toArray, List.getElem?_cons_zero, List.getElem?_cons_succ] at d0 d1 d2 d3 d4 d5 d6 d7 d8 d9
  have hcl := owned_any (s.ent x).it (SrcB.of_row hown) hvx
  have HY := Lib.hid (And.intro hy g3)
  rw [hy]
  clear hy g1 g2 g3 a1 e1 hown hcx cell hvx
  unfold Item.arr at hcl
  unfold ptrE
  go_wp2_with fail
  refine hcl.mono ?_
  rintro e w2 ⟨v2, rfl, hown2, hb2⟩
  obtain ⟨ya, yc, hv'⟩ := Src.shape (Src.of_row hown2)
  subst hv'
  have k2 : w2.heap[w.heap.size + 1]? = some (.cells zeroI 31 (0, 0)) := (hb2.block _ (Array.getElem?_eq_some_iff.1 H1.out.2.2).1).trans H1.out.2.2
  have H2 := Lib.hid (And.intro hown2 (And.intro hb2 k2))
  clear hcl hown2 hb2 k2 d0 d1 d2 d3 d4 d5 d6 d7 d8 d9
  go_wp2_with (first | (refine wpList_store_row rfl 31 _ _ rfl (w.heap.size + 1) ((s.ent x).it.arr (.slice ya (s.ent x).it.val.length yc)) rfl rfl 31 zeroI H2.out.2.2 (item_size (s.ent x).it _) rfl (item_one (s.ent x).it H2.out.1) ?_) | fail)
  have hrow := setRow_heap _ _ _ ((s.ent x).it.arr (.slice ya (s.ent x).it.val.length yc)) _ _ H2.out.2.2
  refine bodyPost_ret (results_two Try.results15 _ _ (w.heap.size + 1) _ _ _ _ rfl rfl hrow Try.underlying31 rfl (item_size (s.ent x).it _)) rfl ?_
  obtain ⟨a1, f1, m2⟩ := H1.out
  have hcc : col1 (w.heap.size + 1) = none := Classical.byContradiction fun e => (HF0.out.2 _ e).elim (fun e1 => e1 (HN.out.2.2.1 _ (by omega))) (fun e1 => by have := HN.out.2.1; omega)
  obtain ⟨hown2, hb2, k2⟩ := H2.out
  have hzz := (Array.getElem?_eq_some_iff.1 m2).1
  have hcg : ∀ g, (Value.slice ya (s.ent x).it.val.length yc).ownBlock = some g → col1 g = none := fun g e => Classical.byContradiction fun e1 => by have := a1.lt g e1; have := (own_block_lt hown2 g e).1; omega
  refine ⟨_, col1, rfl, (a1.step hb2).aside (F := fun k => k = w.heap.size + 1) (Only.setRow (.inl rfl) (Only.refl _ _)) (fun k e => by subst e; exact ⟨hcc, by have := HL.out; omega⟩), (f1.trans (Fr.below hb2)).setRow (.inr (by omega)), row_keep (Mem.row_less hown2 (by omega)) fun g e => setRow_other _ _ _ _ (fun e1 => ?_), hcg⟩
  have := (own_block_lt hown2 g e).1
  omega
theorem look_run2 {M : Nat} (h : Run W w M b col seed s) (hM : M + 1 ≤ 400) (k : ByteArray) (env : Env) (hk : k.size ≤ maxLen) {x : Nat} (hy : (s.find k env).1 = some x) :
    Calls Try.prog 15 #[.pointer (some ⟨b, 0, none⟩), .string k, .agg env.arr] w fun e w' => ∃ v col', e = .returned (.tuple #[.agg ((s.ent x).it.arr v), .bool true]) ∧ Run W w' (M + 1) b col' seed (s.find k env).2 ∧ Fr col col' w w' ∧ OwnB w' w.heap.size v (s.ent x).it.val ∧ ∀ g, v.ownBlock = some g → col' g = none := by
  have hn := nn_max (M := M) (by omega)
  have hol := h.olen
  have hns := nn_succ M
  refine (look_own h.at_ k env hk (by omega) h.inv.smallN (by omega) (by rw [remove_drops]; have := h.inv.dl; show s.drops.length ≤ _; omega) (fun x hx => h.vals _ ((Tab.get_mem h.inv.rise.nodup).1 hx)) hy).mono ?_
  rintro e w' ⟨v, col', h1, h2, h3, h4, h5⟩
  exact ⟨v, col', h1, ⟨h2.more (by omega) (by omega), (h.inv.find k env).mono (by omega) (by omega)⟩, h3, h4, h5⟩
end
/-- The row of the items is no value's block. -/
theorem items_apart {w : World} {base g n cap : Nat} {xs : List Item} {v : Value} {ys : List UInt8} (h : ItemsAt base xs (.slice (some ⟨g, 0, none⟩) n cap) w) (ho : OwnB w base v ys) : ∀ g', v.ownBlock = some g' → g' ≠ g := fun g' e e0 => by
  obtain ⟨l, -, h2, -⟩ := h
  rcases h2.2 with ⟨e1, _⟩ | ⟨g0, cap0, cur, e1, _, e2, _⟩
  · cases e1
  · rcases ho.2 with ⟨e3, _⟩ | ⟨g1, cap1, cur1, e3, _, e4, _⟩
    · rw [e3] at e; cases e
    · rw [e3] at e
      have h5 : g1 = g' := by simpa [Value.ownBlock] using e
      injection e1 with e1 _ _
      injection e1 with e1
      injection e1 with e1 _ _
      rw [← e1] at e2
      rw [h5, e0] at e4
      rw [e2] at e4
      injection e4 with e4
      injection e4 with _ e4 _
      exact absurd e4 (by decide)
theorem Over.dn {w : World} {base : Nat} {v : Value} {xs : List UInt8} (h : OwnB w base v xs) (d : Nat) : Over w base v xs.length (w.drewN d) :=
  ⟨⟨xs, rfl, row_keep h fun g e => (Mem.dn (Below.refl w.heap.size w) d).block g (own_block_lt h g e).2⟩, Only.of_below (Mem.dn (Below.refl w.heap.size w) d) (fun k h1 h2 => by omega)⟩
end Go.Proofs.Ytkchlibkfafgdaa.Shard

