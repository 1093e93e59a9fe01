/- Part21: Concat, one behind the other. -/
import Derived.Test.YtpghckiochjogaaGreatDoorPart3
import Derived.Lib.AppendZeros
import Derived.Deep.LoopGhost
import Derived.Deep.QuietTactic
import Derived.Laws.OwnMore
/- slices.Concat of two values' bytes. -/
namespace Go.Proofs.YtpghckiochjogaaGreatDoor.Shard
set_option maxRecDepth 100000
open Go Go.RowKit Go.Proofs.YtpghckiochjogaaGreatDoor.Mem Go.Proofs.YtpghckiochjogaaGreatDoor.App
theorem wpList_append_sB {P : Program} {w : World} {ops : Array Oper} {rest : List Oper} {o : Oper} {a : Act} {Q : Exit → Act → World → Prop} (s x : Operand) (t t' e e' : TypeId) (i : TypeInfo) (base : Nat) (v y : Value) (xs ys : List UInt8) (hgd : o.guard = none)
    (ho : o.op = .call { callee := .builtin .append, args := #[s, x], argTypes := #[t, t'] }) (ht : P.underlying t = some (.slice e)) (ht' : P.underlying t' = some (.slice e')) (hi : P.info? e = some i) (hz : i.zero = some (.int .u8 0)) (hsize : i.size = 1) (hby : i.bytes = 1)
    (hs : a.eval s = v) (hx : a.eval x = y) (hown : w.ownsRow base e 1 v xs.length (cellsB xs)) (hr : SrcB w y ys) (hl : xs.length + ys.length ≤ 1000000000) (hbase : base ≤ w.heap.size)
    (hK : ∀ v' w', w'.ownsRow base e 1 v' (xs ++ ys).length (cellsB (xs ++ ys)) → w.grownBy w' v.ownBlock → (v'.ownBlock = v.ownBlock ∨ v'.ownBlock = some w.heap.size) → wpList P ops Q rest (a.put o.dst v') w') :
    wpList P ops Q (o :: rest) a w := by
  have hK' : ∀ v' w', w'.ownsRow base e 1 v' (xs.length + ys.length) (cellsB xs ++ cellsB ys) → w.grownBy w' v.ownBlock → (v'.ownBlock = v.ownBlock ∨ v'.ownBlock = some w.heap.size) → wpList P ops Q rest (a.put o.dst v') w' := fun v' w' h1 h2 h3 => hK v' w' (by
    rw [List.length_append]
    unfold cellsB at h1 ⊢
    rw [List.map_append]
    exact h1) h2 h3
  rcases hr with ⟨rfl, b, c, rfl⟩ | hr
  · exact wpList_append_none s x t t' e e' i _ 1 1 base v b c xs.length (cellsB xs) hgd ho ht ht' hi hz hsize hby rfl (by decide) hs hx hown (by unfold maxLen; omega) (by omega) hbase hK'
  · exact wpList_append_src s x t t' e e' i _ 1 1 base v y xs.length ys.length (cellsB xs) (cellsB ys) hgd ho ht ht' hi hz hsize hby rfl (by decide) hs hx hown hr (one_cellsB _) (by unfold maxLen; omega) (by omega) hbase hK'
def GrowB (w : World) (e : Ending) (w' : World) : Prop := ∃ a c, e = .returned (.slice a 0 c) ∧ OwnB w' w.heap.size (.slice a 0 c) [] ∧ Below w.heap.size w w'
set_option maxHeartbeats 1000000 in
theorem growB_any {n : Nat} (hn : n ≤ 1000000000) (w : World) :
    Calls Tryz.prog 116 #[.slice none 0 0, .int .i64 n] w (GrowB w) := by
  by_cases h0 : 0 < n
  · obtain ⟨i0, hi, hz0, hz1, hz2⟩ := info_parts infoByte
    have hrun := fun ty w' => Lib.run_append_nil_zeros (P := Tryz.prog) w' 30 3 ty 5 i0 _ .i64 .i64 Tryz.underlying30 Tryz.underlying3 hi hz0 n h0 (by omega) (by omega) (by rw [hz2]; omega)
    have hfin : ∀ (c : Nat) (cs : Array Value), n ≤ c → c ≤ maxLen → cs.size = c → GrowB w (.returned (.slice (some ⟨w.heap.size, 0, none⟩) 0 c)) (w.drew.alloc (.cells cs 5)) := fun c cs h1 h2 h3 =>
      ⟨_, c, rfl, ⟨rfl, .inr ⟨w.heap.size, c, cs, rfl, Nat.le_refl _, Mem.new_block w.drew _, Nat.zero_le _, h2, by omega, by simp [cellsB]⟩⟩, (Below.drew (Below.refl _ w)).alloc (by exact Nat.le_refl _) _⟩
    have hg1 := fun (w' : World) => grownCap_ge w' n 0 5
    have hg2 := fun (w' : World) => grownCap_le_maxLen w' n 0 5 (by unfold maxLen; omega)
    have HF := Lib.hid (And.intro hfin (And.intro hg1 hg2))
    have hn1 : (0 : Int) < n := by omega
    have hn2 : (n : Int) ≤ 1000000000 := by omega
    clear hfin hg1 hg2
    go_enter Tryz.func116, Tryz.ntmps116
    go_wp2_with (at_builtin; refine Lib.wpList_append_run _ rfl _ _ _ _ rfl _ _ rfl rfl _ _ (hrun _ _) ?_)
    go_ret
    exact HF.out.1 _ _ (HF.out.2.1 _) (HF.out.2.2 _) (by simp [Builtin.zeroCells]; have := HF.out.2.1 w; omega)
  · obtain rfl : n = 0 := by omega
    go_enter Tryz.func116, Tryz.ntmps116
    go_wp2_with fail
    go_ret
    exact ⟨_, _, rfl, World.ownsRow_nil _ _ _ _, Below.refl _ _⟩
def SumB (E N g : Nat) (sz i : Value) : Prop := (g = 2 ∧ i = .int .i64 0 ∧ sz = .int .i64 0) ∨ (g = 1 ∧ i = .int .i64 1 ∧ sz = .int .i64 E) ∨ (g = 0 ∧ i = .int .i64 2 ∧ sz = .int .i64 ((E : Int) + N))
def AppB (w : World) (xs ys : List UInt8) (g : Nat) (v i : Value) (w' : World) : Prop := Below w.heap.size w w' ∧ ∃ l, (∃ a c, v = .slice a l.length c) ∧ OwnB w' w.heap.size v l ∧ ((g = 2 ∧ i = .int .i64 0 ∧ l = []) ∨ (g = 1 ∧ i = .int .i64 1 ∧ l = xs) ∨ (g = 0 ∧ i = .int .i64 2 ∧ l = xs ++ ys))
theorem AppB.next {w w2 w5 : World} {xs ys l m : List UInt8} {g : Nat} {v v' i : Value} (hb : Below w.heap.size w w2) (ho : OwnB w2 w.heap.size v l) (h5 : OwnB w5 w.heap.size v' (l ++ m)) (hg : w2.grownBy w5 v.ownBlock) (hi : (g = 1 ∧ i = .int .i64 1 ∧ l ++ m = xs) ∨ (g = 0 ∧ i = .int .i64 2 ∧ l ++ m = xs ++ ys)) : AppB w xs ys g v' i w5 :=
  ⟨hb.grown hg hb.size (fun g e => (own_block_lt ho g e).1), l ++ m, (SrcB.of_row h5).shape, h5, .inr hi⟩
set_option maxHeartbeats 2000000 in
theorem concatB_any {w : World} {v1 v2 : Value} {xs ys : List UInt8} {pb : Nat} {T : TypeId} (h1 : SrcB w v1 xs) (h2 : SrcB w v2 ys) (hE : xs.length ≤ 100000000) (hN : ys.length ≤ 100000000)
    (hp : w.heap[pb]? = some (.cells #[v1, v2] T (0, 0))) :
    Calls Tryz.prog 84 #[.slice (some ⟨pb, 0, none⟩) 2 2] w fun e w' => ∃ v, e = .returned v ∧ OwnB w' w.heap.size v (xs ++ ys) ∧ Below w.heap.size w w' := by
  obtain ⟨i0, hi, hz0, hz1, hz2⟩ := info_parts infoByte
  have p0 := Mem.row_cell hp 0
  have p1 := Mem.row_cell hp 1
  simp only [List.getElem?_toArray, List.getElem?_cons_zero, List.getElem?_cons_succ] at p0 p1
  have hpl : pb < w.heap.size := (Array.getElem?_eq_some_iff.1 hp).1
  have HS := Lib.hid (And.intro h1 h2)
  obtain ⟨a1, c1, e1⟩ := h1.shape
  obtain ⟨a2, c2, e2⟩ := h2.shape
  obtain ⟨E, hEe⟩ : ∃ E, xs.length = E := ⟨_, rfl⟩
  obtain ⟨N, hNe⟩ : ∃ N, ys.length = N := ⟨_, rfl⟩
  rw [hEe] at hE e1
  rw [hNe] at hN e2
  subst e1
  subst e2
  have hg := growB_any (n := E + N) (by omega) w
  have HL := Lib.hid (And.intro hEe hNe)
  clear h1 h2 hp hEe hNe
  have hEi : (E : Int) ≤ 100000000 := by omega
  have hNi : (N : Int) ≤ 100000000 := by omega
  unfold GrowB at hg
  go_enter Tryz.func84, Tryz.ntmps84
  go_wp2_with fail
  go_loopg [3, 11] 2 (fun g sz i wr => w = wr ∧ SumB E N g sz i)
  case atStart => exact ⟨rfl, .inl ⟨rfl, rfl, rfl⟩⟩
  case round =>
    obtain ⟨rfl, h | h | h⟩ := hrel
    · obtain ⟨rfl, rfl, rfl⟩ := h
      clear hg
      go_wp2_with fail
      go_roundg 1
      case measure => omega
      case rel => exact ⟨rfl, .inr (.inl ⟨rfl, rfl, rfl⟩)⟩
    · obtain ⟨rfl, rfl, rfl⟩ := h
      clear hg
      go_wp2_with fail
      go_roundg 0
      case measure => omega
      case rel => exact ⟨rfl, .inr (.inr ⟨rfl, rfl, rfl⟩)⟩
    · obtain ⟨rfl, rfl, rfl⟩ := h
      have P01 := Lib.hid (And.intro p0 p1)
      clear p0 p1
      rw [show (((E + N : Nat) : Nat) : Int) = (E : Int) + N from by omega] at hg
      go_wp2_with fail
      refine hg.mono ?_
      rintro e w2 ⟨ga, gc, rfl, hown, hb⟩
      have H2 := Lib.hid (And.intro hown hb)
      clear hown hb hg
      go_wp2_with fail
      go_loopg [6, 27] 2 (fun g v i wx => AppB w xs ys g v i wx)
      case atStart => exact ⟨H2.out.2, [], ⟨_, _, rfl⟩, H2.out.1, .inl ⟨rfl, rfl, rfl⟩⟩
      case round =>
        obtain ⟨hb, l, ⟨ya, yc, rfl⟩, hown, h | h | h⟩ := hrel
        · obtain ⟨rfl, rfl, rfl⟩ := h
          have HO := Lib.hid (And.intro hown (And.intro (HS.out.1.below hb) hb))
          have q0 := (hb.cell (p := ⟨pb, 0, none⟩) hpl).trans P01.out.1
          have hz := hb.size
          clear hown hb
          go_wp2_with (at_builtin; refine wpList_append_sB _ _ 30 30 5 5 i0 w.heap.size _ _ [] xs rfl rfl Tryz.underlying30 Tryz.underlying30 hi hz0 hz1 hz2 rfl rfl HO.out.1 HO.out.2.1 (by rw [HL.out.1]; simp; omega) hz ?_; intro v' w5 hown5 hg5 hat5; have H5 := Lib.hid (AppB.next (xs := xs) (ys := ys) (g := 1) (i := .int .i64 1) HO.out.2.2 HO.out.1 hown5 hg5 (.inl ⟨rfl, rfl, rfl⟩)); clear hown5 hg5 hat5)
          go_roundg 1
          case measure => omega
          case rel => exact H5.out
        · obtain ⟨rfl, rfl, rfl⟩ := h
          have HO := Lib.hid (And.intro hown (And.intro (HS.out.2.below hb) hb))
          have q1 := (hb.cell (p := ⟨pb, 1, none⟩) hpl).trans P01.out.2
          have hz := hb.size
          clear hown hb
          go_wp2_with (at_builtin; refine wpList_append_sB _ _ 30 30 5 5 i0 w.heap.size _ _ _ ys rfl rfl Tryz.underlying30 Tryz.underlying30 hi hz0 hz1 hz2 rfl rfl HO.out.1 HO.out.2.1 (by rw [HL.out.1, HL.out.2]; omega) hz ?_; intro v' w5 hown5 hg5 hat5; have H5 := Lib.hid (AppB.next (g := 0) (i := .int .i64 2) HO.out.2.2 HO.out.1 hown5 hg5 (.inr ⟨rfl, rfl, rfl⟩)); clear hown5 hg5 hat5)
          go_roundg 0
          case measure => omega
          case rel => exact H5.out
        · obtain ⟨rfl, rfl, rfl⟩ := h
          have HO := Lib.hid (And.intro hown hb)
          clear hown hb
          go_wp2_with fail
          go_ret
          exact ⟨_, rfl, HO.out.1, HO.out.2⟩
end Go.Proofs.YtpghckiochjogaaGreatDoor.Shard

