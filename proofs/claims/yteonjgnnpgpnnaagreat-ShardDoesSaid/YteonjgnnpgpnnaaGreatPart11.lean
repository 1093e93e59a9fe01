/- Part11: RefSh8, Shard8, Shard9, Shard10, TabE12, StrCmp, TabE13, one behind the other. -/
import Derived.Test.YteonjgnnpgpnnaaGreatPart10
import Derived.Test.YteonjgnnpgpnnaaGreatPart3
import Derived.Deep.MidRow
import Derived.Test.YteonjgnnpgpnnaaGreatPart9
import Derived.Lib.AppendZeros
import Derived.Test.YteonjgnnpgpnnaaGreatProg
import Derived.WalkKit
import Derived.Lib.Bytealg
import Derived.Shelf.SlSortCmp.NoneTotal
/- Layer 11, the document's own shard: Store. -/
namespace Go.Proofs.YteonjgnnpgpnnaaGreat.RefSh
open Go Go.RowKit Go.Proofs.YteonjgnnpgpnnaaGreat.Mem Go.Proofs.YteonjgnnpgpnnaaGreat.App Go.Proofs.YteonjgnnpgpnnaaGreat.Shard

theorem find_get {n N : Nat} {s : St} (h : Inv n N s) (k : ByteArray) (env : Env) : Tab.get (s.find k env).2.tab.L k = (s.find k env).1 := by
  rcases hf : (s.find k env).1 with _ | x
  · rcases find_none hf with ⟨h1, h2⟩ | ⟨x, h1, h2, h3⟩
    · rw [h2]; exact h1
    · rw [h3, drop_L s.tick k h.rise]
      show Tab.get (Tab.del s.tab.L k) k = none
      rw [Tab.get_del h.rise, if_pos rfl]
  · obtain ⟨h1, h2, h3⟩ := find_some hf
    rw [h3]; exact h1
theorem room_code (it : Shard.Item) (old : Bool) (less : Int) (env : Env) : ∀ (f : Nat) (s : St), (St.room it old less env f s).1 = 0 ∨ (St.room it old less env f s).1 = 5 ∨ (St.room it old less env f s).1 = 8
  | 0, s => .inr (.inl rfl)
  | f + 1, s => by
    rcases room_cases (it := it) (old := old) (less := less) (env := env) f s with ⟨h1, e⟩ | ⟨_, _, e⟩ | ⟨hf, v, hv, hne, hm, ⟨_, e⟩ | ⟨x, hx, ⟨_, e⟩ | ⟨_, _, _, e⟩⟩⟩
    · rw [e]; exact .inl rfl
    · rw [e]; exact .inr (.inl rfl)
    · rw [e]; exact .inr (.inl rfl)
    · rw [e]; exact room_code it old less env f _
    · rw [e]; exact .inr (.inr rfl)
theorem src_entry (w : World) (x : Ent) (v : Value) : Src (w.alloc (.cells (x.arr v) 79)) 12 (.slice (some ⟨w.heap.size, 0, none⟩) 1 1) 1 (x.arr v).toList := by
  have hn := Mem.new_block w (.cells (x.arr v) 79)
  refine .inr ⟨w.heap.size, 0, 1, rfl, rfl, by simp, fun j u hu => ?_⟩
  have := Mem.row_cell hn j
  rw [Nat.zero_add, this, ← Array.getElem?_toList]
  exact hu
theorem chunk_one (c n : Int) : (#[Value.int .i64 c, Value.int .i64 n] : Array Value).all (·.oneCell') = true := by simp [Value.oneCell']
theorem chunk_size (c n : Int) : (Tryz.prog.info? 77).map (·.size) = some (#[Value.int .i64 c, Value.int .i64 n] : Array Value).size := by
  rw [show (#[Value.int .i64 c, Value.int .i64 n] : Array Value).size = 2 from rfl]; kernel_rfl
/-- A new entry's row is stored. -/
theorem RP.putRow {W w w' : World} {N : Nat} {col : Col} {ad : RAd} {t : St} {vL vd v' v : Value} {vv : Nat → Value} {k : ByteArray} {m fresh : Nat} {x : Ent} (h : RP W w N col ad t vL vd vv) (hb : Below w.heap.size w w') (hput : Tab.put t.tab.L k fresh = t.tab.L.take m ++ [(k, fresh)] ++ t.tab.L.drop m) (hm : m ≤ t.tab.L.length)
    (hfr : ∀ p ∈ t.tab.L, p.2 ≠ fresh) (hs : SrcB w v x.it.val) (hc : ∀ g, v.ownBlock = some g → col g = some (.ent 0))
    (hown : w'.ownsRow w.heap.size 79 12 v' (m + 1 + (t.tab.L.length - m)) (cellsE t.ent vv (t.tab.L.take m) ++ (x.arr v).toList ++ cellsE t.ent vv (t.tab.L.drop m))) :
    ∃ col', RP W (w'.setCell ⟨ad.sb, 0, none⟩ v') N col' ad { t with tab := t.tab.put k fresh, ent := upd t.ent fresh x } v' vd (upd vv fresh v) ∧ Fr col col' w (w'.setCell ⟨ad.sb, 0, none⟩ v') := by
  have hcg : ∀ L : Tab.Pairs Nat, (∀ p ∈ L, p ∈ t.tab.L) → cellsE (upd t.ent fresh x) (upd vv fresh v) L = cellsE t.ent vv L := fun L hL => cellsE_congr fun p hp => by
    have := hfr p (hL p hp)
    rw [upd_other _ _ this, upd_other _ _ this]; exact ⟨rfl, rfl⟩
  refine ⟨_, h.turnRow (L := t.tab.L.take m ++ [(k, fresh)] ++ t.tab.L.drop m) (tb := t.tab.put k fresh) (ent := upd t.ent fresh x) (vv' := upd vv fresh v) hb ((Tab.put_L _ _ _).trans hput) ?_ ?_, fr_set (Fr.of (p := .table) (fun k e => e) (Only.of_below hb (fun k h1 h2 => by omega))) (by rw [h.csb]; simp) 0 _⟩
  · have e1 : cellsE (upd t.ent fresh x) (upd vv fresh v) [(k, fresh)] = (x.arr v).toList := by
      show ((upd t.ent fresh x fresh).arr (upd vv fresh v fresh)).toList ++ [] = _
      rw [upd_same, upd_same, List.append_nil]
    rw [cellsE_app, cellsE_app, hcg _ (fun p hp => List.mem_of_mem_take hp), hcg _ (fun p hp => List.mem_of_mem_drop hp), e1]
    rw [List.length_append, List.length_append, List.length_take, Nat.min_eq_left hm, List.length_drop]
    exact hown
  · intro p hp
    have hp2 : p = (k, fresh) ∨ p ∈ t.tab.L := by
      rcases List.mem_append.1 hp with hp | hp
      · rcases List.mem_append.1 hp with hp | hp
        · exact .inr (List.mem_of_mem_take hp)
        · exact .inl (by simpa using hp)
      · exact .inr (List.mem_of_mem_drop hp)
    rcases hp2 with rfl | hp
    · show SrcB w (upd vv fresh v fresh) (upd t.ent fresh x fresh).it.val ∧ _
      rw [upd_same, upd_same]
      exact ⟨hs, hc⟩
    · have := hfr p hp
      rw [upd_other _ _ this, upd_other _ _ this]
      exact h.vals p hp
section
variable {W w : World} {N b : Nat} {col : Col} {s : St}
set_option maxRecDepth 100000 in
set_option maxHeartbeats 8000000 in
theorem store_any (h : RAt W w N b col s) {n : Nat} (hi : Inv n N s) (hn : n ≤ 500) (hN : N ≤ 400000) (it : Shard.Item) (a : Option Addr) (c : Nat) (env : Env) (hks : it.key.size ≤ 300) (hvs : it.val.length ≤ 3000) (hsrc : SrcB w (.slice a it.val.length c) it.val)
    (hsc : it.val ≠ [] → ∀ g, (Value.slice a it.val.length c).ownBlock = some g → col g = none) (fresh : Nat) (hfr : ∀ p ∈ s.tab.L, p.2 ≠ fresh) :
    Calls Tryz.prog 25 #[.pointer (some ⟨b, 0, none⟩), .agg (it.arr (.slice a it.val.length c)), .agg env.arr] w (RoomPost W w (N + n + 4) b col (s.store fresh it env)) := by
  have hcn : ∀ j, w.heap.size ≤ j → col j = none := fun j hj => Classical.byContradiction fun e => by have := (h.lt j e).2; omega
  have hb2 : Below w.heap.size w ((w.alloc (.cells (it.arr (.slice a it.val.length c)) 34)).alloc (.cells env.arr 36)) := Mem.al (Mem.al (Below.refl _ _) _) _
  have n1 : ((w.alloc (.cells (it.arr (.slice a it.val.length c)) 34)).alloc (.cells env.arr 36)).heap[w.heap.size]? = some (.cells (it.arr (.slice a it.val.length c)) 34 (0, 0)) := Mem.new_later (Mem.new_block w _) _
  have n2 : ((w.alloc (.cells (it.arr (.slice a it.val.length c)) 34)).alloc (.cells env.arr 36)).heap[w.heap.size + 1]? = some (.cells env.arr 36 (0, 0)) := Mem.new_block2 w _ _
  have hsz : w.heap.size ≤ w.heap.size + 1 ∧ w.heap.size + 1 < ((w.alloc (.cells (it.arr (.slice a it.val.length c)) 34)).alloc (.cells env.arr 36)).heap.size := by simp
  obtain ⟨w0, hw0⟩ : ∃ w0, (w.alloc (.cells (it.arr (.slice a it.val.length c)) 34)).alloc (.cells env.arr 36) = w0 := ⟨_, rfl⟩
  rw [hw0] at hb2 hsz n1 n2
  have hbs : RBes W w0 N b w.heap.size (w.heap.size + 1) col (.cells (it.arr (.slice a it.val.length c)) 34 (0, 0)) (.cells env.arr 36 (0, 0)) s w0 := ⟨⟨col, h.step hb2, Fr.refl _ _⟩, n1, n2⟩
  have h2 := store_two hi it env fresh
  have hff := find_get hi it.key env
  have hfi := hi.find it.key env
  have hfo := hfi.olen
  have hfl := hfi.len
  have hrc := room_code it (s.find it.key env).1.isSome ((s.find it.key env).2.less (s.find it.key env).1) env ((s.find it.key env).2.order.all.length + 1) (s.find it.key env).2
  have hcl := Slab.rclass_any it.size
  have HB := Lib.hid (And.intro hcn (And.intro hb2 hsz))
  have HS := Lib.hid hbs
  have HI := Lib.hid (And.intro hi (And.intro hsrc (And.intro hsc hfr)))
  have H2 := Lib.hid h2
  have HRC : Hid ((s.roomed it env).1 = 0 ∨ (s.roomed it env).1 = 5 ∨ (s.roomed it env).1 = 8) := Lib.hid hrc
  have HFG := Lib.hid (And.intro hff (And.intro hfi (And.intro hfo hfl)))
  obtain ⟨y, hy⟩ : ∃ y, s.store fresh it env = y := ⟨_, rfl⟩
  rw [hy]
  have HY := Lib.hid hy
  have hsz0 := rsize_any it a c w0 (by omega) (by omega)
  have cel := fun j => Mem.row_cell n1 j
  have i0 := cel 0
  have i1 := cel 1
  have i2 := cel 2
  have i3 := cel 3
  have i4 := cel 4
  have i5 := cel 5
  have i6 := cel 6
  have i7 := cel 7
  have i8 := cel 8
  have i9 := cel 9
  simp only [Item.arr, List.getElem?_toArray, List.getElem?_cons_zero, List.getElem?_cons_succ] at i0 i1 i2 i3 i4 i5 i6 i7 i8 i9
  clear cel n1 n2 hcn hb2 hsz h hbs hi hsrc hsc hfr h2 hff hfi hfo hfl hrc hy
  unfold Item.arr at hsz0
  unfold Item.arr Env.arr at hw0 ⊢
  go_enter Tryz.func25, Tryz.ntmps25
  go_wp2_with fail
  refine hsz0.mono ?_
  rintro e w1 ⟨rfl, hb1⟩
  have H1 := Lib.hid (And.intro (HS.out.below hb1) hb1)
  clear hsz0 hb1 i0 i1 i2 i3 i4 i5 i6 i7 i8 i9
  go_wp2_with fail
  refine (hcl _).mono ?_
  rintro e w2 ⟨rfl, rfl⟩
  clear hcl
  by_cases h6 : Slab.classN it.size = 6
  · have e4 : Slab.classE it.size = 4 := by unfold Slab.classE; rw [if_pos h6]
    rw [e4]
    have H6 := Lib.hid h6
    clear e4 h6
    go_wp2_with fail
    go_ret
    have hyt : y = (4, s) := by
      rw [← HY.out]
      rcases H2.out with ⟨_, e⟩ | ⟨e1, _⟩
      · exact e
      · have := H6.out; omega
    obtain ⟨col1, a1, f1⟩ := H1.out.1.run
    rw [hyt]
    exact ⟨rfl, col1, a1.more (by omega), (Fr.below HB.out.2.1).trans f1⟩
  have e4 : Slab.classE it.size = 0 := by unfold Slab.classE; rw [if_neg h6]
  rw [e4]
  have H6 := Lib.hid h6
  obtain ⟨col1, a1, f1⟩ := H1.out.1.run
  have hlook := look_any a1 HI.out.1 (by omega) (by omega) it.key env
  have i0 : w1.cell? ⟨w.heap.size, 0, none⟩ = some (.string it.key) := Mem.row_cell H1.out.1.b1 0
  have cen := fun j => Mem.row_cell H1.out.1.b2 j
  have q0 := cen 0
  have q1 := cen 1
  have q2 := cen 2
  have q3 := cen 3
  simp only [Env.arr, List.getElem?_toArray, List.getElem?_cons_zero, List.getElem?_cons_succ] at q0 q1 q2 q3
  have HF1 := Lib.hid f1
  unfold Env.arr at hlook
  clear cen a1 f1 e4 h6
  go_wp2_with fail
  refine hlook.mono ?_
  rintro e w3 ⟨ht3, he3⟩
  have H3 := Lib.hid (RBes.turn H1.out.1 HB.out.2.2 HB.out.1 HF1.out ht3)
  have HT3 := Lib.hid ht3
  obtain ⟨rv, hrv⟩ : ∃ rv, e = .returned rv := by
    revert he3
    rcases (s.find it.key env).1 with _ | x
    · intro h; exact ⟨_, h⟩
    · rintro ⟨v, h, -⟩; exact ⟨_, h⟩
  subst hrv
  clear hlook ht3 he3 i0 q0 q1 q2 q3
  obtain ⟨col3, a3, f3⟩ := H3.out.run
  have hroom := room_any a3 HFG.out.2.1 (by omega) (by omega) it a c env hks hvs
  rw [HFG.out.1] at hroom
  obtain ⟨z, hz⟩ : ∃ z, s.roomed it env = z := ⟨_, rfl⟩
  have hz2 : St.room it (s.find it.key env).1.isSome ((s.find it.key env).2.less (s.find it.key env).1) env ((s.find it.key env).2.order.all.length + 1) (s.find it.key env).2 = z := hz
  rw [hz2] at hroom
  obtain ⟨zc, zs⟩ := z
  have HZ := Lib.hid hz
  have cel := fun j => Mem.row_cell H3.out.b1 j
  have i0 := cel 0
  have i1 := cel 1
  have i2 := cel 2
  have i3 := cel 3
  have i4 := cel 4
  have i5 := cel 5
  have i6 := cel 6
  have i7 := cel 7
  have i8 := cel 8
  have i9 := cel 9
  simp only [Item.arr, List.getElem?_toArray, List.getElem?_cons_zero, List.getElem?_cons_succ] at i0 i1 i2 i3 i4 i5 i6 i7 i8 i9
  have cen := fun j => Mem.row_cell H3.out.b2 j
  have q0 := cen 0
  have q1 := cen 1
  have q2 := cen 2
  have q3 := cen 3
  simp only [Env.arr, List.getElem?_toArray, List.getElem?_cons_zero, List.getElem?_cons_succ] at q0 q1 q2 q3
  have HF3 := Lib.hid f3
  unfold Item.arr Env.arr at hroom
  clear cen cel a3 f3 hz2
  go_wp2_with fail
  refine hroom.mono ?_
  rintro e w4 ⟨rfl, ht4⟩
  have H4 := Lib.hid (RBes.turn H3.out HB.out.2.2 HB.out.1 HF3.out ht4)
  have HT4 := Lib.hid ht4
  clear hroom ht4 i0 i1 i2 i3 i4 i5 i6 i7 i8 i9 q0 q1 q2 q3
  have hc3 : zc = 0 ∨ zc = 5 ∨ zc = 8 := by have := HRC.out; rw [HZ.out] at this; exact this
  have hbad : zc ≠ 0 → ∃ x, x = RoomPost W w (N + n + 4) b col y (.returned (.int .i64 zc)) w4 ∧ x := fun h0 => ⟨_, rfl, by
    have hyt : y = (zc, zs) := by
      rw [← HY.out]
      rcases H2.out with ⟨e1, _⟩ | ⟨_, _, _, ⟨e1, _⟩ | ⟨_, e1⟩⟩
      · exact absurd e1 H6.out
      · rw [HZ.out] at e1; exact absurd e1 h0
      · rw [e1, HZ.out]
    obtain ⟨col4, a4, f4⟩ := H4.out.run
    rw [hyt]
    exact ⟨rfl, col4, a4.more (by omega), (Fr.below HB.out.2.1).trans f4⟩⟩
  have HBAD := Lib.hid hbad
  clear hbad hz
  rcases hc3 with rfl | rfl | rfl
  case inr.inl =>
    go_wp2_with fail
    go_ret
    obtain ⟨x, rfl, hx⟩ := HBAD.out (by decide)
    exact hx
  case inr.inr =>
    go_wp2_with fail
    go_ret
    obtain ⟨x, rfl, hx⟩ := HBAD.out (by decide)
    exact hx
  case inl =>
    clear HBAD
    obtain ⟨old, ho⟩ : ∃ old, (s.find it.key env).1 = old := ⟨_, rfl⟩
    have HR : Hid (Ready n (N + n + 2) it old zs ∧ y = (0, zs.stored old fresh it) ∧ ∀ p ∈ zs.tab.L, p.2 ≠ fresh) := Lib.hid (by
      rcases H2.out with ⟨e1, _⟩ | ⟨_, e3, e4, ⟨_, e1, e2⟩ | ⟨e1, _⟩⟩
      · exact absurd e1 H6.out
      · rw [HZ.out, ho] at e1 e2
        rw [HZ.out] at e4
        exact ⟨e1, HY.out.symm.trans e2, fun p hp => HI.out.2.2.2 p (e4 p hp)⟩
      · rw [HZ.out] at e1; exact absurd rfl e1)
    have h4 := H4.out.more (show N + 1 + n ≤ N + n + 2 by omega)
    have hs4 : SrcB w4 (.slice a it.val.length c) it.val := by
      obtain ⟨col4, a4, f4⟩ := H4.out.run
      exact SrcB.same (HI.out.2.1.below HB.out.2.1) (fun hx g e hg => f4.keep hg (HI.out.2.2.1 hx g e)) f4.1.size
    clear ho H2 HY HZ HS H3 HT3 HF3 HT4 H4 H1 HF1 HFG HRC H6
    have hba := Mem.al (Below.refl w4.heap.size w4) (.cells (it.arr (.slice a it.val.length c)) 34)
    have nb := Mem.new_block w4 (.cells (it.arr (.slice a it.val.length c)) 34)
    have h5 := h4.below hba
    have cel := fun j => Mem.row_cell h4.b1 j
    have i0 := cel 0
    have i1 := cel 1
    have i2 := cel 2
    have i3 := cel 3
    have i4 := cel 4
    have i5 := cel 5
    have i6 := cel 6
    have i7 := cel 7
    have i8 := cel 8
    have i9 := cel 9
    simp only [Item.arr, List.getElem?_toArray, List.getElem?_cons_zero, List.getElem?_cons_succ] at i0 i1 i2 i3 i4 i5 i6 i7 i8 i9
    have k1 : (w4.alloc (.cells (it.arr (.slice a it.val.length c)) 34)).cell? ⟨w.heap.size, 1, none⟩ = some (.slice a it.val.length c) := Mem.row_cell h5.b1 1
    have hB3 : w0.heap.size ≤ w4.heap.size := by obtain ⟨_, _, f⟩ := h4.run; exact f.1.size
    have H4 := Lib.hid h4
    have H5 := Lib.hid (And.intro h5 (And.intro (hs4.below hba) nb))
    have HB3 : Hid (w.heap.size ≤ w.heap.size + 1 ∧ w.heap.size + 1 < w0.heap.size ∧ w0.heap.size ≤ w4.heap.size) := Lib.hid ⟨HB.out.2.2.1, HB.out.2.2.2, hB3⟩
    unfold Item.arr at k1 H5
    clear h4 h5 hs4 nb cel hba hB3
    go_wp2_with (first
      | (at_builtin; refine wpList_append_B _ _ _ it.val rfl rfl rfl rfl H5.out.2.1 (by omega) ?_; intro v5 w5 hown5 hb5; obtain ⟨y5, z5, hv5⟩ := Src.shape (Src.of_row hown5); subst hv5; have nb5 := (hb5.block _ (Array.getElem?_eq_some_iff.1 H5.out.2.2).1).trans H5.out.2.2; have p1 := Mem.row_cell nb5 1; have fz1 := Mem.row_free nb5 1; simp only [List.getElem?_toArray, List.getElem?_cons_zero, List.getElem?_cons_succ] at p1; have kk := (hb5.block _ (Array.getElem?_eq_some_iff.1 H5.out.1.b1).1).trans H5.out.1.b1; have H6 := Lib.hid (And.intro hown5 (And.intro hb5 nb5)); have hi5 : (w5.setCell ⟨w4.heap.size, 1, none⟩ (.slice y5 it.val.length z5)).cell? ⟨w.heap.size, 0, none⟩ = some (.string it.key) := (World.cell?_of_block (Below.heap_setCell _ _ _ _ (by have := (Array.getElem?_eq_some_iff.1 H4.out.b1).1; show w.heap.size ≠ w4.heap.size; omega))).trans (Mem.row_cell kk 0); clear hown5 hb5 nb5 k1 kk i0 i1 i2 i3 i4 i5 i6 i7 i8 i9)
      | fail)
    have ho6 := H4.out.owned HB.out.1 (arr := #[.string it.key, .slice a it.val.length c, .int .u32 it.flags, .int .i64 it.exp, .int .u64 it.cas, .int .i64 it.sec, .int .u64 it.seq, .bool it.stale, .bool it.won, .bool it.seen]) H6.out.2.1 H6.out.1 1 (.slice y5 it.val.length z5)
    obtain ⟨w6, hw6⟩ : ∃ w6, w5.setCell ⟨w4.heap.size, 1, none⟩ (.slice y5 it.val.length z5) = w6 := ⟨_, rfl⟩
    rw [hw6] at ho6 hi5 ⊢
    have H7 : Hid (ROwn W w0 (N + n + 2) b w.heap.size (w.heap.size + 1) w4.heap.size col (.cells (it.arr (.slice a it.val.length c)) 34 (0, 0)) (.cells env.arr 36 (0, 0)) (.cells (it.arr (.slice y5 it.val.length z5)) 34 (0, 0)) zs (.slice y5 it.val.length z5) it.val w6) := Lib.hid ho6
    have hat := H7.out.bes.at HR.out.1.inv (by omega) it.key
    obtain ⟨m, hm⟩ : ∃ m, place zs.tab.L it.key = m := ⟨_, rfl⟩
    rw [hm] at hat
    have HM := Lib.hid hm
    clear ho6 hw6 p1 fz1 H5 H6 hm
    rcases old with _ | x
    · have hgx : Tab.get zs.tab.L it.key = none := Tab.get_none.2 (HR.out.1.hnew rfl)
      rw [hgx] at hat
      have hpl := place_le zs.tab.L it.key
      have hpg := place_get HR.out.1.inv.rise it.key
      rw [HM.out] at hpl hpg
      have HPG : Hid (Tab.put zs.tab.L it.key fresh = zs.tab.L.take m ++ [(it.key, fresh)] ++ zs.tab.L.drop m) := Lib.hid (by
        rcases hpg with ⟨x, e1, e2, -, -⟩ | ⟨-, -, e3, -⟩
        · rw [hgx] at e2; cases e2
        · exact e3 fresh)
      have HPL := Lib.hid hpl
      have hzl := HR.out.1.inv.len
      obtain ⟨ti, hti, hz0, hz1, hz2⟩ := info_parts infoE
      clear hgx hpg
      go_wp2_with fail
      refine hat.mono ?_
      rintro e w7 ⟨rfl, h7, hb7⟩
      obtain ⟨mb2, c2, htake⟩ := (H7.out.below hb7).take HB3.out HR.out.1.inv.slab (by omega) it.size
      obtain ⟨⟨⟨t1, t2⟩, te⟩, htk⟩ : ∃ tk, (zs.slab.take it.size).1 = tk := ⟨_, rfl⟩
      simp only [htk] at htake
      have HTK := Lib.hid htk
      clear hat h7 hb7 hi5 H7 htk
      go_wp2_with fail
      refine htake.mono ?_
      rintro e w8 ⟨rfl, h8⟩
      clear htake c2
      have hba := Mem.al (Below.refl w8.heap.size w8) (.cells #[.int .i64 t1, .int .i64 t2] 77)
      have nb := Mem.new_block w8 (.cells #[.int .i64 t1, .int .i64 t2] 77)
      have h9 := h8.below hba
      obtain ⟨w9, hw9⟩ : ∃ w9, w8.alloc (.cells #[.int .i64 t1, .int .i64 t2] 77) = w9 := ⟨_, rfl⟩
      rw [hw9] at hba nb h9
      have H9 := Lib.hid h9
      obtain ⟨col9, ⟨ad, vL, vd, vv, hsb, r9⟩, f9, cc9⟩ := h9.run
      have HSB := Lib.hid hsb
      have HR9 := Lib.hid (And.intro r9 (And.intro f9 (And.intro h9.own cc9.1)))
      have hbl : b < w9.heap.size := by rw [← hsb]; exact (r9.lt _ _ r9.csb).2
      have hbz : b ≠ w.heap.size := fun e => by have := cc9.2 w.heap.size (Nat.le_refl _) (.inl (by have := HB3.out.2.1; omega)); rw [← e, ← hsb, r9.csb] at this; cases this
      have HL : Hid (w4.heap.size < w9.heap.size ∧ w8.heap.size < w9.heap.size ∧ b < w9.heap.size ∧ w9.frozen? ⟨b, 0, none⟩ = false ∧ w.heap.size < w9.heap.size ∧ w.heap.size ≠ b) := Lib.hid ⟨(Array.getElem?_eq_some_iff.1 h9.b3).1, (Array.getElem?_eq_some_iff.1 nb).1, hbl, by rw [← hsb]; exact Mem.row_free r9.self 0, (Array.getElem?_eq_some_iff.1 h9.b1).1, Ne.symm hbz⟩
      have HBX := Lib.hid (And.intro h9.b3 nb)
      have hcv := Mem.row_cell r9.self 0
      rw [hsb] at hcv
      simp only [List.getElem?_toArray, List.getElem?_cons_zero] at hcv
      by_cases hnil : vL = .slice none 0 0
      · have hL : zs.tab.L = [] := List.eq_nil_of_length_eq_zero (by
          have := r9.row
          rw [hnil] at this
          rcases this.2 with ⟨_, e⟩ | ⟨g, cap, cur, e, _⟩
          · exact e
          · cases e)
        have hm0 : m = 0 := by rw [hL] at hpl; simpa using hpl
        subst hm0
        have c9 : w9.cell? ⟨b, 0, none⟩ = some (.slice none 0 0) := by rw [← hnil]; exact hcv
        have HN := Lib.hid hL
        clear hba nb h8 h9 r9 f9 cc9 hsb hbl hbz hcv hnil hL hpl
        go_wp2_with (first
            | (at_builtin; refine wpList_append_src (.tmp 103) (.tmp 109) _ _ _ _ ti _ 12 104 w9.heap.size v11 _ (0 + 1) 0 ([] ++ (Ent.arr ⟨it, (t1, t2)⟩ (.slice y5 it.val.length z5)).toList) [] rfl rfl Tryz.underlying42 Tryz.underlying42 hti hz0 hz1 hz2 rfl (by decide) rfl rfl HBB.out.1 (.inl ⟨rfl, rfl, rfl⟩) (by simp) (by unfold maxLen; omega) (by omega) HBB.out.2.size ?_; intro v12 w12 hown12 hgr12 hat12; obtain ⟨y12, z12, hv12⟩ := Src.shape (Src.of_row hown12); rw [hv12] at hown12 ⊢; clear hv12; have HC := Lib.hid (And.intro hown12 (HBB.out.2.grown hgr12 HBB.out.2.size (fun g e => (own_block_lt HBB.out.1 g e).1))); have c12 : w12.cell? ⟨b, 0, none⟩ = some (.slice none 0 0) := (HC.out.2.cell (p := ⟨b, 0, none⟩) HL.out.2.2.1).trans c9; have f12 : w12.frozen? ⟨b, 0, none⟩ = false := (World.frozen?_of_block (HC.out.2.block b HL.out.2.2.1)).trans HL.out.2.2.2.1; clear hown12 hgr12 hat12 c11)
            | (at_builtin; refine wpList_append_src (.tmp 97) (.tmp 101) _ _ _ _ ti _ 12 104 w9.heap.size v10 _ 0 1 [] (Ent.arr ⟨it, (t1, t2)⟩ (.slice y5 it.val.length z5)).toList rfl rfl Tryz.underlying42 Tryz.underlying42 hti hz0 hz1 hz2 rfl (by decide) rfl rfl (HA.out.1.alloc _) (src_entry w10 ⟨it, (t1, t2)⟩ (.slice y5 it.val.length z5)) (arr_one _ rfl) (by unfold maxLen; omega) (by omega) (by have := HA.out.2.size; simp; omega) ?_; intro v11 w11 hown11 hgr11 hat11; have hb11 : Below w9.heap.size w9 w11 := (HA.out.2.alloc HA.out.2.size _).grown hgr11 (by have := HA.out.2.size; simp; omega) (fun g e => (own_block_lt HA.out.1 g e).1); have HBB := Lib.hid (And.intro hown11 hb11); have c11 : w11.cell? ⟨b, 0, none⟩ = some (.slice none 0 0) := (hb11.cell (p := ⟨b, 0, none⟩) HL.out.2.2.1).trans c9; clear hown11 hgr11 hat11 hb11 p0 p1 p2 p3 p4 p5 p6 p7 p8 p9 n0 n1)
            | (at_builtin; refine wpList_append_src _ (.tmp 95) _ _ _ _ ti _ 12 104 w9.heap.size _ _ 0 0 [] [] rfl rfl Tryz.underlying42 Tryz.underlying42 hti hz0 hz1 hz2 rfl (by decide) rfl rfl (World.ownsRow_nil _ _ _ _) (.inl ⟨rfl, rfl, rfl⟩) (by simp) (by unfold maxLen; omega) (by omega) (Nat.le_refl _) ?_; intro v10 w10 hown10 hgr10 hat10; rw [Nat.zero_add, List.nil_append] at hown10; have hb10 : Below w9.heap.size w9 w10 := (Below.refl _ w9).grown hgr10 (Nat.le_refl _) (fun g e => by cases e); have nbo := (hb10.block _ HL.out.1).trans HBX.out.1; have nbc := (hb10.block _ HL.out.2.1).trans HBX.out.2; have cel := fun j => Mem.row_cell nbo j; have p0 := cel 0; have p1 := cel 1; have p2 := cel 2; have p3 := cel 3; have p4 := cel 4; have p5 := cel 5; have p6 := cel 6; have p7 := cel 7; have p8 := cel 8; have p9 := cel 9; have n0 := Mem.row_cell nbc 0; have n1 := Mem.row_cell nbc 1; simp only [Item.arr, List.getElem?_toArray, List.getElem?_cons_zero, List.getElem?_cons_succ] at p0 p1 p2 p3 p4 p5 p6 p7 p8 p9 n0 n1; have HA := Lib.hid (And.intro hown10 hb10); clear hown10 hgr10 hat10 hb10 nbo nbc cel)
            | fail)
        have hq : w12.ownsRow w9.heap.size 79 12 (.slice y12 1 z12) (0 + 1 + (zs.tab.L.length - 0)) (cellsE zs.ent vv (zs.tab.L.take 0) ++ (Ent.arr ⟨it, (t1, t2)⟩ (.slice y5 it.val.length z5)).toList ++ cellsE zs.ent vv (zs.tab.L.drop 0)) := by rw [HN.out]; exact HC.out.1
        obtain ⟨col12, r12, f12'⟩ := HR9.out.1.putRow (k := it.key) (x := ⟨it, (t1, t2)⟩) HC.out.2 HPG.out HPL.out HR.out.2.2 HR9.out.2.2.1 HR9.out.2.2.2 hq
        rw [HSB.out] at r12 f12'
        obtain ⟨w13, hw13⟩ : ∃ w13, w12.setCell ⟨b, 0, none⟩ (.slice y12 1 z12) = w13 := ⟨_, rfl⟩
        rw [hw13] at r12 f12' ⊢
        have c13 : w13.cell? ⟨b, 2, none⟩ = some (.pointer (some ⟨ad.ob, 0, none⟩)) := by rw [← HSB.out]; exact Mem.row_cell r12.self 2
        have hbk : w13.heap[w.heap.size]? = some (.cells (it.arr (.slice a it.val.length c)) 34 (0, 0)) := by rw [← hw13]; exact (Below.heap_setCell _ _ _ _ (by have := HL.out.2.2.2.2.2; exact this)).trans ((HC.out.2.block _ HL.out.2.2.2.2.1).trans H9.out.b1)
        have i13 : w13.cell? ⟨w.heap.size, 0, none⟩ = some (.string it.key) := Mem.row_cell hbk 0
        have hadd := (r12.step (Below.drew (Below.refl _ w13))).oadd (by show zs.order.all.length ≤ _; have := HR.out.1.inv.olen; have := HR.out.1.inv.len; omega) it.key
        have HF12 := Lib.hid ((HR9.out.2.1.trans f12').trans (Fr.below (Below.drew (Below.refl _ w13))))
        clear hq r12 f12' hw13 hbk c12 f12 c9
        go_wp2_with fail
        refine wp_region_still_tail 6 (by kernel_rfl) (by kernel_rfl) ?_
        simp only [List.take_succ_cons, List.take_zero, List.drop_succ_cons, List.drop_zero]
        repeat still_step
        refine wpStill_nil ?_
        change wpList _ _ _ _ _ w13.drew
        go_wp2_with fail
        refine hadd.mono ?_
        rintro e w14 ⟨col14, rfl, r14, f14⟩
        have H14 := Lib.hid (And.intro r14 (HF12.out.trans f14))
        clear hadd r14 f14 c13 i13
        go_wp2_with fail
        go_ret
        rw [HR.out.2.1]
        refine ⟨rfl, col14, RAt.congr ⟨ad, _, _, _, HSB.out, H14.out.1.more (by omega)⟩ rfl ?_ rfl rfl rfl rfl, (Fr.below HB.out.2.1).trans H14.out.2⟩
        show upd zs.ent fresh ⟨it, (zs.slab.take it.size).1.1⟩ = upd zs.ent fresh ⟨it, (t1, t2)⟩
        rw [HTK.out]
      obtain ⟨aL, cL, hvL, hcL, hcell⟩ := r9.shape
      obtain ⟨g, haL⟩ : ∃ g, aL = some ⟨g, 0, none⟩ := by
        rcases r9.row.2 with ⟨e, _⟩ | ⟨g, cap, cur, e, _⟩
        · exact absurd e hnil
        · rw [hvL] at e; injection e with e; exact ⟨g, e⟩
      subst haL
      replace hcL : zs.tab.L.length ≤ cL := hcL
      have c9 : w9.cell? ⟨b, 0, none⟩ = some (.slice (some ⟨g, 0, none⟩) zs.tab.L.length cL) := by rw [hcv, hvL]
      have hsrc := r9.parts hvL
      have HSRC : Hid (∀ m c', m ≤ zs.tab.L.length → Src w9 12 (.slice (some ⟨g, 0, none⟩) m c') m (cellsE zs.ent vv (zs.tab.L.take m)) ∧ Src w9 12 (.slice (some ⟨g, m * 12, none⟩) (zs.tab.L.length - m) c') (zs.tab.L.length - m) (cellsE zs.ent vv (zs.tab.L.drop m))) := Lib.hid hsrc
      have HONE : Hid (∀ (L : Tab.Pairs Nat), (∀ p ∈ L, p ∈ zs.tab.L) → ∀ u ∈ cellsE zs.ent vv L, u.oneCell' = true) := Lib.hid r9.one
      have HGL : Hid (g < w9.heap.size) := Lib.hid (r9.lt g _ (r9.crow g (by rw [hvL]; rfl))).2
      obtain ⟨r, hr⟩ : ∃ r, zs.tab.L.length = m + r := ⟨zs.tab.L.length - m, by omega⟩
      have hmc : m ≤ cL := by omega
      have hmi : (m : Int) ≤ zs.tab.L.length := by omega
      have hzz : zs.tab.L.length ≤ 1000 := by omega
      clear hba nb h8 h9 r9 f9 cc9 hsb hbl hbz hcv hnil hsrc hcell hvL
      by_cases hcm : cL = m
      · obtain rfl : m = cL := hcm.symm
        have hr0 : r = 0 := by omega
        subst hr0
        go_wp2_with (first
            | (at_builtin; refine wpList_append_src (.tmp 103) (.tmp 109) _ _ _ _ ti _ 12 104 w9.heap.size v11 _ (m + 1) 0 ((cellsE zs.ent vv (zs.tab.L.take m)) ++ (Ent.arr ⟨it, (t1, t2)⟩ (.slice y5 it.val.length z5)).toList) [] rfl rfl Tryz.underlying42 Tryz.underlying42 hti hz0 hz1 hz2 rfl (by decide) rfl rfl HBB.out.1 (src_none (c := 0) HBB.out.2 HGL.out) (by simp) (by unfold maxLen; omega) (by omega) HBB.out.2.size ?_; intro v12 w12 hown12 hgr12 hat12; obtain ⟨y12, z12, hv12⟩ := Src.shape (Src.of_row hown12); rw [hv12] at hown12 ⊢; clear hv12; have HC := Lib.hid (And.intro hown12 (HBB.out.2.grown hgr12 HBB.out.2.size (fun g e => (own_block_lt HBB.out.1 g e).1))); have c12 : w12.cell? ⟨b, 0, none⟩ = some (.slice (some ⟨g, 0, none⟩) zs.tab.L.length m) := (HC.out.2.cell (p := ⟨b, 0, none⟩) HL.out.2.2.1).trans c9; have f12 : w12.frozen? ⟨b, 0, none⟩ = false := (World.frozen?_of_block (HC.out.2.block b HL.out.2.2.1)).trans HL.out.2.2.2.1; clear hown12 hgr12 hat12 c11)
            | (at_builtin; refine wpList_append_src (.tmp 97) (.tmp 101) _ _ _ _ ti _ 12 104 w9.heap.size v10 _ m 1 (cellsE zs.ent vv (zs.tab.L.take m)) (Ent.arr ⟨it, (t1, t2)⟩ (.slice y5 it.val.length z5)).toList rfl rfl Tryz.underlying42 Tryz.underlying42 hti hz0 hz1 hz2 rfl (by decide) rfl rfl (HA.out.1.alloc _) (src_entry w10 ⟨it, (t1, t2)⟩ (.slice y5 it.val.length z5)) (arr_one _ rfl) (by unfold maxLen; omega) (by omega) (by have := HA.out.2.size; simp; omega) ?_; intro v11 w11 hown11 hgr11 hat11; have hb11 : Below w9.heap.size w9 w11 := (HA.out.2.alloc HA.out.2.size _).grown hgr11 (by have := HA.out.2.size; simp; omega) (fun g e => (own_block_lt HA.out.1 g e).1); have HBB := Lib.hid (And.intro hown11 hb11); have c11 : w11.cell? ⟨b, 0, none⟩ = some (.slice (some ⟨g, 0, none⟩) zs.tab.L.length m) := (hb11.cell (p := ⟨b, 0, none⟩) HL.out.2.2.1).trans c9; clear hown11 hgr11 hat11 hb11 p0 p1 p2 p3 p4 p5 p6 p7 p8 p9 n0 n1)
            | (at_builtin; refine wpList_append_src _ (.tmp 95) _ _ _ _ ti _ 12 104 w9.heap.size _ _ 0 m [] (cellsE zs.ent vv (zs.tab.L.take m)) rfl rfl Tryz.underlying42 Tryz.underlying42 hti hz0 hz1 hz2 rfl (by decide) rfl rfl (World.ownsRow_nil _ _ _ _) ((HSRC.out m m HPL.out).1) (HONE.out _ fun p hp => List.mem_of_mem_take hp) (by unfold maxLen; omega) (by omega) (Nat.le_refl _) ?_; intro v10 w10 hown10 hgr10 hat10; rw [Nat.zero_add, List.nil_append] at hown10; have hb10 : Below w9.heap.size w9 w10 := (Below.refl _ w9).grown hgr10 (Nat.le_refl _) (fun g e => by cases e); have nbo := (hb10.block _ HL.out.1).trans HBX.out.1; have nbc := (hb10.block _ HL.out.2.1).trans HBX.out.2; have cel := fun j => Mem.row_cell nbo j; have p0 := cel 0; have p1 := cel 1; have p2 := cel 2; have p3 := cel 3; have p4 := cel 4; have p5 := cel 5; have p6 := cel 6; have p7 := cel 7; have p8 := cel 8; have p9 := cel 9; have n0 := Mem.row_cell nbc 0; have n1 := Mem.row_cell nbc 1; simp only [Item.arr, List.getElem?_toArray, List.getElem?_cons_zero, List.getElem?_cons_succ] at p0 p1 p2 p3 p4 p5 p6 p7 p8 p9 n0 n1; have HA := Lib.hid (And.intro hown10 hb10); clear hown10 hgr10 hat10 hb10 nbo nbc cel)
            | fail)
        have hq : w12.ownsRow w9.heap.size 79 12 (.slice y12 (m + 1) z12) (m + 1 + (zs.tab.L.length - m)) (cellsE zs.ent vv (zs.tab.L.take m) ++ (Ent.arr ⟨it, (t1, t2)⟩ (.slice y5 it.val.length z5)).toList ++ cellsE zs.ent vv (zs.tab.L.drop m)) := by
          have h0 : zs.tab.L.length - m = 0 := by omega
          have hd0 : zs.tab.L.drop m = [] := List.drop_of_length_le (by omega)
          rw [h0, hd0]; exact HC.out.1
        obtain ⟨col12, r12, f12'⟩ := HR9.out.1.putRow (k := it.key) (x := ⟨it, (t1, t2)⟩) HC.out.2 HPG.out HPL.out HR.out.2.2 HR9.out.2.2.1 HR9.out.2.2.2 hq
        rw [HSB.out] at r12 f12'
        obtain ⟨w13, hw13⟩ : ∃ w13, w12.setCell ⟨b, 0, none⟩ (.slice y12 (m + 1) z12) = w13 := ⟨_, rfl⟩
        rw [hw13] at r12 f12' ⊢
        have c13 : w13.cell? ⟨b, 2, none⟩ = some (.pointer (some ⟨ad.ob, 0, none⟩)) := by rw [← HSB.out]; exact Mem.row_cell r12.self 2
        have hbk : w13.heap[w.heap.size]? = some (.cells (it.arr (.slice a it.val.length c)) 34 (0, 0)) := by rw [← hw13]; exact (Below.heap_setCell _ _ _ _ (by have := HL.out.2.2.2.2.2; exact this)).trans ((HC.out.2.block _ HL.out.2.2.2.2.1).trans H9.out.b1)
        have i13 : w13.cell? ⟨w.heap.size, 0, none⟩ = some (.string it.key) := Mem.row_cell hbk 0
        have hadd := (r12.step (Below.drew (Below.refl _ w13))).oadd (by show zs.order.all.length ≤ _; have := HR.out.1.inv.olen; have := HR.out.1.inv.len; omega) it.key
        have HF12 := Lib.hid ((HR9.out.2.1.trans f12').trans (Fr.below (Below.drew (Below.refl _ w13))))
        clear hq r12 f12' hw13 hbk c12 f12 c9
        go_wp2_with fail
        refine wp_region_still_tail 6 (by kernel_rfl) (by kernel_rfl) ?_
        simp only [List.take_succ_cons, List.take_zero, List.drop_succ_cons, List.drop_zero]
        repeat still_step
        refine wpStill_nil ?_
        change wpList _ _ _ _ _ w13.drew
        go_wp2_with fail
        refine hadd.mono ?_
        rintro e w14 ⟨col14, rfl, r14, f14⟩
        have H14 := Lib.hid (And.intro r14 (HF12.out.trans f14))
        clear hadd r14 f14 c13 i13
        go_wp2_with fail
        go_ret
        rw [HR.out.2.1]
        refine ⟨rfl, col14, RAt.congr ⟨ad, _, _, _, HSB.out, H14.out.1.more (by omega)⟩ rfl ?_ rfl rfl rfl rfl, (Fr.below HB.out.2.1).trans H14.out.2⟩
        show upd zs.ent fresh ⟨it, (zs.slab.take it.size).1.1⟩ = upd zs.ent fresh ⟨it, (t1, t2)⟩
        rw [HTK.out]
      · go_wp2_with (first
            | (at_builtin; refine wpList_append_src (.tmp 103) (.tmp 109) _ _ _ _ ti _ 12 104 w9.heap.size v11 _ (m + 1) r ((cellsE zs.ent vv (zs.tab.L.take m)) ++ (Ent.arr ⟨it, (t1, t2)⟩ (.slice y5 it.val.length z5)).toList) (cellsE zs.ent vv (zs.tab.L.drop m)) rfl rfl Tryz.underlying42 Tryz.underlying42 hti hz0 hz1 hz2 rfl (by decide) rfl rfl HBB.out.1 (by have := ((HSRC.out m (cL - m) HPL.out).2).below HBB.out.2; rw [show zs.tab.L.length - m = r from by omega] at this; exact this) (HONE.out _ fun p hp => List.mem_of_mem_drop hp) (by unfold maxLen; omega) (by omega) HBB.out.2.size ?_; intro v12 w12 hown12 hgr12 hat12; obtain ⟨y12, z12, hv12⟩ := Src.shape (Src.of_row hown12); rw [hv12] at hown12 ⊢; clear hv12; have HC := Lib.hid (And.intro hown12 (HBB.out.2.grown hgr12 HBB.out.2.size (fun g e => (own_block_lt HBB.out.1 g e).1))); have c12 : w12.cell? ⟨b, 0, none⟩ = some (.slice (some ⟨g, 0, none⟩) zs.tab.L.length cL) := (HC.out.2.cell (p := ⟨b, 0, none⟩) HL.out.2.2.1).trans c9; have f12 : w12.frozen? ⟨b, 0, none⟩ = false := (World.frozen?_of_block (HC.out.2.block b HL.out.2.2.1)).trans HL.out.2.2.2.1; clear hown12 hgr12 hat12 c11)
            | (at_builtin; refine wpList_append_src (.tmp 97) (.tmp 101) _ _ _ _ ti _ 12 104 w9.heap.size v10 _ m 1 (cellsE zs.ent vv (zs.tab.L.take m)) (Ent.arr ⟨it, (t1, t2)⟩ (.slice y5 it.val.length z5)).toList rfl rfl Tryz.underlying42 Tryz.underlying42 hti hz0 hz1 hz2 rfl (by decide) rfl rfl (HA.out.1.alloc _) (src_entry w10 ⟨it, (t1, t2)⟩ (.slice y5 it.val.length z5)) (arr_one _ rfl) (by unfold maxLen; omega) (by omega) (by have := HA.out.2.size; simp; omega) ?_; intro v11 w11 hown11 hgr11 hat11; have hb11 : Below w9.heap.size w9 w11 := (HA.out.2.alloc HA.out.2.size _).grown hgr11 (by have := HA.out.2.size; simp; omega) (fun g e => (own_block_lt HA.out.1 g e).1); have HBB := Lib.hid (And.intro hown11 hb11); have c11 : w11.cell? ⟨b, 0, none⟩ = some (.slice (some ⟨g, 0, none⟩) zs.tab.L.length cL) := (hb11.cell (p := ⟨b, 0, none⟩) HL.out.2.2.1).trans c9; clear hown11 hgr11 hat11 hb11 p0 p1 p2 p3 p4 p5 p6 p7 p8 p9 n0 n1)
            | (at_builtin; refine wpList_append_src _ (.tmp 95) _ _ _ _ ti _ 12 104 w9.heap.size _ _ 0 m [] (cellsE zs.ent vv (zs.tab.L.take m)) rfl rfl Tryz.underlying42 Tryz.underlying42 hti hz0 hz1 hz2 rfl (by decide) rfl rfl (World.ownsRow_nil _ _ _ _) ((HSRC.out m cL HPL.out).1) (HONE.out _ fun p hp => List.mem_of_mem_take hp) (by unfold maxLen; omega) (by omega) (Nat.le_refl _) ?_; intro v10 w10 hown10 hgr10 hat10; rw [Nat.zero_add, List.nil_append] at hown10; have hb10 : Below w9.heap.size w9 w10 := (Below.refl _ w9).grown hgr10 (Nat.le_refl _) (fun g e => by cases e); have nbo := (hb10.block _ HL.out.1).trans HBX.out.1; have nbc := (hb10.block _ HL.out.2.1).trans HBX.out.2; have cel := fun j => Mem.row_cell nbo j; have p0 := cel 0; have p1 := cel 1; have p2 := cel 2; have p3 := cel 3; have p4 := cel 4; have p5 := cel 5; have p6 := cel 6; have p7 := cel 7; have p8 := cel 8; have p9 := cel 9; have n0 := Mem.row_cell nbc 0; have n1 := Mem.row_cell nbc 1; simp only [Item.arr, List.getElem?_toArray, List.getElem?_cons_zero, List.getElem?_cons_succ] at p0 p1 p2 p3 p4 p5 p6 p7 p8 p9 n0 n1; have HA := Lib.hid (And.intro hown10 hb10); clear hown10 hgr10 hat10 hb10 nbo nbc cel)
            | fail)
        have hq : w12.ownsRow w9.heap.size 79 12 (.slice y12 (m + 1 + r) z12) (m + 1 + (zs.tab.L.length - m)) (cellsE zs.ent vv (zs.tab.L.take m) ++ (Ent.arr ⟨it, (t1, t2)⟩ (.slice y5 it.val.length z5)).toList ++ cellsE zs.ent vv (zs.tab.L.drop m)) := by
          have h0 : zs.tab.L.length - m = r := by omega
          rw [h0]; exact HC.out.1
        obtain ⟨col12, r12, f12'⟩ := HR9.out.1.putRow (k := it.key) (x := ⟨it, (t1, t2)⟩) HC.out.2 HPG.out HPL.out HR.out.2.2 HR9.out.2.2.1 HR9.out.2.2.2 hq
        rw [HSB.out] at r12 f12'
        obtain ⟨w13, hw13⟩ : ∃ w13, w12.setCell ⟨b, 0, none⟩ (.slice y12 (m + 1 + r) z12) = w13 := ⟨_, rfl⟩
        rw [hw13] at r12 f12' ⊢
        have c13 : w13.cell? ⟨b, 2, none⟩ = some (.pointer (some ⟨ad.ob, 0, none⟩)) := by rw [← HSB.out]; exact Mem.row_cell r12.self 2
        have hbk : w13.heap[w.heap.size]? = some (.cells (it.arr (.slice a it.val.length c)) 34 (0, 0)) := by rw [← hw13]; exact (Below.heap_setCell _ _ _ _ (by have := HL.out.2.2.2.2.2; exact this)).trans ((HC.out.2.block _ HL.out.2.2.2.2.1).trans H9.out.b1)
        have i13 : w13.cell? ⟨w.heap.size, 0, none⟩ = some (.string it.key) := Mem.row_cell hbk 0
        have hadd := (r12.step (Below.drew (Below.refl _ w13))).oadd (by show zs.order.all.length ≤ _; have := HR.out.1.inv.olen; have := HR.out.1.inv.len; omega) it.key
        have HF12 := Lib.hid ((HR9.out.2.1.trans f12').trans (Fr.below (Below.drew (Below.refl _ w13))))
        clear hq r12 f12' hw13 hbk c12 f12 c9
        go_wp2_with fail
        refine wp_region_still_tail 6 (by kernel_rfl) (by kernel_rfl) ?_
        simp only [List.take_succ_cons, List.take_zero, List.drop_succ_cons, List.drop_zero]
        repeat still_step
        refine wpStill_nil ?_
        change wpList _ _ _ _ _ w13.drew
        go_wp2_with fail
        refine hadd.mono ?_
        rintro e w14 ⟨col14, rfl, r14, f14⟩
        have H14 := Lib.hid (And.intro r14 (HF12.out.trans f14))
        clear hadd r14 f14 c13 i13
        go_wp2_with fail
        go_ret
        rw [HR.out.2.1]
        refine ⟨rfl, col14, RAt.congr ⟨ad, _, _, _, HSB.out, H14.out.1.more (by omega)⟩ rfl ?_ rfl rfl rfl rfl, (Fr.below HB.out.2.1).trans H14.out.2⟩
        show upd zs.ent fresh ⟨it, (zs.slab.take it.size).1.1⟩ = upd zs.ent fresh ⟨it, (t1, t2)⟩
        rw [HTK.out]
    · have hgx : Tab.get zs.tab.L it.key = some x := (Tab.get_mem HR.out.1.inv.rise.nodup).2 (HR.out.1.hold x rfl)
      rw [hgx] at hat
      have HG := Lib.hid hgx
      clear hgx
      go_wp2_with fail
      refine hat.mono ?_
      rintro e w7 ⟨rfl, h7, hb7⟩
      have h7o := H7.out.below hb7
      have H8 := Lib.hid h7o
      clear hat h7 hb7 hi5 H7
      obtain ⟨g, c7, va, vc, e1, c0, hcl, -⟩ := H8.out.bes.cells HR.out.1.inv HG.out
      rw [HM.out] at e1 hcl
      have HE := Lib.hid e1
      have hml := (List.getElem?_eq_some_iff.1 e1).1
      have hmi : (m : Int) < zs.tab.L.length := by omega
      have hm0 : (0 : Int) ≤ m := by omega
      obtain ⟨⟨k1, k2⟩, hck⟩ : ∃ c, (zs.ent x).chunk = c := ⟨_, rfl⟩
      have d10 : w7.cell? ⟨g, m * 12 + 10, none⟩ = some (.int .i64 k1) := by rw [hcl 10 (by omega)]; show some (Value.int .i64 (zs.ent x).chunk.1) = _; rw [hck]
      have d11 : w7.cell? ⟨g, m * 12 + 11, none⟩ = some (.int .i64 k2) := by rw [hcl 11 (by omega)]; show some (Value.int .i64 (zs.ent x).chunk.2) = _; rw [hck]
      obtain ⟨mb, c1, hfree⟩ := (H8.out.below (Below.drew (Below.refl _ w7))).free HB3.out HR.out.1.inv.slab (by omega) k1 k2
      replace c1 : w7.cell? ⟨b, 1, none⟩ = some (.pointer (some ⟨mb, 0, none⟩)) := c1
      have HCK := Lib.hid hck
      clear h7o e1 hcl hck
      go_wp2_with fail
      refine wp_region_still_tail 12 (by kernel_rfl) (by kernel_rfl) ?_
      simp only [List.take_succ_cons, List.take_zero, List.drop_succ_cons, List.drop_zero]
      repeat still_step
      refine wpStill_nil ?_
      change wpList _ _ _ _ _ w7.drew
      go_wp2_with fail
      refine hfree.mono ?_
      rintro e w8 ⟨rfl, h8⟩
      obtain ⟨mb2, c2, htake⟩ := h8.take HB3.out (HR.out.1.inv.slab.free (k1, k2)) (by omega) it.size
      obtain ⟨⟨⟨t1, t2⟩, te⟩, htk⟩ : ∃ tk, ((zs.slab.free (k1, k2)).2.take it.size).1 = tk := ⟨_, rfl⟩
      simp only [htk] at htake
      have HTK := Lib.hid htk
      clear hfree h8 c0 c1 d10 d11 htk
      go_wp2_with fail
      refine htake.mono ?_
      rintro e w9 ⟨rfl, h9⟩
      clear htake c2
      have hba := Mem.al (Below.refl w9.heap.size w9) (.cells #[.int .i64 t1, .int .i64 t2] 77)
      have nb := Mem.new_block w9 (.cells #[.int .i64 t1, .int .i64 t2] 77)
      have h10 := h9.below hba
      obtain ⟨w10, hw10⟩ : ∃ w10, w9.alloc (.cells #[.int .i64 t1, .int .i64 t2] 77) = w10 := ⟨_, rfl⟩
      rw [hw10] at hba nb h10
      have H10 := Lib.hid (And.intro h10 nb)
      obtain ⟨col10, ⟨ad, vL, vd, vv, hsb, r9⟩, f9, cc10⟩ := h9.run
      obtain ⟨aL, cL, hvL, -, hcell⟩ := r9.shape
      obtain ⟨gL, haL, -⟩ := hcell m _ HE.out
      subst haL
      have hgl : gL < w9.heap.size := (r9.lt gL _ (r9.crow gL (by rw [hvL]; rfl))).2
      have r10 := r9.step hba
      have f10 := f9.trans (Fr.below hba)
      have c10 : w10.cell? ⟨b, 0, none⟩ = some (.slice (some ⟨gL, 0, none⟩) zs.tab.L.length cL) := by rw [← hsb, ← hvL]; exact Mem.row_cell r10.self 0
      have cel := fun j => Mem.row_cell h10.b3 j
      have p0 := cel 0
      have p1 := cel 1
      have p2 := cel 2
      have p3 := cel 3
      have p4 := cel 4
      have p5 := cel 5
      have p6 := cel 6
      have p7 := cel 7
      have p8 := cel 8
      have p9 := cel 9
      simp only [Item.arr, List.getElem?_toArray, List.getElem?_cons_zero, List.getElem?_cons_succ] at p0 p1 p2 p3 p4 p5 p6 p7 p8 p9
      have r10d := r10.step (Below.drew (Below.refl _ w10))
      have hap := Inv.only_at HR.out.1.inv HE.out
      have hst := r10d.storeItem hvL HE.out hap it (h10.own.below (Below.drew (Below.refl _ w10))) cc10.1
      have hth := r10d.there (off := 0) (len := 10) hvL HE.out (by omega)
      have H11 := Lib.hid (And.intro hst (And.intro hth (f10.trans (Fr.below (Below.drew (Below.refl _ w10))))))
      have HSB := Lib.hid (And.intro hsb (And.intro hvL hap))
      have HGL := Lib.hid hgl
      clear hba nb h9 h10 r9 f9 r10 r10d f10 cc10 hcell cel hst hth hvL hsb hap hgl
      go_wp2_with fail
      refine wp_region_still_tail 8 (by kernel_rfl) (by kernel_rfl) ?_
      simp only [List.take_succ_cons, List.take_zero, List.drop_succ_cons, List.drop_zero]
      repeat still_step
      refine wpStill_nil ?_
      change wpList _ _ _ _ _ w10.drew
      go_wp2_with (first | (refine wpList_store_mid rfl 34 _ _ rfl gL (m * 12) (it.arr (.slice y5 it.val.length z5)) rfl rfl H11.out.2.1 (item_size it _) (one_of rfl) ?_) | fail)
      have r11 := H11.out.1.1
      have f11 := H11.out.1.2
      have nb11 : (w10.drew.setCells gL (m * 12) (it.arr (.slice y5 it.val.length z5)).toList).heap[w9.heap.size]? = some (.cells #[.int .i64 t1, .int .i64 t2] 77 (0, 0)) := (Mem.set_cells_far _ _ (by have := HGL.out; omega)).trans H10.out.2
      obtain ⟨w11, hw11⟩ : ∃ w11, w10.drew.setCells gL (m * 12) (it.arr (.slice y5 it.val.length z5)).toList = w11 := ⟨_, rfl⟩
      rw [hw11] at r11 f11 nb11 ⊢
      have c11 : w11.cell? ⟨b, 0, none⟩ = some (.slice (some ⟨gL, 0, none⟩) zs.tab.L.length cL) := by rw [← HSB.out.1, ← HSB.out.2.1]; exact Mem.row_cell r11.self 0
      have n0 := Mem.row_cell nb11 0
      have n1 := Mem.row_cell nb11 1
      simp only [List.getElem?_toArray, List.getElem?_cons_zero, List.getElem?_cons_succ] at n0 n1
      have r11d := r11.step (Below.drew (Below.refl _ w11))
      have hst := r11d.storeChunk HSB.out.2.1 HE.out HSB.out.2.2 (t1, t2)
      have hth := r11d.there (off := 10) (len := 2) HSB.out.2.1 HE.out (by omega)
      have H12 := Lib.hid (And.intro hst (And.intro hth ((H11.out.2.2.trans f11).trans (Fr.below (Below.drew (Below.refl _ w11))))))
      clear r11 f11 nb11 hw11 r11d hst hth c10 p0 p1 p2 p3 p4 p5 p6 p7 p8 p9
      go_wp2_with fail
      refine wp_region_still_tail 8 (by kernel_rfl) (by kernel_rfl) ?_
      simp only [List.take_succ_cons, List.take_zero, List.drop_succ_cons, List.drop_zero]
      repeat still_step
      refine wpStill_nil ?_
      change wpList _ _ _ _ _ w11.drew
      go_wp2_with (first | (refine wpList_store_mid rfl 77 _ _ rfl gL (m * 12 + 10) #[.int .i64 t1, .int .i64 t2] rfl rfl H12.out.2.1 (chunk_size _ _) (chunk_one _ _) ?_) | fail)
      go_ret
      rw [HR.out.2.1]
      refine ⟨rfl, col10, RAt.congr ⟨ad, _, _, _, HSB.out.1, H12.out.1.1.more (by omega)⟩ rfl ?_ ?_ rfl rfl rfl, ((Fr.below HB.out.2.1).trans H12.out.2.2).trans H12.out.1.2⟩
      · show upd zs.ent x ⟨it, ((zs.slab.free (zs.ent x).chunk).2.take it.size).1.1⟩ = upd (upd zs.ent x ⟨it, (zs.ent x).chunk⟩) x ⟨(upd zs.ent x ⟨it, (zs.ent x).chunk⟩ x).it, (t1, t2)⟩
        rw [HCK.out, HTK.out, upd_same]
        funext j
        unfold upd
        split <;> rfl
      · show ((zs.slab.free (zs.ent x).chunk).2.take it.size).2 = ((zs.slab.free (k1, k2)).2.take it.size).2
        rw [HCK.out]
end
end Go.Proofs.YteonjgnnpgpnnaaGreat.RefSh

/- Layer 11: what a store does to the parts. -/
namespace Go.Proofs.YteonjgnnpgpnnaaGreat.Shard
open Go Go.RowKit Go.Proofs.YteonjgnnpgpnnaaGreat.Mem Go.Proofs.YteonjgnnpgpnnaaGreat.App

section
variable {W w0 w w' : World} {n m n0 N b B B' : Nat} {hl hl' : Nat → Prop} {col : Col} {ad : Addrs} {seed : Int} {o1 o2 : Obj} {s : St} {vd : Value} {vv : Nat → Value}
theorem Parts.hole (h : Parts W w n hl col ad seed s vd vv) (hh : ∀ k, hl k → hl' k) : Parts W w n hl' col ad seed s vd vv :=
  ⟨h.self, h.csb, h.tab, h.sm, h.slab, h.order, h.judge, h.cj, h.drops, h.cd, fun q hq hn => h.ents q hq (fun e => hn (hh _ e)), h.lt, h.below⟩
theorem Parts.more (h : Parts W w n hl col ad seed s vd vv) (hm : n ≤ m) (hm2 : m ≤ 1000000000) : Parts W w m hl col ad seed s vd vv :=
  ⟨h.self, h.csb, h.tab, h.sm.mono hm hm2, h.slab, h.order, h.judge, h.cj, h.drops, h.cd, h.ents, h.lt, h.below⟩
theorem At.more (h : At W w n b col seed s) (hm : n ≤ m) (hm2 : m ≤ 1000000000) : At W w m b col seed s := by
  obtain ⟨ad, vd, vv, e, h⟩ := h
  exact ⟨ad, vd, vv, e, h.more hm hm2⟩
/-- A block of the caller's own becomes an entry's. -/
def paint (col : Col) (x : Nat) : Col := fun k => if k = x then some (.ent x) else col k
theorem Parts.paint (h : Parts W w n hl col ad seed s vd vv) {x : Nat} (hc : col x = none) (h1 : W.heap.size ≤ x) (h2 : x < w.heap.size) : Parts W w n hl (paint col x) ad seed s vd vv := by
  have ho : ∀ k p, col k = some p → Shard.paint col x k = some p := fun k p e => by
    unfold Shard.paint
    rw [if_neg (fun e1 => by rw [e1, hc] at e; cases e)]; exact e
  obtain ⟨Ft, ht1, ht2⟩ := h.tab
  obtain ⟨Fs, hs1, hs2⟩ := h.slab
  obtain ⟨Fo, ho1, ho2⟩ := h.order
  refine ⟨h.self, ho _ _ h.csb, ⟨Ft, ht1, fun k hk => ho _ _ (ht2 k hk)⟩, h.sm, ⟨Fs, hs1, fun k hk => ho _ _ (hs2 k hk)⟩, ⟨Fo, ho1, fun k hk => ho _ _ (ho2 k hk)⟩, h.judge, ⟨ho _ _ h.cj.1, ho _ _ h.cj.2.1, ho _ _ h.cj.2.2⟩, h.drops, fun g e => ho _ _ (h.cd g e), fun q hq hn => ?_, fun k p e => ?_, h.below⟩
  · obtain ⟨a1, a2, a3, a4, a5⟩ := h.ents q hq hn
    exact ⟨a1, a2, a3, ho _ _ a4, fun g e => ⟨ho _ _ (a5 g e).1, (a5 g e).2⟩⟩
  · unfold Shard.paint at e
    by_cases e1 : k = x
    · subst e1; exact ⟨h1, h2⟩
    · rw [if_neg e1] at e; exact h.lt k p e
/-- A shard between a put and its end: the entry x is not filled yet. -/
structure Held (W w0 : World) (n b B B' : Nat) (col : Col) (seed : Int) (o1 o2 : Obj) (s : St) (x : Nat) (e : Ent) (u : Value) (w : World) : Prop where
  run : ∃ col' ad vd vv, ad.sb = b ∧ Parts W w n (fun q => q = x) col' ad seed s vd vv ∧ Fr col col' w0 w ∧ col' x = some (.ent x)
  b1 : w.heap[B]? = some o1
  b2 : w.heap[B']? = some o2
  blk : w.heap[x]? = some (.cells (e.arr u) 95 (0, 0))
theorem Beside.frees (h : Beside W w0 n b B B' col seed o1 o2 s w) (hB : B ≤ B' ∧ B' < w0.heap.size) (hc : ∀ j, B ≤ j → col j = none) (hi : Slab.Small N s.slab) (hN : N ≤ 1000000) (c : Int × Int) : ∃ ad : Addrs, w.cell? ⟨b, 1, none⟩ = some (.pointer (some ⟨ad.mb, 0, none⟩)) ∧
    ∀ w', Below w.heap.size w w' → Calls Tryz.prog 42 #[.pointer (some ⟨ad.mb, 0, none⟩), .agg #[.int .i64 c.1, .int .i64 c.2]] w' fun e w'' => (∃ z, e = .returned (.int .i64 z)) ∧ Beside W w0 n b B B' col seed o1 o2 { s with slab := (s.slab.free c).2 } w'' := by
  obtain ⟨col1, ⟨ad, vd, vv, rfl, h1⟩, f1⟩ := h.run
  refine ⟨ad, Mem.row_cell h1.self 1, fun w' hb => ?_⟩
  have h2 := h1.step hb
  obtain ⟨F, hs, hF⟩ := h2.slab
  refine (Slab.free_any hs hi (by omega) c.1 c.2).mono ?_
  rintro e w1 ⟨F1, rfl, ha, ho, hgr⟩
  have h3 := h2.turnSlab hF ha (slab_lt ha) ho hgr
  have hn : ∀ j, B ≤ j → j < w0.heap.size → col1 j = none := fun j h1 h2 => Classical.byContradiction fun e => (f1.2 j e).elim (fun e1 => e1 (hc j h1)) (fun e1 => by omega)
  have hz := f1.1.size
  have f2 := (Fr.below (col := col1) hb).trans (Fr.of hF ho)
  exact ⟨⟨_, rfl⟩, ⟨_, ⟨ad, vd, vv, rfl, h3⟩, f1.trans f2⟩, (f2.keep (by omega) (hn _ (Nat.le_refl _) (by omega))).trans h.b1, (f2.keep (by omega) (hn _ (by omega) (by omega))).trans h.b2⟩
theorem Beside.takes (h : Beside W w0 n b B B' col seed o1 o2 s w) (hB : B ≤ B' ∧ B' < w0.heap.size) (hc : ∀ j, B ≤ j → col j = none) (hi : Slab.Small N s.slab) (hN : N ≤ 1000000) (z : Int) : ∃ ad : Addrs, w.cell? ⟨b, 1, none⟩ = some (.pointer (some ⟨ad.mb, 0, none⟩)) ∧
    ∀ w', Below w.heap.size w w' → Calls Tryz.prog 46 #[.pointer (some ⟨ad.mb, 0, none⟩), .int .i64 z] w' fun e w'' => e = .returned (.tuple #[.agg #[.int .i64 (s.slab.take z).1.1.1, .int .i64 (s.slab.take z).1.1.2], .int .i64 (s.slab.take z).1.2]) ∧ Beside W w0 n b B B' col seed o1 o2 { s with slab := (s.slab.take z).2 } w'' ∧ w''.cell? ⟨b, 1, none⟩ = some (.pointer (some ⟨ad.mb, 0, none⟩)) := by
  obtain ⟨col1, ⟨ad, vd, vv, rfl, h1⟩, f1⟩ := h.run
  refine ⟨ad, Mem.row_cell h1.self 1, fun w' hb => ?_⟩
  have h2 := h1.step hb
  obtain ⟨F, hs, hF⟩ := h2.slab
  refine (Slab.take_any hs hi (by omega) z).mono ?_
  rintro e w1 ⟨F1, rfl, ha, ho, hgr⟩
  have h3 := h2.turnSlab hF ha (slab_lt ha) ho hgr
  have hn : ∀ j, B ≤ j → j < w0.heap.size → col1 j = none := fun j h1 h2 => Classical.byContradiction fun e => (f1.2 j e).elim (fun e1 => e1 (hc j h1)) (fun e1 => by omega)
  have hz := f1.1.size
  have f2 := (Fr.below (col := col1) hb).trans (Fr.of hF ho)
  exact ⟨rfl, ⟨⟨_, ⟨ad, vd, vv, rfl, h3⟩, f1.trans f2⟩, (f2.keep (by omega) (hn _ (Nat.le_refl _) (by omega))).trans h.b1, (f2.keep (by omega) (hn _ (by omega) (by omega))).trans h.b2⟩, Mem.row_cell h3.self 1⟩
theorem Beside.finds (h : Beside W w0 n b B B' col seed o1 o2 s w) (hB : B ≤ B' ∧ B' < w0.heap.size) (hc : ∀ j, B ≤ j → col j = none) (hi : Inv n0 N s) (hn : n0 ≤ 1000000) (hN : N ≤ 1000000) (k : ByteArray) (env : Env) (hk : k.size ≤ maxLen) :
    Calls Tryz.prog 40 #[.pointer (some ⟨b, 0, none⟩), .string k, .agg env.arr] w fun e w' => e = .returned (ptrE (s.find k env).1) ∧ Beside W w0 n b B B' col seed o1 o2 (s.find k env).2 w' := by
  obtain ⟨col1, a1, f1⟩ := h.run
  refine (find_any a1 k env hk (by have := hi.olen; have := hi.len; omega) hi.smallN (by omega) (by rw [remove_drops]; have := hi.dl; show s.drops.length ≤ _; omega)).mono ?_
  rintro e w1 ⟨rfl, col2, a2, f2⟩
  have hn : ∀ j, B ≤ j → j < w0.heap.size → col1 j = none := fun j h1 h2 => Classical.byContradiction fun e => (f1.2 j e).elim (fun e1 => e1 (hc j h1)) (fun e1 => by omega)
  have hz := f1.1.size
  exact ⟨rfl, ⟨col2, a2, f1.trans f2⟩, (f2.keep (by omega) (hn _ (Nat.le_refl _) (by omega))).trans h.b1, (f2.keep (by omega) (hn _ (by omega) (by omega))).trans h.b2⟩
theorem Beside.rooms (h : Beside W w0 n b B B' col seed o1 o2 s w) (hB : B ≤ B' ∧ B' < w0.heap.size) (hc : ∀ j, B ≤ j → col j = none) (hi : Inv n0 N s) (hn0 : n0 ≤ 1000) (hN : N ≤ 500000) (it : Item) (a : Option Addr) (c : Nat) (old : Option Nat) (env : Env) (hks : it.key.size ≤ 300) (hvs : it.val.length ≤ 3000) (hold : ∀ x, old = some x → ∃ k, (k, x) ∈ s.tab.L) :
    Calls Tryz.prog 41 #[.pointer (some ⟨b, 0, none⟩), .agg (it.arr (.slice a it.val.length c)), ptrE old, .agg env.arr] w fun e w' => e = .returned (.int .i64 (St.room it old.isSome (s.less old) env (s.order.all.length + 1) s).1) ∧ Beside W w0 n b B B' col seed o1 o2 (St.room it old.isSome (s.less old) env (s.order.all.length + 1) s).2 w' := by
  obtain ⟨col1, a1, f1⟩ := h.run
  refine (room_any a1 hi it a c old env hks hvs hold hn0 hN).mono ?_
  rintro e w1 ⟨rfl, col2, a2, f2⟩
  have hn : ∀ j, B ≤ j → j < w0.heap.size → col1 j = none := fun j h1 h2 => Classical.byContradiction fun e => (f1.2 j e).elim (fun e1 => e1 (hc j h1)) (fun e1 => by omega)
  have hz := f1.1.size
  exact ⟨rfl, ⟨col2, a2, f1.trans f2⟩, (f2.keep (by omega) (hn _ (Nat.le_refl _) (by omega))).trans h.b1, (f2.keep (by omega) (hn _ (by omega) (by omega))).trans h.b2⟩
/-- The new entry's key is put. -/
theorem Beside.puts (h : Beside W w0 n b B B' col seed o1 o2 s w) (hB : B ≤ B' ∧ B' < w0.heap.size) (hc : ∀ j, B ≤ j → col j = none) (hn : n + 1 ≤ 1000000000) (k : ByteArray) (hk : k.size ≤ maxLen) (e : Ent) (u : Value) : ∃ ad : Addrs, w.cell? ⟨b, 0, none⟩ = some (.pointer (some ⟨ad.tb, 0, none⟩)) ∧ ∀ w', Below w.heap.size w w' →
    w'.heap[w.heap.size]? = some (.cells (e.arr u) 95 (0, 0)) → Calls Tryz.prog 43 #[.pointer (some ⟨ad.tb, 0, none⟩), .string k, .pointer (some ⟨w.heap.size, 0, none⟩)] w' fun en w'' => en = .returned (.tuple #[]) ∧ Held W w0 (n + 1) b B B' col seed o1 o2 { s with tab := s.tab.put k w.heap.size } w.heap.size e u w'' := by
  obtain ⟨col1, ⟨ad, vd, vv, rfl, h1⟩, f1⟩ := h.run
  refine ⟨ad, Mem.row_cell h1.self 0, fun w' hb hx => ?_⟩
  have h2 := h1.step hb
  have hxl : w.heap.size < w'.heap.size := (Array.getElem?_eq_some_iff.1 hx).1
  have hcx : col1 w.heap.size = none := Classical.byContradiction fun e => by
    rcases hq : col1 w.heap.size with _ | p
    · exact e hq
    · have := (h1.lt _ p hq).2; omega
  obtain ⟨F, hs, hF⟩ := h2.tab
  have hrise : Tab.Rising s.tab.L := hs.rise
  refine (TabE.put_any hs h2.sm hn k w.heap.size hk).mono ?_
  rintro en w1 ⟨F1, rfl, ha, ho, hgr⟩
  have h3 := h2.turnTab (hl' := fun q => q = w.heap.size) hF ha ho hgr (h2.sm.put hn k w.heap.size) (fun q hq hne => by
    rw [Tab.put_L, Tab.mem_put hrise] at hq
    rcases hq with rfl | ⟨hq, _⟩
    · exact absurd rfl hne
    · exact ⟨hq, fun e => e⟩)
  have hn : ∀ j, B ≤ j → j < w0.heap.size → col1 j = none := fun j h1 h2 => Classical.byContradiction fun e => (f1.2 j e).elim (fun e1 => e1 (hc j h1)) (fun e1 => by omega)
  have hz := f1.1.size
  have hz1 := ho.size
  have fx := Fr.of hF ho
  have f2 := (Fr.below (col := col1) hb).trans fx
  have hrx : recol col1 w' w1 .table w.heap.size = none := by unfold recol; rw [if_pos hxl]; exact hcx
  have h4 := h3.paint (x := w.heap.size) hrx h1.below.size (by omega)
  have f3 : Fr col (paint (recol col1 w' w1 .table) w.heap.size) w0 w1 := ⟨(f1.trans f2).1, fun j hj => by
    by_cases e : j = w.heap.size
    · exact .inr (by omega)
    · exact (f1.trans f2).2 j (by have hj : paint (recol col1 w' w1 .table) w.heap.size j ≠ none := hj; unfold paint at hj; rw [if_neg e] at hj; exact hj)⟩
  exact ⟨rfl, ⟨_, ad, vd, vv, rfl, h4, f3, by unfold paint; rw [if_pos rfl]⟩, (f2.keep (by omega) (hn _ (Nat.le_refl _) (by omega))).trans h.b1, (f2.keep (by omega) (hn _ (by omega) (by omega))).trans h.b2, (fx.keep hxl hcx).trans hx⟩
/-- The new entry's key is added to the list. -/
theorem Held.adds {x : Nat} {e : Ent} {u : Value} (h : Held W w0 n b B B' col seed o1 o2 s x e u w) (hB : B ≤ B' ∧ B' < w0.heap.size) (hc : ∀ j, B ≤ j → col j = none) (k : ByteArray) (hl : s.order.all.length ≤ 1000000) : ∃ ad : Addrs, w.cell? ⟨b, 2, none⟩ = some (.pointer (some ⟨ad.ob, 0, none⟩)) ∧ ∀ w', Below w.heap.size w w' →
    Calls Tryz.prog 44 #[.pointer (some ⟨ad.ob, 0, none⟩), .string k] w' fun en w'' => (∃ z, en = .returned (.int .i64 z)) ∧ Held W w0 n b B B' col seed o1 o2 { s with order := (s.order.add k).2 } x e u w'' := by
  obtain ⟨col1, ad, vd, vv, rfl, h1, f1, hx⟩ := h.run
  refine ⟨ad, Mem.row_cell h1.self 2, fun w' hb => ?_⟩
  have h2 := h1.step hb
  obtain ⟨F, hs, hF⟩ := h2.order
  refine (Slru.add_any hs k (by show s.order.all.length + 1 ≤ _; omega)).mono ?_
  rintro en w1 ⟨F1, rfl, ha, ho, hgr⟩
  have h3 := h2.turnOrder hF ha ha.lt ho hgr
  have hn : ∀ j, B ≤ j → j < w0.heap.size → col1 j = none := fun j h1 h2 => Classical.byContradiction fun e => (f1.2 j e).elim (fun e1 => e1 (hc j h1)) (fun e1 => by omega)
  have hz := f1.1.size
  have f2 := (Fr.below (col := col1) hb).trans (Fr.of hF ho)
  refine ⟨⟨_, rfl⟩, ⟨_, ad, vd, vv, rfl, h3, f1.trans f2, ?_⟩, (f2.keep (by omega) (hn _ (Nat.le_refl _) (by omega))).trans h.b1, (f2.keep (by omega) (hn _ (by omega) (by omega))).trans h.b2, ?_⟩
  · exact h2.recol_of hx
  · exact ((h2.far (Parts.onlyOf hF ho) hx (by simp)).trans (hb.block _ (h1.lt _ _ hx).2)).trans h.blk
theorem Held.below {x : Nat} {e : Ent} {u : Value} (h : Held W w0 n b B B' col seed o1 o2 s x e u w) (hb : Below w.heap.size w w') : Held W w0 n b B B' col seed o1 o2 s x e u w' := by
  obtain ⟨col1, ad, vd, vv, rfl, h1, f1, hx⟩ := h.run
  exact ⟨⟨col1, ad, vd, vv, rfl, h1.step hb, f1.trans (Fr.below hb), hx⟩, (hb.block _ (Array.getElem?_eq_some_iff.1 h.b1).1).trans h.b1, (hb.block _ (Array.getElem?_eq_some_iff.1 h.b2).1).trans h.b2, (hb.block _ (Array.getElem?_eq_some_iff.1 h.blk).1).trans h.blk⟩
theorem lay_item (e : Ent) (u v : Value) (it : Item) : lay (e.arr u) 0 (it.arr v).toList = (⟨it, e.chunk⟩ : Ent).arr v := by
  simp [lay, Ent.arr, Item.arr]
theorem lay_chunk (e : Ent) (u : Value) (c : Int × Int) : lay (e.arr u) 10 [.int .i64 c.1, .int .i64 c.2] = (⟨e.it, c⟩ : Ent).arr u := by
  simp [lay, Ent.arr]
/-- The entry's item is stored. -/
theorem Held.item {x : Nat} {e : Ent} {u v : Value} {it : Item} (h : Held W w0 n b B B' col seed o1 o2 s x e u w) (hB : B ≤ B' ∧ B' < w0.heap.size) (hc : ∀ j, B ≤ j → col j = none) (hb : Below w.heap.size w w') (hown : OwnB w' w.heap.size v it.val) (hkey : ∀ q ∈ s.tab.L, q.2 = x → it.key = q.1) :
    Beside W w0 n b B B' col seed o1 o2 { s with ent := upd s.ent x ⟨it, e.chunk⟩ } (w'.setCells x 0 (it.arr v).toList) ∧ (w'.setCells x 0 (it.arr v).toList).heap[x]? = some (.cells ((⟨it, e.chunk⟩ : Ent).arr v) 95 (0, 0)) := by
  obtain ⟨col1, ad, vd, vv, rfl, h1, f1, hx⟩ := h.run
  have hxl := (h1.lt _ _ hx).2
  have hblk : w'.heap[x]? = some (.cells (e.arr u) 95 (0, 0)) := (hb.block _ hxl).trans h.blk
  have hset := Mem.set_cells (it.arr v).toList 0 _ hblk
  rw [lay_item] at hset
  have ho : Only (Of col1 (.ent x)) w (w'.setCells x 0 (it.arr v).toList) := Only.setCells (.inl hx) _ _ (Only.of_below hb (fun k h1 h2 => by omega))
  have hgx : ∀ g, v.ownBlock = some g → w.heap.size ≤ g := fun g e => (own_block_lt hown g e).1
  have h2 := h1.turnEnt (x := ⟨it, e.chunk⟩) (v := v) (hl' := fun _ => False) hset ho hx (row_keep (Mem.row_less hown (Nat.zero_le _)) fun g e => Mem.set_cells_far _ _ (fun e1 => by have := hgx g e; omega)) (fun g e => ⟨.inr (hgx g e), fun e1 => by have := hgx g e; omega⟩) hkey (fun q _ hne _ e => hne e)
  have hn : ∀ j, B ≤ j → j < w0.heap.size → col1 j = none := fun j h1 h2 => Classical.byContradiction fun e => (f1.2 j e).elim (fun e1 => e1 (hc j h1)) (fun e1 => by omega)
  have hz := f1.1.size
  have f2 : Fr col1 (recol col1 w (w'.setCells x 0 (it.arr v).toList) (.ent x)) w (w'.setCells x 0 (it.arr v).toList) := Fr.of (p := .ent x) (fun k hk => hk) ho
  exact ⟨⟨⟨_, ⟨ad, vd, _, rfl, h2⟩, f1.trans f2⟩, (f2.keep (by omega) (hn _ (Nat.le_refl _) (by omega))).trans h.b1, (f2.keep (by omega) (hn _ (by omega) (by omega))).trans h.b2⟩, hset⟩
/-- An entry's chunk is stored. -/
theorem Beside.chunk {x : Nat} {k : ByteArray} (h : Beside W w0 n b B B' col seed o1 o2 s w) (hB : B ≤ B' ∧ B' < w0.heap.size) (hc : ∀ j, B ≤ j → col j = none) (hm : (k, x) ∈ s.tab.L) (c : Int × Int) : Beside W w0 n b B B' col seed o1 o2 { s with ent := upd s.ent x ⟨(s.ent x).it, c⟩ } (w.setCells x 10 [.int .i64 c.1, .int .i64 c.2]) := by
  obtain ⟨col1, ⟨ad, vd, vv, rfl, h1⟩, f1⟩ := h.run
  obtain ⟨e1, e2, e3, e4, e5⟩ := h1.ents (k, x) hm (fun e => e)
  simp only at e1 e2 e3 e4 e5
  have hset := Mem.set_cells [.int .i64 c.1, .int .i64 c.2] 10 _ e1
  rw [lay_chunk] at hset
  have ho : Only (Of col1 (.ent x)) w (w.setCells x 10 [.int .i64 c.1, .int .i64 c.2]) := Only.setCells (.inl e4) _ _ (Only.refl _ _)
  have h2 := h1.turnEnt (x := ⟨(s.ent x).it, c⟩) (v := vv x) (hl' := fun _ => False) hset ho e4 (row_keep e2 fun g e => Mem.set_cells_far _ _ (e5 g e).2) (fun g e => ⟨.inl (e5 g e).1, (e5 g e).2⟩) (fun q hq e => by
    have := (h1.ents q hq (fun e => e)).2.2.1
    rw [e] at this; exact this) (fun _ _ _ _ e => e)
  have hn : ∀ j, B ≤ j → j < w0.heap.size → col1 j = none := fun j h1 h2 => Classical.byContradiction fun e => (f1.2 j e).elim (fun e1 => e1 (hc j h1)) (fun e1 => by omega)
  have hz := f1.1.size
  have f2 : Fr col1 (recol col1 w (w.setCells x 10 [.int .i64 c.1, .int .i64 c.2]) (.ent x)) w (w.setCells x 10 [.int .i64 c.1, .int .i64 c.2]) := Fr.of (p := .ent x) (fun k hk => hk) ho
  exact ⟨⟨_, ⟨ad, vd, _, rfl, h2⟩, f1.trans f2⟩, (f2.keep (by omega) (hn _ (Nat.le_refl _) (by omega))).trans h.b1, (f2.keep (by omega) (hn _ (by omega) (by omega))).trans h.b2⟩
/-- An elder entry is held as a new one is. -/
theorem Beside.held {x : Nat} {k : ByteArray} (h : Beside W w0 n b B B' col seed o1 o2 s w) (hm : (k, x) ∈ s.tab.L) (hnm : n ≤ m) (hm2 : m ≤ 1000000000) : ∃ u, Held W w0 m b B B' col seed o1 o2 s x (s.ent x) u w := by
  obtain ⟨col1, ⟨ad, vd, vv, rfl, h1⟩, f1⟩ := h.run
  obtain ⟨e1, e2, e3, e4, e5⟩ := h1.ents (k, x) hm (fun e => e)
  exact ⟨_, ⟨_, ad, vd, vv, rfl, (h1.more hnm hm2).hole (fun _ e => e.elim), f1, e4⟩, h.b1, h.b2, e1⟩
/-- A value that the caller has kept. -/
theorem Beside.src {it : Item} {v : Value} {w1 : World} (h : Beside W w0 n b B B' col seed o1 o2 s w) (hs : SrcB w1 v it.val) (hb : Below w1.heap.size w1 w0) (hc : it.val ≠ [] → ∀ g, v.ownBlock = some g → col g = none) : SrcB w v it.val := by
  obtain ⟨col1, a1, f1⟩ := h.run
  have h0 := hs.below hb
  exact h0.same (fun hx g e hg => f1.keep hg (hc hx g e)) f1.1.size
theorem Held.src {x : Nat} {e : Ent} {u : Value} {it : Item} {v : Value} {w1 : World} (h : Held W w0 n b B B' col seed o1 o2 s x e u w) (hs : SrcB w1 v it.val) (hb : Below w1.heap.size w1 w0) (hc : it.val ≠ [] → ∀ g, v.ownBlock = some g → col g = none) : SrcB w v it.val := by
  obtain ⟨col1, ad, vd, vv, rfl, h1, f1, hx⟩ := h.run
  have h0 := hs.below hb
  exact h0.same (fun hx g e hg => f1.keep hg (hc hx g e)) f1.1.size
end
end Go.Proofs.YteonjgnnpgpnnaaGreat.Shard

/- Layer 11: Store. -/
namespace Go.Proofs.YteonjgnnpgpnnaaGreat.Shard
open Go Go.RowKit Go.Proofs.YteonjgnnpgpnnaaGreat.Mem Go.Proofs.YteonjgnnpgpnnaaGreat.App

section
variable {W w : World} {n N b : Nat} {col : Col} {seed : Int} {s : St}
/-- What a store comes to. -/
def StorePost (W w : World) (n b : Nat) (col : Col) (seed : Int) (s : St) (it : Item) (env : Env) (e : Ending) (w' : World) : Prop :=
  ∃ fresh, (∀ p ∈ s.tab.L, p.2 ≠ fresh) ∧ e = .returned (.int .i64 (s.store fresh it env).1) ∧ Turn W w n b col seed (s.store fresh it env).2 w'
theorem At.more_turn {m : Nat} {w' : World} (h : Turn W w n b col seed s w') (hm : n ≤ m) (hm2 : m ≤ 1000000000) : Turn W w m b col seed s w' := by
  obtain ⟨c, a, f⟩ := h
  exact ⟨c, a.more hm hm2, f⟩
theorem zero_ent : (⟨⟨⟨#[]⟩, [], 0, 0, 0, 0, 0, false, false, false⟩, (0, 0)⟩ : Ent).arr (.slice none 0 0) = #[.string ⟨#[]⟩, .slice none 0 0, .int .u32 0, .int .i64 0, .int .u64 0, .int .i64 0, .int .u64 0, .bool false, .bool false, .bool false, .int .i64 0, .int .i64 0] := rfl
theorem upd_upd {α : Type} (f : Nat → α) (k : Nat) (v v' : α) : upd (upd f k v) k v' = upd f k v' := by
  funext j
  unfold upd
  split <;> rfl
set_option maxRecDepth 100000 in
set_option maxHeartbeats 4000000 in
theorem store_any (h : At W w n b col seed s) (hn : n + 1 ≤ 1000) {n0 : Nat} (hi : Inv n0 N s) (it : Item) (a : Option Addr) (c : Nat) (env : Env) (hks : it.key.size ≤ 300) (hvs : it.val.length ≤ 3000) (hsrc : SrcB w (.slice a it.val.length c) it.val) (hsc : it.val ≠ [] → ∀ g, (Value.slice a it.val.length c).ownBlock = some g → col g = none) (hn0 : n0 ≤ 1000) (hN : N ≤ 400000) :
    Calls Tryz.prog 17 #[.pointer (some ⟨b, 0, none⟩), .agg (it.arr (.slice a it.val.length c)), .agg env.arr] w (StorePost W w (n + 1) b col seed s it env) := by
  have hcn : ∀ j, w.heap.size ≤ j → col j = none := fun j hj => Classical.byContradiction fun e => by have := h.lt j e; omega
  have hfr : ∀ p ∈ s.tab.L, p.2 < w.heap.size := fun p hp => by
    obtain ⟨ad, vd, vv, rfl, h⟩ := h
    exact (h.lt _ _ (h.ents p hp (fun e => e)).2.2.2.1).2
  have hb2 : Below w.heap.size w ((w.alloc (.cells (it.arr (.slice a it.val.length c)) 34)).alloc (.cells env.arr 36)) := Mem.al (Mem.al (Below.refl _ _) _) _
  have n1 : ((w.alloc (.cells (it.arr (.slice a it.val.length c)) 34)).alloc (.cells env.arr 36)).heap[w.heap.size]? = some (.cells (it.arr (.slice a it.val.length c)) 34 (0, 0)) := Mem.new_later (Mem.new_block w _) _
  have n2 : ((w.alloc (.cells (it.arr (.slice a it.val.length c)) 34)).alloc (.cells env.arr 36)).heap[w.heap.size + 1]? = some (.cells env.arr 36 (0, 0)) := Mem.new_block2 w _ _
  have hsz : w.heap.size ≤ w.heap.size + 1 ∧ w.heap.size + 1 < ((w.alloc (.cells (it.arr (.slice a it.val.length c)) 34)).alloc (.cells env.arr 36)).heap.size := by simp
  have hbs : Beside W ((w.alloc (.cells (it.arr (.slice a it.val.length c)) 34)).alloc (.cells env.arr 36)) n b w.heap.size (w.heap.size + 1) col seed (.cells (it.arr (.slice a it.val.length c)) 34 (0, 0)) (.cells env.arr 36 (0, 0)) s ((w.alloc (.cells (it.arr (.slice a it.val.length c)) 34)).alloc (.cells env.arr 36)) := ⟨⟨col, h.step hb2, Fr.refl _ _⟩, n1, n2⟩
  obtain ⟨w0, hw0⟩ : ∃ w0, (w.alloc (.cells (it.arr (.slice a it.val.length c)) 34)).alloc (.cells env.arr 36) = w0 := ⟨_, rfl⟩
  rw [hw0] at hbs hb2 hsz
  have HB := Lib.hid (And.intro hcn (And.intro hb2 hsz))
  have HI := Lib.hid (And.intro hi (And.intro hsrc (And.intro hsc hfr)))
  have hsz1 := fun w' => size_any it a c w' (by omega) (by omega)
  have hcl := fun w' => Slab.class_any it.size w'
  have HS := Lib.hid hbs
  have cel := fun j => Mem.row_cell hbs.b1 j
  have i0 := cel 0
  have i1 := cel 1
  have i2 := cel 2
  have i3 := cel 3
  have i4 := cel 4
  have i5 := cel 5
  have i6 := cel 6
  have i7 := cel 7
  have i8 := cel 8
  have i9 := cel 9
  simp only [Item.arr, List.getElem?_toArray, List.getElem?_cons_zero, List.getElem?_cons_succ] at i0 i1 i2 i3 i4 i5 i6 i7 i8 i9
  clear n1 n2 hcn hb2 hsz h hbs hi hsrc hsc hfr cel
  unfold Item.arr at hsz1
  unfold Item.arr Env.arr at hw0 ⊢
  go_enter Tryz.func17, Tryz.ntmps17
  go_wp2_with fail
  refine (hsz1 _).mono ?_
  rintro e w1 ⟨rfl, hb1⟩
  have H1 := Lib.hid (HS.out.below hb1)
  clear hsz1 hb1 i0 i1 i2 i3 i4 i5 i6 i7 i8 i9
  go_wp2_with fail
  refine (hcl _).mono ?_
  rintro e w1' ⟨rfl, rfl⟩
  clear hcl
  have hst := fun fresh => store_two HI.out.1 it env fresh
  have HT := Lib.hid hst
  clear hst
  by_cases h6 : Slab.classN it.size = 6
  · obtain ⟨k1, k2⟩ := Slab.classE_no h6
    rw [k1, k2]
    clear k1 k2
    have HH6 := Lib.hid h6
    clear h6
    go_wp2_with fail
    go_ret
    obtain ⟨col1, a1, f1⟩ := H1.out.run
    rcases HT.out w.heap.size with ⟨-, e⟩ | ⟨e, -⟩
    · refine ⟨w.heap.size, fun p hp => Nat.ne_of_lt (HI.out.2.2.2 p hp), by rw [e]; rfl, ?_⟩
      rw [e]
      exact At.more_turn ⟨col1, a1, (Fr.below HB.out.2.1).trans f1⟩ (by omega) (by omega)
    · have := HH6.out; omega
  have h6' : Slab.classN it.size < 6 := by have := Slab.class_six it.size; omega
  obtain ⟨k1, k2⟩ := Slab.classE_ok h6'
  rw [k1, k2]
  clear k1 k2
  have HH6 := Lib.hid h6'
  clear h6 h6'
  obtain ⟨f, hf⟩ : ∃ f, s.find it.key env = f := ⟨_, rfl⟩
  obtain ⟨r, hr⟩ : ∃ r, s.roomed it env = r := ⟨_, rfl⟩
  have HT2 : Hid (∀ fresh, Inv n0 (N + n0 + 2) r.2 ∧ (∀ p, p ∈ r.2.tab.L → p ∈ s.tab.L) ∧ ((r.1 = 0 ∧ Ready n0 (N + n0 + 2) it f.1 r.2 ∧ s.store fresh it env = (0, r.2.stored f.1 fresh it)) ∨ (r.1 ≠ 0 ∧ s.store fresh it env = r))) := Lib.hid (fun fresh => by
    rcases HT.out fresh with ⟨e, -⟩ | ⟨-, h⟩
    · have := HH6.out; omega
    · rw [hf, hr] at h; exact h)
  clear HT
  have hfi := HI.out.1.find it.key env
  have hfk := find_key HI.out.1 it.key env
  have hfind := H1.out.finds HB.out.2.2 HB.out.1 HI.out.1 (by omega) (by omega) it.key env (by unfold maxLen; omega)
  have hro : St.room it f.1.isSome (f.2.less f.1) env (f.2.order.all.length + 1) f.2 = r := by rw [← hr, ← hf]; rfl
  rw [hf] at hfi hfk hfind
  have hrooms := fun w' (h : Beside W w0 n b w.heap.size (w.heap.size + 1) col seed (.cells (it.arr (.slice a it.val.length c)) 34 (0, 0)) (.cells env.arr 36 (0, 0)) f.2 w') => h.rooms HB.out.2.2 HB.out.1 hfi hn0 (by omega) it a c f.1 env hks hvs (fun x e => ⟨_, hfk.1 x e⟩)
  rw [hro] at hrooms
  have HRM := Lib.hid (And.intro hrooms (And.intro hfi hfk))
  clear hro hrooms hfi hfk hf hr
  have i0 : w1.cell? ⟨w.heap.size, 0, none⟩ = some (.string it.key) := Mem.row_cell H1.out.b1 0
  have cen := fun j => Mem.row_cell H1.out.b2 j
  have e0 := cen 0
  have e1 := cen 1
  have e2 := cen 2
  have e3 := cen 3
  simp only [Env.arr, List.getElem?_toArray, List.getElem?_cons_zero, List.getElem?_cons_succ] at e0 e1 e2 e3
  clear cen
  unfold Env.arr at hfind
  go_wp2_with fail
  refine hfind.mono ?_
  rintro e w2 ⟨rfl, h2⟩
  have H2 := Lib.hid h2
  clear hfind h2 e0 e1 e2 e3 i0
  have cel := fun j => Mem.row_cell H2.out.b1 j
  have i0 := cel 0
  have i1 := cel 1
  have i2 := cel 2
  have i3 := cel 3
  have i4 := cel 4
  have i5 := cel 5
  have i6 := cel 6
  have i7 := cel 7
  have i8 := cel 8
  have i9 := cel 9
  simp only [Item.arr, List.getElem?_toArray, List.getElem?_cons_zero, List.getElem?_cons_succ] at i0 i1 i2 i3 i4 i5 i6 i7 i8 i9
  clear cel
  have cen := fun j => Mem.row_cell H2.out.b2 j
  have e0 := cen 0
  have e1 := cen 1
  have e2 := cen 2
  have e3 := cen 3
  simp only [List.getElem?_toArray, List.getElem?_cons_zero, List.getElem?_cons_succ] at e0 e1 e2 e3
  clear cen
  have hroom := HRM.out.1 w2 H2.out
  have heq := eql_old f.1
  have hqg := eqg_old f.1
  obtain ⟨pv, hpv⟩ : ∃ pv, ptrE f.1 = pv := ⟨_, rfl⟩
  rw [hpv] at heq hqg hroom ⊢
  obtain ⟨q, hq⟩ : ∃ q, f.1.isSome = q := ⟨_, rfl⟩
  rw [hq] at heq
  have HPV := Lib.hid (And.intro hpv hq)
  clear hpv hq
  unfold Item.arr Env.arr at hroom
  go_wp2_with fail
  refine hroom.mono ?_
  rintro e w3 ⟨rfl, h3⟩
  have H3 := Lib.hid h3
  clear hroom h3 i0 i1 i2 i3 i4 i5 i6 i7 i8 i9 e0 e1 e2 e3
  by_cases hz : r.1 ≠ 0
  · have hzb : (r.1 != 0) = true := by simpa using hz
    have HZ : Hid (r.1 ≠ 0) := Lib.hid hz
    clear hz
    go_wp2_with fail
    go_ret
    obtain ⟨col1, a1, f1⟩ := H3.out.run
    rcases HT2.out w.heap.size with ⟨-, -, ⟨e, -⟩ | ⟨-, e⟩⟩
    · exact absurd e HZ.out
    · refine ⟨w.heap.size, fun p hp => Nat.ne_of_lt (HI.out.2.2.2 p hp), by rw [e]; rfl, ?_⟩
      rw [e]
      exact At.more_turn ⟨col1, a1, (Fr.below HB.out.2.1).trans f1⟩ (by omega) (by omega)
  have hz0 : r.1 = 0 := Classical.byContradiction hz
  rw [hz0]
  have HZ := Lib.hid hz0
  clear hz hz0
  have hready := HT2.out w.heap.size
  have HR : Hid (Inv n0 (N + n0 + 2) r.2 ∧ Ready n0 (N + n0 + 2) it f.1 r.2) := Lib.hid (by
    rcases HT2.out w.heap.size with ⟨e0, -, ⟨-, e, -⟩ | ⟨e, -⟩⟩
    · exact ⟨e0, e⟩
    · exact absurd HZ.out e)
  have HST : Hid (∀ fresh, s.store fresh it env = (0, r.2.stored f.1 fresh it)) := Lib.hid (fun fresh => by
    rcases HT2.out fresh with ⟨-, -, ⟨-, -, e⟩ | ⟨e, -⟩⟩
    · exact e
    · exact absurd HZ.out e)
  have HSU : Hid (∀ p, p ∈ r.2.tab.L → p ∈ s.tab.L) := Lib.hid (HT2.out w.heap.size).2.1
  clear hready HT2
  go_upto_if 34 with (fail)
  go_cut [9] from 35 to 60 (fun p wx => ∃ (x : Nat) (s' : St) (e : Ent) (u : Value) (fresh : Nat), p = .pointer (some ⟨x, 0, none⟩) ∧ Hid (Held W w0 (n + 1) b w.heap.size (w.heap.size + 1) col seed (.cells (it.arr (.slice a it.val.length c)) 34 (0, 0)) (.cells env.arr 36 (0, 0)) s' x e u wx ∧
    (∀ q ∈ s'.tab.L, q.2 = x → it.key = q.1) ∧ (it.key, x) ∈ s'.tab.L ∧ Slab.Small 1000000 s'.slab ∧ (∀ p ∈ s.tab.L, p.2 ≠ fresh) ∧ s.store fresh it env = (0, s'.fill x it)))
  case first =>
    obtain ⟨hpv, hq⟩ := HPV.out
    clear heq hqg HPV
    rcases hf1 : f.1 with _ | x
    · rw [hf1] at hpv hq
      subst hpv hq
      have HF1 := Lib.hid hf1
      clear hf1
      obtain ⟨ad, c0, hput⟩ := H3.out.puts HB.out.2.2 HB.out.1 (by omega) it.key (by unfold maxLen; omega) ⟨⟨⟨#[]⟩, [], 0, 0, 0, 0, 0, false, false, false⟩, (0, 0)⟩ (.slice none 0 0)
      have i0 : w3.cell? ⟨w.heap.size, 0, none⟩ = some (.string it.key) := Mem.row_cell H3.out.b1 0
      have hb3 : Below w3.heap.size w3 (w3.alloc (.cells ((⟨⟨⟨#[]⟩, [], 0, 0, 0, 0, 0, false, false, false⟩, (0, 0)⟩ : Ent).arr (.slice none 0 0)) 95)).drew := Below.drew (Mem.al (Below.refl _ _) _)
      have hput2 := hput _ hb3 (Mem.new_block w3 _)
      have hlt3 : b < w3.heap.size := block_lt_of_cell c0
      have hlB3 : w.heap.size < w3.heap.size := block_lt_of_cell i0
      have c0A : (w3.alloc (.cells ((⟨⟨⟨#[]⟩, [], 0, 0, 0, 0, 0, false, false, false⟩, (0, 0)⟩ : Ent).arr (.slice none 0 0)) 95)).cell? ⟨b, 0, none⟩ = some (.pointer (some ⟨ad.tb, 0, none⟩)) := (World.cell?_of_block (Below.heap_alloc _ _ b hlt3)).trans c0
      have i0A : (w3.alloc (.cells ((⟨⟨⟨#[]⟩, [], 0, 0, 0, 0, 0, false, false, false⟩, (0, 0)⟩ : Ent).arr (.slice none 0 0)) 95)).cell? ⟨w.heap.size, 0, none⟩ = some (.string it.key) := (World.cell?_of_block (Below.heap_alloc _ _ _ hlB3)).trans i0
      obtain ⟨wA, hwA⟩ : ∃ wA, w3.alloc (.cells ((⟨⟨⟨#[]⟩, [], 0, 0, 0, 0, 0, false, false, false⟩, (0, 0)⟩ : Ent).arr (.slice none 0 0)) 95) = wA := ⟨_, rfl⟩
      rw [hwA] at hb3 hput2 c0A i0A
      have HB3 := Lib.hid hb3
      clear hput hb3 c0 i0 hlt3 hlB3
      rw [zero_ent] at hwA
      go_wp2_with fail
      refine wp_region_still_tail 7 (by kernel_rfl) (by kernel_rfl) ?_
      simp only [List.take_succ_cons, List.take_zero, List.drop_succ_cons, List.drop_zero]
      repeat still_step
      refine wpStill_nil ?_
      change wpList _ _ _ _ _ wA.drew
      clear c0A i0A
      go_wp2_with fail
      refine hput2.mono ?_
      rintro e w4 ⟨rfl, h4⟩
      have H4 := Lib.hid h4
      clear hput2 h4
      have hol : r.2.order.all.length ≤ 1000000 := by have := HR.out.1.olen; have := HR.out.1.len; omega
      obtain ⟨ad2, c2, hadd⟩ := H4.out.adds HB.out.2.2 HB.out.1 it.key hol
      have i0 : w4.cell? ⟨w.heap.size, 0, none⟩ = some (.string it.key) := Mem.row_cell H4.out.b1 0
      have hadd2 := hadd w4.drew (Below.drew (Below.refl _ _))
      clear hadd hol
      go_wp2_with fail
      refine wp_region_still_tail 6 (by kernel_rfl) (by kernel_rfl) ?_
      simp only [List.take_succ_cons, List.take_zero, List.drop_succ_cons, List.drop_zero]
      repeat still_step
      refine wpStill_nil ?_
      change wpList _ _ _ _ _ w4.drew
      clear c2 i0
      go_wp2_with fail
      refine hadd2.mono ?_
      rintro e w5 ⟨⟨z, rfl⟩, h5⟩
      have H5 := Lib.hid h5
      clear hadd2 h5
      go_wp2_with fail
      go_meet
      have hx3 := (Array.getElem?_eq_some_iff.1 H3.out.b1).1
      have hpx : ∀ p ∈ s.tab.L, p.2 ≠ w3.heap.size := fun p hp => by have := HI.out.2.2.2 p hp; omega
      refine ⟨w3.heap.size, r.2.added it.key w3.heap.size, _, _, w3.heap.size, rfl, Lib.hid ⟨H5.out, fun q hq e => ?_, ?_, HR.out.1.slab.small.mono (by omega), hpx, ?_⟩⟩
      · replace hq : q ∈ (r.2.tab.put it.key w3.heap.size).L := hq
        rw [Tab.put_L, Tab.mem_put HR.out.1.rise] at hq
        rcases hq with rfl | ⟨hq, _⟩
        · rfl
        · exact absurd e (hpx q (HSU.out q hq))
      · show _ ∈ (r.2.tab.put it.key w3.heap.size).L
        rw [Tab.put_L, Tab.mem_put HR.out.1.rise]
        exact .inl rfl
      · rw [HST.out, HF1.out]; rfl
    · rw [hf1] at hpv hq
      subst hpv hq
      have HF1 := Lib.hid hf1
      clear hf1
      have hmx : (it.key, x) ∈ r.2.tab.L := HR.out.2.hold x HF1.out
      obtain ⟨v, ex, -⟩ := H3.out.entry hmx
      have d10 : w3.cell? ⟨x, 10, none⟩ = some (.int .i64 (r.2.ent x).chunk.1) := Mem.row_cell ex 10
      have d11 : w3.cell? ⟨x, 11, none⟩ = some (.int .i64 (r.2.ent x).chunk.2) := Mem.row_cell ex 11
      obtain ⟨ad, c1, hfree⟩ := H3.out.frees HB.out.2.2 HB.out.1 (HR.out.1.smallN.mono (by omega : N + n0 + 2 ≤ 1000000)) (Nat.le_refl _) (r.2.ent x).chunk
      have hfree2 := hfree w3.drew (Below.drew (Below.refl _ _))
      have HM := Lib.hid hmx
      clear ex hfree hmx
      unfold ptrE
      go_wp2_with fail
      refine wp_region_still_tail 8 (by kernel_rfl) (by kernel_rfl) ?_
      simp only [List.take_succ_cons, List.take_zero, List.drop_succ_cons, List.drop_zero]
      repeat still_step
      refine wpStill_nil ?_
      change wpList _ _ _ _ _ w3.drew
      go_wp2_with fail
      refine hfree2.mono ?_
      rintro e w4 ⟨⟨z, rfl⟩, h4⟩
      obtain ⟨u, hh⟩ := h4.held (m := n + 1) HM.out (by omega) (by omega)
      have HH := Lib.hid hh
      clear hfree2 h4 hh c1 d10 d11
      go_wp2_with fail
      go_meet
      refine ⟨x, r.2.freed x, r.2.ent x, u, w.heap.size, rfl, Lib.hid ⟨HH.out, fun q hq e => ?_, HM.out, (HR.out.1.slab.free _).small.mono (by omega), fun p hp => Nat.ne_of_lt (HI.out.2.2.2 p hp), ?_⟩⟩
      · have h1 := HR.out.1.apart HM.out
        exact Classical.byContradiction fun h2 => h1 q (Tab.mem_del.2 ⟨hq, fun e1 => h2 e1.symm⟩) e
      · rw [HST.out w.heap.size, HF1.out]; rfl
  case rest =>
    obtain ⟨x, s', e, u, fresh, rfl, HX⟩ := hcut
    have cel := fun j => Mem.row_cell HX.out.1.b1 j
    have i0 := cel 0
    have i1 := cel 1
    have i2 := cel 2
    have i3 := cel 3
    have i4 := cel 4
    have i5 := cel 5
    have i6 := cel 6
    have i7 := cel 7
    have i8 := cel 8
    have i9 := cel 9
    simp only [Item.arr, List.getElem?_toArray, List.getElem?_cons_zero, List.getElem?_cons_succ] at i0 i1 i2 i3 i4 i5 i6 i7 i8 i9
    clear cel
    have hcl := owned_any it (HX.out.1.src HI.out.2.1 HB.out.2.1 HI.out.2.2.1) (by omega)
    unfold Item.arr at hcl
    go_wp2_with fail
    refine hcl.mono ?_
    rintro en w6 ⟨v6, rfl, hown6, hb6⟩
    obtain ⟨ya, yc, hv6⟩ := Src.shape (Src.of_row hown6)
    subst hv6
    have hit := HX.out.1.item HB.out.2.2 HB.out.1 hb6 hown6 HX.out.2.1
    have hth : w6.there x 0 (it.arr (.slice ya it.val.length yc)).size := fun j hj => by
      have h1 := (HX.out.1.below hb6).blk
      rw [Nat.zero_add, Mem.row_cell h1 j]
      refine ⟨?_, Mem.row_free h1 j⟩
      have h2 : j < (e.arr u).size := by
        have : (it.arr (.slice ya it.val.length yc)).size = 10 := rfl
        have : (e.arr u).size = 12 := rfl
        omega
      rw [Array.getElem?_eq_getElem h2]; rfl
    have H6 := Lib.hid (And.intro hit (And.intro hth (item_one it hown6)))
    clear hcl hown6 hb6 hit hth i0 i1 i2 i3 i4 i5 i6 i7 i8 i9
    go_wp2_with (first | (refine wpList_store_mid rfl 34 _ _ rfl x 0 (it.arr (.slice ya it.val.length yc)) rfl rfl H6.out.2.1 (item_size it _) H6.out.2.2 ?_) | fail)
    obtain ⟨w7, hw7⟩ : ∃ w7, w6.setCells x 0 (it.arr (.slice ya it.val.length yc)).toList = w7 := ⟨_, rfl⟩
    have H7 : Hid (Beside W w0 (n + 1) b w.heap.size (w.heap.size + 1) col seed (.cells (it.arr (.slice a it.val.length c)) 34 (0, 0)) (.cells env.arr 36 (0, 0)) { s' with ent := upd s'.ent x ⟨it, e.chunk⟩ } w7 ∧ (it.key, x) ∈ s'.tab.L) := Lib.hid (by have := H6.out.1.1; rw [hw7] at this; exact ⟨this, HX.out.2.2.1⟩)
    rw [hw7]
    have HX2 := Lib.hid HX.out.2.2.2.2
    have hsm := HX.out.2.2.2.1
    clear hw7
    have cel := fun j => Mem.row_cell H7.out.1.b1 j
    have i0 := cel 0
    have i1 := cel 1
    have i2 := cel 2
    have i3 := cel 3
    have i4 := cel 4
    have i5 := cel 5
    have i6 := cel 6
    have i7 := cel 7
    have i8 := cel 8
    have i9 := cel 9
    simp only [Item.arr, List.getElem?_toArray, List.getElem?_cons_zero, List.getElem?_cons_succ] at i0 i1 i2 i3 i4 i5 i6 i7 i8 i9
    clear cel
    have hsz2 := fun w' => size_any it a c w' (by omega) (by omega)
    unfold Item.arr at hsz2
    obtain ⟨ad, c1, htk⟩ := H7.out.1.takes HB.out.2.2 HB.out.1 hsm (Nat.le_refl _) it.size
    obtain ⟨⟨ck1, ck2⟩, hck⟩ : ∃ ck, (s'.slab.take it.size).1.1 = ck := ⟨_, rfl⟩
    obtain ⟨ce, hce⟩ : ∃ ce, (s'.slab.take it.size).1.2 = ce := ⟨_, rfl⟩
    have htk2 := fun w' hb => htk w' hb
    simp only [hck, hce] at htk2
    have HCK := Lib.hid hck
    have hbl : b < w7.heap.size := block_lt_of_cell c1
    have hBl : w.heap.size < w7.heap.size := block_lt_of_cell i0
    have hmx' : (it.key, x) ∈ ({ s' with ent := upd s'.ent x ⟨it, e.chunk⟩ } : St).tab.L := H7.out.2
    obtain ⟨v7, e7, o7⟩ := H7.out.1.entry hmx'
    obtain ⟨z7, y7, hv7⟩ := Src.shape (Src.of_row o7)
    subst hv7
    have hbx : b ≠ x := fun e9 => by
      have h1 := Mem.row_cell e7 1
      rw [← e9, c1] at h1
      have h2 := congrArg (fun o => o.getD undef) h1
      simp [Ent.arr] at h2
    have hBx : w.heap.size ≠ x := fun e9 => by
      have h1 := H7.out.1.b1
      rw [e9, e7] at h1
      injection h1 with h1
      injection h1 with h1
      have := congrArg Array.size h1
      cases this
    clear htk hck hce hsm hmx' e7 o7
    go_upto_region 14 with (fail)
    go_region_held3 (fun W' : World => W'.cell? ⟨b, 1, none⟩ = some (.pointer (some ⟨ad.mb, 0, none⟩)) ∧ W'.cell? ⟨w.heap.size, 0, none⟩ = some (.string it.key) ∧ W'.cell? ⟨w.heap.size, 1, none⟩ = some (.slice a it.val.length c) ∧ W'.cell? ⟨w.heap.size, 2, none⟩ = some (.int .u32 it.flags) ∧ W'.cell? ⟨w.heap.size, 3, none⟩ = some (.int .i64 it.exp) ∧ W'.cell? ⟨w.heap.size, 4, none⟩ = some (.int .u64 it.cas) ∧ W'.cell? ⟨w.heap.size, 5, none⟩ = some (.int .i64 it.sec) ∧ W'.cell? ⟨w.heap.size, 6, none⟩ = some (.int .u64 it.seq) ∧ W'.cell? ⟨w.heap.size, 7, none⟩ = some (.bool it.stale) ∧ W'.cell? ⟨w.heap.size, 8, none⟩ = some (.bool it.won) ∧ W'.cell? ⟨w.heap.size, 9, none⟩ = some (.bool it.seen))
      (first
        | exact ⟨c1, i0, i1, i2, i3, i4, i5, i6, i7, i8, i9⟩
        | (have hk9 := fun (B i : Nat) (hB : B < w7.heap.size) => World.cell?_of_block (a := ⟨B, i, none⟩) (hbS.block B hB); exact ⟨(hk9 b 1 hbl).trans c1, (hk9 _ 0 hBl).trans i0, (hk9 _ 1 hBl).trans i1, (hk9 _ 2 hBl).trans i2, (hk9 _ 3 hBl).trans i3, (hk9 _ 4 hBl).trans i4, (hk9 _ 5 hBl).trans i5, (hk9 _ 6 hBl).trans i6, (hk9 _ 7 hBl).trans i7, (hk9 _ 8 hBl).trans i8, (hk9 _ 9 hBl).trans i9⟩)
        | (have hk9 := fun j => Mem.row_cell HT.out.1.b1 j; exact ⟨HT.out.2, hk9 0, hk9 1, hk9 2, hk9 3, hk9 4, hk9 5, hk9 6, hk9 7, hk9 8, hk9 9⟩)
        | (have hk9 := fun j => Mem.row_cell HT.out.1.b1 j; have hs9 := fun (B i : Nat) (hB : B ≠ x) => (World.cell?_of_block (a := ⟨B, i, none⟩) ((Below.heap_setCell (wT.setCell ⟨x, 10, none⟩ (.int .i64 ck1)) ⟨x, 11, none⟩ (.int .i64 ck2) B hB).trans (Below.heap_setCell wT ⟨x, 10, none⟩ (.int .i64 ck1) B hB))); exact ⟨(hs9 b 1 hbx).trans HT.out.2, (hs9 _ 0 hBx).trans (hk9 0), (hs9 _ 1 hBx).trans (hk9 1), (hs9 _ 2 hBx).trans (hk9 2), (hs9 _ 3 hBx).trans (hk9 3), (hs9 _ 4 hBx).trans (hk9 4), (hs9 _ 5 hBx).trans (hk9 5), (hs9 _ 6 hBx).trans (hk9 6), (hs9 _ 7 hBx).trans (hk9 7), (hs9 _ 8 hBx).trans (hk9 8), (hs9 _ 9 hBx).trans (hk9 9)⟩))
      (first
        | (go_at_call 39; refine (hsz2 _).mono ?_; rintro en wS ⟨rfl, hbS⟩)
        | (go_at_call 46; refine (htk2 _ (Mem.tr (Below.drew (Below.refl _ w7)) hbS)).mono ?_; rintro en wT ⟨rfl, hT⟩; have HT := Lib.hid hT; obtain ⟨vT, eT, -⟩ := hT.1.entry (k := it.key) (x := x) H7.out.2; have d10 : wT.cell? ⟨x, 10, none⟩ = some (.int .i64 e.chunk.1) := (Mem.row_cell eT 10).trans (by simp [Ent.arr]); have d11 : wT.cell? ⟨x, 11, none⟩ = some (.int .i64 e.chunk.2) := (Mem.row_cell eT 11).trans (by simp [Ent.arr]); have g10 := Mem.row_free eT 10; have g11 := Mem.row_free eT 11; clear hT eT))
    have hfin : Beside W w0 (n + 1) b w.heap.size (w.heap.size + 1) col seed (.cells (it.arr (.slice a it.val.length c)) 34 (0, 0)) (.cells env.arr 36 (0, 0)) (s'.fill x it) ((wT.setCell ⟨x, 10, none⟩ (.int .i64 ck1)).setCell ⟨x, 11, none⟩ (.int .i64 ck2)) := by
      have h1 := HT.out.1.chunk HB.out.2.2 HB.out.1 H7.out.2 (ck1, ck2)
      have h2 : ({ { { s' with ent := upd s'.ent x ⟨it, e.chunk⟩ } with slab := (s'.slab.take it.size).2 } with ent := upd (upd s'.ent x ⟨it, e.chunk⟩) x ⟨((upd s'.ent x ⟨it, e.chunk⟩) x).it, (ck1, ck2)⟩ } : St) = s'.fill x it := by
        unfold St.fill
        rw [HCK.out, upd_same]
        rw [upd_upd]
      rw [← h2]
      exact h1
    have HFN := Lib.hid hfin
    clear hfin htk2 hsz2 d10 d11 g10 g11 c1 i0 i1 i2 i3 i4 i5 i6 i7 i8 i9 hbx hBx hbl hBl
    go_wp2_with fail
    go_ret
    obtain ⟨col1, a1, f1⟩ := HFN.out.run
    refine ⟨fresh, HX2.out.1, by rw [HX2.out.2]; rfl, ?_⟩
    rw [HX2.out.2]
    exact ⟨col1, a1, (Fr.below HB.out.2.1).trans f1⟩
end
end Go.Proofs.YteonjgnnpgpnnaaGreat.Shard

/- Layer 11: Update. -/
namespace Go.Proofs.YteonjgnnpgpnnaaGreat.Shard
open Go Go.RowKit Go.Proofs.YteonjgnnpgpnnaaGreat.Mem Go.Proofs.YteonjgnnpgpnnaaGreat.App

section
variable {W w : World} {n N b : Nat} {col : Col} {seed : Int} {s : St}
def TurnPost (W w : World) (n b : Nat) (col : Col) (seed : Int) (y : Int × St) (e : Ending) (w' : World) : Prop := e = .returned (.int .i64 y.1) ∧ Turn W w n b col seed y.2 w'
set_option maxRecDepth 100000 in
set_option maxHeartbeats 4000000 in
theorem update_any (h : At W w n b col seed s) (hn : n ≤ 1000) {n0 : Nat} (hi : Inv n0 N s) (it : Item) (a : Option Addr) (c : Nat) (hks : it.key.size ≤ 300) (hvs : it.val.length ≤ 3000) (hsrc : SrcB w (.slice a it.val.length c) it.val) (hsc : it.val ≠ [] → ∀ g, (Value.slice a it.val.length c).ownBlock = some g → col g = none) :
    Calls Tryz.prog 30 #[.pointer (some ⟨b, 0, none⟩), .agg (it.arr (.slice a it.val.length c))] w (TurnPost W w n b col seed (s.update it)) := by
  have hcn : ∀ j, w.heap.size ≤ j → col j = none := fun j hj => Classical.byContradiction fun e => by have := h.lt j e; omega
  have hb2 : Below w.heap.size w (w.alloc (.cells (it.arr (.slice a it.val.length c)) 34)) := Mem.al (Below.refl _ _) _
  have n1 : (w.alloc (.cells (it.arr (.slice a it.val.length c)) 34)).heap[w.heap.size]? = some (.cells (it.arr (.slice a it.val.length c)) 34 (0, 0)) := Mem.new_block w _
  have hsz : w.heap.size ≤ w.heap.size ∧ w.heap.size < (w.alloc (.cells (it.arr (.slice a it.val.length c)) 34)).heap.size := by simp
  have hbs : Beside W (w.alloc (.cells (it.arr (.slice a it.val.length c)) 34)) n b w.heap.size w.heap.size col seed (.cells (it.arr (.slice a it.val.length c)) 34 (0, 0)) (.cells (it.arr (.slice a it.val.length c)) 34 (0, 0)) s (w.alloc (.cells (it.arr (.slice a it.val.length c)) 34)) := ⟨⟨col, h.step hb2, Fr.refl _ _⟩, n1, n1⟩
  obtain ⟨w0, hw0⟩ : ∃ w0, w.alloc (.cells (it.arr (.slice a it.val.length c)) 34) = w0 := ⟨_, rfl⟩
  rw [hw0] at hbs hb2 hsz
  have HB := Lib.hid (And.intro hcn (And.intro hb2 hsz))
  have HI := Lib.hid (And.intro hi (And.intro hsrc hsc))
  have HS := Lib.hid hbs
  obtain ⟨y, hy⟩ : ∃ y, s.update it = y := ⟨_, rfl⟩
  have hyu : (match Tab.get s.tab.L it.key with | none => (6, s.tick) | some x => if (s.ent x).it.val.length = it.val.length then (0, { s.tick with ent := upd s.ent x ⟨it, (s.ent x).chunk⟩ }) else (1, s.tick)) = y := hy
  rw [hy]
  have HY := Lib.hid hyu
  obtain ⟨ad, c0, hget⟩ := (hbs.below (Below.drew (Below.refl _ w0))).get hsz hcn it.key (by unfold maxLen; omega)
  replace c0 : w0.cell? ⟨b, 0, none⟩ = some (.pointer (some ⟨ad.tb, 0, none⟩)) := c0
  have i0 : w0.cell? ⟨w.heap.size, 0, none⟩ = some (.string it.key) := Mem.row_cell hbs.b1 0
  clear n1 hcn hb2 hsz h hbs hi hsrc hsc hy hyu
  unfold Item.arr at hw0 ⊢
  rcases hg : Tab.get s.tab.L it.key with _ | x
  · have hgv : TabE.getV s.tab.L it.key = .tuple #[.pointer none, .bool false] := by unfold TabE.getV; rw [hg]
    rw [hgv] at hget
    have HG := Lib.hid hg
    clear hg hgv
    go_enter Tryz.func30, Tryz.ntmps30
    go_wp2_with fail
    go_region_held3 (fun W' : World => W'.cell? ⟨b, 0, none⟩ = some (.pointer (some ⟨ad.tb, 0, none⟩)) ∧ W'.cell? ⟨w.heap.size, 0, none⟩ = some (.string it.key))
      (first
        | exact ⟨c0, i0⟩
        | exact ⟨H1.out.2, Mem.row_cell H1.out.1.b1 0⟩)
      (first
        | (go_at_call 63; refine hget.mono ?_; rintro en w1 ⟨rfl, h1⟩; have H1 := Lib.hid h1; clear h1))
    clear hget c0 i0
    go_wp2_with fail
    go_ret
    obtain ⟨col1, a1, f1⟩ := H1.out.1.run
    have e := HY.out
    rw [HG.out] at e
    rw [← e]
    exact ⟨rfl, col1, a1, (Fr.below HB.out.2.1).trans f1⟩
  · have hgv : TabE.getV s.tab.L it.key = .tuple #[.pointer (some ⟨x, 0, none⟩), .bool true] := by unfold TabE.getV; rw [hg]
    rw [hgv] at hget
    have hm : (it.key, x) ∈ s.tick.tab.L := (Tab.get_mem HI.out.1.rise.nodup).1 hg
    have HG := Lib.hid (And.intro hg hm)
    clear hg hgv hm
    go_enter Tryz.func30, Tryz.ntmps30
    go_wp2_with fail
    go_region_held3 (fun W' : World => W'.cell? ⟨b, 0, none⟩ = some (.pointer (some ⟨ad.tb, 0, none⟩)) ∧ W'.cell? ⟨w.heap.size, 0, none⟩ = some (.string it.key))
      (first
        | exact ⟨c0, i0⟩
        | exact ⟨H1.out.2, Mem.row_cell H1.out.1.b1 0⟩)
      (first
        | (go_at_call 63; refine hget.mono ?_; rintro en w1 ⟨rfl, h1⟩; have H1 := Lib.hid h1; clear h1))
    clear hget c0 i0
    obtain ⟨vx, ex, ox⟩ := H1.out.1.entry HG.out.2
    obtain ⟨za, zc, hvx⟩ := Src.shape (Src.of_row ox)
    subst hvx
    have d1 : w1.cell? ⟨x, 1, none⟩ = some (.slice za (s.ent x).it.val.length zc) := Mem.row_cell ex 1
    have i1 : w1.cell? ⟨w.heap.size, 1, none⟩ = some (.slice a it.val.length c) := Mem.row_cell H1.out.1.b1 1
    clear ex ox
    by_cases hl : (s.ent x).it.val.length = it.val.length
    · have hlb : (((s.ent x).it.val.length : Int) != (it.val.length : Int)) = false := by rw [hl]; simp
      have HL := Lib.hid hl
      clear hl
      go_wp2_with fail
      go_quiet (fail)
      clear d1 i1 hlb
      obtain ⟨w2, hw2⟩ : ∃ w2, w1.drewN nq = w2 := ⟨_, rfl⟩
      have hb12 : Below w1.heap.size w1 w2 := by rw [← hw2]; exact Mem.dn (Below.refl _ _) _
      rw [hw2]
      have H2 := Lib.hid (H1.out.1.below hb12)
      obtain ⟨u, hheld⟩ := H2.out.held HG.out.2 (Nat.le_refl n) (by omega)
      have HX := Lib.hid hheld
      clear hw2 hb12 hheld
      have cel := fun j => Mem.row_cell H2.out.b1 j
      have i0 := cel 0
      have i1 := cel 1
      have i2 := cel 2
      have i3 := cel 3
      have i4 := cel 4
      have i5 := cel 5
      have i6 := cel 6
      have i7 := cel 7
      have i8 := cel 8
      have i9 := cel 9
      simp only [Item.arr, List.getElem?_toArray, List.getElem?_cons_zero, List.getElem?_cons_succ] at i0 i1 i2 i3 i4 i5 i6 i7 i8 i9
      clear cel
      have hcl := owned_any it (HX.out.src HI.out.2.1 HB.out.2.1 HI.out.2.2) (by omega)
      unfold Item.arr at hcl
      go_wp2_with fail
      refine hcl.mono ?_
      rintro en w6 ⟨v6, rfl, hown6, hb6⟩
      obtain ⟨ya, yc, hv6⟩ := Src.shape (Src.of_row hown6)
      subst hv6
      have hkey : ∀ q ∈ s.tick.tab.L, q.2 = x → it.key = q.1 := fun q hq e => by
        have h1 := HI.out.1.apart HG.out.2
        exact Classical.byContradiction fun h2 => h1 q (Tab.mem_del.2 ⟨hq, fun e1 => h2 e1.symm⟩) e
      have hit := HX.out.item HB.out.2.2 HB.out.1 hb6 hown6 hkey
      have hth : w6.there x 0 (it.arr (.slice ya it.val.length yc)).size := fun j hj => by
        have h1 := (HX.out.below hb6).blk
        rw [Nat.zero_add, Mem.row_cell h1 j]
        refine ⟨?_, Mem.row_free h1 j⟩
        have h2 : j < ((s.tick.ent x).arr u).size := by
          have : (it.arr (.slice ya it.val.length yc)).size = 10 := rfl
          have : ((s.tick.ent x).arr u).size = 12 := rfl
          omega
        rw [Array.getElem?_eq_getElem h2]; rfl
      have H6 := Lib.hid (And.intro hit (And.intro hth (item_one it hown6)))
      clear hcl hown6 hb6 hit hth hkey i0 i1 i2 i3 i4 i5 i6 i7 i8 i9
      go_wp2_with (first | (refine wpList_store_mid rfl 34 _ _ rfl x 0 (it.arr (.slice ya it.val.length yc)) rfl rfl H6.out.2.1 (item_size it _) H6.out.2.2 ?_) | fail)
      go_ret
      obtain ⟨col1, a1, f1⟩ := H6.out.1.1.run
      have e := HY.out
      rw [HG.out.1] at e
      simp only at e
      rw [if_pos HL.out] at e
      rw [← e]
      exact ⟨rfl, col1, a1, (Fr.below HB.out.2.1).trans f1⟩
    · have hlb : (((s.ent x).it.val.length : Int) != (it.val.length : Int)) = true := by simp; omega
      have HL := Lib.hid hl
      clear hl
      go_wp2_with fail
      go_quiet (fail)
      clear d1 i1 hlb
      go_wp2_with fail
      go_ret
      obtain ⟨col1, a1, f1⟩ := H1.out.1.run
      have e := HY.out
      rw [HG.out.1] at e
      simp only at e
      rw [if_neg HL.out] at e
      rw [← e]
      exact ⟨rfl, col1, a1.step (Mem.dn (Below.refl _ _) _), ((Fr.below HB.out.2.1).trans f1).trans (Fr.below (Mem.dn (Below.refl _ _) _))⟩
end
end Go.Proofs.YteonjgnnpgpnnaaGreat.Shard

/- Layer 9: slices.Grow of nothing, slices.Concat of the two lists of buckets. -/
namespace Go.Proofs.YteonjgnnpgpnnaaGreat.TabE
set_option maxRecDepth 100000
open Go Go.RowKit Go.Proofs.YteonjgnnpgpnnaaGreat.Mem Go.Proofs.YteonjgnnpgpnnaaGreat.Tab Go.Proofs.YteonjgnnpgpnnaaGreat.App

def GrowPost (w : World) (e : Ending) (w' : World) : Prop := ∃ v c, v = .slice (some ⟨w.heap.size, 0, none⟩) 0 c ∧ e = .returned v ∧ w'.ownsRow w.heap.size 147 1 v 0 [] ∧ Below w.heap.size w w'
set_option maxHeartbeats 1000000 in
theorem grow_any {n : Nat} (h0 : 0 < n) (hn : n ≤ 3000000000) (w : World) :
    Calls Tryz.prog 123 #[.slice none 0 0, .int .i64 n] w (GrowPost w) := by
  obtain ⟨i0, hi, hz0, hz1, hz2⟩ := info_parts infoBk
  have hrun := fun ty w' => Lib.run_append_nil_zeros (P := Tryz.prog) w' 101 3 ty 147 i0 _ .i64 .i64 Tryz.underlying101 Tryz.underlying3 hi hz0 n h0 (by omega) (by omega) (by rw [hz2]; omega)
  have hfin : ∀ (c : Nat) (cs : Array Value), n ≤ c → c ≤ maxLen → cs.size = c → GrowPost w (.returned (.slice (some ⟨w.heap.size, 0, none⟩) 0 c)) (w.drew.alloc (.cells cs 147)) := fun c cs h1 h2 h3 => by
    refine ⟨_, c, rfl, rfl, ⟨rfl, .inr ⟨w.heap.size, c, cs, rfl, Nat.le_refl _, Mem.new_block w.drew _, Nat.zero_le _, h2, by omega, by simp⟩⟩, (Below.drew (Below.refl _ w)).alloc (by exact Nat.le_refl _) _⟩
  have hg1 := fun (w' : World) => grownCap_ge w' n 0 147
  have hg2 := fun (w' : World) => grownCap_le_maxLen w' n 0 147 (by unfold maxLen; omega)
  have HF := Lib.hid (And.intro hfin (And.intro hg1 hg2))
  have hn1 : (0 : Int) < n := by omega
  have hn2 : (n : Int) ≤ 3000000000 := by omega
  clear hfin hg1 hg2
  go_enter Tryz.func123, Tryz.ntmps123
  go_wp2_with (at_builtin; refine Lib.wpList_append_run _ rfl _ _ _ _ rfl _ _ rfl rfl _ _ (hrun _ _) ?_)
  go_ret
  exact HF.out.1 _ _ (HF.out.2.1 _) (HF.out.2.2 _) (by simp [Builtin.zeroCells]; have := HF.out.2.1 w; omega)

/-- The two lists' cells. -/
def bkCells (gv : Nat → Value) (a n : Nat) : List Value := (List.range n).map fun k => gv (a + k)
theorem bkCells_len (gv : Nat → Value) (a n : Nat) : (bkCells gv a n).length = n := by simp [bkCells]
theorem bkCells_get (gv : Nat → Value) (a n k : Nat) (hk : k < n) : (bkCells gv a n)[k]? = some (gv (a + k)) := by simp [bkCells, hk]
theorem bkCells_app (gv : Nat → Value) (n m : Nat) : bkCells gv 0 n ++ bkCells gv n m = bkCells gv 0 (n + m) := by
  unfold bkCells
  rw [List.range_add, List.map_append, List.map_map]
  simp [Function.comp_def]
def ConcatPost (w : World) (c : Con V) (gv : Nat → Value) (e : Ending) (w' : World) : Prop := ∃ v, e = .returned v ∧ w'.ownsRow w.heap.size 147 1 v (c.E + c.N) (bkCells gv 0 (c.E + c.N)) ∧ Below w.heap.size w w'
theorem one_bk {gv : Nat → Value} {a n : Nat} (h : ∀ k, ∃ x y z, gv k = .slice x y z) : ∀ u ∈ bkCells gv a n, u.oneCell' = true := fun u hu => by
  simp only [bkCells, List.mem_map] at hu
  obtain ⟨k, _, rfl⟩ := hu
  obtain ⟨x, y, z, e⟩ := h (a + k)
  rw [e]; rfl
def SumRel (E N g : Nat) (sz i : Value) : Prop := (g = 2 ∧ i = .int .i64 0 ∧ sz = .int .i64 0) ∨ (g = 1 ∧ i = .int .i64 1 ∧ sz = .int .i64 E) ∨ (g = 0 ∧ i = .int .i64 2 ∧ sz = .int .i64 ((E : Int) + N))
def AppRel (w : World) (gv : Nat → Value) (E N g : Nat) (v i : Value) (w' : World) : Prop := Below w.heap.size w w' ∧ ((g = 2 ∧ i = .int .i64 0 ∧ ∃ a c, v = .slice a 0 c ∧ w'.ownsRow w.heap.size 147 1 v 0 []) ∨ (g = 1 ∧ i = .int .i64 1 ∧ ∃ a c, v = .slice a E c ∧ w'.ownsRow w.heap.size 147 1 v E (bkCells gv 0 E)) ∨ (g = 0 ∧ i = .int .i64 2 ∧ ∃ a c, v = .slice a (E + N) c ∧ w'.ownsRow w.heap.size 147 1 v (E + N) (bkCells gv 0 (E + N))))
set_option maxRecDepth 100000 in
set_option maxHeartbeats 2000000 in
theorem concat_any {w : World} {eb nb E N : Nat} {ea : Option Addr} {gv : Nat → Value} {pb : Nat} (he : (E = 0 ∧ ea = none) ∨ (ea = some ⟨eb, 0, none⟩ ∧ ∃ a, w.heap[eb]? = some (bkObj a) ∧ ∀ k, k < E → a[k]? = some (gv k)))
    (hn : ∃ a, w.heap[nb]? = some (bkObj a) ∧ ∀ k, k < N → a[k]? = some (gv (E + k))) (hgs : ∀ k, ∃ x y z, gv k = .slice x y z) (hN : 0 < N) (hE1 : E ≤ 1000000100) (hN1 : N ≤ 1000000100)
    (hp : w.heap[pb]? = some (.cells #[.slice ea E E, .slice (some ⟨nb, 0, none⟩) N N] 101 (0, 0))) :
    Calls Tryz.prog 111 #[.slice (some ⟨pb, 0, none⟩) 2 2] w fun e w' => ∃ v, e = .returned v ∧ w'.ownsRow w.heap.size 147 1 v (E + N) (bkCells gv 0 (E + N)) ∧ Below w.heap.size w w' := by
  obtain ⟨i0, hi, hz0, hz1, hz2⟩ := info_parts infoBk
  have p0 := Mem.row_cell hp 0
  have p1 := Mem.row_cell hp 1
  simp only [List.getElem?_toArray, List.getElem?_cons_zero, List.getElem?_cons_succ] at p0 p1
  have hpl : pb < w.heap.size := (Array.getElem?_eq_some_iff.1 hp).1
  have hs1 : Src w 1 (.slice ea E E) E (bkCells gv 0 E) := by
    rcases he with ⟨rfl, rfl⟩ | ⟨rfl, a, ha, hc⟩
    · exact .inl ⟨rfl, rfl, rfl⟩
    · refine .inr ⟨eb, 0, E, rfl, by rw [bkCells_len]; omega, (Array.getElem?_eq_some_iff.1 ha).1, fun j u hu => ?_⟩
      have hj : j < E := by have := (List.getElem?_eq_some_iff.1 hu).1; rwa [bkCells_len] at this
      rw [bkCells_get _ _ _ _ hj] at hu
      rw [Nat.zero_add] at hu ⊢
      exact ((Mem.row_cell ha j).trans (hc j hj)).trans hu
  have hs2 : Src w 1 (.slice (some ⟨nb, 0, none⟩) N N) N (bkCells gv E N) := by
    obtain ⟨a, ha, hc⟩ := hn
    refine .inr ⟨nb, 0, N, rfl, by rw [bkCells_len]; omega, (Array.getElem?_eq_some_iff.1 ha).1, fun j u hu => ?_⟩
    have hj : j < N := by have := (List.getElem?_eq_some_iff.1 hu).1; rwa [bkCells_len] at this
    rw [bkCells_get _ _ _ _ hj] at hu
    rw [Nat.zero_add]
    exact ((Mem.row_cell ha j).trans (hc j hj)).trans hu
  have HS := Lib.hid (And.intro hs1 (And.intro hs2 hgs))
  have hg := grow_any (n := E + N) (by omega) (by omega) w
  clear he hn hgs hp hs1 hs2
  have hEi : (E : Int) ≤ 1000000100 := by omega
  have hNi : (N : Int) ≤ 1000000100 := by omega
  unfold GrowPost at hg
  go_enter Tryz.func111, Tryz.ntmps111
  go_wp2_with fail
  go_loopg [3, 11] 2 (fun g sz i wr => w = wr ∧ SumRel E N g sz i)
  case atStart => exact ⟨rfl, .inl ⟨rfl, rfl, rfl⟩⟩
  case round =>
    obtain ⟨rfl, h | h | h⟩ := hrel
    · obtain ⟨rfl, rfl, rfl⟩ := h
      clear hg
      go_wp2_with fail
      go_roundg 1
      case measure => omega
      case rel => exact ⟨rfl, .inr (.inl ⟨rfl, rfl, rfl⟩)⟩
    · obtain ⟨rfl, rfl, rfl⟩ := h
      clear hg
      go_wp2_with fail
      go_roundg 0
      case measure => omega
      case rel => exact ⟨rfl, .inr (.inr ⟨rfl, rfl, rfl⟩)⟩
    · obtain ⟨rfl, rfl, rfl⟩ := h
      have P01 := Lib.hid (And.intro p0 p1)
      clear p0 p1
      rw [show (((E + N : Nat) : Nat) : Int) = (E : Int) + N from by omega] at hg
      go_wp2_with fail
      refine hg.mono ?_
      rintro e w2 ⟨v, c0, rfl, rfl, hown, hb⟩
      have H2 := Lib.hid (And.intro hown hb)
      clear hown hb hg
      go_wp2_with fail
      go_loopg [6, 27] 2 (fun g v i wx => AppRel w gv E N g v i wx)
      case atStart => exact ⟨H2.out.2, .inl ⟨rfl, rfl, _, _, rfl, H2.out.1⟩⟩
      case round =>
        obtain ⟨hb, h | h | h⟩ := hrel
        · obtain ⟨rfl, rfl, ya, yc, rfl, hown⟩ := h
          have HO := Lib.hid (And.intro hown (And.intro (HS.out.1.below hb) hb))
          have q0 := (hb.cell (p := ⟨pb, 0, none⟩) hpl).trans P01.out.1
          have hz := hb.size
          clear hown hb
          go_wp2_with (at_builtin; refine wpList_append_src _ _ 101 101 147 147 i0 _ 1 24 w.heap.size _ _ 0 E [] (bkCells gv 0 E) rfl rfl Tryz.underlying101 Tryz.underlying101 hi hz0 hz1 hz2 rfl (by omega) rfl rfl HO.out.1 HO.out.2.1 (one_bk HS.out.2.2) (by unfold maxLen; omega) (by omega) hz ?_; intro v' w5 hown5 hg5 hat5; have H5 := Lib.hid (show AppRel w gv E N 1 v' (.int .i64 1) w5 from ⟨HO.out.2.2.grown hg5 hz (fun g e => (own_block_lt HO.out.1 g e).1), .inr (.inl ⟨rfl, rfl, (Src.shape (Src.of_row hown5)).elim (fun a h => h.elim (fun c h => ⟨a, c, by rw [h, Nat.zero_add], by rw [Nat.zero_add] at hown5; exact hown5⟩))⟩)⟩); clear hown5 hg5 hat5)
          go_roundg 1
          case measure => omega
          case rel => exact H5.out
        · obtain ⟨rfl, rfl, ya, yc, rfl, hown⟩ := h
          have HO := Lib.hid (And.intro hown (And.intro (HS.out.2.1.below hb) hb))
          have q1 := (hb.cell (p := ⟨pb, 1, none⟩) hpl).trans P01.out.2
          have hz := hb.size
          clear hown hb
          go_wp2_with (at_builtin; refine wpList_append_src _ _ 101 101 147 147 i0 _ 1 24 w.heap.size _ _ E N (bkCells gv 0 E) (bkCells gv E N) rfl rfl Tryz.underlying101 Tryz.underlying101 hi hz0 hz1 hz2 rfl (by omega) rfl rfl HO.out.1 HO.out.2.1 (one_bk HS.out.2.2) (by unfold maxLen; omega) (by omega) hz ?_; intro v' w5 hown5 hg5 hat5; have H5 := Lib.hid (show AppRel w gv E N 0 v' (.int .i64 2) w5 from ⟨HO.out.2.2.grown hg5 hz (fun g e => (own_block_lt HO.out.1 g e).1), .inr (.inr ⟨rfl, rfl, (Src.shape (Src.of_row hown5)).elim (fun a h => h.elim (fun c h => ⟨a, c, h, by rw [bkCells_app] at hown5; exact hown5⟩))⟩)⟩); clear hown5 hg5 hat5)
          go_roundg 0
          case measure => omega
          case rel => exact H5.out
        · obtain ⟨rfl, rfl, ya, yc, rfl, hown⟩ := h
          have HO := Lib.hid (And.intro hown hb)
          clear hown hb
          go_wp2_with fail
          go_ret
          exact ⟨_, rfl, HO.out.1, HO.out.2⟩
end Go.Proofs.YteonjgnnpgpnnaaGreat.TabE

/- strings.Compare. -/
namespace Go.Proofs.YteonjgnnpgpnnaaGreat.StrCmp
open Go Go.RowKit
set_option maxRecDepth 100000 in
set_option maxHeartbeats 1000000 in
set_option maxRecDepth 100000 in
theorem inner_any (a b : ByteArray) (w : World) :
    Calls Tryz.prog 126 #[.string a, .string b] w fun e w' => e = .returned (.int .i64 (Lib.compareBytes a.data.toList b.data.toList)) ∧ w = w' := by
  go_enter Tryz.func126, Tryz.ntmps126
  go_wp2
  rw [run_callFunc_extern Tryz.func139 (by kernel_rfl) (by kernel_rfl) (by kernel_rfl) (e := Extern.BytealgCompare.compare) (by kernel_rfl), Lib.run_compareString]
  simp only [Result.andThen]
  rw [Oper.upon_value]
  go_wp2
  go_ret
  exact ⟨rfl, rfl⟩
theorem compare_any (a b : ByteArray) (w : World) :
    Calls Tryz.prog 114 #[.string a, .string b] w fun e w' => e = .returned (.int .i64 (Lib.compareBytes a.data.toList b.data.toList)) ∧ w = w' := by
  have hc := inner_any a b
  generalize Lib.compareBytes a.data.toList b.data.toList = r at *
  go_enter Tryz.func114, Tryz.ntmps114
  go_wp2_with (go_at_call 126; refine (hc _).mono ?_; rintro e w' ⟨rfl, rfl⟩)
  go_ret
  exact ⟨rfl, rfl⟩
end Go.Proofs.YteonjgnnpgpnnaaGreat.StrCmp

/- Layer 9: the sort of pairs by their texts. -/
namespace Go.Proofs.YteonjgnnpgpnnaaGreat.TabE
set_option maxRecDepth 100000
open Go Go.RowKit Go.Proofs.YteonjgnnpgpnnaaGreat.Mem Go.Proofs.YteonjgnnpgpnnaaGreat.Tab Go.Proofs.YteonjgnnpgpnnaaGreat.App

abbrev cmpP (x y : ByteArray × V) : Int := Lib.compareBytes x.1.data.toList y.1.data.toList
theorem cmp_less : ∀ a b : List UInt8, decide (Lib.compareBytes a b < 0) = Op.bytesLess a b
  | [], [] => rfl
  | [], _ :: _ => rfl
  | _ :: _, [] => rfl
  | x :: a, y :: b => by
    unfold Lib.compareBytes Op.bytesLess
    by_cases h1 : x < y
    · simp [h1]
    · rw [if_neg h1]
      by_cases h2 : y < x
      · have hne : ¬ x = y := fun e => by rw [e] at h2; exact UInt8.lt_irrefl _ h2
        rw [if_pos h2]; simp [h1, hne]
      · have he : x = y := UInt8.le_antisymm (UInt8.not_lt.1 h2) (UInt8.not_lt.1 h1)
        rw [if_neg h2, cmp_less a b]
        simp [he]
theorem ltOf_cmp (x y : ByteArray × V) : ltOf cmpP x y = ltK x.1 y.1 := cmp_less _ _
theorem swo_cmp : Sort.SWO (ltOf cmpP) where
  irrefl x := by rw [ltOf_cmp]; exact ltK_irrefl _
  trans x y z h1 h2 := by rw [ltOf_cmp] at *; exact ltK_trans h1 h2
  ntrans x y z h1 h2 := by
    rw [ltOf_cmp] at *
    cases h : ltK x.1 z.1
    · rfl
    · by_cases e : x.1 = y.1
      · rw [e, h2] at h; cases h
      · have := ltK_trans (ltK_total h1 e) h
        rw [h2] at this; cases this
set_option maxHeartbeats 1000000 in
theorem close_any (x y : ByteArray × V) (W : World) : Calls Tryz.prog 113 #[encP x, encP y] W fun e w' => e = .returned (.int .i64 (cmpP x y)) ∧ ∃ q os', w' = Sort.grow (W.drewN q) os' := by
  obtain ⟨k1, v1⟩ := x
  obtain ⟨k2, v2⟩ := y
  show Calls Tryz.prog _ #[.agg #[.string k1, (.pointer (some ⟨v1, 0, none⟩))], .agg #[.string k2, (.pointer (some ⟨v2, 0, none⟩))]] W _
  have hcon := StrCmp.compare_any k1 k2
  unfold cmpP
  generalize Lib.compareBytes (k1, v1).1.data.toList (k2, v2).1.data.toList = r at hcon ⊢
  go_enter Tryz.func113, Tryz.ntmps113
  go_wp2_with (go_at_call 114; refine (hcon _).mono ?_; rintro e w' ⟨rfl, rfl⟩)
  go_ret
  exact ⟨rfl, 0, _, by rw [Sort.alloc_eq_grow, Sort.alloc_eq_grow, Sort.grow_grow]; rfl⟩
theorem cmpLays (blk off size : Nat) (w : World) : CmpLays Tryz.prog 113 #[] pairCells 2 cmpP blk off size w :=
  fun _ _ _ _ x y => close_any x y _

/-- A world of the sort's, as a block sees it. -/
theorem sortWorld_blk {w : World} {blk m : Nat} {dk : Array (ByteArray × V)} {os : Array Obj} {cs : Array Value} {t : TypeId} {fz : Nat × Nat} (h : w.heap[blk]? = some (.cells cs t fz)) :
    ∃ cs', (sortWorldK pairCells 2 w blk 0 m dk os).heap[blk]? = some (.cells cs' t fz) ∧ cs'.size = cs.size := by
  have hl : blk < w.heap.size := (Array.getElem?_eq_some_iff.1 h).1
  refine ⟨Sort.putCells id 0 (Sort.flatK pairCells 2 dk) cs, ?_, by simp [Sort.putCells]⟩
  show ((w.heap.modify blk (Sort.onCells (Sort.putCells id 0 (Sort.flatK pairCells 2 dk)))) ++ os)[blk]? = _
  rw [Array.getElem?_append_left (by simpa using hl), Array.getElem?_modify, if_pos rfl, h]
  rfl
theorem sortWorld_far {w : World} {blk m j : Nat} {dk : Array (ByteArray × V)} {os : Array Obj} (hj : j ≠ blk) (hl : j < w.heap.size) : (sortWorldK pairCells 2 w blk 0 m dk os).heap[j]? = w.heap[j]? := by
  show ((w.heap.modify blk (Sort.onCells (Sort.putCells id 0 (Sort.flatK pairCells 2 dk)))) ++ os)[j]? = _
  rw [Array.getElem?_append_left (by simpa using hl), Array.getElem?_modify, if_neg (Ne.symm hj)]
theorem holds_row {w : World} {base g cap n : Nat} {l : Pairs V} (h : w.ownsRow base 145 2 (.slice (some ⟨g, 0, none⟩) n cap) n (cellsP l)) (hn : n = l.length) : Sort.HoldsK pairCells 2 w g 0 l.toArray := by
  rcases h.2 with ⟨e, _⟩ | ⟨g', cap', cur, e, h2, h3, h4, h5, h6, h7⟩
  · cases e
  injection e with e _ e2
  injection e with e
  injection e with e
  subst e; subst e2
  intro t ht
  rw [Sort.size_flatK] at ht
  simp only [List.size_toArray] at ht
  rw [Sort.get_flatK _ _ _ _ (by simpa using ht)]
  refine ⟨?_, Mem.row_free h3 _⟩
  rw [Nat.zero_add, Mem.row_cell h3]
  have hq : t / 2 < l.length := by omega
  obtain ⟨c1, c2⟩ := cellsP_get l (t / 2) _ (List.getElem?_eq_getElem hq)
  have hget : ∀ j u, (cellsP l)[j]? = some u → j < n * 2 → cur[j]? = some u := fun j u hu hj => by
    rw [← h7, List.getElem?_take, if_pos hj, Array.getElem?_toList] at hu; exact hu
  have e1 : (l.toArray[t / 2]! : ByteArray × V) = l[t / 2] := by rw [getElem!_pos l.toArray (t / 2) (by simpa using hq)]; simp
  rw [e1]
  have h2 : t % 2 = 0 ∨ t % 2 = 1 := by omega
  rcases h2 with h2 | h2
  · rw [h2]
    have : t = t / 2 * 2 := by omega
    have := hget _ _ c1 (by omega)
    rwa [← ‹t = t / 2 * 2›] at this
  · rw [h2]
    have e3 : t = t / 2 * 2 + 1 := by omega
    have := hget _ _ c2 (by omega)
    rw [← e3] at this
    exact this
theorem row_holds {w : World} {base g cap n : Nat} {d : Array (ByteArray × V)} {cs : Array Value} (h : Sort.HoldsK pairCells 2 w g 0 d) (hb : w.heap[g]? = some (.cells cs 145 (0, 0))) (hg : base ≤ g) (hn : d.size = n) (hc : n ≤ cap) (hm : cap ≤ maxLen) (hs : cs.size = cap * 2) :
    w.ownsRow base 145 2 (.slice (some ⟨g, 0, none⟩) n cap) n (cellsP d.toList) := by
  refine ⟨by rw [cellsP_len]; simp [hn], .inr ⟨g, cap, cs, rfl, hg, hb, hc, hm, hs, List.ext_getElem? fun j => ?_⟩⟩
  rw [List.getElem?_take]
  by_cases hj : j < n * 2
  · rw [if_pos hj, Array.getElem?_toList]
    have hq : j / 2 < d.size := by omega
    have h1 := (h.cell (i := j / 2) (c := j % 2) hq (by omega)).1
    rw [Nat.zero_add, show j / 2 * 2 + j % 2 = j from by omega, Mem.row_cell hb] at h1
    rw [h1]
    obtain ⟨c1, c2⟩ := cellsP_get d.toList (j / 2) d[j / 2]! (by rw [getElem!_pos d (j / 2) hq, List.getElem?_eq_getElem (by simpa using hq)]; simp)
    have h2 : j % 2 = 0 ∨ j % 2 = 1 := by omega
    rcases h2 with h2 | h2
    · rw [h2]
      have e3 : j = j / 2 * 2 := by omega
      rw [← e3] at c1
      rw [c1]; rfl
    · rw [h2]
      have e3 : j = j / 2 * 2 + 1 := by omega
      rw [← e3] at c2
      rw [c2]; rfl
  · rw [if_neg hj]
    symm
    rw [List.getElem?_eq_none_iff, cellsP_len]
    simp [hn]; omega
theorem sortWorld_below {w : World} {blk m B : Nat} {dk : Array (ByteArray × V)} {os : Array Obj} (hB : B ≤ blk) (hw : B ≤ w.heap.size) : Below B w (sortWorldK pairCells 2 w blk 0 m dk os) :=
  ⟨rfl, rfl, rfl, by
    show w.heap.size ≤ ((w.heap.modify blk (Sort.onCells (Sort.putCells id 0 (Sort.flatK pairCells 2 dk)))) ++ os).size
    simp, fun k hk => sortWorld_far (by omega) (by omega)⟩
/-- What is sorted, in the order of texts. -/
theorem sorted_rising {d d' : Array (ByteArray × V)} (hp : Sort.PermIn 0 d.size d d') (hs : Sort.SortedIn (ltOf cmpP) 0 d.size d') (hn : (d.toList.map (·.1)).Nodup) : Rising d'.toList ∧ d'.toList.Perm d.toList := by
  obtain ⟨h1, -, h3⟩ := hp
  have e1 : d'.extract 0 d.size = d' := by rw [← h1]; simp
  have e2 : d.extract 0 d.size = d := by simp
  rw [e1, e2] at h3
  refine ⟨?_, h3⟩
  have hn' : (d'.toList.map (·.1)).Nodup := ((h3.map (·.1)).nodup_iff).2 hn
  unfold Rising
  rw [List.pairwise_iff_getElem]
  intro i j hi hj hij
  have hi2 : i < d'.size := by simpa using hi
  have hj2 : j < d'.size := by simpa using hj
  have := hs i j (Nat.zero_le _) hij (by omega)
  rw [ltOf_cmp, getElem!_pos d' j hj2, getElem!_pos d' i hi2] at this
  have hne : d'[j].1 ≠ d'[i].1 := fun e => by
    have q1 : (d'.toList.map (·.1))[i]? = some d'[i].1 := by rw [List.getElem?_map, List.getElem?_eq_getElem hi]; simp
    have q2 : (d'.toList.map (·.1))[j]? = some d'[i].1 := by rw [List.getElem?_map, List.getElem?_eq_getElem hj]; simp [e]
    have := (List.getElem?_inj (List.getElem?_eq_some_iff.1 q1).1 hn').1 (q1.trans q2.symm)
    omega
  have h4 := ltK_total this hne
  simpa using h4
end Go.Proofs.YteonjgnnpgpnnaaGreat.TabE

