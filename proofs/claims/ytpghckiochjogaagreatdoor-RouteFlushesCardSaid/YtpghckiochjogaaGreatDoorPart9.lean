/- Part9: Shard3, Shard4, Shard5, Shard6, Shard7, Shard8, Shard9, Shard10, TabE16, Shard12, one behind the other. -/
import Derived.Test.YtpghckiochjogaaGreatDoorPart7
import Derived.Test.YtpghckiochjogaaGreatDoorPart8
import Derived.StillTailTactics
import Derived.Test.YtpghckiochjogaaGreatDoorPart3
import Derived.Laws.Rows
import Derived.Laws.ResultCell
import Derived.Test.YtpghckiochjogaaGreatDoorPart4
import Derived.Deep.RegionHeld3
import Derived.Deep.CutBlock
import Derived.WalkMore
import Derived.Deep.MidRow
import Derived.Test.YtpghckiochjogaaGreatDoorPart6
/- Layer 11: Remove. -/
namespace Go.Proofs.YtpghckiochjogaaGreatDoor.Shard
open Go Go.RowKit Go.Proofs.YtpghckiochjogaaGreatDoor.Mem Go.Proofs.YtpghckiochjogaaGreatDoor.App
theorem slab_lt {w : World} {b : Nat} {F : Nat → Prop} {s : Slab.St} (h : Slab.At w b F s) : ∀ k, F k → k < w.heap.size := by obtain ⟨_, _, h⟩ := h; exact h.lt
section
variable {W w : World} {n N b : Nat} {col : Col} {seed : Int} {s : St}
set_option maxRecDepth 100000 in
set_option maxHeartbeats 2000000 in
theorem remove_any (h : At W w n b col seed s) (k : ByteArray) (hk : k.size ≤ maxLen) (hl : s.order.all.length ≤ 1000000000) (hsm : Slab.Small N s.slab) (hN : N ≤ 2199023255552) :
    Calls Tryz.prog 60 #[.pointer (some ⟨b, 0, none⟩), .string k] w fun e w' => e = .returned (.bool (s.remove k).1) ∧ Turn W w n b col seed (s.remove k).2 w' := by
  obtain ⟨ad, vd, vv, rfl, h⟩ := h
  have c0 : w.cell? ⟨ad.sb, 0, none⟩ = some (.pointer (some ⟨ad.tb, 0, none⟩)) := Mem.row_cell h.self 0
  obtain ⟨F, hs, hF⟩ := h.tab
  have hget := TabE.get_any hs h.sm k hk
  have HH := Lib.hid (And.intro h hF)
  have HS := Lib.hid hsm
  clear h hs hF hsm
  unfold TabE.TurnPost at hget
  unfold St.remove
  rcases hg : Tab.get s.tab.L k with _ | x
  · have hv : TabE.getV s.tab.L k = .tuple #[.pointer none, .bool false] := by unfold TabE.getV; rw [hg]
    rw [hv] at hget
    clear hv hg
    go_enter Tryz.func60, Tryz.ntmps60
    go_wp2_with fail
    refine hget.mono ?_
    rintro e w1 ⟨F1, rfl, ha, ho, hgr⟩
    have h1 := HH.out.1.turnTab (hl' := fun _ => False) HH.out.2 ha ho hgr HH.out.1.sm.tick (fun q hq _ => ⟨hq, fun e => e⟩)
    have H1 := Lib.hid (And.intro h1 (Fr.of HH.out.2 ho))
    clear hget ha ho hgr h1
    go_wp2_with fail
    go_ret
    exact ⟨rfl, _, ⟨ad, vd, vv, rfl, H1.out.1⟩, H1.out.2⟩
  · have hv : TabE.getV s.tab.L k = .tuple #[.pointer (some ⟨x, 0, none⟩), .bool true] := by unfold TabE.getV; rw [hg]
    rw [hv] at hget
    clear hv
    have HG := Lib.hid hg
    have HS2 : Hid (Tab.Rising s.tab.tick.L) := Lib.hid (by obtain ⟨F, hs, -⟩ := HH.out.1.tab; exact hs.rise)
    clear hg
    go_enter Tryz.func60, Tryz.ntmps60
    go_wp2_with fail
    refine hget.mono ?_
    rintro e w1 ⟨F1, rfl, ha, ho, hgr⟩
    have h1 := HH.out.1.turnTab (hl' := fun _ => False) HH.out.2 ha ho hgr HH.out.1.sm.tick (fun q hq _ => ⟨hq, fun e => e⟩)
    have d0 : w1.cell? ⟨ad.sb, 0, none⟩ = some (.pointer (some ⟨ad.tb, 0, none⟩)) := Mem.row_cell h1.self 0
    obtain ⟨F2, hs2, hF2⟩ := h1.tab
    have hdel := TabE.delete_any hs2 h1.sm k hk
    have FR1 := Lib.hid (Fr.of HH.out.2 ho)
    have H1 := Lib.hid (And.intro h1 hF2)
    clear hget ha ho hgr h1 hs2 hF2 c0
    unfold TabE.TurnPost at hdel
    go_wp2_with fail
    refine hdel.mono ?_
    rintro e w2 ⟨F3, rfl, ha, ho, hgr⟩
    obtain ⟨bb, hbb⟩ : ∃ q, (Tab.get s.tab.tick.L k).isSome = q := ⟨_, rfl⟩
    rw [hbb]
    have hmem : (k, x) ∈ s.tab.tick.L := (Tab.get_mem HS2.out.nodup).1 HG.out
    obtain ⟨e1, -, -, e4, -⟩ := H1.out.1.ents (k, x) hmem (fun e => e)
    have e1' := (H1.out.1.far (Parts.onlyOf H1.out.2 ho) e4 (by simp)).trans e1
    have h2 := H1.out.1.turnTab (hl' := fun _ => False) H1.out.2 ha ho hgr (H1.out.1.sm.del k) (fun q hq _ => ⟨(Tab.mem_del.1 hq).1, fun e => e⟩)
    have d1 : w2.cell? ⟨ad.sb, 1, none⟩ = some (.pointer (some ⟨ad.mb, 0, none⟩)) := Mem.row_cell h2.self 1
    have d10 : w2.cell? ⟨x, 10, none⟩ = some (.int .i64 (s.ent x).chunk.1) := Mem.row_cell e1' 10
    have d11 : w2.cell? ⟨x, 11, none⟩ = some (.int .i64 (s.ent x).chunk.2) := Mem.row_cell e1' 11
    have h2d := h2.step (Below.drew (Below.refl _ w2))
    obtain ⟨F4, hs4, hF4⟩ := h2d.slab
    have hfree := Slab.free_any hs4 HS.out hN (s.ent x).chunk.1 (s.ent x).chunk.2
    have FR2 := Lib.hid ((FR1.out.trans (Fr.of H1.out.2 ho)).trans (Fr.below (Below.drew (Below.refl _ w2))))
    have H2 := Lib.hid (And.intro h2d hF4)
    clear hdel ha ho hgr h2 h2d hs4 hF4 e1 e1' e4 hmem hbb d0
    unfold Slab.FreePost at hfree
    go_wp2_with fail
    refine wp_region_still_tail 8 (by kernel_rfl) (by kernel_rfl) ?_
    simp only [List.take_succ_cons, List.take_zero, List.drop_succ_cons, List.drop_zero]
    repeat still_step
    refine wpStill_nil ?_
    change wpList _ _ _ _ _ w2.drew
    go_wp2_with fail
    refine hfree.mono ?_
    rintro e w3 ⟨F5, rfl, ha, ho, hgr⟩
    have h3 := H2.out.1.turnSlab H2.out.2 ha (slab_lt ha) ho hgr
    have g2 : w3.cell? ⟨ad.sb, 2, none⟩ = some (.pointer (some ⟨ad.ob, 0, none⟩)) := Mem.row_cell h3.self 2
    obtain ⟨F6, hs6, hF6⟩ := h3.order
    have hrem := Slru.remove_any hs6 k (by show s.order.all.length ≤ _; omega)
    have FR3 := Lib.hid (FR2.out.trans (Fr.of H2.out.2 ho))
    have H3 := Lib.hid (And.intro h3 hF6)
    clear hfree ha ho hgr h3 hs6 hF6 d1 d10 d11
    unfold Slru.TurnPost at hrem
    go_wp2_with fail
    refine hrem.mono ?_
    rintro e w4 ⟨F7, rfl, ha, ho, hgr⟩
    have h4 := H3.out.1.turnOrder H3.out.2 ha ha.lt ho hgr
    have H4 := Lib.hid (And.intro h4 (FR3.out.trans (Fr.of H3.out.2 ho)))
    clear hrem ha ho hgr h4
    go_wp2_with fail
    go_ret
    exact ⟨rfl, _, ⟨ad, vd, vv, rfl, H4.out.1⟩, H4.out.2⟩
end
end Go.Proofs.YtpghckiochjogaaGreatDoor.Shard

/- Layer 11: drop. -/
namespace Go.Proofs.YtpghckiochjogaaGreatDoor.Shard
open Go Go.RowKit Go.Proofs.YtpghckiochjogaaGreatDoor.Mem Go.Proofs.YtpghckiochjogaaGreatDoor.App
theorem infoS : (Tryz.prog.info? 9).map (fun i => (i.zero, i.size, i.bytes)) = some (some (.string ⟨#[]⟩), 1, 16) := by kernel_rfl
theorem src_str (w : World) (k : ByteArray) : Src (w.alloc (.cells #[.string k] 9)) 1 (.slice (some ⟨w.heap.size, 0, none⟩) 1 1) 1 [.string k] := by
  have hn := Mem.new_block w (.cells #[.string k] 9)
  refine .inr ⟨w.heap.size, 0, 1, rfl, rfl, by simp, fun j u hu => ?_⟩
  have := Mem.row_cell hn j
  rw [Nat.zero_add, this]
  simpa using hu
theorem fr_set {col col' : Col} {w w' : World} (h : Fr col col' w w') {b : Nat} (hb : col b ≠ none) (i : Nat) (v : Value) : Fr col col' w (w'.setCell ⟨b, i, none⟩ v) := ⟨h.1.setCell (p := ⟨b, i, none⟩) (.inl hb) v, h.2⟩
section
variable {W w : World} {n N b : Nat} {col : Col} {seed : Int} {s : St}
set_option maxRecDepth 100000 in
set_option maxHeartbeats 2000000 in
theorem drop_any (h : At W w n b col seed s) (k : ByteArray) (hk : k.size ≤ maxLen) (hl : s.order.all.length ≤ 1000000000) (hsm : Slab.Small N s.slab) (hN : N ≤ 2199023255552) (hd : (s.remove k).2.drops.length ≤ 2199023255552) :
    Calls Tryz.prog 69 #[.pointer (some ⟨b, 0, none⟩), .string k] w fun e w' => e = .returned (.tuple #[]) ∧ Turn W w n b col seed (s.drop k) w' := by
  obtain ⟨i0, hi, hz0, hz1, hz2⟩ := info_parts infoS
  have hr := remove_any h k hk hl hsm hN
  unfold St.drop
  generalize s.remove k = y at *
  obtain ⟨q, t⟩ := y
  replace hd : t.drops.length ≤ 2199023255552 := hd
  clear h hsm
  go_enter Tryz.func69, Tryz.ntmps69
  go_wp2_with fail
  refine hr.mono ?_
  rintro e w1 ⟨rfl, col1, ⟨ad, vd, vv, rfl, h1⟩, fr1⟩
  replace h1 : Parts W w1 n (fun _ => False) col1 ad seed t vd vv := h1
  have c4 : w1.cell? ⟨ad.sb, 4, none⟩ = some vd := Mem.row_cell h1.self 4
  have H1 := Lib.hid h1
  have hfin : ∀ v' w', w'.ownsRow 0 9 1 v' (t.drops.length + 1) (cellsS t.drops ++ [.string k]) → (w1.alloc (.cells #[.string k] 9)).grownBy w' vd.ownBlock → (v'.ownBlock = vd.ownBlock ∨ v'.ownBlock = some (w1.heap.size + 1)) →
      Hid (Turn W w n ad.sb col seed { t with drops := t.drops ++ [k] } (w'.setCell ⟨ad.sb, 4, none⟩ v')) ∧ w'.cell? ⟨ad.sb, 4, none⟩ = some vd ∧ w'.frozen? ⟨ad.sb, 4, none⟩ = false := fun v' w' hown hg hat => by
    have hoa : Only (Of col1 .drops) w1 (w1.alloc (.cells #[.string k] 9)) := (Only.refl _ _).alloc _
    have ho : Only (Of col1 .drops) w1 w' := hoa.grown hg (fun g e => .inl (H1.out.cd g e))
    have hsb : w'.heap[ad.sb]? = w1.heap[ad.sb]? := H1.out.far ho H1.out.csb (by decide)
    refine ⟨Lib.hid ⟨_, ⟨ad, v', vv, rfl, H1.out.turnDrops ho (by rw [List.length_append, cellsS, List.map_append]; exact hown) (fun g e => ?_)⟩, fr1.trans (fr_set (Fr.of (p := .drops) (fun k hk => hk) ho) (by rw [H1.out.csb]; simp) 4 v')⟩, (World.cell?_of_block hsb).trans c4, (World.frozen?_of_block hsb).trans (Mem.row_free H1.out.self 4)⟩
    rcases hat with h | h
    · exact .inl (h ▸ e)
    · rw [h] at e; injection e with e; exact .inr (by omega)
  have HF := Lib.hid hfin
  clear hr h1 hfin
  go_wp2_with (first
    | (at_builtin; refine wpList_append_src (.tmp 11) (.tmp 13) _ _ _ _ i0 _ 1 16 0 vd _ t.drops.length 1 (cellsS t.drops) [.string k] rfl rfl Tryz.underlying38 Tryz.underlying38 hi hz0 hz1 hz2 rfl (by decide) rfl rfl (H1.out.drops.alloc _) (src_str w1 k) (by simp [Value.oneCell']) (by unfold maxLen; omega) (by omega) (Nat.zero_le _) ?_; intro v3 w3 hown3 hgr3 hat3; obtain ⟨y3, z3, hv3⟩ := Src.shape (Src.of_row hown3); obtain ⟨HA, c5, f5⟩ := HF.out v3 w3 hown3 hgr3 (by simpa using hat3); rw [hv3] at HA ⊢; clear hown3 hgr3 hat3 hv3 c4)
    | fail)
  go_end0
  exact ⟨rfl, HA.out⟩
end
end Go.Proofs.YtpghckiochjogaaGreatDoor.Shard

/- Layer 11: find. -/
namespace Go.Proofs.YtpghckiochjogaaGreatDoor.Shard
open Go Go.RowKit Go.Proofs.YtpghckiochjogaaGreatDoor.Mem Go.Proofs.YtpghckiochjogaaGreatDoor.App
def ptrE : Option Nat → Value
  | some x => .pointer (some ⟨x, 0, none⟩)
  | none => .pointer none
section
variable {W w : World} {n N b : Nat} {col : Col} {seed : Int} {s : St}
set_option maxRecDepth 100000 in
set_option maxHeartbeats 2000000 in
theorem find_any (h : At W w n b col seed s) (k : ByteArray) (env : Env) (hk : k.size ≤ maxLen) (hl : s.order.all.length ≤ 1000000000) (hsm : Slab.Small N s.slab) (hN : N ≤ 2199023255552) (hd : (s.tick.remove k).2.drops.length ≤ 2199023255552) :
    Calls Tryz.prog 47 #[.pointer (some ⟨b, 0, none⟩), .string k, .agg env.arr] w fun e w' => e = .returned (ptrE (s.find k env).1) ∧ Turn W w n b col seed (s.find k env).2 w' := by
  obtain ⟨ad, vd, vv, rfl, h⟩ := h
  have hwz : ∀ k q, col k = some q → k ≠ w.heap.size := fun k q e e1 => by have := (h.lt k q e).2; omega
  have nb : (w.alloc (.cells env.arr 35)).heap[w.heap.size]? = some (.cells env.arr 35 (0, 0)) := Mem.new_block w _
  replace h := h.step (Mem.al (Below.refl w.heap.size w) (.cells env.arr 35))
  have hlt0 : w.heap.size < (w.alloc (.cells env.arr 35)).heap.size := by simp
  have HB := Lib.hid (And.intro nb (And.intro hwz hlt0))
  clear nb hwz hlt0
  have FR0 : Hid (Fr col col w (w.alloc (.cells env.arr 35))) := Lib.hid (Fr.below (Mem.al (Below.refl w.heap.size w) _))
  have c0 : (w.alloc (.cells env.arr 35)).cell? ⟨ad.sb, 0, none⟩ = some (.pointer (some ⟨ad.tb, 0, none⟩)) := Mem.row_cell h.self 0
  obtain ⟨F, hs, hF⟩ := h.tab
  have hget := TabE.get_any hs h.sm k hk
  have hrise : Tab.Rising s.tab.L := hs.rise
  have HH := Lib.hid (And.intro h (And.intro hF (And.intro hsm hrise)))
  have HD := Lib.hid hd
  clear h hs hF hsm hrise hd
  unfold TabE.TurnPost at hget
  have hfind : s.find k env = match Tab.get s.tab.L k with | some x => if (s.ent x).it.live env then (some x, s.tick) else (none, s.tick.drop k) | none => (none, s.tick) := rfl
  obtain ⟨y, hy⟩ : ∃ y, s.find k env = y := ⟨_, rfl⟩
  rw [hy] at hfind ⊢
  have HY := Lib.hid hfind
  clear hfind hy
  rcases hg : Tab.get s.tab.L k with _ | x
  · have hv : TabE.getV s.tab.L k = .tuple #[.pointer none, .bool false] := by unfold TabE.getV; rw [hg]
    rw [hv] at hget
    have HY2 : Hid (y = (none, s.tick)) := Lib.hid (by have := HY.out; rw [hg] at this; exact this)
    clear hv hg
    go_enter Tryz.func47, Tryz.ntmps47
    go_wp2_with fail
    refine hget.mono ?_
    rintro e w1 ⟨F1, rfl, ha, ho, hgr⟩
    have h1 := HH.out.1.turnTab (hl' := fun _ => False) HH.out.2.1 ha ho hgr HH.out.1.sm.tick (fun q hq _ => ⟨hq, fun e => e⟩)
    have H1 := Lib.hid (And.intro h1 (FR0.out.trans (Fr.of HH.out.2.1 ho)))
    clear hget ha ho hgr h1
    go_wp2_with fail
    go_ret
    rw [HY2.out]
    exact ⟨rfl, _, ⟨ad, vd, vv, rfl, H1.out.1⟩, H1.out.2⟩
  · have hv : TabE.getV s.tab.L k = .tuple #[.pointer (some ⟨x, 0, none⟩), .bool true] := by unfold TabE.getV; rw [hg]
    rw [hv] at hget
    have hmem : (k, x) ∈ s.tab.tick.L := (Tab.get_mem HH.out.2.2.2.nodup).1 hg
    have HY2 : Hid (y = if (s.ent x).it.live env then (some x, s.tick) else (none, s.tick.drop k)) := Lib.hid (by have := HY.out; rw [hg] at this; exact this)
    clear hv hg
    have HM := Lib.hid hmem
    clear hmem
    go_enter Tryz.func47, Tryz.ntmps47
    go_wp2_with fail
    refine hget.mono ?_
    rintro e w1 ⟨F1, rfl, ha, ho, hgr⟩
    have h1 := HH.out.1.turnTab (hl' := fun _ => False) HH.out.2.1 ha ho hgr HH.out.1.sm.tick (fun q hq _ => ⟨hq, fun e => e⟩)
    obtain ⟨e1, -⟩ := h1.ents (k, x) HM.out (fun e => e)
    have cell := fun j => Mem.row_cell e1 j
    have d0 := cell 0
    have d1 := cell 1
    have d2 := cell 2
    have d3 := cell 3
    have d4 := cell 4
    have d5 := cell 5
    have d6 := cell 6
    have d7 := cell 7
    have d8 := cell 8
    have d9 := cell 9
    simp only [Ent.arr, List.getElem?_toArray, List.getElem?_cons_zero, List.getElem?_cons_succ] at d0 d1 d2 d3 d4 d5 d6 d7 d8 d9
    have hlive := live_any (s.ent x).it (vv x) env w1.drew
    unfold Item.arr Env.arr at hlive
    have hbox := (ho.same _ HB.out.2.2 (fun hk => HB.out.2.1 _ _ (HH.out.2.1 _ hk) rfl)).trans HB.out.1
    have q0 := Mem.row_cell hbox 0
    have q1 := Mem.row_cell hbox 1
    have q2 := Mem.row_cell hbox 2
    have q3 := Mem.row_cell hbox 3
    simp only [Env.arr, List.getElem?_toArray, List.getElem?_cons_zero, List.getElem?_cons_succ] at q0 q1 q2 q3
    have hdrop := fun w' (hb : Below w1.heap.size w1 w') => drop_any (s := s.tick) ⟨ad, vd, vv, rfl, (h1.step hb)⟩ k hk hl HH.out.2.2.1 hN HD.out
    have HDr := Lib.hid hdrop
    clear hdrop hbox
    have H1 := Lib.hid (And.intro h1 (FR0.out.trans (Fr.of HH.out.2.1 ho)))
    clear hget ha ho hgr h1 e1 cell c0
    go_wp2_with fail
    refine wp_region_still_tail 5 (by kernel_rfl) (by kernel_rfl) ?_
    simp only [List.take_succ_cons, List.take_zero, List.drop_succ_cons, List.drop_zero]
    repeat still_step
    refine wpStill_nil ?_
    change wpList _ _ _ _ _ w1.drew
    obtain ⟨lv, hlv⟩ : ∃ q, (s.ent x).it.live env = q := ⟨_, rfl⟩
    rw [hlv] at hlive
    have HLV := Lib.hid hlv
    clear hlv d0 d1 d2 d3 d4 d5 d6 d7 d8 d9 q0 q1 q2 q3
    go_wp2_with fail
    refine hlive.mono ?_
    rintro e w2 ⟨rfl, hb2⟩
    clear hlive
    have hb : Below w1.heap.size w1 w2 := Mem.tr (Below.drew (Below.refl _ w1)) hb2
    have hdr := HDr.out w2 hb
    have HB2 := Lib.hid hb
    clear hb hb2
    cases lv with
    | true =>
      go_wp2_with fail
      go_ret
      rw [HY2.out, if_pos HLV.out]
      exact ⟨rfl, _, ⟨ad, vd, vv, rfl, H1.out.1.step HB2.out⟩, H1.out.2.trans (Fr.below HB2.out)⟩
    | false =>
      go_wp2_with fail
      refine hdr.mono ?_
      rintro e w3 ⟨rfl, ha⟩
      have HA := Lib.hid ha
      clear hdr ha
      go_wp2_with fail
      go_ret
      rw [HY2.out, if_neg (by rw [HLV.out]; decide)]
      obtain ⟨c9, a9, f9⟩ := HA.out
      exact ⟨rfl, c9, a9, (H1.out.2.trans (Fr.below HB2.out)).trans f9⟩
end
end Go.Proofs.YtpghckiochjogaaGreatDoor.Shard

/- Layer 11: Look. -/
namespace Go.Proofs.YtpghckiochjogaaGreatDoor.Shard
open Go Go.RowKit Go.Proofs.YtpghckiochjogaaGreatDoor.Mem Go.Proofs.YtpghckiochjogaaGreatDoor.App
theorem zero_size : (Tryz.prog.info? 51).map (·.size) = some zeroI.size := by kernel_rfl
theorem results_two {P : Program} {fn : Func} {p u : Tmp} {ty : TypeId} (h : fn.results = #[.cell p ty, .tmp u]) (tmps : Array Value) (w : World) (g : Nat) (t : TypeId) (cs : Array Value) (fr : Nat × Nat) (d : TypeDesc) {x : Value}
    (hp : tmps.getD p undef = .pointer (some ⟨g, 0, none⟩)) (hx : tmps.getD u undef = x) (hg : w.heap[g]? = some (.cells cs t fr))
    (hu : P.underlying ty = some d) (hd : (match d with | .struct _ | .array _ _ => true | _ => false) = true) (hi : (P.info? ty).map (·.size) = some cs.size) :
    (results fn tmps).run P w = .ok (.tuple #[.agg cs, x]) w := by
  rw [results_cell_tmp h, hp, hx]
  simp [asAddr, run_loadVar_row w g t ty cs fr d hg hu hd hi, Result.andThen]
theorem Parts.aside {W w w' : World} {n : Nat} {hl : Nat → Prop} {col : Col} {ad : Addrs} {seed : Int} {s : St} {vd : Value} {vv : Nat → Value} {F : Nat → Prop} (h : Parts W w n hl col ad seed s vd vv) (ho : Only F w w') (hF : ∀ k, F k → col k = none ∧ W.heap.size ≤ k) : Parts W w' n hl col ad seed s vd vv := by
  obtain ⟨Ft, ht1, ht2⟩ := h.tab
  obtain ⟨Fs, hs1, hs2⟩ := h.slab
  obtain ⟨Fo, ho1, ho2⟩ := h.order
  have hk : ∀ k q, col k = some q → w'.heap[k]? = w.heap[k]? := fun k q e => ho.same k (h.lt k q e).2 (fun e1 => by rw [(hF k e1).1] at e; cases e)
  have hj : ∀ j k, col j = some Part.judge → F k → j ≠ k := fun j k e e1 e2 => by rw [e2, (hF k e1).1] at e; cases e
  exact ⟨(hk _ _ h.csb).trans h.self, h.csb, ⟨Ft, ht1.same (fun k e => hk k _ (ht2 k e)) ho.size, ht2⟩, h.sm, ⟨Fs, hs1.same (fun k e => hk k _ (hs2 k e)) ho.size, hs2⟩, ⟨Fo, ho1.same (fun k e => hk k _ (ho2 k e)) ho.size, ho2⟩,
    h.judge.other ho (fun k e => ⟨⟨hj _ k h.cj.1 e, hj _ k h.cj.2.1 e, hj _ k h.cj.2.2 e⟩, (hF k e).2⟩), h.cj, row_keep h.drops fun g e => hk g _ (h.cd g e), h.cd,
    fun q hq hn => by
      obtain ⟨h1, h2, h3, h4, h5⟩ := h.ents q hq hn
      exact ⟨(hk _ _ h4).trans h1, row_keep h2 fun g e => hk g _ (h5 g e).1, h3, h4, h5⟩,
    fun k q e => ⟨(h.lt k q e).1, Nat.lt_of_lt_of_le (h.lt k q e).2 ho.size⟩, Below.trans h.below (ho.below h.below.size (fun k e => (hF k e).2))⟩
theorem At.aside {W w w' : World} {n b : Nat} {col : Col} {seed : Int} {s : St} {F : Nat → Prop} (h : At W w n b col seed s) (ho : Only F w w') (hF : ∀ k, F k → col k = none ∧ W.heap.size ≤ k) : At W w' n b col seed s := by
  obtain ⟨ad, vd, vv, e, h⟩ := h
  exact ⟨ad, vd, vv, e, h.aside ho hF⟩
theorem At.size {W w : World} {n b : Nat} {col : Col} {seed : Int} {s : St} (h : At W w n b col seed s) : W.heap.size ≤ w.heap.size := by
  obtain ⟨ad, vd, vv, e, h⟩ := h
  exact h.below.size
theorem Only.setRow {F : Nat → Prop} {w w' : World} {g : Nat} {cs : Array Value} (hg : F g ∨ w.heap.size ≤ g) (h : Only F w w') : Only F w (w'.setRow g cs) :=
  ⟨h.os, h.tape, h.output, by simpa [World.setRow] using h.size, fun k hk hn => (setRow_other w' g k cs (fun e => hg.elim (fun e1 => hn (e ▸ e1)) (fun e1 => by omega))).trans (h.same k hk hn)⟩
theorem Fr.setRow {col col' : Col} {w w' : World} (h : Fr col col' w w') {g : Nat} {cs : Array Value} (hg : col g ≠ none ∨ w.heap.size ≤ g) : Fr col col' w (w'.setRow g cs) := ⟨Only.setRow hg h.1, h.2⟩
theorem At.entry {W w : World} {n b : Nat} {col : Col} {seed : Int} {s : St} (h : At W w n b col seed s) {k : ByteArray} {x : Nat} (hg : Tab.get s.tab.L k = some x) : ∃ v, w.heap[x]? = some (.cells ((s.ent x).arr v) 125 (0, 0)) ∧ OwnB w 0 v (s.ent x).it.val ∧ (s.ent x).it.key = k ∧ col x = some (.ent x) ∧ ∀ g, v.ownBlock = some g → col g = some (.ent x) ∧ g ≠ x := by
  obtain ⟨ad, vd, vv, e, h⟩ := h
  obtain ⟨F, hs, hF⟩ := h.tab
  have hr : Tab.Rising s.tab.L := hs.rise
  exact ⟨_, h.ents (k, x) ((Tab.get_mem hr.nodup).1 hg) (fun e => e)⟩
theorem zero_one : zeroI.all (·.oneCell') = true := by kernel_rfl
def LookPost (W w : World) (n b : Nat) (col : Col) (seed : Int) (s : St) (y : Option Nat × St) (e : Ending) (w' : World) : Prop :=
  Turn W w n b col seed y.2 w' ∧ (match y.1 with
    | some x => ∃ v, e = .returned (.tuple #[.agg ((s.ent x).it.arr v), .bool true]) ∧ OwnB w' w.heap.size v (s.ent x).it.val
    | none => e = .returned (.tuple #[.agg zeroI, .bool false]))
section
variable {W w : World} {n N b : Nat} {col : Col} {seed : Int} {s : St}
set_option maxRecDepth 100000 in
set_option maxHeartbeats 2000000 in
theorem look_any (h : At W w n b col seed s) (k : ByteArray) (env : Env) (hk : k.size ≤ maxLen) (hl : s.order.all.length ≤ 1000000000) (hsm : Slab.Small N s.slab) (hN : N ≤ 2199023255552) (hd : (s.tick.remove k).2.drops.length ≤ 2199023255552) (hv : ∀ x, Tab.get s.tab.L k = some x → (s.ent x).it.val.length ≤ 100000000) :
    Calls Tryz.prog 33 #[.pointer (some ⟨b, 0, none⟩), .string k, .agg env.arr] w (LookPost W w n b col seed s (s.find k env)) := by
  have hb2 : Below w.heap.size w ((w.alloc (.cells env.arr 35)).alloc (.cells zeroI 51)) := Mem.al (Mem.al (Below.refl _ _) _) _
  have n1 : ((w.alloc (.cells env.arr 35)).alloc (.cells zeroI 51)).heap[w.heap.size]? = some (.cells env.arr 35 (0, 0)) := Mem.new_later (Mem.new_block w _) _
  have n2 : ((w.alloc (.cells env.arr 35)).alloc (.cells zeroI 51)).heap[w.heap.size + 1]? = some (.cells zeroI 51 (0, 0)) := Mem.new_block2 w _ _
  have hsz : ((w.alloc (.cells env.arr 35)).alloc (.cells zeroI 51)).heap.size = w.heap.size + 2 := by simp
  have hcn : ∀ j, w.heap.size ≤ j → col j = none := fun j hj => Classical.byContradiction fun e => by have := h.lt j e; omega
  have h2 := h.step hb2
  have hfind := find_any h2 k env hk hl hsm hN hd
  obtain ⟨w0, hw0⟩ : ∃ w0, (w.alloc (.cells env.arr 35)).alloc (.cells zeroI 51) = w0 := ⟨_, rfl⟩
  rw [hw0] at hfind n1 n2 hsz hb2
  have q0 := Mem.row_cell n1 0
  have q1 := Mem.row_cell n1 1
  have q2 := Mem.row_cell n1 2
  have q3 := Mem.row_cell n1 3
  simp only [Env.arr, List.getElem?_toArray, List.getElem?_cons_zero, List.getElem?_cons_succ] at q0 q1 q2 q3
  have HL : Hid (W.heap.size ≤ w.heap.size) := Lib.hid h.size
  have HN := Lib.hid (And.intro n2 (And.intro hsz (And.intro hcn hb2)))
  have HW := Lib.hid hw0
  clear n1 n2 hsz hcn hb2 h2 h
  unfold Env.arr zeroI at hw0
  unfold Env.arr at hfind ⊢
  go_enter Tryz.func33, Tryz.ntmps33
  go_wp2_with fail
  refine hfind.mono ?_
  rintro e w1 ⟨rfl, col1, a1, f1⟩
  have m2 : w1.heap[w.heap.size + 1]? = some (.cells zeroI 51 (0, 0)) := (f1.keep (by rw [HN.out.2.1]; omega) (HN.out.2.2.1 _ (by omega))).trans HN.out.1
  have HF0 := Lib.hid f1
  have f1 := (Fr.below HN.out.2.2.2).trans f1
  have H1 := Lib.hid (And.intro a1 (And.intro f1 m2))
  clear hfind a1 f1 m2
  rcases hy : (s.find k env).1 with _ | x
  · have HY := Lib.hid hy
    clear hy
    unfold ptrE
    go_wp2_with (first | (refine wpList_store_row rfl 51 _ _ rfl (w.heap.size + 1) zeroI rfl rfl 51 zeroI H1.out.2.2 zero_size rfl zero_one ?_) | fail)
    have hrow : (w1.setRow (w.heap.size + 1) zeroI).heap[w.heap.size + 1]? = some (.cells zeroI 51 (0, 0)) := setRow_heap _ _ _ _ _ _ H1.out.2.2
    refine bodyPost_ret (results_two Tryz.results33 _ _ (w.heap.size + 1) _ _ _ _ rfl rfl hrow Tryz.underlying51 rfl zero_size) rfl ?_
    obtain ⟨a1, f1, m2⟩ := H1.out
    have hcc : col1 (w.heap.size + 1) = none := Classical.byContradiction fun e => (HF0.out.2 _ e).elim (fun e1 => e1 (HN.out.2.2.1 _ (by omega))) (fun e1 => by have := HN.out.2.1; omega)
    refine ⟨⟨col1, a1.aside (F := fun k => k = w.heap.size + 1) (Only.setRow (.inl rfl) (Only.refl _ _)) (fun k e => by subst e; exact ⟨hcc, by have := HL.out; omega⟩), f1.setRow (.inr (by omega))⟩, ?_⟩
    rw [HY.out]
    rfl
  · obtain ⟨g1, g2, g3⟩ := find_some hy
    have a1 := H1.out.1
    rw [g3] at a1
    obtain ⟨v, e1, hown, -, hcx, -⟩ := a1.entry (k := k) (x := x) g1
    have hvx := hv x g1
    have cell := fun j => Mem.row_cell e1 j
    have d0 := cell 0
    have d1 := cell 1
    have d2 := cell 2
    have d3 := cell 3
    have d4 := cell 4
    have d5 := cell 5
    have d6 := cell 6
    have d7 := cell 7
    have d8 := cell 8
    have d9 := cell 9
    simp only [St.tick, Ent.arr, List.getElem?_toArray, List.getElem?_cons_zero, List.getElem?_cons_succ] at d0 d1 d2 d3 d4 d5 d6 d7 d8 d9
    have hcl := owned_any (s.ent x).it (SrcB.of_row hown) hvx
    have HY := Lib.hid (And.intro hy g3)
    clear hy g1 g2 g3 a1 e1 hown hcx cell hvx
    unfold Item.arr at hcl
    unfold ptrE
    go_wp2_with fail
    refine hcl.mono ?_
    rintro e w2 ⟨v2, rfl, hown2, hb2⟩
    obtain ⟨ya, yc, hv'⟩ := Src.shape (Src.of_row hown2)
    subst hv'
    have k2 : w2.heap[w.heap.size + 1]? = some (.cells zeroI 51 (0, 0)) := (hb2.block _ (Array.getElem?_eq_some_iff.1 H1.out.2.2).1).trans H1.out.2.2
    have H2 := Lib.hid (And.intro hown2 (And.intro hb2 k2))
    clear hcl hown2 hb2 k2 d0 d1 d2 d3 d4 d5 d6 d7 d8 d9
    go_wp2_with (first | (refine wpList_store_row rfl 51 _ _ rfl (w.heap.size + 1) ((s.ent x).it.arr (.slice ya (s.ent x).it.val.length yc)) rfl rfl 51 zeroI H2.out.2.2 (item_size (s.ent x).it _) rfl (item_one (s.ent x).it H2.out.1) ?_) | fail)
    have hrow := setRow_heap _ _ _ ((s.ent x).it.arr (.slice ya (s.ent x).it.val.length yc)) _ _ H2.out.2.2
    refine bodyPost_ret (results_two Tryz.results33 _ _ (w.heap.size + 1) _ _ _ _ rfl rfl hrow Tryz.underlying51 rfl (item_size (s.ent x).it _)) rfl ?_
    obtain ⟨a1, f1, m2⟩ := H1.out
    have hcc : col1 (w.heap.size + 1) = none := Classical.byContradiction fun e => (HF0.out.2 _ e).elim (fun e1 => e1 (HN.out.2.2.1 _ (by omega))) (fun e1 => by have := HN.out.2.1; omega)
    obtain ⟨hown2, hb2, k2⟩ := H2.out
    have hzz := (Array.getElem?_eq_some_iff.1 m2).1
    refine ⟨⟨col1, (a1.step hb2).aside (F := fun k => k = w.heap.size + 1) (Only.setRow (.inl rfl) (Only.refl _ _)) (fun k e => by subst e; exact ⟨hcc, by have := HL.out; omega⟩), (f1.trans (Fr.below hb2)).setRow (.inr (by omega))⟩, ?_⟩
    rw [HY.out.1]
    refine ⟨_, rfl, row_keep (Mem.row_less hown2 (by omega)) fun g e => setRow_other _ _ _ _ (fun e1 => ?_)⟩
    have := (own_block_lt hown2 g e).1
    omega
end
end Go.Proofs.YtpghckiochjogaaGreatDoor.Shard

/- Layer 11: room. -/
namespace Go.Proofs.YtpghckiochjogaaGreatDoor.Shard
open Go Go.RowKit Go.Proofs.YtpghckiochjogaaGreatDoor.Mem Go.Proofs.YtpghckiochjogaaGreatDoor.App
structure Beside (W w0 : World) (n b B B' : Nat) (col : Col) (seed : Int) (o1 o2 : Obj) (s : St) (w : World) : Prop where
  run : ∃ col', At W w n b col' seed s ∧ Fr col col' w0 w
  b1 : w.heap[B]? = some o1
  b2 : w.heap[B']? = some o2
theorem Beside.below {W w0 w w' : World} {n b B B' : Nat} {col : Col} {seed : Int} {o1 o2 : Obj} {s : St} (h : Beside W w0 n b B B' col seed o1 o2 s w) (hb : Below w.heap.size w w') : Beside W w0 n b B B' col seed o1 o2 s w' := by
  obtain ⟨col1, a1, f1⟩ := h.run
  exact ⟨⟨col1, a1.step hb, f1.trans (Fr.below hb)⟩, (hb.block _ (Array.getElem?_eq_some_iff.1 h.b1).1).trans h.b1, (hb.block _ (Array.getElem?_eq_some_iff.1 h.b2).1).trans h.b2⟩
theorem Beside.reads {W w0 w : World} {n b B B' : Nat} {col : Col} {seed : Int} {o1 o2 : Obj} {s : St} (h : Beside W w0 n b B B' col seed o1 o2 s w) : ∃ (ad : Addrs) (F G : Nat → Prop),
    w.cell? ⟨b, 0, none⟩ = some (.pointer (some ⟨ad.tb, 0, none⟩)) ∧ w.cell? ⟨b, 1, none⟩ = some (.pointer (some ⟨ad.mb, 0, none⟩)) ∧ w.cell? ⟨b, 2, none⟩ = some (.pointer (some ⟨ad.ob, 0, none⟩)) ∧ w.cell? ⟨b, 3, none⟩ = some (.pointer (some ⟨ad.jb, 0, none⟩)) ∧
    Slab.At w ad.mb F s.slab ∧ Slru.At w ad.ob G s.order ∧ Tiny.Run W w ad.jb ad.fb ad.cb s.judge := by
  obtain ⟨col1, ⟨ad, vd, vv, rfl, h1⟩, f1⟩ := h.run
  obtain ⟨F, hs, -⟩ := h1.slab
  obtain ⟨G, ho, -⟩ := h1.order
  exact ⟨ad, F, G, Mem.row_cell h1.self 0, Mem.row_cell h1.self 1, Mem.row_cell h1.self 2, Mem.row_cell h1.self 3, hs, ho, h1.judge⟩
theorem Beside.get {W w0 w : World} {n b B B' : Nat} {col : Col} {seed : Int} {o1 o2 : Obj} {s : St} (h : Beside W w0 n b B B' col seed o1 o2 s w) (hB : B ≤ B' ∧ B' < w0.heap.size) (hc : ∀ j, B ≤ j → col j = none) (k : ByteArray) (hk : k.size ≤ maxLen) : ∃ ad : Addrs,
    w.cell? ⟨b, 0, none⟩ = some (.pointer (some ⟨ad.tb, 0, none⟩)) ∧
    Calls Tryz.prog 67 #[.pointer (some ⟨ad.tb, 0, none⟩), .string k] w fun e w' => e = .returned (TabE.getV s.tab.L k) ∧ Beside W w0 n b B B' col seed o1 o2 s.tick w' ∧ w'.cell? ⟨b, 0, none⟩ = some (.pointer (some ⟨ad.tb, 0, none⟩)) := by
  obtain ⟨col1, ⟨ad, vd, vv, rfl, h1⟩, f1⟩ := h.run
  obtain ⟨F, hs, hF⟩ := h1.tab
  refine ⟨ad, Mem.row_cell h1.self 0, (TabE.get_any hs h1.sm k hk).mono ?_⟩
  rintro e w1 ⟨F1, rfl, ha, ho, hgr⟩
  refine ⟨rfl, ?_⟩
  have h2 := h1.turnTab (hl' := fun _ => False) hF ha ho hgr h1.sm.tick (fun q hq _ => ⟨hq, fun e => e⟩)
  have hn : ∀ j, B ≤ j → j < w0.heap.size → col1 j = none := fun j h1 h2 => Classical.byContradiction fun e => (f1.2 j e).elim (fun e1 => e1 (hc j h1)) (fun e1 => by omega)
  have hz := f1.1.size
  have f2 := Fr.of hF ho
  exact ⟨⟨⟨_, ⟨ad, vd, vv, rfl, h2⟩, f1.trans f2⟩, (f2.keep (by omega) (hn _ (Nat.le_refl _) (by omega))).trans h.b1, (f2.keep (by omega) (hn _ (by omega) (by omega))).trans h.b2⟩, Mem.row_cell h2.self 0⟩
theorem Beside.entry {W w0 w : World} {n b B B' : Nat} {col : Col} {seed : Int} {o1 o2 : Obj} {s : St} (h : Beside W w0 n b B B' col seed o1 o2 s w) {k : ByteArray} {x : Nat} (hm : (k, x) ∈ s.tab.L) : ∃ v, w.heap[x]? = some (.cells ((s.ent x).arr v) 125 (0, 0)) ∧ OwnB w 0 v (s.ent x).it.val := by
  obtain ⟨col1, ⟨ad, vd, vv, rfl, h1⟩, f1⟩ := h.run
  obtain ⟨e1, e2, -⟩ := h1.ents (k, x) hm (fun e => e)
  exact ⟨_, e1, e2⟩
section
variable {W w : World} {n N b : Nat} {col : Col} {seed : Int} {s : St}
theorem Inv.smallN {n N : Nat} {s : St} (h : Inv n N s) : Slab.Small N s.slab := h.slab.small
theorem Beside.drop {W w0 w : World} {n n0 N b B B' : Nat} {col : Col} {seed : Int} {o1 o2 : Obj} {s : St} (h : Beside W w0 n b B B' col seed o1 o2 s w) (hB : B ≤ B' ∧ B' < w0.heap.size) (hc : ∀ j, B ≤ j → col j = none) (hi : Inv n0 N s) (hn : n0 ≤ 100000000) (hN : N ≤ 2000000000000) (k : ByteArray) (hk : k.size ≤ maxLen) :
    Calls Tryz.prog 69 #[.pointer (some ⟨b, 0, none⟩), .string k] w fun e w' => e = .returned (.tuple #[]) ∧ Beside W w0 n b B B' col seed o1 o2 (s.drop k) w' := by
  obtain ⟨col1, a1, f1⟩ := h.run
  refine (drop_any a1 k hk (by have := hi.olen; have := hi.len; omega) hi.smallN (by omega) (by rw [remove_drops]; have := hi.dl; omega)).mono ?_
  rintro e w1 ⟨rfl, col2, a2, f2⟩
  have hn : ∀ j, B ≤ j → j < w0.heap.size → col1 j = none := fun j h1 h2 => Classical.byContradiction fun e => (f1.2 j e).elim (fun e1 => e1 (hc j h1)) (fun e1 => by omega)
  have hz := f1.1.size
  exact ⟨rfl, ⟨col2, a2, f1.trans f2⟩, (f2.keep (by omega) (hn _ (Nat.le_refl _) (by omega))).trans h.b1, (f2.keep (by omega) (hn _ (by omega) (by omega))).trans h.b2⟩
theorem Inv.drop_len {n N : Nat} {t : St} (h : Inv n N t) {k : ByteArray} (hk : k ∈ t.order.all) : (t.tick.drop k).order.all.length + 1 = t.order.all.length := by
  have h1 := (h.tick.drop k).olen
  have h2 := h.olen
  rw [drop_L t.tick k h.rise] at h1
  have := Tab.del_len h.rise ((h.keys k).1 hk)
  show (t.tick.drop k).order.all.length + 1 = _
  rw [h1, h2]; exact this
theorem less_range (s : St) (o : Option Nat) : 0 ≤ s.less o ∧ s.less o ≤ 2048 := by
  unfold St.less
  split
  · exact Slab.bytes_range _
  · omega
set_option maxRecDepth 100000 in
theorem eql_old (old : Option Nat) (w : World) : (binOp .neq 75 (ptrE old) (.pointer none)).run Tryz.prog w = .ok (.bool old.isSome) w := by cases old <;> rfl
set_option maxRecDepth 100000 in
theorem eqg_old (old : Option Nat) (o1 o2 : Operand) (w : World) : (eqGuard .neq 75 o1 o2 (ptrE old) (.pointer none)).run Tryz.prog w = .ok () w := by cases old <;> rfl
def RoomPost (W w : World) (n b : Nat) (col : Col) (seed : Int) (y : Int × St) (e : Ending) (w' : World) : Prop := e = .returned (.int .i64 y.1) ∧ Turn W w n b col seed y.2 w'
set_option maxRecDepth 100000 in
set_option maxHeartbeats 4000000 in
theorem room_any (h : At W w n b col seed s) {n0 : Nat} (hi : Inv n0 N s) (it : Item) (a : Option Addr) (c : Nat) (old : Option Nat) (env : Env) (hks : it.key.size ≤ 2000000) (hvs : it.val.length ≤ 2000000) (hold : ∀ x, old = some x → ∃ k, (k, x) ∈ s.tab.L) (hn0 : n0 ≤ 2000000) (hN : N ≤ 1200000000000) :
    Calls Tryz.prog 110 #[.pointer (some ⟨b, 0, none⟩), .agg (it.arr (.slice a it.val.length c)), ptrE old, .agg env.arr] w (RoomPost W w n b col seed (St.room it old.isSome (s.less old) env (s.order.all.length + 1) s)) := by
  obtain ⟨L, hL⟩ : ∃ L, s.order.all.length = L := ⟨_, rfl⟩
  have hLn : L ≤ 2000000 := by have := hi.olen; have := hi.len; omega
  obtain ⟨y, hy⟩ : ∃ y, St.room it old.isSome (s.less old) env (L + 1) s = y := ⟨_, rfl⟩
  rw [hL, hy]
  have hcn : ∀ j, w.heap.size ≤ j → col j = none := fun j hj => Classical.byContradiction fun e => by have := h.lt j e; omega
  have hb2 : Below w.heap.size w ((w.alloc (.cells (it.arr (.slice a it.val.length c)) 51)).alloc (.cells env.arr 35)) := Mem.al (Mem.al (Below.refl _ _) _) _
  have n1 : ((w.alloc (.cells (it.arr (.slice a it.val.length c)) 51)).alloc (.cells env.arr 35)).heap[w.heap.size]? = some (.cells (it.arr (.slice a it.val.length c)) 51 (0, 0)) := Mem.new_later (Mem.new_block w _) _
  have n2 : ((w.alloc (.cells (it.arr (.slice a it.val.length c)) 51)).alloc (.cells env.arr 35)).heap[w.heap.size + 1]? = some (.cells env.arr 35 (0, 0)) := Mem.new_block2 w _ _
  have hsz : w.heap.size ≤ w.heap.size + 1 ∧ w.heap.size + 1 < ((w.alloc (.cells (it.arr (.slice a it.val.length c)) 51)).alloc (.cells env.arr 35)).heap.size := by simp
  have hbs : Beside W ((w.alloc (.cells (it.arr (.slice a it.val.length c)) 51)).alloc (.cells env.arr 35)) n b w.heap.size (w.heap.size + 1) col seed (.cells (it.arr (.slice a it.val.length c)) 51 (0, 0)) (.cells env.arr 35 (0, 0)) s ((w.alloc (.cells (it.arr (.slice a it.val.length c)) 51)).alloc (.cells env.arr 35)) := ⟨⟨col, h.step hb2, Fr.refl _ _⟩, n1, n2⟩
  obtain ⟨w0, hw0⟩ : ∃ w0, (w.alloc (.cells (it.arr (.slice a it.val.length c)) 51)).alloc (.cells env.arr 35) = w0 := ⟨_, rfl⟩
  rw [hw0] at hbs hb2 hsz
  have HB := Lib.hid (And.intro hcn (And.intro hb2 hsz))
  have HS := Lib.hid hbs
  have HY := Lib.hid hy
  have HI := Lib.hid hi
  have HLn := Lib.hid hL
  have HO := Lib.hid hold
  have heq := eql_old old
  have hqg := eqg_old old
  clear n1 n2 hcn hb2 hsz h hbs hy hi hold hL
  obtain ⟨pv, hpv⟩ : ∃ pv, ptrE old = pv := ⟨_, rfl⟩
  rw [hpv] at heq hqg ⊢
  obtain ⟨q, hq⟩ : ∃ q, old.isSome = q := ⟨_, rfl⟩
  rw [hq] at heq
  have HP := Lib.hid (And.intro hpv hq)
  clear hpv hq
  unfold Item.arr Env.arr at hw0 ⊢
  go_enter Tryz.func110, Tryz.ntmps110
  go_wp2_with fail
  go_step3
  go_upto_if 15 with (fail)
  go_cut [9] from 16 to 21 (fun z wx => z = .int .i64 (s.less old) ∧ w0 = wx)
  case first =>
    obtain ⟨hpv, hq⟩ := HP.out
    cases old with
    | none =>
      subst hpv hq
      go_wp2_with fail
      go_meet
      exact ⟨rfl, rfl⟩
    | some x =>
      obtain ⟨k, hk⟩ := HO.out x rfl
      obtain ⟨v, e1, -⟩ := HS.out.entry hk
      have d10 : w0.cell? ⟨x, 10, none⟩ = some (.int .i64 (s.ent x).chunk.1) := Mem.row_cell e1 10
      have d11 : w0.cell? ⟨x, 11, none⟩ = some (.int .i64 (s.ent x).chunk.2) := Mem.row_cell e1 11
      have hby := Slab.bytes_any (s.ent x).chunk.1 w0
      subst hpv hq
      clear hk e1
      unfold ptrE
      go_wp2_with fail
      refine hby.mono ?_
      rintro e w1 ⟨rfl, rfl⟩
      go_wp2_with fail
      go_meet
      exact ⟨rfl, rfl⟩
  case rest =>
    obtain ⟨rfl, rfl⟩ := hcut
    obtain ⟨hl0, hl1⟩ := less_range s old
    obtain ⟨le, hle⟩ : ∃ le, s.less old = le := ⟨_, rfl⟩
    have HY2 : Hid (St.room it q le env (L + 1) s = y) := Lib.hid (by have := HY.out; rw [HP.out.2, hle] at this; exact this)
    rw [hle] at hl0 hl1 ⊢
    clear hle HY
    go_wp2_with fail
    go_step3
    go_wp2_with fail
    go_loopg [10, 11, 12, 13] L (fun gh _ _ _ _ wr => ∃ (t : St) (g : Nat), g = gh ∧ Hid (Beside W w0 n b w.heap.size (w.heap.size + 1) col seed (.cells (it.arr (.slice a it.val.length c)) 51 (0, 0)) (.cells env.arr 35 (0, 0)) t wr ∧ Inv n0 (N + (L - g)) t ∧ t.order.all.length = g ∧ g ≤ L ∧ St.room it q le env (g + 1) t = y))
    case atStart => exact ⟨s, L, rfl, Lib.hid ⟨HS.out, by rw [Nat.sub_self]; exact HI.out, HLn.out, Nat.le_refl _, HY2.out⟩⟩
    case round =>
      obtain ⟨t, g, rfl, HT⟩ := hrel
      obtain ⟨ad, F, G, d0, d1, d2, d3, hsl, hor, hju⟩ := HT.out.1.reads
      have cel := fun j => Mem.row_cell HT.out.1.b1 j
      have i0 := cel 0
      have i1 := cel 1
      have i2 := cel 2
      have i3 := cel 3
      have i4 := cel 4
      have i5 := cel 5
      have i6 := cel 6
      have i7 := cel 7
      have i8 := cel 8
      have i9 := cel 9
      simp only [Item.arr, List.getElem?_toArray, List.getElem?_cons_zero, List.getElem?_cons_succ] at i0 i1 i2 i3 i4 i5 i6 i7 i8 i9
      have hsz := fun w' => size_any it a c w' (by omega) (by omega)
      unfold Item.arr at hsz
      have hfit := fun w' (hb : Below wr.heap.size wr w') => Slab.fits_any (hsl.below hb) HT.out.2.1.smallN (by omega) it.size le (by omega)
      have hb0 : Below wr.heap.size wr wr := Below.refl _ _
      have hbl : b < wr.heap.size := block_lt_of_cell d1
      have hBl : w.heap.size < wr.heap.size := block_lt_of_cell i0
      have HR := Lib.hid (And.intro d0 (And.intro d2 (And.intro d3 (And.intro hor hju))))
      clear cel d0 d2 d3 hor hju
      go_wp2_with fail
      go_region_held3 (fun W' : World => Below wr.heap.size wr W' ∧ W'.cell? ⟨b, 1, none⟩ = some (.pointer (some ⟨ad.mb, 0, none⟩)) ∧ W'.cell? ⟨w.heap.size, 0, none⟩ = some (.string it.key) ∧ W'.cell? ⟨w.heap.size, 1, none⟩ = some (.slice a it.val.length c) ∧ W'.cell? ⟨w.heap.size, 2, none⟩ = some (.int .u32 it.flags) ∧ W'.cell? ⟨w.heap.size, 3, none⟩ = some (.int .i64 it.exp) ∧ W'.cell? ⟨w.heap.size, 4, none⟩ = some (.int .u64 it.cas) ∧ W'.cell? ⟨w.heap.size, 5, none⟩ = some (.int .i64 it.sec) ∧ W'.cell? ⟨w.heap.size, 6, none⟩ = some (.int .u64 it.seq) ∧ W'.cell? ⟨w.heap.size, 7, none⟩ = some (.bool it.stale) ∧ W'.cell? ⟨w.heap.size, 8, none⟩ = some (.bool it.won) ∧ W'.cell? ⟨w.heap.size, 9, none⟩ = some (.bool it.seen))
        (first
          | exact ⟨hb0.drew, d1, i0, i1, i2, i3, i4, i5, i6, i7, i8, i9⟩
          | (go_split_ands; have hbx : Below wr.heap.size wr _ := (by assumption); have hk9 := fun (B i : Nat) (hB : B < wr.heap.size) => World.cell?_of_block (a := ⟨B, i, none⟩) (hbS.block B (Nat.lt_of_lt_of_le hB hbx.size)); exact ⟨Mem.tr hbx hbS, (hk9 b 1 hbl).trans (by assumption), (hk9 _ 0 hBl).trans (by assumption), (hk9 _ 1 hBl).trans (by assumption), (hk9 _ 2 hBl).trans (by assumption), (hk9 _ 3 hBl).trans (by assumption), (hk9 _ 4 hBl).trans (by assumption), (hk9 _ 5 hBl).trans (by assumption), (hk9 _ 6 hBl).trans (by assumption), (hk9 _ 7 hBl).trans (by assumption), (hk9 _ 8 hBl).trans (by assumption), (hk9 _ 9 hBl).trans (by assumption)⟩)
          | (go_split_ands; exact ⟨Mem.dn (by assumption) _, by assumption, by assumption, by assumption, by assumption, by assumption, by assumption, by assumption, by assumption, by assumption, by assumption, by assumption⟩))
        (first
          | (go_at_call 109; go_split_ands; refine (hsz _).mono ?_; rintro e wS ⟨rfl, hbS⟩)
          | (go_at_call 135; go_split_ands; refine (hfit _ (by assumption)).mono ?_; rintro e wF ⟨rfl, dF, rfl⟩))
      have hbF : Below wr.heap.size wr (wS.drewN dF) := Mem.tr (Below.drew (Below.refl _ wr)) (Mem.dn hbS dF)
      obtain ⟨w1, hw1⟩ : ∃ w1, wS.drewN dF = w1 := ⟨_, rfl⟩
      rw [hw1] at hbF ⊢
      have H1 := Lib.hid (HT.out.1.below hbF)
      clear hbF hbS hw1 hsz hfit hb0 hsl d1 i0 i1 i2 i3 i4 i5 i6 i7 i8 i9 hbl hBl
      have hcase := room_cases (it := it) (old := q) (less := le) (env := env) g t
      obtain ⟨fit, hfitv⟩ : ∃ f, t.slab.fits it.size le = f := ⟨_, rfl⟩
      rw [hfitv] at hcase ⊢
      have HC := Lib.hid hcase
      clear hcase
      cases fit with
      | true =>
        clear hfitv
        go_wp2_with fail
        go_ret
        obtain ⟨-, e2⟩ | ⟨e1, -⟩ | ⟨e1, -⟩ := HC.out
        · have hyt : y = (0, t) := HT.out.2.2.2.2.symm.trans e2
          obtain ⟨col1, a1, f1⟩ := H1.out.run
          rw [hyt]
          exact ⟨rfl, col1, a1, (Fr.below HB.out.2.1).trans f1⟩
        · cases e1
        · cases e1
      | false =>
        clear hfitv
        obtain ⟨ad2, F2, G2, -, -, d2, -, -, hor, -⟩ := H1.out.reads
        have i0 : w1.cell? ⟨w.heap.size, 0, none⟩ = some (.string it.key) := Mem.row_cell H1.out.b1 0
        have hvic := fun w' (hb : Below w1.heap.size w1 w') => Slru.victim_any (hor.below hb) it.key
        have hb0 : Below w1.heap.size w1 w1 := Below.refl _ _
        have hbl : b < w1.heap.size := block_lt_of_cell d2
        have hBl : w.heap.size < w1.heap.size := block_lt_of_cell i0
        clear hor
        have HC2 : Hid ((t.order.victim it.key = none ∧ St.room it q le env (g + 1) t = (5, t)) ∨ (∃ v, t.order.victim it.key = some v ∧ v ≠ it.key ∧ v ∈ t.order.all ∧ ((Tab.get t.tab.L v = none ∧ St.room it q le env (g + 1) t = (5, t)) ∨ ∃ x, Tab.get t.tab.L v = some x ∧
          (((q = true ∨ (t.ent x).it.live env = false ∨ t.judge.admit it.key.data.toList v.data.toList = true) ∧ St.room it q le env (g + 1) t = St.room it q le env g (t.tick.drop v)) ∨
           (q = false ∧ (t.ent x).it.live env = true ∧ t.judge.admit it.key.data.toList v.data.toList = false ∧ St.room it q le env (g + 1) t = (8, t.tick)))))) := Lib.hid (by
          obtain ⟨e1, -⟩ | ⟨-, e2⟩ | ⟨-, e2⟩ := HC.out
          · cases e1
          · exact .inl e2
          · exact .inr e2)
        clear HC
        rcases HC2.out with ⟨e1, e2⟩ | ⟨v, e1, hvk, hvm, e2⟩
        · have hvv : Slru.vic t.order it.key = (ByteArray.empty, false) := by unfold Slru.vic; rw [e1]
          rw [hvv] at hvic
          have HE := Lib.hid e2
          clear e1 e2 hvv HC2
          go_wp2_with fail
          go_region_held3 (fun W' : World => Below w1.heap.size w1 W' ∧ W'.cell? ⟨b, 2, none⟩ = some (.pointer (some ⟨ad2.ob, 0, none⟩)) ∧ W'.cell? ⟨w.heap.size, 0, none⟩ = some (.string it.key))
            (first
              | exact ⟨hb0.drew, d2, i0⟩
              | (go_split_ands; have hbx : Below w1.heap.size w1 _ := (by assumption); have hk9 := fun (B i : Nat) (hB : B < w1.heap.size) => World.cell?_of_block (a := ⟨B, i, none⟩) (hbS.block B (Nat.lt_of_lt_of_le hB hbx.size)); exact ⟨Mem.tr hbx hbS, (hk9 b 2 hbl).trans (by assumption), (hk9 _ 0 hBl).trans (by assumption)⟩))
            (first | (go_at_call 136; go_split_ands; refine (hvic _ (by assumption)).mono ?_; rintro e w2 ⟨rfl, hbS⟩))
          have H2 := Lib.hid (H1.out.below (Mem.tr (Below.drew (Below.refl _ w1)) hbS))
          clear hvic hbS d2 i0 hb0 hbl hBl
          go_wp2_with fail
          go_ret
          have hyt : y = (5, t) := HT.out.2.2.2.2.symm.trans HE.out
          obtain ⟨col1, a1, f1⟩ := H2.out.run
          rw [hyt]
          exact ⟨rfl, col1, a1, (Fr.below HB.out.2.1).trans f1⟩
        · have hvv : Slru.vic t.order it.key = (v, true) := by unfold Slru.vic; rw [e1]
          rw [hvv] at hvic
          have HE := Lib.hid (And.intro e2 (And.intro hvk hvm))
          clear e1 e2 hvv HC2 hvk hvm
          go_wp2_with fail
          go_region_held3 (fun W' : World => Below w1.heap.size w1 W' ∧ W'.cell? ⟨b, 2, none⟩ = some (.pointer (some ⟨ad2.ob, 0, none⟩)) ∧ W'.cell? ⟨w.heap.size, 0, none⟩ = some (.string it.key))
            (first
              | exact ⟨hb0.drew, d2, i0⟩
              | (go_split_ands; have hbx : Below w1.heap.size w1 _ := (by assumption); have hk9 := fun (B i : Nat) (hB : B < w1.heap.size) => World.cell?_of_block (a := ⟨B, i, none⟩) (hbS.block B (Nat.lt_of_lt_of_le hB hbx.size)); exact ⟨Mem.tr hbx hbS, (hk9 b 2 hbl).trans (by assumption), (hk9 _ 0 hBl).trans (by assumption)⟩))
            (first | (go_at_call 136; go_split_ands; refine (hvic _ (by assumption)).mono ?_; rintro e w2 ⟨rfl, hbS⟩))
          have H2 := Lib.hid (H1.out.below (Mem.tr (Below.drew (Below.refl _ w1)) hbS))
          clear hvic hbS d2 i0 hb0 hbl hBl
          have hvsz : v.size ≤ maxLen := by
            obtain ⟨p, hp, e⟩ := List.mem_map.1 ((HT.out.2.1.keys v).1 HE.out.2.2)
            have := (HT.out.2.1.ents p hp).2.1
            rw [← e]; unfold maxLen; omega
          obtain ⟨ad3, c0, hget⟩ := H2.out.get HB.out.2.2 HB.out.1 v hvsz
          obtain ⟨x, hx⟩ : ∃ x, Tab.get t.tab.L v = some x := by
            rcases hg : Tab.get t.tab.L v with _ | x
            · exact absurd ((HT.out.2.1.keys v).1 HE.out.2.2) (get_none HT.out.2.1.rise hg)
            · exact ⟨x, rfl⟩
          have hgv : TabE.getV t.tab.L v = .tuple #[.pointer (some ⟨x, 0, none⟩), .bool true] := by unfold TabE.getV; rw [hx]
          rw [hgv] at hget
          have HX := Lib.hid hx
          clear hgv hx
          go_wp2_with fail
          refine hget.mono ?_
          rintro e w3 ⟨rfl, h3, -⟩
          have H3 := Lib.hid h3
          clear hget h3 c0
          have hm : (v, x) ∈ t.tick.tab.L := (Tab.get_mem HT.out.2.1.rise.nodup).1 HX.out
          have HE2 : Hid (((q = true ∨ (t.ent x).it.live env = false ∨ t.judge.admit it.key.data.toList v.data.toList = true) ∧ St.room it q le env (g + 1) t = St.room it q le env g (t.tick.drop v)) ∨
           (q = false ∧ (t.ent x).it.live env = true ∧ t.judge.admit it.key.data.toList v.data.toList = false ∧ St.room it q le env (g + 1) t = (8, t.tick))) := Lib.hid (by
            rcases HE.out.1 with ⟨e1, -⟩ | ⟨x2, e1, e2⟩
            · rw [HX.out] at e1; cases e1
            · rw [HX.out] at e1
              injection e1 with e1
              subst e1
              exact e2)
          have HV := Lib.hid hvsz
          have hN2 : N + (L - g) ≤ 1300000000000 := by omega
          have hdrop := fun w' (h : Beside W w0 n b w.heap.size (w.heap.size + 1) col seed (.cells (it.arr (.slice a it.val.length c)) 51 (0, 0)) (.cells env.arr 35 (0, 0)) t.tick w') => h.drop HB.out.2.2 HB.out.1 HT.out.2.1.tick (by omega) (by omega) v HV.out
          have HD := Lib.hid hdrop
          have hg1 : 1 ≤ g := by rw [← HT.out.2.2.1]; exact List.length_pos_of_mem HE.out.2.2
          have hnext : ∀ w4, Beside W w0 n b w.heap.size (w.heap.size + 1) col seed (.cells (it.arr (.slice a it.val.length c)) 51 (0, 0)) (.cells env.arr 35 (0, 0)) (t.tick.drop v) w4 → St.room it q le env (g + 1) t = St.room it q le env g (t.tick.drop v) →
              Hid (Beside W w0 n b w.heap.size (w.heap.size + 1) col seed (.cells (it.arr (.slice a it.val.length c)) 51 (0, 0)) (.cells env.arr 35 (0, 0)) (t.tick.drop v) w4 ∧ Inv n0 (N + (L - (g - 1))) (t.tick.drop v) ∧ (t.tick.drop v).order.all.length = g - 1 ∧ g - 1 ≤ L ∧ St.room it q le env (g - 1 + 1) (t.tick.drop v) = y) := fun w4 hb4 he => Lib.hid (by
            have h1 := HT.out.2.1.drop_len HE.out.2.2
            have h2 := HT.out.2.2.1
            have h3 := HT.out.2.2.2.1
            refine ⟨hb4, (HT.out.2.1.tick.drop v).mono (Nat.le_refl _) (by omega), by omega, by omega, ?_⟩
            rw [show g - 1 + 1 = g from by omega, ← he]
            exact HT.out.2.2.2.2)
          have HNx := Lib.hid hnext
          have HG := Lib.hid hg1
          clear hdrop hnext hg1 hN2 hvsz
          cases q with
          | true =>
            have hd3 := HD.out w3 H3.out
            clear hm
            go_wp2_with fail
            refine hd3.mono ?_
            rintro e w4 ⟨rfl, h4⟩
            have H4 := HNx.out w4 h4 (by obtain ⟨-, e⟩ | ⟨e, -⟩ := HE2.out; exact e; cases e)
            clear hd3 h4
            go_wp2_with fail
            go_roundg (g - 1)
            case measure => have := HG.out; omega
            case rel => exact ⟨_, _, rfl, H4⟩
          | false =>
            obtain ⟨vx, ex, -⟩ := H3.out.entry hm
            have cex := fun j => Mem.row_cell ex j
            have x0 := cex 0
            have x1 := cex 1
            have x2 := cex 2
            have x3 := cex 3
            have x4 := cex 4
            have x5 := cex 5
            have x6 := cex 6
            have x7 := cex 7
            have x8 := cex 8
            have x9 := cex 9
            simp only [St.tick, Ent.arr, List.getElem?_toArray, List.getElem?_cons_zero, List.getElem?_cons_succ] at x0 x1 x2 x3 x4 x5 x6 x7 x8 x9
            have cen := fun j => Mem.row_cell H3.out.b2 j
            have e0 := cen 0
            have e1 := cen 1
            have e2 := cen 2
            have e3 := cen 3
            simp only [Env.arr, List.getElem?_toArray, List.getElem?_cons_zero, List.getElem?_cons_succ] at e0 e1 e2 e3
            have hlive := live_any (t.ent x).it vx env w3.drew
            unfold Item.arr Env.arr at hlive
            obtain ⟨lv, hlv⟩ : ∃ lv, (t.ent x).it.live env = lv := ⟨_, rfl⟩
            rw [hlv] at hlive
            have HLV := Lib.hid hlv
            clear hm ex cex cen hlv
            go_wp2_with fail
            refine wp_region_still_tail 5 (by kernel_rfl) (by kernel_rfl) ?_
            simp only [List.take_succ_cons, List.take_zero, List.drop_succ_cons, List.drop_zero]
            repeat still_step
            refine wpStill_nil ?_
            change wpList _ _ _ _ _ w3.drew
            clear x0 x1 x2 x3 x4 x5 x6 x7 x8 x9 e0 e1 e2 e3
            go_wp2_with fail
            refine hlive.mono ?_
            rintro e w4 ⟨rfl, hb4⟩
            have H4 := Lib.hid (H3.out.below (Mem.tr (Below.drew (Below.refl _ w3)) hb4))
            clear hlive hb4
            cases lv with
            | false =>
              have hd4 := HD.out w4 H4.out
              go_wp2_with fail
              refine hd4.mono ?_
              rintro e w5 ⟨rfl, h5⟩
              have H5 := HNx.out w5 h5 (by obtain ⟨-, e⟩ | ⟨-, e, -⟩ := HE2.out; exact e; rw [HLV.out] at e; cases e)
              clear hd4 h5
              go_wp2_with fail
              go_roundg (g - 1)
              case measure => have := HG.out; omega
              case rel => exact ⟨_, _, rfl, H5⟩
            | true =>
              obtain ⟨ad4, -, -, -, -, -, d3, -, -, -⟩ := H4.out.reads
              have i0 : w4.cell? ⟨w.heap.size, 0, none⟩ = some (.string it.key) := Mem.row_cell H4.out.b1 0
              have hadm : Calls Tryz.prog 137 #[.pointer (some ⟨ad4.jb, 0, none⟩), .string it.key, .string v] w4.drew fun e w' => e = .returned (.bool (t.judge.admit it.key.data.toList v.data.toList)) ∧ Below w4.drew.heap.size w4.drew w' := by
                obtain ⟨ad5, F5, G5, -, -, -, c3, -, -, hj⟩ := (H4.out.below (Below.drew (Below.refl _ w4))).reads
                have e3 : ad5.jb = ad4.jb := by
                  have h1 : w4.cell? ⟨b, 3, none⟩ = some (.pointer (some ⟨ad5.jb, 0, none⟩)) := c3
                  rw [d3] at h1
                  injection h1 with h1; injection h1 with h1; injection h1 with h1; injection h1 with h1
                  exact h1.symm
                rw [e3] at hj
                exact (Tiny.admit_run hj it.key v (by unfold maxLen; omega) HV.out).mono fun e w' ⟨h1, _, h3⟩ => ⟨h1, h3⟩
              obtain ⟨am, ham⟩ : ∃ am, t.judge.admit it.key.data.toList v.data.toList = am := ⟨_, rfl⟩
              rw [ham] at hadm
              have HAM := Lib.hid ham
              clear ham
              go_wp2_with fail
              refine wp_region_still_tail 7 (by kernel_rfl) (by kernel_rfl) ?_
              simp only [List.take_succ_cons, List.take_zero, List.drop_succ_cons, List.drop_zero]
              repeat still_step
              refine wpStill_nil ?_
              change wpList _ _ _ _ _ w4.drew
              clear d3 i0
              go_wp2_with fail
              refine hadm.mono ?_
              rintro e w5 ⟨rfl, hb5⟩
              have H5 := Lib.hid (H4.out.below (Mem.tr (Below.drew (Below.refl _ w4)) hb5))
              clear hadm hb5
              cases am with
              | false =>
                go_wp2_with fail
                go_ret
                obtain ⟨e1, -⟩ | ⟨-, -, -, e2⟩ := HE2.out
                · rw [HLV.out, HAM.out] at e1; simp at e1
                · have hyt : y = (8, t.tick) := HT.out.2.2.2.2.symm.trans e2
                  obtain ⟨col1, a1, f1⟩ := H5.out.run
                  rw [hyt]
                  exact ⟨rfl, col1, a1, (Fr.below HB.out.2.1).trans f1⟩
              | true =>
                have hd5 := HD.out w5 H5.out
                go_wp2_with fail
                refine hd5.mono ?_
                rintro e w6 ⟨rfl, h6⟩
                have H6 := HNx.out w6 h6 (by obtain ⟨-, e⟩ | ⟨-, -, e, -⟩ := HE2.out; exact e; rw [HAM.out] at e; cases e)
                clear hd5 h6
                go_wp2_with fail
                go_roundg (g - 1)
                case measure => have := HG.out; omega
                case rel => exact ⟨_, _, rfl, H6⟩
end
end Go.Proofs.YtpghckiochjogaaGreatDoor.Shard

/- Layer 11: what a store does to the parts. -/
namespace Go.Proofs.YtpghckiochjogaaGreatDoor.Shard
open Go Go.RowKit Go.Proofs.YtpghckiochjogaaGreatDoor.Mem Go.Proofs.YtpghckiochjogaaGreatDoor.App
section
variable {W w0 w w' : World} {n m n0 N b B B' : Nat} {hl hl' : Nat → Prop} {col : Col} {ad : Addrs} {seed : Int} {o1 o2 : Obj} {s : St} {vd : Value} {vv : Nat → Value}
theorem Parts.hole (h : Parts W w n hl col ad seed s vd vv) (hh : ∀ k, hl k → hl' k) : Parts W w n hl' col ad seed s vd vv :=
  ⟨h.self, h.csb, h.tab, h.sm, h.slab, h.order, h.judge, h.cj, h.drops, h.cd, fun q hq hn => h.ents q hq (fun e => hn (hh _ e)), h.lt, h.below⟩
theorem Parts.more (h : Parts W w n hl col ad seed s vd vv) (hm : n ≤ m) (hm2 : m ≤ 1000000000) : Parts W w m hl col ad seed s vd vv :=
  ⟨h.self, h.csb, h.tab, h.sm.mono hm hm2, h.slab, h.order, h.judge, h.cj, h.drops, h.cd, h.ents, h.lt, h.below⟩
theorem At.more (h : At W w n b col seed s) (hm : n ≤ m) (hm2 : m ≤ 1000000000) : At W w m b col seed s := by
  obtain ⟨ad, vd, vv, e, h⟩ := h
  exact ⟨ad, vd, vv, e, h.more hm hm2⟩
def paint (col : Col) (x : Nat) : Col := fun k => if k = x then some (.ent x) else col k
theorem Parts.paint (h : Parts W w n hl col ad seed s vd vv) {x : Nat} (hc : col x = none) (h1 : W.heap.size ≤ x) (h2 : x < w.heap.size) : Parts W w n hl (paint col x) ad seed s vd vv := by
  have ho : ∀ k p, col k = some p → Shard.paint col x k = some p := fun k p e => by
    unfold Shard.paint
    rw [if_neg (fun e1 => by rw [e1, hc] at e; cases e)]; exact e
  obtain ⟨Ft, ht1, ht2⟩ := h.tab
  obtain ⟨Fs, hs1, hs2⟩ := h.slab
  obtain ⟨Fo, ho1, ho2⟩ := h.order
  refine ⟨h.self, ho _ _ h.csb, ⟨Ft, ht1, fun k hk => ho _ _ (ht2 k hk)⟩, h.sm, ⟨Fs, hs1, fun k hk => ho _ _ (hs2 k hk)⟩, ⟨Fo, ho1, fun k hk => ho _ _ (ho2 k hk)⟩, h.judge, ⟨ho _ _ h.cj.1, ho _ _ h.cj.2.1, ho _ _ h.cj.2.2⟩, h.drops, fun g e => ho _ _ (h.cd g e), fun q hq hn => ?_, fun k p e => ?_, h.below⟩
  · obtain ⟨a1, a2, a3, a4, a5⟩ := h.ents q hq hn
    exact ⟨a1, a2, a3, ho _ _ a4, fun g e => ⟨ho _ _ (a5 g e).1, (a5 g e).2⟩⟩
  · unfold Shard.paint at e
    by_cases e1 : k = x
    · subst e1; exact ⟨h1, h2⟩
    · rw [if_neg e1] at e; exact h.lt k p e
structure Held (W w0 : World) (n b B B' : Nat) (col : Col) (seed : Int) (o1 o2 : Obj) (s : St) (x : Nat) (e : Ent) (u : Value) (w : World) : Prop where
  run : ∃ col' ad vd vv, ad.sb = b ∧ Parts W w n (fun q => q = x) col' ad seed s vd vv ∧ Fr col col' w0 w ∧ col' x = some (.ent x)
  b1 : w.heap[B]? = some o1
  b2 : w.heap[B']? = some o2
  blk : w.heap[x]? = some (.cells (e.arr u) 125 (0, 0))
theorem Beside.frees (h : Beside W w0 n b B B' col seed o1 o2 s w) (hB : B ≤ B' ∧ B' < w0.heap.size) (hc : ∀ j, B ≤ j → col j = none) (hi : Slab.Small N s.slab) (hN : N ≤ 2000000000000) (c : Int × Int) : ∃ ad : Addrs, w.cell? ⟨b, 1, none⟩ = some (.pointer (some ⟨ad.mb, 0, none⟩)) ∧
    ∀ w', Below w.heap.size w w' → Calls Tryz.prog 86 #[.pointer (some ⟨ad.mb, 0, none⟩), .agg #[.int .i64 c.1, .int .i64 c.2]] w' fun e w'' => (∃ z, e = .returned (.int .i64 z)) ∧ Beside W w0 n b B B' col seed o1 o2 { s with slab := (s.slab.free c).2 } w'' := by
  obtain ⟨col1, ⟨ad, vd, vv, rfl, h1⟩, f1⟩ := h.run
  refine ⟨ad, Mem.row_cell h1.self 1, fun w' hb => ?_⟩
  have h2 := h1.step hb
  obtain ⟨F, hs, hF⟩ := h2.slab
  refine (Slab.free_any hs hi (by omega) c.1 c.2).mono ?_
  rintro e w1 ⟨F1, rfl, ha, ho, hgr⟩
  have h3 := h2.turnSlab hF ha (slab_lt ha) ho hgr
  have hn : ∀ j, B ≤ j → j < w0.heap.size → col1 j = none := fun j h1 h2 => Classical.byContradiction fun e => (f1.2 j e).elim (fun e1 => e1 (hc j h1)) (fun e1 => by omega)
  have hz := f1.1.size
  have f2 := (Fr.below (col := col1) hb).trans (Fr.of hF ho)
  exact ⟨⟨_, rfl⟩, ⟨_, ⟨ad, vd, vv, rfl, h3⟩, f1.trans f2⟩, (f2.keep (by omega) (hn _ (Nat.le_refl _) (by omega))).trans h.b1, (f2.keep (by omega) (hn _ (by omega) (by omega))).trans h.b2⟩
theorem Beside.takes (h : Beside W w0 n b B B' col seed o1 o2 s w) (hB : B ≤ B' ∧ B' < w0.heap.size) (hc : ∀ j, B ≤ j → col j = none) (hi : Slab.Small N s.slab) (hN : N ≤ 2000000000000) (z : Int) : ∃ ad : Addrs, w.cell? ⟨b, 1, none⟩ = some (.pointer (some ⟨ad.mb, 0, none⟩)) ∧
    ∀ w', Below w.heap.size w w' → Calls Tryz.prog 113 #[.pointer (some ⟨ad.mb, 0, none⟩), .int .i64 z] w' fun e w'' => e = .returned (.tuple #[.agg #[.int .i64 (s.slab.take z).1.1.1, .int .i64 (s.slab.take z).1.1.2], .int .i64 (s.slab.take z).1.2]) ∧ Beside W w0 n b B B' col seed o1 o2 { s with slab := (s.slab.take z).2 } w'' ∧ w''.cell? ⟨b, 1, none⟩ = some (.pointer (some ⟨ad.mb, 0, none⟩)) := by
  obtain ⟨col1, ⟨ad, vd, vv, rfl, h1⟩, f1⟩ := h.run
  refine ⟨ad, Mem.row_cell h1.self 1, fun w' hb => ?_⟩
  have h2 := h1.step hb
  obtain ⟨F, hs, hF⟩ := h2.slab
  refine (Slab.take_any hs hi (by omega) z).mono ?_
  rintro e w1 ⟨F1, rfl, ha, ho, hgr⟩
  have h3 := h2.turnSlab hF ha (slab_lt ha) ho hgr
  have hn : ∀ j, B ≤ j → j < w0.heap.size → col1 j = none := fun j h1 h2 => Classical.byContradiction fun e => (f1.2 j e).elim (fun e1 => e1 (hc j h1)) (fun e1 => by omega)
  have hz := f1.1.size
  have f2 := (Fr.below (col := col1) hb).trans (Fr.of hF ho)
  exact ⟨rfl, ⟨⟨_, ⟨ad, vd, vv, rfl, h3⟩, f1.trans f2⟩, (f2.keep (by omega) (hn _ (Nat.le_refl _) (by omega))).trans h.b1, (f2.keep (by omega) (hn _ (by omega) (by omega))).trans h.b2⟩, Mem.row_cell h3.self 1⟩
theorem Beside.finds (h : Beside W w0 n b B B' col seed o1 o2 s w) (hB : B ≤ B' ∧ B' < w0.heap.size) (hc : ∀ j, B ≤ j → col j = none) (hi : Inv n0 N s) (hn : n0 ≤ 100000000) (hN : N ≤ 2000000000000) (k : ByteArray) (env : Env) (hk : k.size ≤ maxLen) :
    Calls Tryz.prog 47 #[.pointer (some ⟨b, 0, none⟩), .string k, .agg env.arr] w fun e w' => e = .returned (ptrE (s.find k env).1) ∧ Beside W w0 n b B B' col seed o1 o2 (s.find k env).2 w' := by
  obtain ⟨col1, a1, f1⟩ := h.run
  refine (find_any a1 k env hk (by have := hi.olen; have := hi.len; omega) hi.smallN (by omega) (by rw [remove_drops]; have := hi.dl; show s.drops.length ≤ _; omega)).mono ?_
  rintro e w1 ⟨rfl, col2, a2, f2⟩
  have hn : ∀ j, B ≤ j → j < w0.heap.size → col1 j = none := fun j h1 h2 => Classical.byContradiction fun e => (f1.2 j e).elim (fun e1 => e1 (hc j h1)) (fun e1 => by omega)
  have hz := f1.1.size
  exact ⟨rfl, ⟨col2, a2, f1.trans f2⟩, (f2.keep (by omega) (hn _ (Nat.le_refl _) (by omega))).trans h.b1, (f2.keep (by omega) (hn _ (by omega) (by omega))).trans h.b2⟩
theorem Beside.rooms (h : Beside W w0 n b B B' col seed o1 o2 s w) (hB : B ≤ B' ∧ B' < w0.heap.size) (hc : ∀ j, B ≤ j → col j = none) (hi : Inv n0 N s) (hn0 : n0 ≤ 2000000) (hN : N ≤ 1200000000000) (it : Item) (a : Option Addr) (c : Nat) (old : Option Nat) (env : Env) (hks : it.key.size ≤ 2000000) (hvs : it.val.length ≤ 2000000) (hold : ∀ x, old = some x → ∃ k, (k, x) ∈ s.tab.L) :
    Calls Tryz.prog 110 #[.pointer (some ⟨b, 0, none⟩), .agg (it.arr (.slice a it.val.length c)), ptrE old, .agg env.arr] w fun e w' => e = .returned (.int .i64 (St.room it old.isSome (s.less old) env (s.order.all.length + 1) s).1) ∧ Beside W w0 n b B B' col seed o1 o2 (St.room it old.isSome (s.less old) env (s.order.all.length + 1) s).2 w' := by
  obtain ⟨col1, a1, f1⟩ := h.run
  refine (room_any a1 hi it a c old env hks hvs hold hn0 hN).mono ?_
  rintro e w1 ⟨rfl, col2, a2, f2⟩
  have hn : ∀ j, B ≤ j → j < w0.heap.size → col1 j = none := fun j h1 h2 => Classical.byContradiction fun e => (f1.2 j e).elim (fun e1 => e1 (hc j h1)) (fun e1 => by omega)
  have hz := f1.1.size
  exact ⟨rfl, ⟨col2, a2, f1.trans f2⟩, (f2.keep (by omega) (hn _ (Nat.le_refl _) (by omega))).trans h.b1, (f2.keep (by omega) (hn _ (by omega) (by omega))).trans h.b2⟩
theorem Beside.puts (h : Beside W w0 n b B B' col seed o1 o2 s w) (hB : B ≤ B' ∧ B' < w0.heap.size) (hc : ∀ j, B ≤ j → col j = none) (hn : n + 1 ≤ 1000000000) (k : ByteArray) (hk : k.size ≤ maxLen) (e : Ent) (u : Value) : ∃ ad : Addrs, w.cell? ⟨b, 0, none⟩ = some (.pointer (some ⟨ad.tb, 0, none⟩)) ∧ ∀ w', Below w.heap.size w w' →
    w'.heap[w.heap.size]? = some (.cells (e.arr u) 125 (0, 0)) → Calls Tryz.prog 111 #[.pointer (some ⟨ad.tb, 0, none⟩), .string k, .pointer (some ⟨w.heap.size, 0, none⟩)] w' fun en w'' => en = .returned (.tuple #[]) ∧ Held W w0 (n + 1) b B B' col seed o1 o2 { s with tab := s.tab.put k w.heap.size } w.heap.size e u w'' := by
  obtain ⟨col1, ⟨ad, vd, vv, rfl, h1⟩, f1⟩ := h.run
  refine ⟨ad, Mem.row_cell h1.self 0, fun w' hb hx => ?_⟩
  have h2 := h1.step hb
  have hxl : w.heap.size < w'.heap.size := (Array.getElem?_eq_some_iff.1 hx).1
  have hcx : col1 w.heap.size = none := Classical.byContradiction fun e => by
    rcases hq : col1 w.heap.size with _ | p
    · exact e hq
    · have := (h1.lt _ p hq).2; omega
  obtain ⟨F, hs, hF⟩ := h2.tab
  have hrise : Tab.Rising s.tab.L := hs.rise
  refine (TabE.put_any hs h2.sm hn k w.heap.size hk).mono ?_
  rintro en w1 ⟨F1, rfl, ha, ho, hgr⟩
  have h3 := h2.turnTab (hl' := fun q => q = w.heap.size) hF ha ho hgr (h2.sm.put hn k w.heap.size) (fun q hq hne => by
    rw [Tab.put_L, Tab.mem_put hrise] at hq
    rcases hq with rfl | ⟨hq, _⟩
    · exact absurd rfl hne
    · exact ⟨hq, fun e => e⟩)
  have hn : ∀ j, B ≤ j → j < w0.heap.size → col1 j = none := fun j h1 h2 => Classical.byContradiction fun e => (f1.2 j e).elim (fun e1 => e1 (hc j h1)) (fun e1 => by omega)
  have hz := f1.1.size
  have hz1 := ho.size
  have fx := Fr.of hF ho
  have f2 := (Fr.below (col := col1) hb).trans fx
  have hrx : recol col1 w' w1 .table w.heap.size = none := by unfold recol; rw [if_pos hxl]; exact hcx
  have h4 := h3.paint (x := w.heap.size) hrx h1.below.size (by omega)
  have f3 : Fr col (paint (recol col1 w' w1 .table) w.heap.size) w0 w1 := ⟨(f1.trans f2).1, fun j hj => by
    by_cases e : j = w.heap.size
    · exact .inr (by omega)
    · exact (f1.trans f2).2 j (by have hj : paint (recol col1 w' w1 .table) w.heap.size j ≠ none := hj; unfold paint at hj; rw [if_neg e] at hj; exact hj)⟩
  exact ⟨rfl, ⟨_, ad, vd, vv, rfl, h4, f3, by unfold paint; rw [if_pos rfl]⟩, (f2.keep (by omega) (hn _ (Nat.le_refl _) (by omega))).trans h.b1, (f2.keep (by omega) (hn _ (by omega) (by omega))).trans h.b2, (fx.keep hxl hcx).trans hx⟩
theorem Held.adds {x : Nat} {e : Ent} {u : Value} (h : Held W w0 n b B B' col seed o1 o2 s x e u w) (hB : B ≤ B' ∧ B' < w0.heap.size) (hc : ∀ j, B ≤ j → col j = none) (k : ByteArray) (hl : s.order.all.length ≤ 100000000) : ∃ ad : Addrs, w.cell? ⟨b, 2, none⟩ = some (.pointer (some ⟨ad.ob, 0, none⟩)) ∧ ∀ w', Below w.heap.size w w' →
    Calls Tryz.prog 112 #[.pointer (some ⟨ad.ob, 0, none⟩), .string k] w' fun en w'' => (∃ z, en = .returned (.int .i64 z)) ∧ Held W w0 n b B B' col seed o1 o2 { s with order := (s.order.add k).2 } x e u w'' := by
  obtain ⟨col1, ad, vd, vv, rfl, h1, f1, hx⟩ := h.run
  refine ⟨ad, Mem.row_cell h1.self 2, fun w' hb => ?_⟩
  have h2 := h1.step hb
  obtain ⟨F, hs, hF⟩ := h2.order
  refine (Slru.add_any hs k (by show s.order.all.length + 1 ≤ _; omega)).mono ?_
  rintro en w1 ⟨F1, rfl, ha, ho, hgr⟩
  have h3 := h2.turnOrder hF ha ha.lt ho hgr
  have hn : ∀ j, B ≤ j → j < w0.heap.size → col1 j = none := fun j h1 h2 => Classical.byContradiction fun e => (f1.2 j e).elim (fun e1 => e1 (hc j h1)) (fun e1 => by omega)
  have hz := f1.1.size
  have f2 := (Fr.below (col := col1) hb).trans (Fr.of hF ho)
  refine ⟨⟨_, rfl⟩, ⟨_, ad, vd, vv, rfl, h3, f1.trans f2, ?_⟩, (f2.keep (by omega) (hn _ (Nat.le_refl _) (by omega))).trans h.b1, (f2.keep (by omega) (hn _ (by omega) (by omega))).trans h.b2, ?_⟩
  · exact h2.recol_of hx
  · exact ((h2.far (Parts.onlyOf hF ho) hx (by simp)).trans (hb.block _ (h1.lt _ _ hx).2)).trans h.blk
theorem Held.below {x : Nat} {e : Ent} {u : Value} (h : Held W w0 n b B B' col seed o1 o2 s x e u w) (hb : Below w.heap.size w w') : Held W w0 n b B B' col seed o1 o2 s x e u w' := by
  obtain ⟨col1, ad, vd, vv, rfl, h1, f1, hx⟩ := h.run
  exact ⟨⟨col1, ad, vd, vv, rfl, h1.step hb, f1.trans (Fr.below hb), hx⟩, (hb.block _ (Array.getElem?_eq_some_iff.1 h.b1).1).trans h.b1, (hb.block _ (Array.getElem?_eq_some_iff.1 h.b2).1).trans h.b2, (hb.block _ (Array.getElem?_eq_some_iff.1 h.blk).1).trans h.blk⟩
theorem lay_item (e : Ent) (u v : Value) (it : Item) : lay (e.arr u) 0 (it.arr v).toList = (⟨it, e.chunk⟩ : Ent).arr v := by
  simp [lay, Ent.arr, Item.arr]
theorem lay_chunk (e : Ent) (u : Value) (c : Int × Int) : lay (e.arr u) 10 [.int .i64 c.1, .int .i64 c.2] = (⟨e.it, c⟩ : Ent).arr u := by
  simp [lay, Ent.arr]
theorem Held.item {x : Nat} {e : Ent} {u v : Value} {it : Item} (h : Held W w0 n b B B' col seed o1 o2 s x e u w) (hB : B ≤ B' ∧ B' < w0.heap.size) (hc : ∀ j, B ≤ j → col j = none) (hb : Below w.heap.size w w') (hown : OwnB w' w.heap.size v it.val) (hkey : ∀ q ∈ s.tab.L, q.2 = x → it.key = q.1) :
    Beside W w0 n b B B' col seed o1 o2 { s with ent := upd s.ent x ⟨it, e.chunk⟩ } (w'.setCells x 0 (it.arr v).toList) ∧ (w'.setCells x 0 (it.arr v).toList).heap[x]? = some (.cells ((⟨it, e.chunk⟩ : Ent).arr v) 125 (0, 0)) := by
  obtain ⟨col1, ad, vd, vv, rfl, h1, f1, hx⟩ := h.run
  have hxl := (h1.lt _ _ hx).2
  have hblk : w'.heap[x]? = some (.cells (e.arr u) 125 (0, 0)) := (hb.block _ hxl).trans h.blk
  have hset := Mem.set_cells (it.arr v).toList 0 _ hblk
  rw [lay_item] at hset
  have ho : Only (Of col1 (.ent x)) w (w'.setCells x 0 (it.arr v).toList) := Only.setCells (.inl hx) _ _ (Only.of_below hb (fun k h1 h2 => by omega))
  have hgx : ∀ g, v.ownBlock = some g → w.heap.size ≤ g := fun g e => (own_block_lt hown g e).1
  have h2 := h1.turnEnt (x := ⟨it, e.chunk⟩) (v := v) (hl' := fun _ => False) hset ho hx (row_keep (Mem.row_less hown (Nat.zero_le _)) fun g e => Mem.set_cells_far _ _ (fun e1 => by have := hgx g e; omega)) (fun g e => ⟨.inr (hgx g e), fun e1 => by have := hgx g e; omega⟩) hkey (fun q _ hne _ e => hne e)
  have hn : ∀ j, B ≤ j → j < w0.heap.size → col1 j = none := fun j h1 h2 => Classical.byContradiction fun e => (f1.2 j e).elim (fun e1 => e1 (hc j h1)) (fun e1 => by omega)
  have hz := f1.1.size
  have f2 : Fr col1 (recol col1 w (w'.setCells x 0 (it.arr v).toList) (.ent x)) w (w'.setCells x 0 (it.arr v).toList) := Fr.of (p := .ent x) (fun k hk => hk) ho
  exact ⟨⟨⟨_, ⟨ad, vd, _, rfl, h2⟩, f1.trans f2⟩, (f2.keep (by omega) (hn _ (Nat.le_refl _) (by omega))).trans h.b1, (f2.keep (by omega) (hn _ (by omega) (by omega))).trans h.b2⟩, hset⟩
theorem Beside.chunk {x : Nat} {k : ByteArray} (h : Beside W w0 n b B B' col seed o1 o2 s w) (hB : B ≤ B' ∧ B' < w0.heap.size) (hc : ∀ j, B ≤ j → col j = none) (hm : (k, x) ∈ s.tab.L) (c : Int × Int) : Beside W w0 n b B B' col seed o1 o2 { s with ent := upd s.ent x ⟨(s.ent x).it, c⟩ } (w.setCells x 10 [.int .i64 c.1, .int .i64 c.2]) := by
  obtain ⟨col1, ⟨ad, vd, vv, rfl, h1⟩, f1⟩ := h.run
  obtain ⟨e1, e2, e3, e4, e5⟩ := h1.ents (k, x) hm (fun e => e)
  simp only at e1 e2 e3 e4 e5
  have hset := Mem.set_cells [.int .i64 c.1, .int .i64 c.2] 10 _ e1
  rw [lay_chunk] at hset
  have ho : Only (Of col1 (.ent x)) w (w.setCells x 10 [.int .i64 c.1, .int .i64 c.2]) := Only.setCells (.inl e4) _ _ (Only.refl _ _)
  have h2 := h1.turnEnt (x := ⟨(s.ent x).it, c⟩) (v := vv x) (hl' := fun _ => False) hset ho e4 (row_keep e2 fun g e => Mem.set_cells_far _ _ (e5 g e).2) (fun g e => ⟨.inl (e5 g e).1, (e5 g e).2⟩) (fun q hq e => by
    have := (h1.ents q hq (fun e => e)).2.2.1
    rw [e] at this; exact this) (fun _ _ _ _ e => e)
  have hn : ∀ j, B ≤ j → j < w0.heap.size → col1 j = none := fun j h1 h2 => Classical.byContradiction fun e => (f1.2 j e).elim (fun e1 => e1 (hc j h1)) (fun e1 => by omega)
  have hz := f1.1.size
  have f2 : Fr col1 (recol col1 w (w.setCells x 10 [.int .i64 c.1, .int .i64 c.2]) (.ent x)) w (w.setCells x 10 [.int .i64 c.1, .int .i64 c.2]) := Fr.of (p := .ent x) (fun k hk => hk) ho
  exact ⟨⟨_, ⟨ad, vd, _, rfl, h2⟩, f1.trans f2⟩, (f2.keep (by omega) (hn _ (Nat.le_refl _) (by omega))).trans h.b1, (f2.keep (by omega) (hn _ (by omega) (by omega))).trans h.b2⟩
theorem Beside.held {x : Nat} {k : ByteArray} (h : Beside W w0 n b B B' col seed o1 o2 s w) (hm : (k, x) ∈ s.tab.L) (hnm : n ≤ m) (hm2 : m ≤ 1000000000) : ∃ u, Held W w0 m b B B' col seed o1 o2 s x (s.ent x) u w := by
  obtain ⟨col1, ⟨ad, vd, vv, rfl, h1⟩, f1⟩ := h.run
  obtain ⟨e1, e2, e3, e4, e5⟩ := h1.ents (k, x) hm (fun e => e)
  exact ⟨_, ⟨_, ad, vd, vv, rfl, (h1.more hnm hm2).hole (fun _ e => e.elim), f1, e4⟩, h.b1, h.b2, e1⟩
theorem Held.src {x : Nat} {e : Ent} {u : Value} {it : Item} {v : Value} {w1 : World} (h : Held W w0 n b B B' col seed o1 o2 s x e u w) (hs : SrcB w1 v it.val) (hb : Below w1.heap.size w1 w0) (hc : it.val ≠ [] → ∀ g, v.ownBlock = some g → col g = none) : SrcB w v it.val := by
  obtain ⟨col1, ad, vd, vv, rfl, h1, f1, hx⟩ := h.run
  have h0 := hs.below hb
  exact h0.same (fun hx g e hg => f1.keep hg (hc hx g e)) f1.1.size
end
end Go.Proofs.YtpghckiochjogaaGreatDoor.Shard

/- Layer 11: Store. -/
namespace Go.Proofs.YtpghckiochjogaaGreatDoor.Shard
open Go Go.RowKit Go.Proofs.YtpghckiochjogaaGreatDoor.Mem Go.Proofs.YtpghckiochjogaaGreatDoor.App
section
variable {W w : World} {n N b : Nat} {col : Col} {seed : Int} {s : St}
def StorePost (W w : World) (n b : Nat) (col : Col) (seed : Int) (s : St) (it : Item) (env : Env) (e : Ending) (w' : World) : Prop :=
  ∃ fresh, (∀ p ∈ s.tab.L, p.2 ≠ fresh) ∧ e = .returned (.int .i64 (s.store fresh it env).1) ∧ Turn W w n b col seed (s.store fresh it env).2 w'
theorem At.more_turn {m : Nat} {w' : World} (h : Turn W w n b col seed s w') (hm : n ≤ m) (hm2 : m ≤ 1000000000) : Turn W w m b col seed s w' := by
  obtain ⟨c, a, f⟩ := h
  exact ⟨c, a.more hm hm2, f⟩
theorem zero_ent : (⟨⟨⟨#[]⟩, [], 0, 0, 0, 0, 0, false, false, false⟩, (0, 0)⟩ : Ent).arr (.slice none 0 0) = #[.string ⟨#[]⟩, .slice none 0 0, .int .u32 0, .int .i64 0, .int .u64 0, .int .i64 0, .int .u64 0, .bool false, .bool false, .bool false, .int .i64 0, .int .i64 0] := rfl
theorem upd_upd {α : Type} (f : Nat → α) (k : Nat) (v v' : α) : upd (upd f k v) k v' = upd f k v' := by
  funext j
  unfold upd
  split <;> rfl
set_option maxRecDepth 100000 in
set_option maxHeartbeats 4000000 in
theorem store_any (h : At W w n b col seed s) (hn : n + 1 ≤ 2000000) {n0 : Nat} (hi : Inv n0 N s) (it : Item) (a : Option Addr) (c : Nat) (env : Env) (hks : it.key.size ≤ 2000000) (hvs : it.val.length ≤ 2000000) (hsrc : SrcB w (.slice a it.val.length c) it.val) (hsc : it.val ≠ [] → ∀ g, (Value.slice a it.val.length c).ownBlock = some g → col g = none) (hn0 : n0 ≤ 2000000) (hN : N ≤ 1150000000000) :
    Calls Tryz.prog 76 #[.pointer (some ⟨b, 0, none⟩), .agg (it.arr (.slice a it.val.length c)), .agg env.arr] w (StorePost W w (n + 1) b col seed s it env) := by
  have hcn : ∀ j, w.heap.size ≤ j → col j = none := fun j hj => Classical.byContradiction fun e => by have := h.lt j e; omega
  have hfr : ∀ p ∈ s.tab.L, p.2 < w.heap.size := fun p hp => by
    obtain ⟨ad, vd, vv, rfl, h⟩ := h
    exact (h.lt _ _ (h.ents p hp (fun e => e)).2.2.2.1).2
  have hb2 : Below w.heap.size w ((w.alloc (.cells (it.arr (.slice a it.val.length c)) 51)).alloc (.cells env.arr 35)) := Mem.al (Mem.al (Below.refl _ _) _) _
  have n1 : ((w.alloc (.cells (it.arr (.slice a it.val.length c)) 51)).alloc (.cells env.arr 35)).heap[w.heap.size]? = some (.cells (it.arr (.slice a it.val.length c)) 51 (0, 0)) := Mem.new_later (Mem.new_block w _) _
  have n2 : ((w.alloc (.cells (it.arr (.slice a it.val.length c)) 51)).alloc (.cells env.arr 35)).heap[w.heap.size + 1]? = some (.cells env.arr 35 (0, 0)) := Mem.new_block2 w _ _
  have hsz : w.heap.size ≤ w.heap.size + 1 ∧ w.heap.size + 1 < ((w.alloc (.cells (it.arr (.slice a it.val.length c)) 51)).alloc (.cells env.arr 35)).heap.size := by simp
  have hbs : Beside W ((w.alloc (.cells (it.arr (.slice a it.val.length c)) 51)).alloc (.cells env.arr 35)) n b w.heap.size (w.heap.size + 1) col seed (.cells (it.arr (.slice a it.val.length c)) 51 (0, 0)) (.cells env.arr 35 (0, 0)) s ((w.alloc (.cells (it.arr (.slice a it.val.length c)) 51)).alloc (.cells env.arr 35)) := ⟨⟨col, h.step hb2, Fr.refl _ _⟩, n1, n2⟩
  obtain ⟨w0, hw0⟩ : ∃ w0, (w.alloc (.cells (it.arr (.slice a it.val.length c)) 51)).alloc (.cells env.arr 35) = w0 := ⟨_, rfl⟩
  rw [hw0] at hbs hb2 hsz
  have HB := Lib.hid (And.intro hcn (And.intro hb2 hsz))
  have HI := Lib.hid (And.intro hi (And.intro hsrc (And.intro hsc hfr)))
  have hsz1 := fun w' => size_any it a c w' (by omega) (by omega)
  have hcl := fun w' => Slab.class_any it.size w'
  have HS := Lib.hid hbs
  have cel := fun j => Mem.row_cell hbs.b1 j
  have i0 := cel 0
  have i1 := cel 1
  have i2 := cel 2
  have i3 := cel 3
  have i4 := cel 4
  have i5 := cel 5
  have i6 := cel 6
  have i7 := cel 7
  have i8 := cel 8
  have i9 := cel 9
  simp only [Item.arr, List.getElem?_toArray, List.getElem?_cons_zero, List.getElem?_cons_succ] at i0 i1 i2 i3 i4 i5 i6 i7 i8 i9
  clear n1 n2 hcn hb2 hsz h hbs hi hsrc hsc hfr cel
  unfold Item.arr at hsz1
  unfold Item.arr Env.arr at hw0 ⊢
  go_enter Tryz.func76, Tryz.ntmps76
  go_wp2_with fail
  refine (hsz1 _).mono ?_
  rintro e w1 ⟨rfl, hb1⟩
  have H1 := Lib.hid (HS.out.below hb1)
  clear hsz1 hb1 i0 i1 i2 i3 i4 i5 i6 i7 i8 i9
  go_wp2_with fail
  refine (hcl _).mono ?_
  rintro e w1' ⟨rfl, rfl⟩
  clear hcl
  have hst := fun fresh => store_two HI.out.1 it env fresh
  have HT := Lib.hid hst
  clear hst
  by_cases h6 : Slab.classN it.size = 6
  · obtain ⟨k1, k2⟩ := Slab.classE_no h6
    rw [k1, k2]
    clear k1 k2
    have HH6 := Lib.hid h6
    clear h6
    go_wp2_with fail
    go_ret
    obtain ⟨col1, a1, f1⟩ := H1.out.run
    rcases HT.out w.heap.size with ⟨-, e⟩ | ⟨e, -⟩
    · refine ⟨w.heap.size, fun p hp => Nat.ne_of_lt (HI.out.2.2.2 p hp), by rw [e]; rfl, ?_⟩
      rw [e]
      exact At.more_turn ⟨col1, a1, (Fr.below HB.out.2.1).trans f1⟩ (by omega) (by omega)
    · have := HH6.out; omega
  have h6' : Slab.classN it.size < 6 := by have := Slab.class_six it.size; omega
  obtain ⟨k1, k2⟩ := Slab.classE_ok h6'
  rw [k1, k2]
  clear k1 k2
  have HH6 := Lib.hid h6'
  clear h6 h6'
  obtain ⟨f, hf⟩ : ∃ f, s.find it.key env = f := ⟨_, rfl⟩
  obtain ⟨r, hr⟩ : ∃ r, s.roomed it env = r := ⟨_, rfl⟩
  have HT2 : Hid (∀ fresh, Inv n0 (N + n0 + 2) r.2 ∧ (∀ p, p ∈ r.2.tab.L → p ∈ s.tab.L) ∧ ((r.1 = 0 ∧ Ready n0 (N + n0 + 2) it f.1 r.2 ∧ s.store fresh it env = (0, r.2.stored f.1 fresh it)) ∨ (r.1 ≠ 0 ∧ s.store fresh it env = r))) := Lib.hid (fun fresh => by
    rcases HT.out fresh with ⟨e, -⟩ | ⟨-, h⟩
    · have := HH6.out; omega
    · rw [hf, hr] at h; exact h)
  clear HT
  have hfi := HI.out.1.find it.key env
  have hfk := find_key HI.out.1 it.key env
  have hfind := H1.out.finds HB.out.2.2 HB.out.1 HI.out.1 (by omega) (by omega) it.key env (by unfold maxLen; omega)
  have hro : St.room it f.1.isSome (f.2.less f.1) env (f.2.order.all.length + 1) f.2 = r := by rw [← hr, ← hf]; rfl
  rw [hf] at hfi hfk hfind
  have hrooms := fun w' (h : Beside W w0 n b w.heap.size (w.heap.size + 1) col seed (.cells (it.arr (.slice a it.val.length c)) 51 (0, 0)) (.cells env.arr 35 (0, 0)) f.2 w') => h.rooms HB.out.2.2 HB.out.1 hfi hn0 (by omega) it a c f.1 env hks hvs (fun x e => ⟨_, hfk.1 x e⟩)
  rw [hro] at hrooms
  have HRM := Lib.hid (And.intro hrooms (And.intro hfi hfk))
  clear hro hrooms hfi hfk hf hr
  have i0 : w1.cell? ⟨w.heap.size, 0, none⟩ = some (.string it.key) := Mem.row_cell H1.out.b1 0
  have cen := fun j => Mem.row_cell H1.out.b2 j
  have e0 := cen 0
  have e1 := cen 1
  have e2 := cen 2
  have e3 := cen 3
  simp only [Env.arr, List.getElem?_toArray, List.getElem?_cons_zero, List.getElem?_cons_succ] at e0 e1 e2 e3
  clear cen
  unfold Env.arr at hfind
  go_wp2_with fail
  refine hfind.mono ?_
  rintro e w2 ⟨rfl, h2⟩
  have H2 := Lib.hid h2
  clear hfind h2 e0 e1 e2 e3 i0
  have cel := fun j => Mem.row_cell H2.out.b1 j
  have i0 := cel 0
  have i1 := cel 1
  have i2 := cel 2
  have i3 := cel 3
  have i4 := cel 4
  have i5 := cel 5
  have i6 := cel 6
  have i7 := cel 7
  have i8 := cel 8
  have i9 := cel 9
  simp only [Item.arr, List.getElem?_toArray, List.getElem?_cons_zero, List.getElem?_cons_succ] at i0 i1 i2 i3 i4 i5 i6 i7 i8 i9
  clear cel
  have cen := fun j => Mem.row_cell H2.out.b2 j
  have e0 := cen 0
  have e1 := cen 1
  have e2 := cen 2
  have e3 := cen 3
  simp only [List.getElem?_toArray, List.getElem?_cons_zero, List.getElem?_cons_succ] at e0 e1 e2 e3
  clear cen
  have hroom := HRM.out.1 w2 H2.out
  have heq := eql_old f.1
  have hqg := eqg_old f.1
  obtain ⟨pv, hpv⟩ : ∃ pv, ptrE f.1 = pv := ⟨_, rfl⟩
  rw [hpv] at heq hqg hroom ⊢
  obtain ⟨q, hq⟩ : ∃ q, f.1.isSome = q := ⟨_, rfl⟩
  rw [hq] at heq
  have HPV := Lib.hid (And.intro hpv hq)
  clear hpv hq
  unfold Item.arr Env.arr at hroom
  go_wp2_with fail
  refine hroom.mono ?_
  rintro e w3 ⟨rfl, h3⟩
  have H3 := Lib.hid h3
  clear hroom h3 i0 i1 i2 i3 i4 i5 i6 i7 i8 i9 e0 e1 e2 e3
  by_cases hz : r.1 ≠ 0
  · have hzb : (r.1 != 0) = true := by simpa using hz
    have HZ : Hid (r.1 ≠ 0) := Lib.hid hz
    clear hz
    go_wp2_with fail
    go_ret
    obtain ⟨col1, a1, f1⟩ := H3.out.run
    rcases HT2.out w.heap.size with ⟨-, -, ⟨e, -⟩ | ⟨-, e⟩⟩
    · exact absurd e HZ.out
    · refine ⟨w.heap.size, fun p hp => Nat.ne_of_lt (HI.out.2.2.2 p hp), by rw [e]; rfl, ?_⟩
      rw [e]
      exact At.more_turn ⟨col1, a1, (Fr.below HB.out.2.1).trans f1⟩ (by omega) (by omega)
  have hz0 : r.1 = 0 := Classical.byContradiction hz
  rw [hz0]
  have HZ := Lib.hid hz0
  clear hz hz0
  have hready := HT2.out w.heap.size
  have HR : Hid (Inv n0 (N + n0 + 2) r.2 ∧ Ready n0 (N + n0 + 2) it f.1 r.2) := Lib.hid (by
    rcases HT2.out w.heap.size with ⟨e0, -, ⟨-, e, -⟩ | ⟨e, -⟩⟩
    · exact ⟨e0, e⟩
    · exact absurd HZ.out e)
  have HST : Hid (∀ fresh, s.store fresh it env = (0, r.2.stored f.1 fresh it)) := Lib.hid (fun fresh => by
    rcases HT2.out fresh with ⟨-, -, ⟨-, -, e⟩ | ⟨e, -⟩⟩
    · exact e
    · exact absurd HZ.out e)
  have HSU : Hid (∀ p, p ∈ r.2.tab.L → p ∈ s.tab.L) := Lib.hid (HT2.out w.heap.size).2.1
  clear hready HT2
  go_upto_if 34 with (fail)
  go_cut [9] from 35 to 60 (fun p wx => ∃ (x : Nat) (s' : St) (e : Ent) (u : Value) (fresh : Nat), p = .pointer (some ⟨x, 0, none⟩) ∧ Hid (Held W w0 (n + 1) b w.heap.size (w.heap.size + 1) col seed (.cells (it.arr (.slice a it.val.length c)) 51 (0, 0)) (.cells env.arr 35 (0, 0)) s' x e u wx ∧
    (∀ q ∈ s'.tab.L, q.2 = x → it.key = q.1) ∧ (it.key, x) ∈ s'.tab.L ∧ Slab.Small 2000000000000 s'.slab ∧ (∀ p ∈ s.tab.L, p.2 ≠ fresh) ∧ s.store fresh it env = (0, s'.fill x it)))
  case first =>
    obtain ⟨hpv, hq⟩ := HPV.out
    clear heq hqg HPV
    rcases hf1 : f.1 with _ | x
    · rw [hf1] at hpv hq
      subst hpv hq
      have HF1 := Lib.hid hf1
      clear hf1
      obtain ⟨ad, c0, hput⟩ := H3.out.puts HB.out.2.2 HB.out.1 (by omega) it.key (by unfold maxLen; omega) ⟨⟨⟨#[]⟩, [], 0, 0, 0, 0, 0, false, false, false⟩, (0, 0)⟩ (.slice none 0 0)
      have i0 : w3.cell? ⟨w.heap.size, 0, none⟩ = some (.string it.key) := Mem.row_cell H3.out.b1 0
      have hb3 : Below w3.heap.size w3 (w3.alloc (.cells ((⟨⟨⟨#[]⟩, [], 0, 0, 0, 0, 0, false, false, false⟩, (0, 0)⟩ : Ent).arr (.slice none 0 0)) 125)).drew := Below.drew (Mem.al (Below.refl _ _) _)
      have hput2 := hput _ hb3 (Mem.new_block w3 _)
      have hlt3 : b < w3.heap.size := block_lt_of_cell c0
      have hlB3 : w.heap.size < w3.heap.size := block_lt_of_cell i0
      have c0A : (w3.alloc (.cells ((⟨⟨⟨#[]⟩, [], 0, 0, 0, 0, 0, false, false, false⟩, (0, 0)⟩ : Ent).arr (.slice none 0 0)) 125)).cell? ⟨b, 0, none⟩ = some (.pointer (some ⟨ad.tb, 0, none⟩)) := (World.cell?_of_block (Below.heap_alloc _ _ b hlt3)).trans c0
      have i0A : (w3.alloc (.cells ((⟨⟨⟨#[]⟩, [], 0, 0, 0, 0, 0, false, false, false⟩, (0, 0)⟩ : Ent).arr (.slice none 0 0)) 125)).cell? ⟨w.heap.size, 0, none⟩ = some (.string it.key) := (World.cell?_of_block (Below.heap_alloc _ _ _ hlB3)).trans i0
      obtain ⟨wA, hwA⟩ : ∃ wA, w3.alloc (.cells ((⟨⟨⟨#[]⟩, [], 0, 0, 0, 0, 0, false, false, false⟩, (0, 0)⟩ : Ent).arr (.slice none 0 0)) 125) = wA := ⟨_, rfl⟩
      rw [hwA] at hb3 hput2 c0A i0A
      have HB3 := Lib.hid hb3
      clear hput hb3 c0 i0 hlt3 hlB3
      rw [zero_ent] at hwA
      go_wp2_with fail
      refine wp_region_still_tail 7 (by kernel_rfl) (by kernel_rfl) ?_
      simp only [List.take_succ_cons, List.take_zero, List.drop_succ_cons, List.drop_zero]
      repeat still_step
      refine wpStill_nil ?_
      change wpList _ _ _ _ _ wA.drew
      clear c0A i0A
      go_wp2_with fail
      refine hput2.mono ?_
      rintro e w4 ⟨rfl, h4⟩
      have H4 := Lib.hid h4
      clear hput2 h4
      have hol : r.2.order.all.length ≤ 100000000 := by have := HR.out.1.olen; have := HR.out.1.len; omega
      obtain ⟨ad2, c2, hadd⟩ := H4.out.adds HB.out.2.2 HB.out.1 it.key hol
      have i0 : w4.cell? ⟨w.heap.size, 0, none⟩ = some (.string it.key) := Mem.row_cell H4.out.b1 0
      have hadd2 := hadd w4.drew (Below.drew (Below.refl _ _))
      clear hadd hol
      go_wp2_with fail
      refine wp_region_still_tail 6 (by kernel_rfl) (by kernel_rfl) ?_
      simp only [List.take_succ_cons, List.take_zero, List.drop_succ_cons, List.drop_zero]
      repeat still_step
      refine wpStill_nil ?_
      change wpList _ _ _ _ _ w4.drew
      clear c2 i0
      go_wp2_with fail
      refine hadd2.mono ?_
      rintro e w5 ⟨⟨z, rfl⟩, h5⟩
      have H5 := Lib.hid h5
      clear hadd2 h5
      go_wp2_with fail
      go_meet
      have hx3 := (Array.getElem?_eq_some_iff.1 H3.out.b1).1
      have hpx : ∀ p ∈ s.tab.L, p.2 ≠ w3.heap.size := fun p hp => by have := HI.out.2.2.2 p hp; omega
      refine ⟨w3.heap.size, r.2.added it.key w3.heap.size, _, _, w3.heap.size, rfl, Lib.hid ⟨H5.out, fun q hq e => ?_, ?_, HR.out.1.slab.small.mono (by omega), hpx, ?_⟩⟩
      · replace hq : q ∈ (r.2.tab.put it.key w3.heap.size).L := hq
        rw [Tab.put_L, Tab.mem_put HR.out.1.rise] at hq
        rcases hq with rfl | ⟨hq, _⟩
        · rfl
        · exact absurd e (hpx q (HSU.out q hq))
      · show _ ∈ (r.2.tab.put it.key w3.heap.size).L
        rw [Tab.put_L, Tab.mem_put HR.out.1.rise]
        exact .inl rfl
      · rw [HST.out, HF1.out]; rfl
    · rw [hf1] at hpv hq
      subst hpv hq
      have HF1 := Lib.hid hf1
      clear hf1
      have hmx : (it.key, x) ∈ r.2.tab.L := HR.out.2.hold x HF1.out
      obtain ⟨v, ex, -⟩ := H3.out.entry hmx
      have d10 : w3.cell? ⟨x, 10, none⟩ = some (.int .i64 (r.2.ent x).chunk.1) := Mem.row_cell ex 10
      have d11 : w3.cell? ⟨x, 11, none⟩ = some (.int .i64 (r.2.ent x).chunk.2) := Mem.row_cell ex 11
      obtain ⟨ad, c1, hfree⟩ := H3.out.frees HB.out.2.2 HB.out.1 (HR.out.1.smallN.mono (by omega : N + n0 + 2 ≤ 2000000000000)) (Nat.le_refl _) (r.2.ent x).chunk
      have hfree2 := hfree w3.drew (Below.drew (Below.refl _ _))
      have HM := Lib.hid hmx
      clear ex hfree hmx
      unfold ptrE
      go_wp2_with fail
      refine wp_region_still_tail 8 (by kernel_rfl) (by kernel_rfl) ?_
      simp only [List.take_succ_cons, List.take_zero, List.drop_succ_cons, List.drop_zero]
      repeat still_step
      refine wpStill_nil ?_
      change wpList _ _ _ _ _ w3.drew
      go_wp2_with fail
      refine hfree2.mono ?_
      rintro e w4 ⟨⟨z, rfl⟩, h4⟩
      obtain ⟨u, hh⟩ := h4.held (m := n + 1) HM.out (by omega) (by omega)
      have HH := Lib.hid hh
      clear hfree2 h4 hh c1 d10 d11
      go_wp2_with fail
      go_meet
      refine ⟨x, r.2.freed x, r.2.ent x, u, w.heap.size, rfl, Lib.hid ⟨HH.out, fun q hq e => ?_, HM.out, (HR.out.1.slab.free _).small.mono (by omega), fun p hp => Nat.ne_of_lt (HI.out.2.2.2 p hp), ?_⟩⟩
      · have h1 := HR.out.1.apart HM.out
        exact Classical.byContradiction fun h2 => h1 q (Tab.mem_del.2 ⟨hq, fun e1 => h2 e1.symm⟩) e
      · rw [HST.out w.heap.size, HF1.out]; rfl
  case rest =>
    obtain ⟨x, s', e, u, fresh, rfl, HX⟩ := hcut
    have cel := fun j => Mem.row_cell HX.out.1.b1 j
    have i0 := cel 0
    have i1 := cel 1
    have i2 := cel 2
    have i3 := cel 3
    have i4 := cel 4
    have i5 := cel 5
    have i6 := cel 6
    have i7 := cel 7
    have i8 := cel 8
    have i9 := cel 9
    simp only [Item.arr, List.getElem?_toArray, List.getElem?_cons_zero, List.getElem?_cons_succ] at i0 i1 i2 i3 i4 i5 i6 i7 i8 i9
    clear cel
    have hcl := owned_any it (HX.out.1.src HI.out.2.1 HB.out.2.1 HI.out.2.2.1) (by omega)
    unfold Item.arr at hcl
    go_wp2_with fail
    refine hcl.mono ?_
    rintro en w6 ⟨v6, rfl, hown6, hb6⟩
    obtain ⟨ya, yc, hv6⟩ := Src.shape (Src.of_row hown6)
    subst hv6
    have hit := HX.out.1.item HB.out.2.2 HB.out.1 hb6 hown6 HX.out.2.1
    have hth : w6.there x 0 (it.arr (.slice ya it.val.length yc)).size := fun j hj => by
      have h1 := (HX.out.1.below hb6).blk
      rw [Nat.zero_add, Mem.row_cell h1 j]
      refine ⟨?_, Mem.row_free h1 j⟩
      have h2 : j < (e.arr u).size := by
        have : (it.arr (.slice ya it.val.length yc)).size = 10 := rfl
        have : (e.arr u).size = 12 := rfl
        omega
      rw [Array.getElem?_eq_getElem h2]; rfl
    have H6 := Lib.hid (And.intro hit (And.intro hth (item_one it hown6)))
    clear hcl hown6 hb6 hit hth i0 i1 i2 i3 i4 i5 i6 i7 i8 i9
    go_wp2_with (first | (refine wpList_store_mid rfl 51 _ _ rfl x 0 (it.arr (.slice ya it.val.length yc)) rfl rfl H6.out.2.1 (item_size it _) H6.out.2.2 ?_) | fail)
    obtain ⟨w7, hw7⟩ : ∃ w7, w6.setCells x 0 (it.arr (.slice ya it.val.length yc)).toList = w7 := ⟨_, rfl⟩
    have H7 : Hid (Beside W w0 (n + 1) b w.heap.size (w.heap.size + 1) col seed (.cells (it.arr (.slice a it.val.length c)) 51 (0, 0)) (.cells env.arr 35 (0, 0)) { s' with ent := upd s'.ent x ⟨it, e.chunk⟩ } w7 ∧ (it.key, x) ∈ s'.tab.L) := Lib.hid (by have := H6.out.1.1; rw [hw7] at this; exact ⟨this, HX.out.2.2.1⟩)
    rw [hw7]
    have HX2 := Lib.hid HX.out.2.2.2.2
    have hsm := HX.out.2.2.2.1
    clear hw7
    have cel := fun j => Mem.row_cell H7.out.1.b1 j
    have i0 := cel 0
    have i1 := cel 1
    have i2 := cel 2
    have i3 := cel 3
    have i4 := cel 4
    have i5 := cel 5
    have i6 := cel 6
    have i7 := cel 7
    have i8 := cel 8
    have i9 := cel 9
    simp only [Item.arr, List.getElem?_toArray, List.getElem?_cons_zero, List.getElem?_cons_succ] at i0 i1 i2 i3 i4 i5 i6 i7 i8 i9
    clear cel
    have hsz2 := fun w' => size_any it a c w' (by omega) (by omega)
    unfold Item.arr at hsz2
    obtain ⟨ad, c1, htk⟩ := H7.out.1.takes HB.out.2.2 HB.out.1 hsm (Nat.le_refl _) it.size
    obtain ⟨⟨ck1, ck2⟩, hck⟩ : ∃ ck, (s'.slab.take it.size).1.1 = ck := ⟨_, rfl⟩
    obtain ⟨ce, hce⟩ : ∃ ce, (s'.slab.take it.size).1.2 = ce := ⟨_, rfl⟩
    have htk2 := fun w' hb => htk w' hb
    simp only [hck, hce] at htk2
    have HCK := Lib.hid hck
    have hbl : b < w7.heap.size := block_lt_of_cell c1
    have hBl : w.heap.size < w7.heap.size := block_lt_of_cell i0
    have hmx' : (it.key, x) ∈ ({ s' with ent := upd s'.ent x ⟨it, e.chunk⟩ } : St).tab.L := H7.out.2
    obtain ⟨v7, e7, o7⟩ := H7.out.1.entry hmx'
    obtain ⟨z7, y7, hv7⟩ := Src.shape (Src.of_row o7)
    subst hv7
    have hbx : b ≠ x := fun e9 => by
      have h1 := Mem.row_cell e7 1
      rw [← e9, c1] at h1
      have h2 := congrArg (fun o => o.getD undef) h1
      simp [Ent.arr] at h2
    have hBx : w.heap.size ≠ x := fun e9 => by
      have h1 := H7.out.1.b1
      rw [e9, e7] at h1
      injection h1 with h1
      injection h1 with h1
      have := congrArg Array.size h1
      cases this
    clear htk hck hce hsm hmx' e7 o7
    go_upto_region 14 with (fail)
    go_region_held3 (fun W' : World => W'.cell? ⟨b, 1, none⟩ = some (.pointer (some ⟨ad.mb, 0, none⟩)) ∧ W'.cell? ⟨w.heap.size, 0, none⟩ = some (.string it.key) ∧ W'.cell? ⟨w.heap.size, 1, none⟩ = some (.slice a it.val.length c) ∧ W'.cell? ⟨w.heap.size, 2, none⟩ = some (.int .u32 it.flags) ∧ W'.cell? ⟨w.heap.size, 3, none⟩ = some (.int .i64 it.exp) ∧ W'.cell? ⟨w.heap.size, 4, none⟩ = some (.int .u64 it.cas) ∧ W'.cell? ⟨w.heap.size, 5, none⟩ = some (.int .i64 it.sec) ∧ W'.cell? ⟨w.heap.size, 6, none⟩ = some (.int .u64 it.seq) ∧ W'.cell? ⟨w.heap.size, 7, none⟩ = some (.bool it.stale) ∧ W'.cell? ⟨w.heap.size, 8, none⟩ = some (.bool it.won) ∧ W'.cell? ⟨w.heap.size, 9, none⟩ = some (.bool it.seen))
      (first
        | exact ⟨c1, i0, i1, i2, i3, i4, i5, i6, i7, i8, i9⟩
        | (have hk9 := fun (B i : Nat) (hB : B < w7.heap.size) => World.cell?_of_block (a := ⟨B, i, none⟩) (hbS.block B hB); exact ⟨(hk9 b 1 hbl).trans c1, (hk9 _ 0 hBl).trans i0, (hk9 _ 1 hBl).trans i1, (hk9 _ 2 hBl).trans i2, (hk9 _ 3 hBl).trans i3, (hk9 _ 4 hBl).trans i4, (hk9 _ 5 hBl).trans i5, (hk9 _ 6 hBl).trans i6, (hk9 _ 7 hBl).trans i7, (hk9 _ 8 hBl).trans i8, (hk9 _ 9 hBl).trans i9⟩)
        | (have hk9 := fun j => Mem.row_cell HT.out.1.b1 j; exact ⟨HT.out.2, hk9 0, hk9 1, hk9 2, hk9 3, hk9 4, hk9 5, hk9 6, hk9 7, hk9 8, hk9 9⟩)
        | (have hk9 := fun j => Mem.row_cell HT.out.1.b1 j; have hs9 := fun (B i : Nat) (hB : B ≠ x) => (World.cell?_of_block (a := ⟨B, i, none⟩) ((Below.heap_setCell (wT.setCell ⟨x, 10, none⟩ (.int .i64 ck1)) ⟨x, 11, none⟩ (.int .i64 ck2) B hB).trans (Below.heap_setCell wT ⟨x, 10, none⟩ (.int .i64 ck1) B hB))); exact ⟨(hs9 b 1 hbx).trans HT.out.2, (hs9 _ 0 hBx).trans (hk9 0), (hs9 _ 1 hBx).trans (hk9 1), (hs9 _ 2 hBx).trans (hk9 2), (hs9 _ 3 hBx).trans (hk9 3), (hs9 _ 4 hBx).trans (hk9 4), (hs9 _ 5 hBx).trans (hk9 5), (hs9 _ 6 hBx).trans (hk9 6), (hs9 _ 7 hBx).trans (hk9 7), (hs9 _ 8 hBx).trans (hk9 8), (hs9 _ 9 hBx).trans (hk9 9)⟩))
      (first
        | (go_at_call 109; refine (hsz2 _).mono ?_; rintro en wS ⟨rfl, hbS⟩)
        | (go_at_call 113; refine (htk2 _ (Mem.tr (Below.drew (Below.refl _ w7)) hbS)).mono ?_; rintro en wT ⟨rfl, hT⟩; have HT := Lib.hid hT; obtain ⟨vT, eT, -⟩ := hT.1.entry (k := it.key) (x := x) H7.out.2; have d10 : wT.cell? ⟨x, 10, none⟩ = some (.int .i64 e.chunk.1) := (Mem.row_cell eT 10).trans (by simp [Ent.arr]); have d11 : wT.cell? ⟨x, 11, none⟩ = some (.int .i64 e.chunk.2) := (Mem.row_cell eT 11).trans (by simp [Ent.arr]); have g10 := Mem.row_free eT 10; have g11 := Mem.row_free eT 11; clear hT eT))
    have hfin : Beside W w0 (n + 1) b w.heap.size (w.heap.size + 1) col seed (.cells (it.arr (.slice a it.val.length c)) 51 (0, 0)) (.cells env.arr 35 (0, 0)) (s'.fill x it) ((wT.setCell ⟨x, 10, none⟩ (.int .i64 ck1)).setCell ⟨x, 11, none⟩ (.int .i64 ck2)) := by
      have h1 := HT.out.1.chunk HB.out.2.2 HB.out.1 H7.out.2 (ck1, ck2)
      have h2 : ({ { { s' with ent := upd s'.ent x ⟨it, e.chunk⟩ } with slab := (s'.slab.take it.size).2 } with ent := upd (upd s'.ent x ⟨it, e.chunk⟩) x ⟨((upd s'.ent x ⟨it, e.chunk⟩) x).it, (ck1, ck2)⟩ } : St) = s'.fill x it := by
        unfold St.fill
        rw [HCK.out, upd_same]
        rw [upd_upd]
      rw [← h2]
      exact h1
    have HFN := Lib.hid hfin
    clear hfin htk2 hsz2 d10 d11 g10 g11 c1 i0 i1 i2 i3 i4 i5 i6 i7 i8 i9 hbx hBx hbl hBl
    go_wp2_with fail
    go_ret
    obtain ⟨col1, a1, f1⟩ := HFN.out.run
    refine ⟨fresh, HX2.out.1, by rw [HX2.out.2]; rfl, ?_⟩
    rw [HX2.out.2]
    exact ⟨col1, a1, (Fr.below HB.out.2.1).trans f1⟩
end
end Go.Proofs.YtpghckiochjogaaGreatDoor.Shard

/- Layer 11: Update. -/
namespace Go.Proofs.YtpghckiochjogaaGreatDoor.Shard
open Go Go.RowKit Go.Proofs.YtpghckiochjogaaGreatDoor.Mem Go.Proofs.YtpghckiochjogaaGreatDoor.App
section
variable {W w : World} {n N b : Nat} {col : Col} {seed : Int} {s : St}
def TurnPost (W w : World) (n b : Nat) (col : Col) (seed : Int) (y : Int × St) (e : Ending) (w' : World) : Prop := e = .returned (.int .i64 y.1) ∧ Turn W w n b col seed y.2 w'
set_option maxRecDepth 100000 in
set_option maxHeartbeats 4000000 in
theorem update_any (h : At W w n b col seed s) (hn : n ≤ 2000000) {n0 : Nat} (hi : Inv n0 N s) (it : Item) (a : Option Addr) (c : Nat) (hks : it.key.size ≤ 2000000) (hvs : it.val.length ≤ 2000000) (hsrc : SrcB w (.slice a it.val.length c) it.val) (hsc : it.val ≠ [] → ∀ g, (Value.slice a it.val.length c).ownBlock = some g → col g = none) :
    Calls Tryz.prog 78 #[.pointer (some ⟨b, 0, none⟩), .agg (it.arr (.slice a it.val.length c))] w (TurnPost W w n b col seed (s.update it)) := by
  have hcn : ∀ j, w.heap.size ≤ j → col j = none := fun j hj => Classical.byContradiction fun e => by have := h.lt j e; omega
  have hb2 : Below w.heap.size w (w.alloc (.cells (it.arr (.slice a it.val.length c)) 51)) := Mem.al (Below.refl _ _) _
  have n1 : (w.alloc (.cells (it.arr (.slice a it.val.length c)) 51)).heap[w.heap.size]? = some (.cells (it.arr (.slice a it.val.length c)) 51 (0, 0)) := Mem.new_block w _
  have hsz : w.heap.size ≤ w.heap.size ∧ w.heap.size < (w.alloc (.cells (it.arr (.slice a it.val.length c)) 51)).heap.size := by simp
  have hbs : Beside W (w.alloc (.cells (it.arr (.slice a it.val.length c)) 51)) n b w.heap.size w.heap.size col seed (.cells (it.arr (.slice a it.val.length c)) 51 (0, 0)) (.cells (it.arr (.slice a it.val.length c)) 51 (0, 0)) s (w.alloc (.cells (it.arr (.slice a it.val.length c)) 51)) := ⟨⟨col, h.step hb2, Fr.refl _ _⟩, n1, n1⟩
  obtain ⟨w0, hw0⟩ : ∃ w0, w.alloc (.cells (it.arr (.slice a it.val.length c)) 51) = w0 := ⟨_, rfl⟩
  rw [hw0] at hbs hb2 hsz
  have HB := Lib.hid (And.intro hcn (And.intro hb2 hsz))
  have HI := Lib.hid (And.intro hi (And.intro hsrc hsc))
  have HS := Lib.hid hbs
  obtain ⟨y, hy⟩ : ∃ y, s.update it = y := ⟨_, rfl⟩
  have hyu : (match Tab.get s.tab.L it.key with | none => (6, s.tick) | some x => if (s.ent x).it.val.length = it.val.length then (0, { s.tick with ent := upd s.ent x ⟨it, (s.ent x).chunk⟩ }) else (1, s.tick)) = y := hy
  rw [hy]
  have HY := Lib.hid hyu
  obtain ⟨ad, c0, hget⟩ := (hbs.below (Below.drew (Below.refl _ w0))).get hsz hcn it.key (by unfold maxLen; omega)
  replace c0 : w0.cell? ⟨b, 0, none⟩ = some (.pointer (some ⟨ad.tb, 0, none⟩)) := c0
  have i0 : w0.cell? ⟨w.heap.size, 0, none⟩ = some (.string it.key) := Mem.row_cell hbs.b1 0
  clear n1 hcn hb2 hsz h hbs hi hsrc hsc hy hyu
  unfold Item.arr at hw0 ⊢
  rcases hg : Tab.get s.tab.L it.key with _ | x
  · have hgv : TabE.getV s.tab.L it.key = .tuple #[.pointer none, .bool false] := by unfold TabE.getV; rw [hg]
    rw [hgv] at hget
    have HG := Lib.hid hg
    clear hg hgv
    go_enter Tryz.func78, Tryz.ntmps78
    go_wp2_with fail
    go_region_held3 (fun W' : World => W'.cell? ⟨b, 0, none⟩ = some (.pointer (some ⟨ad.tb, 0, none⟩)) ∧ W'.cell? ⟨w.heap.size, 0, none⟩ = some (.string it.key))
      (first
        | exact ⟨c0, i0⟩
        | exact ⟨H1.out.2, Mem.row_cell H1.out.1.b1 0⟩)
      (first
        | (go_at_call 67; refine hget.mono ?_; rintro en w1 ⟨rfl, h1⟩; have H1 := Lib.hid h1; clear h1))
    clear hget c0 i0
    go_wp2_with fail
    go_ret
    obtain ⟨col1, a1, f1⟩ := H1.out.1.run
    have e := HY.out
    rw [HG.out] at e
    rw [← e]
    exact ⟨rfl, col1, a1, (Fr.below HB.out.2.1).trans f1⟩
  · have hgv : TabE.getV s.tab.L it.key = .tuple #[.pointer (some ⟨x, 0, none⟩), .bool true] := by unfold TabE.getV; rw [hg]
    rw [hgv] at hget
    have hm : (it.key, x) ∈ s.tick.tab.L := (Tab.get_mem HI.out.1.rise.nodup).1 hg
    have HG := Lib.hid (And.intro hg hm)
    clear hg hgv hm
    go_enter Tryz.func78, Tryz.ntmps78
    go_wp2_with fail
    go_region_held3 (fun W' : World => W'.cell? ⟨b, 0, none⟩ = some (.pointer (some ⟨ad.tb, 0, none⟩)) ∧ W'.cell? ⟨w.heap.size, 0, none⟩ = some (.string it.key))
      (first
        | exact ⟨c0, i0⟩
        | exact ⟨H1.out.2, Mem.row_cell H1.out.1.b1 0⟩)
      (first
        | (go_at_call 67; refine hget.mono ?_; rintro en w1 ⟨rfl, h1⟩; have H1 := Lib.hid h1; clear h1))
    clear hget c0 i0
    obtain ⟨vx, ex, ox⟩ := H1.out.1.entry HG.out.2
    obtain ⟨za, zc, hvx⟩ := Src.shape (Src.of_row ox)
    subst hvx
    have d1 : w1.cell? ⟨x, 1, none⟩ = some (.slice za (s.ent x).it.val.length zc) := Mem.row_cell ex 1
    have i1 : w1.cell? ⟨w.heap.size, 1, none⟩ = some (.slice a it.val.length c) := Mem.row_cell H1.out.1.b1 1
    clear ex ox
    by_cases hl : (s.ent x).it.val.length = it.val.length
    · have hlb : (((s.ent x).it.val.length : Int) != (it.val.length : Int)) = false := by rw [hl]; simp
      have HL := Lib.hid hl
      clear hl
      go_wp2_with fail
      go_quiet (fail)
      clear d1 i1 hlb
      obtain ⟨w2, hw2⟩ : ∃ w2, w1.drewN nq = w2 := ⟨_, rfl⟩
      have hb12 : Below w1.heap.size w1 w2 := by rw [← hw2]; exact Mem.dn (Below.refl _ _) _
      rw [hw2]
      have H2 := Lib.hid (H1.out.1.below hb12)
      obtain ⟨u, hheld⟩ := H2.out.held HG.out.2 (Nat.le_refl n) (by omega)
      have HX := Lib.hid hheld
      clear hw2 hb12 hheld
      have cel := fun j => Mem.row_cell H2.out.b1 j
      have i0 := cel 0
      have i1 := cel 1
      have i2 := cel 2
      have i3 := cel 3
      have i4 := cel 4
      have i5 := cel 5
      have i6 := cel 6
      have i7 := cel 7
      have i8 := cel 8
      have i9 := cel 9
      simp only [Item.arr, List.getElem?_toArray, List.getElem?_cons_zero, List.getElem?_cons_succ] at i0 i1 i2 i3 i4 i5 i6 i7 i8 i9
      clear cel
      have hcl := owned_any it (HX.out.src HI.out.2.1 HB.out.2.1 HI.out.2.2) (by omega)
      unfold Item.arr at hcl
      go_wp2_with fail
      refine hcl.mono ?_
      rintro en w6 ⟨v6, rfl, hown6, hb6⟩
      obtain ⟨ya, yc, hv6⟩ := Src.shape (Src.of_row hown6)
      subst hv6
      have hkey : ∀ q ∈ s.tick.tab.L, q.2 = x → it.key = q.1 := fun q hq e => by
        have h1 := HI.out.1.apart HG.out.2
        exact Classical.byContradiction fun h2 => h1 q (Tab.mem_del.2 ⟨hq, fun e1 => h2 e1.symm⟩) e
      have hit := HX.out.item HB.out.2.2 HB.out.1 hb6 hown6 hkey
      have hth : w6.there x 0 (it.arr (.slice ya it.val.length yc)).size := fun j hj => by
        have h1 := (HX.out.below hb6).blk
        rw [Nat.zero_add, Mem.row_cell h1 j]
        refine ⟨?_, Mem.row_free h1 j⟩
        have h2 : j < ((s.tick.ent x).arr u).size := by
          have : (it.arr (.slice ya it.val.length yc)).size = 10 := rfl
          have : ((s.tick.ent x).arr u).size = 12 := rfl
          omega
        rw [Array.getElem?_eq_getElem h2]; rfl
      have H6 := Lib.hid (And.intro hit (And.intro hth (item_one it hown6)))
      clear hcl hown6 hb6 hit hth hkey i0 i1 i2 i3 i4 i5 i6 i7 i8 i9
      go_wp2_with (first | (refine wpList_store_mid rfl 51 _ _ rfl x 0 (it.arr (.slice ya it.val.length yc)) rfl rfl H6.out.2.1 (item_size it _) H6.out.2.2 ?_) | fail)
      go_ret
      obtain ⟨col1, a1, f1⟩ := H6.out.1.1.run
      have e := HY.out
      rw [HG.out.1] at e
      simp only at e
      rw [if_pos HL.out] at e
      rw [← e]
      exact ⟨rfl, col1, a1, (Fr.below HB.out.2.1).trans f1⟩
    · have hlb : (((s.ent x).it.val.length : Int) != (it.val.length : Int)) = true := by simp; omega
      have HL := Lib.hid hl
      clear hl
      go_wp2_with fail
      go_quiet (fail)
      clear d1 i1 hlb
      go_wp2_with fail
      go_ret
      obtain ⟨col1, a1, f1⟩ := H1.out.1.run
      have e := HY.out
      rw [HG.out.1] at e
      simp only at e
      rw [if_neg HL.out] at e
      rw [← e]
      exact ⟨rfl, col1, a1.step (Mem.dn (Below.refl _ _) _), ((Fr.below HB.out.2.1).trans f1).trans (Fr.below (Mem.dn (Below.refl _ _) _))⟩
end
end Go.Proofs.YtpghckiochjogaaGreatDoor.Shard

/- Layer 9: a table in a run. -/
namespace Go.Proofs.YtpghckiochjogaaGreatDoor.TabE
set_option maxRecDepth 100000
open Go Go.RowKit Go.Proofs.YtpghckiochjogaaGreatDoor.Mem Go.Proofs.YtpghckiochjogaaGreatDoor.Tab
structure Run (W w : World) (n b : Nat) (F : Nat → Prop) (seed : Int) (s : St V) : Prop where
  at_ : At w b F seed s
  low : ∀ k, F k → W.heap.size ≤ k
  below : Below W.heap.size W w
  sm : Sm n seed s
section
variable {W w w' : World} {n m b : Nat} {F F' : Nat → Prop} {seed : Int} {s t : St V}
theorem Run.step (h : Run W w n b F seed s) (hb : Below w.heap.size w w') : Run W w' n b F seed s := ⟨h.at_.below hb, h.low, Mem.tr h.below hb, h.sm⟩
theorem Run.lt (h : Run W w n b F seed s) : ∀ k, F k → k < w.heap.size := h.at_.lt
end
theorem new_run {W w : World} (hb : Below W.heap.size W w) (seed : Int) (h0 : 0 ≤ seed) (h1 : seed < 18446744073709551616) : Calls Tryz.prog 28 #[.int .u64 seed] w fun e w' => ∃ b F, e = .returned (.pointer (some ⟨b, 0, none⟩)) ∧ Run W w' 0 b F seed new ∧ (∀ k, F k → w.heap.size ≤ k) ∧ Below w.heap.size w w' :=
  (new_any seed w).mono fun e w' ⟨b, F, he, ha, hl, hb2⟩ => ⟨b, F, he, ⟨ha, fun k hk => Nat.le_trans hb.size (hl k hk), Mem.tr hb hb2, ⟨h0, h1, Nat.le_refl _, by omega, by show 8 ≤ 8 + 0; omega⟩⟩, hl, hb2⟩
section
variable {W w : World} {n b : Nat} {F : Nat → Prop} {seed : Int} {s : St V}
end
end Go.Proofs.YtpghckiochjogaaGreatDoor.TabE

/- Layer 11: New. -/
namespace Go.Proofs.YtpghckiochjogaaGreatDoor.Shard
open Go Go.RowKit Go.Proofs.YtpghckiochjogaaGreatDoor.Mem Go.Proofs.YtpghckiochjogaaGreatDoor.App
def col0 (a0 a1 a2 a3 a4 : Nat) : Col := fun k => if k < a0 then none else if k < a1 then some .table else if k < a2 then some .slab else if k < a3 then some .order else if k < a4 then some .judge else if k = a4 then some .self else none
section
variable {a0 a1 a2 a3 a4 k : Nat}
theorem col0_tab (h1 : a0 ≤ k) (h2 : k < a1) : col0 a0 a1 a2 a3 a4 k = some .table := by unfold col0; rw [if_neg (by omega), if_pos h2]
theorem col0_slab (h0 : a0 ≤ a1) (h1 : a1 ≤ k) (h2 : k < a2) : col0 a0 a1 a2 a3 a4 k = some .slab := by unfold col0; rw [if_neg (by omega), if_neg (by omega), if_pos h2]
theorem col0_order (h0 : a0 ≤ a1) (h1 : a1 ≤ a2) (h2 : a2 ≤ k) (h3 : k < a3) : col0 a0 a1 a2 a3 a4 k = some .order := by unfold col0; rw [if_neg (by omega), if_neg (by omega), if_neg (by omega), if_pos h3]
theorem col0_judge (h0 : a0 ≤ a1) (h1 : a1 ≤ a2) (h2 : a2 ≤ a3) (h3 : a3 ≤ k) (h4 : k < a4) : col0 a0 a1 a2 a3 a4 k = some .judge := by unfold col0; rw [if_neg (by omega), if_neg (by omega), if_neg (by omega), if_neg (by omega), if_pos h4]
theorem col0_self (h0 : a0 ≤ a1) (h1 : a1 ≤ a2) (h2 : a2 ≤ a3) (h3 : a3 ≤ a4) : col0 a0 a1 a2 a3 a4 a4 = some .self := by unfold col0; rw [if_neg (by omega), if_neg (by omega), if_neg (by omega), if_neg (by omega), if_neg (by omega), if_pos rfl]
theorem col0_lt {p : Part} (h : col0 a0 a1 a2 a3 a4 k = some p) (_ : a0 ≤ a1) (h1 : a1 ≤ a2) (h2 : a2 ≤ a3) (h3 : a3 ≤ a4) : a0 ≤ k ∧ k ≤ a4 := by
  unfold col0 at h
  repeat' split at h
  all_goals first | (cases h; done) | omega
end
set_option maxRecDepth 100000 in
set_option maxHeartbeats 2000000 in
theorem new_any {W w : World} (hb : Below W.heap.size W w) (seed budget protect : Int) (h0 : 0 ≤ seed) (h1 : seed < 18446744073709551616) :
    Calls Tryz.prog 18 #[.int .u64 seed, .int .i64 budget, .int .i64 protect] w fun e w' => ∃ b col, e = .returned (.pointer (some ⟨b, 0, none⟩)) ∧ At W w' 0 b col seed (St.new seed budget protect) ∧ (∀ k, col k ≠ none → w.heap.size ≤ k) ∧ Below w.heap.size w w' := by
  have ht := TabE.new_run (W := W) hb seed h0 h1
  have hm := fun w' => Slab.new_gives budget w'
  have ho := fun w' => Slru.new_gives protect w'
  have hj := fun w' (hb : Below W.heap.size W w') => Tiny.new_run (W := W) (w := w') (seed := seed) ⟨h0, by omega⟩ hb
  go_enter Tryz.func18, Tryz.ntmps18
  go_wp2_with fail
  refine ht.mono ?_
  rintro e w1 ⟨tb, F1, rfl, r1, l1, b1⟩
  have R1 := Lib.hid (And.intro r1 (And.intro l1 b1))
  clear ht r1 l1 b1
  go_wp2_with fail
  refine (hm w1).mono ?_
  rintro e w2 ⟨mb, F2, rfl, r2, l2, b2⟩
  have R2 := Lib.hid (And.intro r2 (And.intro l2 b2))
  clear hm r2 l2 b2
  go_wp2_with fail
  refine (ho w2).mono ?_
  rintro e w3 ⟨ob, F3, rfl, r3, l3, b3⟩
  have R3 := Lib.hid (And.intro r3 (And.intro l3 b3))
  clear ho r3 l3 b3
  have hj2 := hj w3 (Mem.tr (Mem.tr (Mem.tr hb R1.out.2.2) R2.out.2.2) R3.out.2.2)
  clear hj
  go_wp2_with fail
  refine hj2.mono ?_
  rintro e w4 ⟨jb, fb, cb, rfl, r4, b4, l4⟩
  have R4 := Lib.hid (And.intro r4 (And.intro l4 b4))
  clear hj2 r4 l4 b4
  go_wp2_with fail
  go_ret
  obtain ⟨r1, l1, b1⟩ := R1.out
  obtain ⟨r2, l2, b2⟩ := R2.out
  obtain ⟨r3, l3, b3⟩ := R3.out
  obtain ⟨r4, l4, b4⟩ := R4.out
  have z1 := b1.size
  have z2 := b2.size
  have z3 := b3.size
  have z4 := b4.size
  have b5 : Below w4.heap.size w4 (w4.alloc (shardObj ⟨w4.heap.size, tb, mb, ob, jb, fb, cb⟩ (.slice none 0 0))) := Mem.al (Below.refl _ _) _
  have b45 := Mem.tr b4 b5
  have b345 := Mem.tr b3 b45
  have b2345 := Mem.tr b2 b345
  have hall := Mem.tr b1 b2345
  have hlt4 := r4.lt
  refine ⟨w4.heap.size, col0 w.heap.size w1.heap.size w2.heap.size w3.heap.size w4.heap.size, rfl, ⟨⟨w4.heap.size, tb, mb, ob, jb, fb, cb⟩, .slice none 0 0, fun _ => .slice none 0 0, rfl, ?_⟩, fun k hk => ?_, hall⟩
  · refine ⟨Mem.new_block w4 _, col0_self z1 z2 z3 z4, ⟨F1, r1.at_.below b2345, fun k hk => col0_tab (l1 k hk) (r1.at_.lt k hk)⟩, r1.sm, ⟨F2, Slab.At.same r2 (fun k hk => b345.block k (slab_lt r2 k hk)) b345.size, fun k hk => col0_slab z1 (l2 k hk) (slab_lt r2 k hk)⟩,
      ⟨F3, Slru.At.same r3 (fun k hk => b45.block k (r3.lt k hk)) b45.size, fun k hk => col0_order z1 z2 (l3 k hk) (r3.lt k hk)⟩, r4.step b5, ⟨col0_judge z1 z2 z3 l4.1 hlt4.1, col0_judge z1 z2 z3 l4.2.1 hlt4.2.1, col0_judge z1 z2 z3 l4.2.2 hlt4.2.2⟩, World.ownsRow_nil _ _ _ _, fun g e => (by cases e), fun q hq => (by cases hq), fun k p e => ?_, Mem.tr hb hall⟩
    have := col0_lt e z1 z2 z3 z4
    have hs := hb.size
    refine ⟨by omega, ?_⟩
    rw [World.size_alloc]; omega
  · rcases hq : col0 w.heap.size w1.heap.size w2.heap.size w3.heap.size w4.heap.size k with _ | p
    · exact absurd hq hk
    · exact (col0_lt hq z1 z2 z3 z4).1
end Go.Proofs.YtpghckiochjogaaGreatDoor.Shard

