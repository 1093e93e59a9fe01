/- Part6: TabE11, one behind the other. -/
import Derived.Test.YtpghckiochjogaaGreatDoorPart5
/- Layer 9: Delete. -/
namespace Go.Proofs.YtpghckiochjogaaGreatDoor.TabE
open Go Go.RowKit Go.Proofs.YtpghckiochjogaaGreatDoor.Mem Go.Proofs.YtpghckiochjogaaGreatDoor.Tab
theorem erased_done {w w1 : World} {b : Nat} {F F1 : Nat → Prop} {seed : Int} {s : St V} {c : Con V} {ea : Option Addr} {eb nb n g i g2 i1 m cap : Nat} {gv : Nat → Value} {k : ByteArray} {u : V} (h : Mid w F w1 b F1 seed c s.L.length ea eb nb gv) (hf : Fits n seed c s.L)
    (hE : c.E ≤ c.N) (hNb : c.N = s.buckets) (hl : c.left = s.left - 1) (hadr : adr c eb nb (c.idx (hN seed) k) = ⟨g, i, none⟩) (hi : (c.bs (c.idx (hN seed) k))[i1]? = some (k, u)) (hg : gv (c.idx (hN seed) k) = .slice (some ⟨g2, 0, none⟩) (i1 + 1 + m) cap) (hm : (c.bs (c.idx (hN seed) k)).length = i1 + 1 + m) (d : Nat) :
    TurnPost w b F seed (s.del k) (.bool true) (.returned (.bool true)) (((((w1.drewN d).setCells g2 (i1 * 2) (cellsP ((c.bs (c.idx (hN seed) k)).drop (i1 + 1)))).setCells g2 ((i1 + m) * 2) zeros).setCell ⟨g, i, none⟩ (.slice (some ⟨g2, 0, none⟩) (i1 + m) cap)).setCell ⟨b, 4, none⟩ (.int .i64 ((s.L.length : Int) - 1))) := by
  have hidx := hf.abs.idx_lt k
  have hrow := h.at_.rows _ hidx
  rw [hg] at hrow
  have hkm : k ∈ s.L.map (·.1) := (hf.abs.find k).1 (List.mem_map.2 ⟨_, List.mem_of_getElem? hi, rfl⟩)
  have hdl := del_len hf.abs.rise hkm
  have her := (row_erased (w := w1.drewN d) (i := i1) (m := m) (row_same hrow fun _ _ => rfl) hm).1
  have hFg2 : F1 g2 := h.at_.fr _ hidx g2 (by rw [hg]; rfl)
  have hother : ∀ j, j ≠ g2 → (((w1.drewN d).setCells g2 (i1 * 2) (cellsP ((c.bs (c.idx (hN seed) k)).drop (i1 + 1)))).setCells g2 ((i1 + m) * 2) zeros).heap[j]? = w1.heap[j]? := fun j hj => (Mem.set_cells_far _ _ hj).trans (Mem.set_cells_far _ _ hj)
  have hsz : (((w1.drewN d).setCells g2 (i1 * 2) (cellsP ((c.bs (c.idx (hN seed) k)).drop (i1 + 1)))).setCells g2 ((i1 + m) * 2) zeros).heap.size = w1.heap.size := (Mem.set_cells_size _ _).trans (Mem.set_cells_size _ _)
  have hon := Only.two (F := F1) (w := w1) hFg2 (i1 * 2) ((i1 + m) * 2) (cellsP ((c.bs (c.idx (hN seed) k)).drop (i1 + 1))) zeros d
  generalize ((w1.drewN d).setCells g2 (i1 * 2) (cellsP ((c.bs (c.idx (hN seed) k)).drop (i1 + 1)))).setCells g2 ((i1 + m) * 2) zeros = w5 at *
  have h1 := h.at_.setRow hidx (w' := w5) (v := .slice (some ⟨g2, 0, none⟩) (i1 + m) cap) (x := (c.bs (c.idx (hN seed) k)).eraseIdx i1) (fun j hj hn => hother j (fun e => by rw [hg] at hn; exact hn (by rw [e]; rfl))) (by omega) (by
    unfold OwnP
    rw [show ((c.bs (c.idx (hN seed) k)).eraseIdx i1).length = i1 + m from by rw [List.length_eraseIdx, if_pos (by omega)]; omega]
    have := her
    unfold OwnP at this
    rwa [show ((c.bs (c.idx (hN seed) k)).eraseIdx i1).length = i1 + m from by rw [List.length_eraseIdx, if_pos (by omega)]; omega] at this) (fun g3 e => .inl (by rw [hg]; exact e))
  rw [hadr] at h1
  have hFg : F1 g := by
    obtain ⟨g3, i3, e, hF, _⟩ := h.at_.loc hidx
    rw [hadr] at e; injection e with e; rw [e]; exact hF
  have h2 := h1.setBlk (w' := (w5.setCell ⟨g, i, none⟩ (.slice (some ⟨g2, 0, none⟩) (i1 + m) cap)).setCell ⟨b, 4, none⟩ (.int .i64 ((s.L.length : Int) - 1))) c.left (Tab.del s.L k).length (by
    have := Mem.row_set h1.blk 4 (.int .i64 ((s.L.length : Int) - 1))
    rw [show ((s.L.length : Int) - 1) = (((Tab.del s.L k).length : Nat) : Int) from by omega] at this ⊢
    exact this) (fun j hj => Below.heap_setCell _ _ _ _ hj) (by simp [World.setCell])
  have hmid : Mid w F ((w5.setCell ⟨g, i, none⟩ (.slice (some ⟨g2, 0, none⟩) (i1 + m) cap)).setCell ⟨b, 4, none⟩ (.int .i64 ((s.L.length : Int) - 1))) b _ seed _ (Tab.del s.L k).length ea eb nb _ :=
    ⟨h2, ((h.only.trans hon h.grows).setCell (p := ⟨g, i, none⟩) (h.grows g hFg) _).setCell (p := ⟨b, 4, none⟩) (h.grows b h.at_.fb) _, fun j hj => hj.elim (h.grows j) (fun e => by
      have e2 : g2 = j := by simpa [Value.ownBlock] using e
      subst e2; exact h.grows _ hFg2)⟩
  exact hmid.done (s := s.del k) rfl (hf.abs.erase hi) hE hNb hl (fun p hp => hf.keys p (mem_del.1 hp).1)
set_option maxRecDepth 100000 in
set_option maxHeartbeats 1000000 in
theorem delete_any {w : World} {b : Nat} {F : Nat → Prop} {seed : Int} {s : St V} {n : Nat} (h : At w b F seed s) (hs : Sm n seed s) (k : ByteArray) (hk : k.size ≤ maxLen) :
    Calls Tryz.prog 85 #[.pointer (some ⟨b, 0, none⟩), .string k] w (TurnPost w b F seed (s.del k) (.bool (Tab.get s.L k).isSome)) := by
  obtain ⟨c, ea, eb, nb, gv, hat, ha, hE, hcN, hcl, hks⟩ := h
  have hf := hs.fits ha hE hcN hks
  have hcall := find_any hat hf k hk
  obtain ⟨q1, q2, q3⟩ := step_shape (H := hN seed) c
  have hpos := pos_cases hf.step k
  have hfs := hf.step
  have hcN2 : (c.step (hN seed)).N = s.buckets := q2.trans hcN
  have hE2 : (c.step (hN seed)).E ≤ (c.step (hN seed)).N := by rw [q1, q2]; exact hE
  have hl2 : (c.step (hN seed)).left = s.left - 1 := by rw [q3, hcl]
  obtain ⟨c2, hc2⟩ : ∃ c2, c.step (hN seed) = c2 := ⟨_, rfl⟩
  rw [hc2] at hcall hpos hfs hcN2 hE2 hl2
  have hidx := hfs.abs.idx_lt k
  have hsl := hs.len
  have hsn := hs.nle
  have hbl := bs_len hfs.abs (c2.idx (hN seed) k)
  have HS := Lib.hid (And.intro hfs (And.intro hcN2 (And.intro hE2 (And.intro hl2 (And.intro hks hidx)))))
  clear hat ha hE hcN hcl hks hf q1 q2 q3 hfs hcN2 hE2 hl2 hc2 hs hidx
  unfold FindPost at hcall
  rcases hpos with ⟨hg, hkn, hp⟩ | ⟨i1, u, hi1, hp, hg, -⟩
  · rw [hp] at hcall
    rw [show (Tab.get s.L k).isSome = false from by rw [hg]; rfl]
    have hd : s.del k = s.tick := by unfold St.del St.tick; rw [del_none hkn]
    rw [hd]
    obtain ⟨ad, had⟩ : ∃ ad, adr c2 eb nb (c2.idx (hN seed) k) = ad := ⟨_, rfl⟩
    rw [had] at hcall
    clear hp hg hkn hd had hsl hbl
    go_enter Tryz.func85, Tryz.ntmps85
    go_wp2_with fail
    refine hcall.mono ?_
    rintro e w1 ⟨F1, gv1, rfl, hm⟩
    have hfin : ∀ v, TurnPost w b F seed s.tick v (.returned v) w1 := fun v => hm.done (s := s.tick) rfl HS.out.1.abs HS.out.2.2.1 HS.out.2.1 HS.out.2.2.2.1 HS.out.2.2.2.2.1
    have HR := Lib.hid hfin
    clear hm hcall hfin
    go_wp2_with fail
    go_ret
    exact HR.out _
  · rw [hp] at hcall
    rw [show (Tab.get s.L k).isSome = true from by rw [hg]; rfl]
    have hil := (List.getElem?_eq_some_iff.1 hi1).1
    obtain ⟨m, hm⟩ : ∃ m, (c2.bs (c2.idx (hN seed) k)).length = i1 + 1 + m := ⟨(c2.bs (c2.idx (hN seed) k)).length - (i1 + 1), by omega⟩
    have hmb : i1 + 1 + m ≤ 1000000000 := by omega
    have hLb : (s.L.length : Int) ≤ 1000000000 := by omega
    have HI := Lib.hid (And.intro hi1 hm)
    have hw1 : IntKind.i64.wrap ((i1 : Int) + 1) = (i1 : Int) + 1 := by rw [IntKind.wrap_i64]; omega
    clear hp hg hil hsl hbl hi1 hm
    go_enter Tryz.func85, Tryz.ntmps85
    go_wp2_with fail
    refine hcall.mono ?_
    rintro e w1 ⟨F1, gv1, rfl, hm⟩
    obtain ⟨g, i, hadr, hFg, cg, fg, hgb, hgr⟩ := hm.at_.loc HS.out.2.2.2.2.2
    rw [hadr]
    have hrow := hm.at_.rows _ HS.out.2.2.2.2.2
    obtain ⟨g2, cap, e2, _, _, _⟩ := own_get hrow HI.out.1
    rw [HI.out.2] at e2
    rw [e2] at cg hrow
    have hgg : g ≠ g2 := fun e => hgr _ HS.out.2.2.2.2.2 (by rw [e2, e]; rfl)
    have hbg : b ≠ g2 := fun e => hm.at_.row_b HS.out.2.2.2.2.2 (by rw [e2, e]; rfl)
    have c4 : w1.cell? ⟨b, 4, none⟩ = some (.int .i64 (s.L.length : Nat)) := Mem.row_cell hm.at_.blk 4
    have f4 := Mem.row_free hm.at_.blk 4
    have hfin : ∀ d, TurnPost w b F seed (s.del k) (.bool true) (.returned (.bool true)) (((((w1.drewN d).setCells g2 (i1 * 2) (cellsP ((c2.bs (c2.idx (hN seed) k)).drop (i1 + 1)))).setCells g2 ((i1 + m) * 2) zeros).setCell ⟨g, i, none⟩ (.slice (some ⟨g2, 0, none⟩) (i1 + m) cap)).setCell ⟨b, 4, none⟩ (.int .i64 ((s.L.length : Int) - 1))) := fun d =>
      erased_done hm HS.out.1 HS.out.2.2.1 HS.out.2.1 HS.out.2.2.2.1 hadr HI.out.1 e2 HI.out.2 d
    have her := erase_any hrow HI.out.2 hmb
    have hfar : ∀ d j, j ≠ g2 → (((w1.drewN d).setCells g2 (i1 * 2) (cellsP ((c2.bs (c2.idx (hN seed) k)).drop (i1 + 1)))).setCells g2 ((i1 + m) * 2) zeros).heap[j]? = w1.heap[j]? := fun d j hj => (Mem.set_cells_far _ _ hj).trans (Mem.set_cells_far _ _ hj)
    have hfacts : ∀ d, (((w1.drewN d).setCells g2 (i1 * 2) (cellsP ((c2.bs (c2.idx (hN seed) k)).drop (i1 + 1)))).setCells g2 ((i1 + m) * 2) zeros).cell? ⟨g, i, none⟩ = some (.slice (some ⟨g2, 0, none⟩) (i1 + 1 + m) cap) ∧ (((w1.drewN d).setCells g2 (i1 * 2) (cellsP ((c2.bs (c2.idx (hN seed) k)).drop (i1 + 1)))).setCells g2 ((i1 + m) * 2) zeros).frozen? ⟨g, i, none⟩ = false ∧
        (((w1.drewN d).setCells g2 (i1 * 2) (cellsP ((c2.bs (c2.idx (hN seed) k)).drop (i1 + 1)))).setCells g2 ((i1 + m) * 2) zeros).cell? ⟨b, 4, none⟩ = some (.int .i64 (s.L.length : Nat)) ∧ (((w1.drewN d).setCells g2 (i1 * 2) (cellsP ((c2.bs (c2.idx (hN seed) k)).drop (i1 + 1)))).setCells g2 ((i1 + m) * 2) zeros).frozen? ⟨b, 4, none⟩ = false := fun d =>
      ⟨(World.cell?_of_block (hfar d g hgg)).trans cg, (World.frozen?_of_block (hfar d g hgg)).trans fg, (World.cell?_of_block (hfar d b hbg)).trans c4, (World.frozen?_of_block (hfar d b hbg)).trans f4⟩
    have HF := Lib.hid (And.intro hfin hfacts)
    have hgb2 : ¬ (g = b) := hgb
    clear hm hrow e2 hfin hfacts hfar hgr hadr hFg hcall c4 f4 hgb hgg hbg
    unfold ErasedPost at her
    go_wp2_with fail
    refine her.mono ?_
    rintro e w5 ⟨rfl, d, hw5⟩
    have HF1 := Lib.hid (HF.out.1 d)
    obtain ⟨g1, g3, g4, g5⟩ := HF.out.2 d
    rw [← hw5] at HF1 g1 g3 g4 g5
    clear hw5 her HF cg fg
    go_wp2_with fail
    go_ret
    exact HF1.out
end Go.Proofs.YtpghckiochjogaaGreatDoor.TabE

