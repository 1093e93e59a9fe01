/- Layer 9: one of the elder buckets moves. -/
import Derived.Test.YtekcogoijlbmnaaTabI3
import Derived.Maps.AppendAt
import Derived.Deep.RegionHeld3
import Derived.Deep.RegionLaw
import Derived.Deep.AppendLies
import Derived.Deep.CutRange
import Derived.Deep.LoopGhost
import Derived.StillTailTactics
namespace Go.Proofs.Ytekcogoijlbmnaa.TabI
open Go Go.RowKit Go.Proofs.Ytekcogoijlbmnaa.Mem Go.Proofs.Ytekcogoijlbmnaa.Tab

/-- A table in the midst of something, since the world w. -/
structure Mid (w : World) (F : Nat → Prop) (w' : World) (b : Nat) (F' : Nat → Prop) (seed : Int) (c : Con V) (many : Nat) (ea : Option Addr) (eb nb : Nat) (gv : Nat → Value) : Prop where
  at_ : AtW w' b F' seed c many ea eb nb gv
  only : Only F w w'
  grows : Grows w F F'
/-- A row that was a bucket's, and is none any more. -/
structure Old (w : World) (b nb : Nat) (c : Con V) (gv : Nat → Value) (v : Value) (l : Pairs V) : Prop where
  own : OwnP w v l
  off : ∀ k, k < c.E + c.N → ∀ g, (gv k).ownBlock = some g → v.ownBlock ≠ some g
section
variable {w w' : World} {b : Nat} {F G : Nat → Prop} {seed : Int} {c : Con V} {many : Nat} {ea : Option Addr} {eb nb : Nat} {gv : Nat → Value} {v : Value} {l : Pairs V}
theorem own_get (h : OwnP w v l) {k : Nat} {p : ByteArray × V} (hk : l[k]? = some p) :
    ∃ g cap, v = .slice (some ⟨g, 0, none⟩) l.length cap ∧ g < w.heap.size ∧ w.cell? ⟨g, k * 2, none⟩ = some (.string p.1) ∧ w.cell? ⟨g, k * 2 + 1, none⟩ = some (.int .i64 p.2) := by
  have hkl := (List.getElem?_eq_some_iff.1 hk).1
  obtain ⟨n, hn⟩ : ∃ n, l.length = n + 1 := ⟨l.length - 1, by omega⟩
  have ho : w.ownsRow 0 57 2 v l.length (cellsP l) := h
  rw [hn] at ho
  obtain ⟨g, cap, cur, e1, _, e2, _, _, e3⟩ := Mem.row_block ho
  obtain ⟨q1, q2⟩ := cellsP_get l k p hk
  exact ⟨g, cap, by rw [hn]; exact e1, (Array.getElem?_eq_some_iff.1 e2).1, (Mem.row_cell e2 _).trans (e3 _ _ q1), (Mem.row_cell e2 _).trans (e3 _ _ q2)⟩
theorem own_shape (h : OwnP w v l) : ∃ a cap, v = .slice a l.length cap := by
  rcases h.2 with ⟨e1, e2⟩ | ⟨g, cap, cur, e1, _⟩
  · exact ⟨none, 0, by rw [e1, e2]⟩
  · exact ⟨_, _, e1⟩
end
/-- The start: the elder bucket is taken away. -/
theorem pop_mid {w w2 : World} {b : Nat} {F : Nat → Prop} {seed : Int} {c : Con V} {many : Nat} {ea : Option Addr} {eb nb : Nat} {gv : Nat → Value} (h : AtW w b F seed c many ea eb nb gv) (hl : 0 < c.left) (hle : c.left ≤ c.E)
    (hw : w2 = (w.setCell ⟨eb, c.E - c.left, none⟩ (.slice none 0 0)).setCell ⟨b, 3, none⟩ (.int .i64 ((c.left - 1 : Nat) : Int))) :
    Mid w F w2 b F seed c.pop many ea eb nb (updv gv (c.E - c.left) (.slice none 0 0)) ∧ Old w2 b nb c.pop (updv gv (c.E - c.left) (.slice none 0 0)) (gv (c.E - c.left)) (c.bs (c.E - c.left)) := by
  have hk : c.E - c.left < c.E + c.N := by omega
  have hadr : adr c eb nb (c.E - c.left) = ⟨eb, c.E - c.left, none⟩ := by unfold adr; rw [if_pos (by omega)]
  have hFe : F eb ∧ eb ≠ nb := by
    rcases h.eo with ⟨e, _⟩ | ⟨_, h2, h3, _⟩
    · omega
    · exact ⟨h2, h3⟩
  have h1 := h.setRow hk (w' := w) (v := .slice none 0 0) (x := []) (fun _ _ _ => rfl) (Nat.le_refl _) (World.ownsRow_nil _ _ _ _) (fun g e => by cases e)
  rw [hadr] at h1
  have hF1 : (fun j => F j ∨ (Value.slice none 0 0).ownBlock = some j) = F := by funext j; simp [Value.ownBlock]
  rw [hF1] at h1
  have hb2 : w2.heap[b]? = some (tabObj seed (.slice ea c.E c.E) (.slice (some ⟨nb, 0, none⟩) c.N c.N) ((c.left - 1 : Nat) : Int) many) := by
    rw [hw]; exact Mem.row_set h1.blk 3 _
  have hs2 : ∀ j, j ≠ b → w2.heap[j]? = (w.setCell ⟨eb, c.E - c.left, none⟩ (.slice none 0 0)).heap[j]? := fun j hj => by rw [hw]; exact Below.heap_setCell _ _ _ _ hj
  have hz2 : w2.heap.size = w.heap.size := by rw [hw]; simp [World.setCell]
  have h2 := h1.setBlk (c.left - 1) many hb2 hs2 (by rw [hz2]; simp [World.setCell])
  have hrest : ∀ j, j ≠ b → j ≠ eb → w2.heap[j]? = w.heap[j]? := fun j h3 h4 => (hs2 j h3).trans (Below.heap_setCell _ _ _ _ h4)
  refine ⟨⟨h2, ?_, Grows.refl _ _⟩, ?_, fun k hk2 g e e2 => ?_⟩
  · rw [hw]; exact ((Only.refl F w).setCell (p := ⟨eb, c.E - c.left, none⟩) (.inl hFe.1) _).setCell (p := ⟨b, 3, none⟩) (.inl h.fb) _
  · exact row_same (h.rows _ hk) fun g e => hrest g (fun e1 => h.row_b hk (e1 ▸ e)) (fun e1 => h.row_e (by omega) hk (e1 ▸ e))
  · by_cases e1 : k = c.E - c.left
    · rw [e1, updv_same] at e; cases e
    · rw [updv_other _ _ e1] at e
      exact h.apart k _ hk2 hk e1 g e e2
theorem step_none {w : World} {b : Nat} {seed : Int} {c : Con V} (hl : c.left = 0) (c3 : w.cell? ⟨b, 3, none⟩ = some (.int .i64 0)) :
    Calls Try.prog 29 #[.pointer (some ⟨b, 0, none⟩)] w fun e w' => e = .returned (.tuple #[]) ∧ w = w' ∧ c.step (hN seed) = c := by
  have e : c.step (hN seed) = c := by unfold Con.step; rw [if_pos hl]
  have HE := Lib.hid e
  clear e hl
  go_enter Try.func29, Try.ntmps29
  go_wp2
  refine bodyPost_ret (results_none rfl _ _ _) rfl ?_
  exact ⟨rfl, rfl, HE.out⟩
/-- A pair is pushed. -/
theorem Mid.push {w w' w2 w3 : World} {b : Nat} {F F' : Nat → Prop} {seed : Int} {c : Con V} {many : Nat} {ea : Option Addr} {eb nb : Nat} {gv : Nat → Value} {p : ByteArray × V} (h : Mid w F w' b F' seed c many ea eb nb gv) (hp : 0 < c.N) {v : Value}
    (hb : Below w'.heap.size w' w2) (hg : w2.grownBy w3 (gv (c.E + hN seed p.1 % c.N)).ownBlock) (hown : OwnP w3 v (c.bs (c.E + hN seed p.1 % c.N) ++ [p])) (hat : v.ownBlock = (gv (c.E + hN seed p.1 % c.N)).ownBlock ∨ ∃ g, v.ownBlock = some g ∧ w2.heap.size ≤ g) :
    Mid w F (w3.setCell ⟨nb, hN seed p.1 % c.N, none⟩ v) b (fun j => F' j ∨ v.ownBlock = some j) seed (c.push (hN seed) p) many ea eb nb (updv gv (c.E + hN seed p.1 % c.N) v) := by
  have hm := Nat.mod_lt (hN seed p.1) hp
  have hk : c.E + hN seed p.1 % c.N < c.E + c.N := by omega
  have hadr : adr c eb nb (c.E + hN seed p.1 % c.N) = ⟨nb, hN seed p.1 % c.N, none⟩ := by unfold adr; rw [if_neg (by omega), Nat.add_sub_cancel_left]
  have hz := hb.size
  have hat' : ∀ g, v.ownBlock = some g → (gv (c.E + hN seed p.1 % c.N)).ownBlock = some g ∨ w'.heap.size ≤ g := fun g e => hat.elim (fun e1 => .inl (by rw [← e1]; exact e)) (fun ⟨g', e1, e2⟩ => .inr (by rw [e] at e1; injection e1 with e1; omega))
  have h1 := h.at_.setRow hk (w' := w3) (v := v) (x := c.bs (c.E + hN seed p.1 % c.N) ++ [p]) (fun j hj hn => (hg.block j (Nat.lt_of_lt_of_le (h.at_.lt j hj) hz) (Ne.symm hn)).trans (hb.block j (h.at_.lt j hj))) (Nat.le_trans hz hg.size) hown hat'
  rw [hadr] at h1
  refine ⟨h1, ?_, fun j hj => ?_⟩
  · have ho : Only F' w' w2 := Only.of_below hb (fun k h1 h2 => by omega)
    have ho2 : Only F' w' (w3.setCell ⟨nb, hN seed p.1 % c.N, none⟩ v) := (ho.grown hg fun g e => .inl (h.at_.fr _ hk g e)).setCell (p := ⟨nb, hN seed p.1 % c.N, none⟩) (.inl h.at_.fn) _
    exact h.only.trans ho2 h.grows
  · rcases hj with e | e
    · exact h.grows j e
    · exact (hat' j e).elim (fun e1 => h.grows j (h.at_.fr _ hk j e1)) (fun e1 => .inr (by have := h.only.size; omega))
theorem Old.push {w' w2 w3 : World} {b : Nat} {F' : Nat → Prop} {seed : Int} {c : Con V} {many : Nat} {ea : Option Addr} {eb nb : Nat} {gv : Nat → Value} {p : ByteArray × V} {v u : Value} {l : Pairs V} (h : AtW w' b F' seed c many ea eb nb gv) (ho : Old w' b nb c gv u l) (hp : 0 < c.N)
    (hb : Below w'.heap.size w' w2) (hg : w2.grownBy w3 (gv (c.E + hN seed p.1 % c.N)).ownBlock) (hat : v.ownBlock = (gv (c.E + hN seed p.1 % c.N)).ownBlock ∨ ∃ g, v.ownBlock = some g ∧ w2.heap.size ≤ g) :
    Old (w3.setCell ⟨nb, hN seed p.1 % c.N, none⟩ v) b nb (c.push (hN seed) p) (updv gv (c.E + hN seed p.1 % c.N) v) u l := by
  have hm := Nat.mod_lt (hN seed p.1) hp
  have hk : c.E + hN seed p.1 % c.N < c.E + c.N := by omega
  obtain ⟨a, ha, _⟩ := h.no
  refine ⟨row_same ho.own fun g e => ?_, fun k hk2 g e e2 => ?_⟩
  · have hl := (own_lt ho.own g e).2
    refine (Below.heap_setCell _ _ _ _ (fun e1 : g = nb => row_not ho.own ha (by decide) (e1 ▸ e))).trans ((hg.block g (Nat.lt_of_lt_of_le hl hb.size) (fun e1 => ho.off _ hk g e1.symm e)).trans (hb.block g hl))
  · by_cases e1 : k = c.E + hN seed p.1 % c.N
    · rw [e1, updv_same] at e
      rcases hat with e3 | ⟨g', e3, e4⟩
      · rw [e] at e3; exact ho.off _ hk g e3.symm e2
      · rw [e] at e3; injection e3 with e3
        have := (own_lt ho.own g e2).2
        have := hb.size
        omega
    · rw [updv_other _ _ e1] at e
      exact ho.off k hk2 g e e2
end Go.Proofs.Ytekcogoijlbmnaa.TabI
