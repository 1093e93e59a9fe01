/- The document's own list of layer 8: Remove, Hit. -/
import Derived.Test.YtpppknopbjpciaaSlruRef2
import Derived.Deep.QuietTactic
import Derived.BigQuiet
namespace Go.Proofs.Ytpppknopbjpciaa.RefSlru
open Go Go.RowKit Go.Proofs.Ytpppknopbjpciaa.Slru Go.Proofs.Ytpppknopbjpciaa.Mem

/-- Behind Remove: where something was taken out, both rows are new. -/
def RemPost (w : World) (b : Nat) (G : Nat → Prop) (s : St) (k : ByteArray) (e : Ending) (w' : World) : Prop :=
  ∃ G' vt vs, e = .returned (.int .i64 (s.remove k).1) ∧ RAtW w' b G' (s.remove k).2 vt vs ∧ Only G w w' ∧ Grows w G G' ∧ (k ∈ s.all → Own w' vs (s.remove k).2.safe)
theorem shapeK {w : World} {base : Nat} {v : Value} {n : Nat} {xs : List Value} (h : w.ownsRow base 9 1 v n xs) : ∃ a c, v = .slice a n c := by
  rcases h.2 with ⟨e1, e2⟩ | ⟨g, cap, cur, e1, _⟩
  · exact ⟨none, 0, by rw [e1, e2]⟩
  · exact ⟨_, _, e1⟩
/-- Both rows set anew. -/
theorem RAtW.reset {w w' : World} {b : Nat} {G : Nat → Prop} {s : St} {vt vs va vb : Value} {xs ys : List ByteArray} (h : RAtW w b G s vt vs) (hb : Below w.heap.size w w') (ha : w'.ownsRow w.heap.size 9 1 va xs.length (cellsK xs)) (hbv : w'.ownsRow w.heap.size 9 1 vb ys.length (cellsK ys))
    (hap : ∀ g, va.ownBlock = some g → vb.ownBlock ≠ some g) :
    RAtW ((w'.setCell ⟨b, 1, none⟩ va).setCell ⟨b, 2, none⟩ vb) b (fun j => (G j ∨ va.ownBlock = some j) ∨ vb.ownBlock = some j) { s with trial := xs, safe := ys } va vb ∧ Own ((w'.setCell ⟨b, 1, none⟩ va).setCell ⟨b, 2, none⟩ vb) vb ys := by
  have hlt := h.lt b h.gb
  have hza := own_lt ha
  have hzb := own_lt hbv
  have h1 := h.setTrial (v := va) (xs := xs) (fun j hj _ => hb.block j (h.lt j hj)) hb.size (Mem.row_less ha (Nat.zero_le _)) (fun g e => .inr (hza g e).1)
  have hbv1 : (w'.setCell ⟨b, 1, none⟩ va).ownsRow w.heap.size 9 1 vb ys.length (cellsK ys) := row_same hbv fun g e => set_far (by have := (hzb g e).1; simp; omega)
  have hs2 : ∀ j, j ≠ b → ((w'.setCell ⟨b, 1, none⟩ va).setCell ⟨b, 2, none⟩ vb).heap[j]? = (w'.setCell ⟨b, 1, none⟩ va).heap[j]? := fun j hj => set_far hj
  have hz2 : ((w'.setCell ⟨b, 1, none⟩ va).setCell ⟨b, 2, none⟩ vb).heap.size = (w'.setCell ⟨b, 1, none⟩ va).heap.size := set_size _ _ _
  have hbb : vb.ownBlock ≠ some b := fun e => by have := (hzb b e).1; omega
  have hown : Own ((w'.setCell ⟨b, 1, none⟩ va).setCell ⟨b, 2, none⟩ vb) vb ys := row_same (Mem.row_less hbv1 (Nat.zero_le _)) fun g e => hs2 g (fun e1 => hbb (e1 ▸ e))
  refine ⟨⟨Mem.row_set h1.blk 2 vb, row_same h1.rt fun g e => hs2 g (fun e1 => h1.tb (e1 ▸ e)), Lk.of_row hown, .inl h1.gb, fun g e => .inl (h1.gt g e), fun g e => .inr e, hap, hbb, fun j hj => ?_⟩, hown⟩
  rw [hz2]
  exact hj.elim (fun e => h1.lt j e) (fun e => by have := (own_lt hbv1 j e).2; exact this)
theorem without_out {s : St} {k : ByteArray} (h1 : k ∉ s.trial) (h2 : k ∉ s.safe) : k ∉ s.all := by unfold St.all; simp [h1, h2]

set_option maxHeartbeats 2000000 in
theorem remove_any {w : World} {b : Nat} {G : Nat → Prop} {s : St} (h : RAt w b G s) (k : ByteArray) (hl : s.all.length ≤ 100000000) :
    Calls Try.prog 19 #[.pointer (some ⟨b, 0, none⟩), .string k] w (RemPost w b G s k) := by
  obtain ⟨vt, vs, h⟩ := h
  have hl2 : s.trial.length + s.safe.length ≤ 100000000 := by unfold St.all at hl; rwa [List.length_append] at hl
  have c1 := Mem.row_cell h.blk 1
  simp only [List.getElem?_toArray, List.getElem?_cons_zero, List.getElem?_cons_succ] at c1
  have hw1 := without_any (Lk.of_row h.rt) k (by omega)
  unfold WithoutPost at hw1
  obtain ⟨q1, hq1⟩ : ∃ q1, decide (k ∈ s.trial) = q1 := ⟨_, rfl⟩
  obtain ⟨q2, hq2⟩ : ∃ q2, decide (k ∈ s.safe) = q2 := ⟨_, rfl⟩
  rw [hq1] at hw1
  have HQ := Lib.hid (And.intro hq1 hq2)
  have HH := Lib.hid h
  clear h hl hq1 hq2
  go_enter Try.func19, Try.ntmps19
  go_wp2_with fail
  refine hw1.mono ?_
  rintro e w1 ⟨va, rfl, rowa, hb1⟩
  have h1 := HH.out.below hb1
  have c2 := Mem.row_cell h1.blk 2
  simp only [List.getElem?_toArray, List.getElem?_cons_zero, List.getElem?_cons_succ] at c2
  have hw2 := without_any h1.rs k (by omega)
  unfold WithoutPost at hw2
  rw [HQ.out.2] at hw2
  have hza := own_lt rowa
  obtain ⟨ya, yca, hva⟩ := shapeK rowa
  subst hva
  have H1 := Lib.hid (And.intro rowa (And.intro hb1 hza))
  clear c1 hw1 h1 rowa hb1 hza
  go_wp2_with fail
  refine hw2.mono ?_
  rintro e w2 ⟨vb, rfl, rowb, hb2⟩
  obtain ⟨rowa, hb1, hza⟩ := H1.out
  have hbb := Mem.tr hb1 hb2
  have hzb := own_lt rowb
  have hsz := hb1.size
  obtain ⟨yb, ycb, hvb⟩ := shapeK rowb
  subst hvb
  have hap : ∀ g, (Value.slice ya (without s.trial k).length yca).ownBlock = some g → (Value.slice yb (without s.safe k).length ycb).ownBlock ≠ some g := fun g e e2 => by have := (hza g e).2; have := (hzb g e2).1; omega
  have hre := HH.out.reset hbb (row_same rowa fun g e => hb2.block g (hza g e).2) (Mem.row_less rowb hsz) hap
  have h2 := HH.out.below hbb
  have c1' := Mem.row_cell h2.blk 1
  have c2' := Mem.row_cell h2.blk 2
  have f1' := Mem.row_free h2.blk 1
  have f2' := Mem.row_free h2.blk 2
  simp only [List.getElem?_toArray, List.getElem?_cons_zero, List.getElem?_cons_succ] at c1' c2'
  have hlt := HH.out.lt
  have hyes : k ∈ s.all → RemPost w b G s k (.returned (.int .i64 0)) ((w2.setCell ⟨b, 1, none⟩ (.slice ya (without s.trial k).length yca)).setCell ⟨b, 2, none⟩ (.slice yb (without s.safe k).length ycb)) := fun hk => by
    have e : s.remove k = (0, { s with trial := without s.trial k, safe := without s.safe k }) := by unfold St.remove; rw [if_pos hk]
    unfold RemPost
    rw [e]
    refine ⟨_, _, _, rfl, hre.1, ((Only.of_below (F := G) hbb (fun k h1 h2 => by omega)).setCell (p := ⟨b, 1, none⟩) (.inl HH.out.gb) _).setCell (p := ⟨b, 2, none⟩) (.inl HH.out.gb) _, fun j hj => ?_, fun _ => hre.2⟩
    rcases hj with (e | e) | e
    · exact .inl e
    · exact .inr (hza j e).1
    · exact .inr (by have := (hzb j e).1; omega)
  have hno : k ∉ s.all → RemPost w b G s k (.returned (.int .i64 6)) w2 := fun hk => by
    have e : s.remove k = (6, s) := by unfold St.remove; rw [if_neg hk]
    unfold RemPost
    rw [e]
    exact ⟨G, vt, vs, rfl, h2, Only.of_below hbb (fun k h1 h2 => by omega), Grows.refl _ _, fun h => absurd h hk⟩
  have HF := Lib.hid (And.intro hyes hno)
  clear hw2 c2 hb2 hre h2 hlt hyes hno hap hbb hzb hza hb1 rowa rowb
  have hin : q1 = true → k ∈ s.all := fun e => by have := HQ.out.1; rw [e] at this; unfold St.all; simp at this; simp [this]
  have hin2 : q2 = true → k ∈ s.all := fun e => by have := HQ.out.2; rw [e] at this; unfold St.all; simp at this; simp [this]
  cases q1
  · cases q2
    · have hk : k ∉ s.all := without_out (by simpa using HQ.out.1) (by simpa using HQ.out.2)
      have HR := Lib.hid (HF.out.2 hk)
      clear hin hin2 hk
      go_wp2_with fail
      go_ret
      exact HR.out
    · have HR := Lib.hid (HF.out.1 (hin2 rfl))
      clear hin hin2
      go_wp2_with fail
      go_ret
      exact HR.out
  · have HR := Lib.hid (HF.out.1 (hin rfl))
    clear hin hin2
    go_wp2_with fail
    go_ret
    exact HR.out
end Go.Proofs.Ytpppknopbjpciaa.RefSlru
