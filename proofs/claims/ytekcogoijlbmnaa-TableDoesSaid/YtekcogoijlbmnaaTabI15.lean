/- Layer 9: All, an iterator. -/
import Derived.Test.YtekcogoijlbmnaaTabI14
import Derived.Test.YtekcogoijlbmnaaRangeS
import Derived.Test.YtekcogoijlbmnaaStillIn
import Derived.Test.YtekcogoijlbmnaaOnly
import Derived.Shelf.Abstract
import Derived.Shelf.RegionOpen
import Derived.OwnWalkIn
import Derived.TacticsInMore
import Derived.Sort.LoopGhostIn
import Derived.Sort.QuietIn
namespace Go.Proofs.Ytekcogoijlbmnaa.TabI
open Go Go.RowKit Go.Shelf Go.Proofs.Ytekcogoijlbmnaa.Mem Go.Proofs.Ytekcogoijlbmnaa.Tab Go.Proofs.Ytekcogoijlbmnaa.App Go.Proofs.Ytekcogoijlbmnaa.Rng
attribute [local go_sem] Oper.semAt_some

def encIt (x : ByteArray × V) : Array Value := #[.string x.1, (.int .i64 x.2)]
set_option maxHeartbeats 2000000 in
theorem all_seq {w : World} {b Bx : Nat} {F : Nat → Prop} {seed : Int} {s : St V} {n : Nat} (h : At w b F seed s) (hs : Sm n seed s) (hbx : w.heap[Bx]? = some (.cells #[.pointer (some ⟨b, 0, none⟩)] 26 (0, 0))) :
    SeqS Try.prog 33 #[.pointer (some ⟨Bx, 0, none⟩)] encIt (fun k => k = Bx ∨ F k) s.L w := by
  intro l J Jx W hW hJ hJx hY h0
  have hat : At W b F seed s := h.same (fun k hk => hW.block k (h.lt k hk)) hW.size
  have hx : W.heap[Bx]? = some (.cells #[.pointer (some ⟨b, 0, none⟩)] 26 (0, 0)) := (hW.block Bx (Array.getElem?_eq_some_iff.1 hbx).1).trans hbx
  have e0 := Mem.box_cell hx
  have hsort := sorted_any hat hs
  have hFl : ∀ k, k = Bx ∨ F k → k < W.heap.size := fun k hk => hk.elim (fun e => by rw [e]; exact (Array.getElem?_eq_some_iff.1 hx).1) (fun e => hat.lt k e)
  have hll := hs.len
  have hln := hs.nle
  have HJ := Lib.hid (And.intro hJ h0)
  have hY := Lib.hid @hY
  clear hW hJ hJx hx hbx hat h h0 hs
  unfold SortedPost at hsort
  refine callsIn_of_wp Try.func33 rfl trivial ?_ rfl
  simp only [Try.ntmps33, List.size_toArray, List.length_cons, List.length_nil, Nat.reduceAdd, Nat.reduceSub, Array.replicate_succ, Array.replicate_zero, List.push_toArray, List.append_toArray, List.nil_append, List.cons_append]
  gi_wp2_with (refine ⟨trivial, ?_⟩; gi_at_call 34; refine (callsIn_wide.2 hsort).mono ?_; rintro e w2 ⟨v, rfl, hown, hb2⟩; obtain ⟨ya, yc, rfl⟩ := Src.shape (Src.of_row hown))
  have hlen2 : ∀ g, (Value.slice ya s.L.length yc).ownBlock = some g → W.heap.size ≤ g ∧ g < w2.heap.size := fun g e => own_block_lt hown g e
  have hj2 := HJ.out.2 (fun j => (Value.slice ya s.L.length yc).ownBlock = some j) w2 hb2 hlen2
  have hJS := HJ.out.1 (fun j => (Value.slice ya s.L.length yc).ownBlock = some j)
  have hYS := Lib.hid (hY.out (fun j => (Value.slice ya s.L.length yc).ownBlock = some j))
  have HO := Lib.hid (And.intro hown hJS)
  have hKl : ∀ k, ((k = Bx ∨ F k) ∨ (Value.slice ya s.L.length yc).ownBlock = some k) → k < w2.heap.size := fun k hk => hk.elim (fun hk => Nat.lt_of_lt_of_le (hFl k hk) hb2.size) (fun hk => (hlen2 k hk).2)
  have HKl := Lib.hid hKl
  clear hKl hFl hown hJS hb2 hlen2 e0 hsort hY HJ
  have hk2 : Keep (fun k => (k = Bx ∨ F k) ∨ (Value.slice ya s.L.length yc).ownBlock = some k) w2 w2 := Keep.refl _ _
  gi_loopg [8] s.L.length (fun g i wr => ∃ q : Nat, i = .int .i64 q ∧ g + q = s.L.length ∧ Hid (J (fun j => (Value.slice ya s.L.length yc).ownBlock = some j) q wr ∧ Keep (fun k => (k = Bx ∨ F k) ∨ (Value.slice ya s.L.length yc).ownBlock = some k) w2 wr))
  case atStart => exact ⟨0, rfl, by omega, Lib.hid ⟨hj2, hk2⟩⟩
  case round =>
    obtain ⟨q, rfl, hg, HQ⟩ := hrel
    have HG := Lib.hid hg
    clear hg hj2 hk2
    by_cases hq : q < s.L.length
    · obtain ⟨⟨pk, pv⟩, hp⟩ : ∃ p, s.L[q]? = some p := ⟨_, List.getElem?_eq_getElem hq⟩
      obtain ⟨g, cap, eg, hgl, c0, c1⟩ := own_get (Mem.row_less HO.out.1 (Nat.zero_le _)) hp
      have heg : ya = some ⟨g, 0, none⟩ := by injection eg
      have hsame := HQ.out.2 g (.inr (by rw [heg]; rfl))
      replace c0 := (World.cell?_of_block (a := ⟨g, q * 2, none⟩) hsame).trans c0
      replace c1 := (World.cell?_of_block (a := ⟨g, q * 2 + 1, none⟩) hsame).trans c1
      clear eg hgl hsame
      have hqi : (q : Int) < s.L.length := by omega
      have hjb := (HO.out.2).alloc (.cells #[.string pk, (.int .i64 pv)] 57) HQ.out.1
      obtain ⟨fn, tmps, assign, body, hy, hR⟩ := hYS.out q _ _ hjb hp
      simp only [encIt] at hy
      have hkb : Keep (fun k => (k = Bx ∨ F k) ∨ (Value.slice ya s.L.length yc).ownBlock = some k) w2 (wr.alloc (.cells #[.string pk, (.int .i64 pv)] 57)) := HQ.out.2.trans fun k hk => Below.heap_alloc _ _ _ (by
        have h1 := HQ.out.2 k hk
        rcases Nat.lt_or_ge k wr.heap.size with h2 | h2
        · exact h2
        · exfalso
          rw [Array.getElem?_eq_none h2] at h1
          have h3 : k < w2.heap.size := HKl.out k hk
          rw [Array.getElem?_eq_getElem h3] at h1; cases h1)
      have HK := Lib.hid hkb
      subst heg
      clear hjb hp hkb HQ
      gi_wp2
      refine (any_depth hR).mono ?_
      rintro e W' (⟨rfl, hJ', hk'⟩ | ⟨rfl, hJx'⟩)
      · have HR := Lib.hid (And.intro hJ' (HK.out.trans hk'))
        clear hJ' hk' hR hy c0 c1
        gi_wp2
        gi_roundg (s.L.length - (q + 1))
        case measure => have := HG.out; omega
        case rel => exact ⟨q + 1, by go_num, by have := HG.out; omega, HR⟩
      · gi_wp2
        refine bodyPost_ret (results_none rfl _ _ _) rfl ?_
        exact ⟨⟨_, rfl⟩, _, .inr ⟨q + 1, by omega, hJx'⟩⟩
    · have hlq : (s.L.length : Int) ≤ q := by omega
      have hqe : q = s.L.length := by have := HG.out; omega
      subst hqe
      have HR := Lib.hid HQ.out.1
      clear HQ
      gi_wp2
      go_end0
      exact ⟨⟨_, rfl⟩, _, .inl HR.out⟩
theorem all_any (b : Nat) (w : World) : Calls Try.prog 26 #[.pointer (some ⟨b, 0, none⟩)] w fun e w' =>
    e = .returned (.func (.func 33) #[] #[.pointer (some ⟨w.heap.size, 0, none⟩)]) ∧ w' = w.alloc (.cells #[.pointer (some ⟨b, 0, none⟩)] 26) := by
  go_enter Try.func26, Try.ntmps26
  go_wp2
  go_ret
  exact ⟨rfl, rfl⟩
/-- All: an iterator over the pairs, in a world that has grown alone. -/
theorem all_gives {w : World} {b : Nat} {F : Nat → Prop} {seed : Int} {s : St V} {n : Nat} (h : At w b F seed s) (hs : Sm n seed s) : Calls Try.prog 26 #[.pointer (some ⟨b, 0, none⟩)] w fun e w' =>
    ∃ (lb : Array Value) (K : Nat → Prop), e = .returned (.func (.func 33) #[] lb) ∧ SeqS Try.prog 33 lb encIt K s.L w' ∧ Below w.heap.size w w' ∧ (∀ k, K k → (F k ∨ w.heap.size ≤ k) ∧ k < w'.heap.size) :=
  (all_any b w).mono fun e w' ⟨he, hw⟩ => by
    subst hw
    refine ⟨_, fun k => k = w.heap.size ∨ F k, he, all_seq (h.below (Mem.al (Below.refl _ _) _)) hs (Mem.new_block w _), Mem.al (Below.refl _ _) _, fun k hk => ⟨?_, ?_⟩⟩
    · exact hk.elim (fun e => .inr (by omega)) .inl
    · rw [World.size_alloc]; exact hk.elim (fun e => by omega) (fun e => Nat.lt_succ_of_lt (h.lt k e))
theorem enters (args : Array Value) (w : World) : (callFunc 33 args).run Try.prog w = .ok (.enter 33 args) w := enters_of Try.func33 (by kernel_rfl) rfl args w
end Go.Proofs.Ytekcogoijlbmnaa.TabI
