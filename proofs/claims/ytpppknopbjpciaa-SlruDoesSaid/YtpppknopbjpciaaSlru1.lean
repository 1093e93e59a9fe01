/- Layer 8: where a list lies; a node is put behind its row. -/
import Derived.Test.YtpppknopbjpciaaProg
import Derived.Test.YtpppknopbjpciaaSpecSlru
import Derived.Test.YtpppknopbjpciaaMem
import Derived.Test.YtpppknopbjpciaaMaps
import Derived.WalkKit
import Derived.StillTailTactics
import Derived.Deep.Cut
import Derived.Lib.Hide
namespace Go.Proofs.Ytpppknopbjpciaa.Slru
open Go Go.RowKit Go.Proofs.Ytpppknopbjpciaa.Mem

def pt (o : Option Nat) : Value := .pointer (o.map fun n => ⟨n, 0, none⟩)
def nodeObj (k : ByteArray) (a n : Option Nat) (ra : Addr) : Obj := .cells #[.string k, pt a, pt n, .pointer (some ra)] 54 (0, 0)
def listArr (most : Int) (mb : Nat) (ts ss : List Nd) : Array Value := #[.int .i64 most, .map (some mb), pt (fst ts), pt (lst ts), .int .i64 (ts.length : Nat), pt (fst ss), pt (lst ss), .int .i64 (ss.length : Nat)]
def listObj (most : Int) (mb : Nat) (ts ss : List Nd) : Obj := .cells (listArr most mb ts ss) 50 (0, 0)
def Chain (w : World) (ra : Addr) (xs : List Nd) : Prop := ChainB (fun n k a c => w.heap[n]? = some (nodeObj k a c ra)) xs
section
variable {w w' : World} {ra : Addr} {xs : List Nd} {b n mb : Nat} {most : Int} {ts ss : List Nd}
theorem Chain.at_mem (h : Chain w ra xs) {j : Nat} (hj : j ∈ xs.map (·.1)) : ∃ k a c, w.heap[j]? = some (nodeObj k a c ra) := by
  obtain ⟨⟨m, k⟩, hm, rfl⟩ := List.mem_map.1 hj
  obtain ⟨l, r, e⟩ := List.append_of_mem hm
  exact ⟨_, _, _, h l m k r e⟩
theorem Chain.ne (h : Chain w ra xs) (hb : w.heap[b]? = some (listObj most mb ts ss)) : b ∉ xs.map (·.1) := fun hj => by
  obtain ⟨k, a, c, e⟩ := h.at_mem hj
  rw [hb] at e
  injection e with e
  injection e with _ e
  exact absurd e (by decide)
theorem Chain.same (h : Chain w ra xs) (hs : ∀ j ∈ xs.map (·.1), w'.heap[j]? = w.heap[j]?) : Chain w' ra xs := ChainB.same h fun j hj _ _ _ e => (hs j hj).trans e
end

theorem set_far {w : World} {p : Addr} {v : Value} {j : Nat} (h : j ≠ p.block) : (w.setCell p v).heap[j]? = w.heap[j]? := Below.heap_setCell _ _ _ _ h
theorem set_size (w : World) (p : Addr) (v : Value) : (w.setCell p v).heap.size = w.heap.size := by simp [World.setCell]

/-- Behind a turn of one of the two rows. -/
def RowPost (w : World) (b o : Nat) (obj : Obj) (xs ys : List Nd) (n : Nat) (e : Ending) (w' : World) : Prop :=
  e = .returned (.tuple #[]) ∧ w'.heap[b]? = some obj ∧ Chain w' ⟨b, o, none⟩ ys ∧ Only (fun j => j = b ∨ j = n ∨ j ∈ xs.map (·.1)) w w'

set_option maxHeartbeats 2000000 in
theorem push_trial {w : World} {b n mb : Nat} {most : Int} {ts ss : List Nd} {k : ByteArray} {u1 u2 u3 : Value} (hb : w.heap[b]? = some (listObj most mb ts ss)) (hc : Chain w ⟨b, 2, none⟩ ts) (hnd : (ts.map (·.1)).Nodup)
    (hn : w.heap[n]? = some (.cells #[.string k, u1, u2, u3] 54 (0, 0))) (hnt : n ∉ ts.map (·.1)) (hlen : ts.length + 1 ≤ 9223372036854775807) :
    Calls Try.prog 26 #[.pointer (some ⟨b, 2, none⟩), .pointer (some ⟨n, 0, none⟩)] w (RowPost w b 2 (listObj most mb (ts ++ [(n, k)]) ss) ts (ts ++ [(n, k)]) n) := by
  have hbn : n ≠ b := fun e => by
    subst e
    rw [hb] at hn
    injection hn with e
    injection e with _ e
    exact absurd e (by decide)
  have hbt := hc.ne hb
  have HC := Lib.hid (And.intro hc (And.intro hnd (And.intro hnt hbt)))
  have hb3 := Mem.row_cell hb 3
  have m1 := Mem.row_cell hn 1
  have m2 := Mem.row_cell hn 2
  have m3 := Mem.row_cell hn 3
  have n1 := Mem.row_free hn 1
  have n2 := Mem.row_free hn 2
  have n3 := Mem.row_free hn 3
  simp only [listArr, List.getElem?_toArray, List.getElem?_cons_zero, List.getElem?_cons_succ] at hb3 m1 m2 m3
  obtain ⟨la, hla⟩ : ∃ la, lst ts = la := ⟨_, rfl⟩
  rw [hla] at hb3
  obtain ⟨xa, hxa⟩ : ∃ xa, la.map (fun n => (⟨n, 0, none⟩ : Addr)) = xa := ⟨_, rfl⟩
  have hpa : pt la = .pointer xa := by rw [← hxa]; rfl
  rw [hpa] at hb3
  have HX := Lib.hid hpa
  clear hxa hpa
  have HN := Lib.hid hn
  have HB := Lib.hid hb
  clear hb hn hc hnd hnt hbt
  go_enter Try.func26, Try.ntmps26
  go_upto_region 1 with (fail)
  have k1 : (((w.setCell ⟨n, 1, none⟩ (.pointer xa)).setCell ⟨n, 2, none⟩ (.pointer none)).setCell ⟨n, 3, none⟩ (.pointer (some ⟨b, 2, none⟩))).heap[n]? = some (nodeObj k la none ⟨b, 2, none⟩) := by
    rw [← HX.out]
    exact Mem.row_set (Mem.row_set (Mem.row_set HN.out 1 _) 2 _) 3 _
  have o1 : ∀ j, j ≠ n → (((w.setCell ⟨n, 1, none⟩ (.pointer xa)).setCell ⟨n, 2, none⟩ (.pointer none)).setCell ⟨n, 3, none⟩ (.pointer (some ⟨b, 2, none⟩))).heap[j]? = w.heap[j]? := fun j hj => (set_far hj).trans ((set_far hj).trans (set_far hj))
  have on1 : Only (fun j => j = b ∨ j = n ∨ j ∈ ts.map (·.1)) w (((w.setCell ⟨n, 1, none⟩ (.pointer xa)).setCell ⟨n, 2, none⟩ (.pointer none)).setCell ⟨n, 3, none⟩ (.pointer (some ⟨b, 2, none⟩))) :=
    (((Only.refl _ w).setCell (p := ⟨n, 1, none⟩) (.inl (.inr (.inl rfl))) _).setCell (p := ⟨n, 2, none⟩) (.inl (.inr (.inl rfl))) _).setCell (p := ⟨n, 3, none⟩) (.inl (.inr (.inl rfl))) _
  generalize ((w.setCell ⟨n, 1, none⟩ (.pointer xa)).setCell ⟨n, 2, none⟩ (.pointer none)).setCell ⟨n, 3, none⟩ (.pointer (some ⟨b, 2, none⟩)) = w1 at *
  have hb1 := (o1 b (Ne.symm hbn)).trans HB.out
  have c2 := Mem.row_cell hb1 2
  have c3 := Mem.row_cell hb1 3
  have c4 := Mem.row_cell hb1 4
  have f2 := Mem.row_free hb1 2
  have f3 := Mem.row_free hb1 3
  have f4 := Mem.row_free hb1 4
  simp only [listArr, List.getElem?_toArray, List.getElem?_cons_zero, List.getElem?_cons_succ] at c2 c3 c4
  have hw : IntKind.i64.wrap ((ts.length : Int) + 1) = (ts.length : Int) + 1 := by rw [IntKind.wrap_i64]; omega
  rw [hla] at c3
  have H1 := Lib.hid (And.intro k1 (And.intro o1 (And.intro on1 hb1)))
  have HA := Lib.hid hla
  clear k1 o1 on1 hb1 hb3 n1 n2 n3 m1 m2 m3
  rcases snoc_cases ts with hts | ⟨l, ⟨p, kp⟩, hts⟩
  · have hla2 := HA.out
    rw [hts] at hla2
    simp at hla2
    subst hla2
    have HT := Lib.hid hts
    clear hts hlen
    simp only [pt, Option.map_none] at c3
    go_wp2_with fail
    go_end0
    have q := Mem.row_set (Mem.row_set (Mem.row_set H1.out.2.2.2 2 (.pointer (some ⟨n, 0, none⟩))) 3 (.pointer (some ⟨n, 0, none⟩))) 4 (.int .i64 ((ts.length : Int) + 1))
    have hts := HT.out
    subst hts
    refine ⟨rfl, q, ChainB.push HC.out.1 HC.out.2.1 ?_ (fun l p e => by simp at e) (fun j hj _ _ _ _ _ => by simp at hj), ((H1.out.2.2.1.setCell (p := ⟨b, 2, none⟩) (.inl (.inl rfl)) _).setCell (p := ⟨b, 3, none⟩) (.inl (.inl rfl)) _).setCell (p := ⟨b, 4, none⟩) (.inl (.inl rfl)) _⟩
    exact (set_far hbn).trans ((set_far hbn).trans ((set_far hbn).trans H1.out.1))
  · have hla2 := HA.out
    rw [hts] at hla2
    simp at hla2
    subst hla2
    have hpt : p ∈ ts.map (·.1) := by rw [hts]; simp
    have hpb : p ≠ b := fun e => HC.out.2.2.2 (e ▸ hpt)
    have hpn : p ≠ n := fun e => HC.out.2.2.1 (e ▸ hpt)
    have hp1 := (H1.out.2.1 p hpn).trans (HC.out.1 l p kp [] hts)
    have g2 := Mem.row_free hp1 2
    have d2 := Mem.row_cell hp1 2
    simp only [List.getElem?_toArray, List.getElem?_cons_zero, List.getElem?_cons_succ] at d2
    have HP := Lib.hid (And.intro hts (And.intro hpt (And.intro hpn hp1)))
    have hbp : b ≠ p := Ne.symm hpb
    clear hts hlen hpt hpn hp1
    simp only [pt, Option.map_some] at c3
    go_wp2_with fail
    go_end0
    have hb2 := (set_far (w := w1) (p := ⟨p, 2, none⟩) (v := .pointer (some ⟨n, 0, none⟩)) hbp).trans H1.out.2.2.2
    have q := Mem.row_set (Mem.row_set hb2 3 (.pointer (some ⟨n, 0, none⟩))) 4 (.int .i64 ((ts.length : Int) + 1))
    have hfar : ∀ j, j ≠ b → (((w1.setCell ⟨p, 2, none⟩ (.pointer (some ⟨n, 0, none⟩))).setCell ⟨b, 3, none⟩ (.pointer (some ⟨n, 0, none⟩))).setCell ⟨b, 4, none⟩ (.int .i64 ((ts.length : Int) + 1))).heap[j]? = (w1.setCell ⟨p, 2, none⟩ (.pointer (some ⟨n, 0, none⟩))).heap[j]? := fun j hj => (set_far hj).trans (set_far hj)
    refine ⟨rfl, ?_, ChainB.push HC.out.1 HC.out.2.1 ?_ (fun l2 p2 e => ?_) (fun j hj h2 k a c h3 => ?_), ((H1.out.2.2.1.setCell (p := ⟨p, 2, none⟩) (.inl (.inr (.inr HP.out.2.1))) _).setCell (p := ⟨b, 3, none⟩) (.inl (.inl rfl)) _).setCell (p := ⟨b, 4, none⟩) (.inl (.inl rfl)) _⟩
    · rw [q]
      unfold listObj listArr
      rw [fst_left ts [(n, k)] (by rw [HP.out.1]; simp), lst_app, List.length_append]
      rfl
    · rw [HA.out]
      exact (hfar n hbn).trans ((set_far (Ne.symm HP.out.2.2.1)).trans H1.out.1)
    · have := e.symm.trans HP.out.1
      obtain ⟨rfl, e2⟩ := List.append_inj' this rfl
      injection e2 with e2
      subst e2
      exact (hfar p hpb).trans (Mem.row_set HP.out.2.2.2 2 _)
    · have hjb : j ≠ b := fun e => HC.out.2.2.2 (e ▸ hj)
      have hjn : j ≠ n := fun e => HC.out.2.2.1 (e ▸ hj)
      have hjp : j ≠ p := fun e => h2 (by rw [e]; exact HA.out)
      exact (hfar j hjb).trans ((set_far hjp).trans ((H1.out.2.1 j hjn).trans h3))

set_option maxHeartbeats 2000000 in
theorem push_safe {w : World} {b n mb : Nat} {most : Int} {ts ss : List Nd} {k : ByteArray} {u1 u2 u3 : Value} (hb : w.heap[b]? = some (listObj most mb ts ss)) (hc : Chain w ⟨b, 5, none⟩ ss) (hnd : (ss.map (·.1)).Nodup)
    (hn : w.heap[n]? = some (.cells #[.string k, u1, u2, u3] 54 (0, 0))) (hnt : n ∉ ss.map (·.1)) (hlen : ss.length + 1 ≤ 9223372036854775807) :
    Calls Try.prog 26 #[.pointer (some ⟨b, 5, none⟩), .pointer (some ⟨n, 0, none⟩)] w (RowPost w b 5 (listObj most mb ts (ss ++ [(n, k)])) ss (ss ++ [(n, k)]) n) := by
  have hbn : n ≠ b := fun e => by
    subst e
    rw [hb] at hn
    injection hn with e
    injection e with _ e
    exact absurd e (by decide)
  have hbt := hc.ne hb
  have HC := Lib.hid (And.intro hc (And.intro hnd (And.intro hnt hbt)))
  have hb3 := Mem.row_cell hb 6
  have m1 := Mem.row_cell hn 1
  have m2 := Mem.row_cell hn 2
  have m3 := Mem.row_cell hn 3
  have n1 := Mem.row_free hn 1
  have n2 := Mem.row_free hn 2
  have n3 := Mem.row_free hn 3
  simp only [listArr, List.getElem?_toArray, List.getElem?_cons_zero, List.getElem?_cons_succ] at hb3 m1 m2 m3
  obtain ⟨la, hla⟩ : ∃ la, lst ss = la := ⟨_, rfl⟩
  rw [hla] at hb3
  obtain ⟨xa, hxa⟩ : ∃ xa, la.map (fun n => (⟨n, 0, none⟩ : Addr)) = xa := ⟨_, rfl⟩
  have hpa : pt la = .pointer xa := by rw [← hxa]; rfl
  rw [hpa] at hb3
  have HX := Lib.hid hpa
  clear hxa hpa
  have HN := Lib.hid hn
  have HB := Lib.hid hb
  clear hb hn hc hnd hnt hbt
  go_enter Try.func26, Try.ntmps26
  go_upto_region 1 with (fail)
  have k1 : (((w.setCell ⟨n, 1, none⟩ (.pointer xa)).setCell ⟨n, 2, none⟩ (.pointer none)).setCell ⟨n, 3, none⟩ (.pointer (some ⟨b, 5, none⟩))).heap[n]? = some (nodeObj k la none ⟨b, 5, none⟩) := by
    rw [← HX.out]
    exact Mem.row_set (Mem.row_set (Mem.row_set HN.out 1 _) 2 _) 3 _
  have o1 : ∀ j, j ≠ n → (((w.setCell ⟨n, 1, none⟩ (.pointer xa)).setCell ⟨n, 2, none⟩ (.pointer none)).setCell ⟨n, 3, none⟩ (.pointer (some ⟨b, 5, none⟩))).heap[j]? = w.heap[j]? := fun j hj => (set_far hj).trans ((set_far hj).trans (set_far hj))
  have on1 : Only (fun j => j = b ∨ j = n ∨ j ∈ ss.map (·.1)) w (((w.setCell ⟨n, 1, none⟩ (.pointer xa)).setCell ⟨n, 2, none⟩ (.pointer none)).setCell ⟨n, 3, none⟩ (.pointer (some ⟨b, 5, none⟩))) :=
    (((Only.refl _ w).setCell (p := ⟨n, 1, none⟩) (.inl (.inr (.inl rfl))) _).setCell (p := ⟨n, 2, none⟩) (.inl (.inr (.inl rfl))) _).setCell (p := ⟨n, 3, none⟩) (.inl (.inr (.inl rfl))) _
  generalize ((w.setCell ⟨n, 1, none⟩ (.pointer xa)).setCell ⟨n, 2, none⟩ (.pointer none)).setCell ⟨n, 3, none⟩ (.pointer (some ⟨b, 5, none⟩)) = w1 at *
  have hb1 := (o1 b (Ne.symm hbn)).trans HB.out
  have c2 := Mem.row_cell hb1 5
  have c3 := Mem.row_cell hb1 6
  have c4 := Mem.row_cell hb1 7
  have f2 := Mem.row_free hb1 5
  have f3 := Mem.row_free hb1 6
  have f4 := Mem.row_free hb1 7
  simp only [listArr, List.getElem?_toArray, List.getElem?_cons_zero, List.getElem?_cons_succ] at c2 c3 c4
  have hw : IntKind.i64.wrap ((ss.length : Int) + 1) = (ss.length : Int) + 1 := by rw [IntKind.wrap_i64]; omega
  rw [hla] at c3
  have H1 := Lib.hid (And.intro k1 (And.intro o1 (And.intro on1 hb1)))
  have HA := Lib.hid hla
  clear k1 o1 on1 hb1 hb3 n1 n2 n3 m1 m2 m3
  rcases snoc_cases ss with hts | ⟨l, ⟨p, kp⟩, hts⟩
  · have hla2 := HA.out
    rw [hts] at hla2
    simp at hla2
    subst hla2
    have HT := Lib.hid hts
    clear hts hlen
    simp only [pt, Option.map_none] at c3
    go_wp2_with fail
    go_end0
    have q := Mem.row_set (Mem.row_set (Mem.row_set H1.out.2.2.2 5 (.pointer (some ⟨n, 0, none⟩))) 6 (.pointer (some ⟨n, 0, none⟩))) 7 (.int .i64 ((ss.length : Int) + 1))
    have hts := HT.out
    subst hts
    refine ⟨rfl, q, ChainB.push HC.out.1 HC.out.2.1 ?_ (fun l p e => by simp at e) (fun j hj _ _ _ _ _ => by simp at hj), ((H1.out.2.2.1.setCell (p := ⟨b, 5, none⟩) (.inl (.inl rfl)) _).setCell (p := ⟨b, 6, none⟩) (.inl (.inl rfl)) _).setCell (p := ⟨b, 7, none⟩) (.inl (.inl rfl)) _⟩
    exact (set_far hbn).trans ((set_far hbn).trans ((set_far hbn).trans H1.out.1))
  · have hla2 := HA.out
    rw [hts] at hla2
    simp at hla2
    subst hla2
    have hpt : p ∈ ss.map (·.1) := by rw [hts]; simp
    have hpb : p ≠ b := fun e => HC.out.2.2.2 (e ▸ hpt)
    have hpn : p ≠ n := fun e => HC.out.2.2.1 (e ▸ hpt)
    have hp1 := (H1.out.2.1 p hpn).trans (HC.out.1 l p kp [] hts)
    have g2 := Mem.row_free hp1 2
    have d2 := Mem.row_cell hp1 2
    simp only [List.getElem?_toArray, List.getElem?_cons_zero, List.getElem?_cons_succ] at d2
    have HP := Lib.hid (And.intro hts (And.intro hpt (And.intro hpn hp1)))
    have hbp : b ≠ p := Ne.symm hpb
    clear hts hlen hpt hpn hp1
    simp only [pt, Option.map_some] at c3
    go_wp2_with fail
    go_end0
    have hb2 := (set_far (w := w1) (p := ⟨p, 2, none⟩) (v := .pointer (some ⟨n, 0, none⟩)) hbp).trans H1.out.2.2.2
    have q := Mem.row_set (Mem.row_set hb2 6 (.pointer (some ⟨n, 0, none⟩))) 7 (.int .i64 ((ss.length : Int) + 1))
    have hfar : ∀ j, j ≠ b → (((w1.setCell ⟨p, 2, none⟩ (.pointer (some ⟨n, 0, none⟩))).setCell ⟨b, 6, none⟩ (.pointer (some ⟨n, 0, none⟩))).setCell ⟨b, 7, none⟩ (.int .i64 ((ss.length : Int) + 1))).heap[j]? = (w1.setCell ⟨p, 2, none⟩ (.pointer (some ⟨n, 0, none⟩))).heap[j]? := fun j hj => (set_far hj).trans (set_far hj)
    refine ⟨rfl, ?_, ChainB.push HC.out.1 HC.out.2.1 ?_ (fun l2 p2 e => ?_) (fun j hj h2 k a c h3 => ?_), ((H1.out.2.2.1.setCell (p := ⟨p, 2, none⟩) (.inl (.inr (.inr HP.out.2.1))) _).setCell (p := ⟨b, 6, none⟩) (.inl (.inl rfl)) _).setCell (p := ⟨b, 7, none⟩) (.inl (.inl rfl)) _⟩
    · rw [q]
      unfold listObj listArr
      rw [fst_left ss [(n, k)] (by rw [HP.out.1]; simp), lst_app, List.length_append]
      rfl
    · rw [HA.out]
      exact (hfar n hbn).trans ((set_far (Ne.symm HP.out.2.2.1)).trans H1.out.1)
    · have := e.symm.trans HP.out.1
      obtain ⟨rfl, e2⟩ := List.append_inj' this rfl
      injection e2 with e2
      subst e2
      exact (hfar p hpb).trans (Mem.row_set HP.out.2.2.2 2 _)
    · have hjb : j ≠ b := fun e => HC.out.2.2.2 (e ▸ hj)
      have hjn : j ≠ n := fun e => HC.out.2.2.1 (e ▸ hj)
      have hjp : j ≠ p := fun e => h2 (by rw [e]; exact HA.out)
      exact (hfar j hjb).trans ((set_far hjp).trans ((H1.out.2.1 j hjn).trans h3))

end Go.Proofs.Ytpppknopbjpciaa.Slru
