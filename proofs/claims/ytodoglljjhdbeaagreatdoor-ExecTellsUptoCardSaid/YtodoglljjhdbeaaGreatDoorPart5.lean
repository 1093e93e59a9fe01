/- Part5: Slru7, Slru8, TabE2, Quiet, TabE3, TabE4, TabE5, Lay, TabE6, TabE7, TabE8, one behind the other. -/
import Derived.Test.YtodoglljjhdbeaaGreatDoorPart4
import Derived.Test.YtodoglljjhdbeaaGreatDoorPart2
import Derived.Shelf.Abstract
import Derived.Shelf.RegionOpen
import Derived.OwnWalkIn
import Derived.TacticsInMore
import Derived.Sort.LoopGhostIn
import Derived.Sort.QuietIn
import Derived.Test.YtodoglljjhdbeaaGreatDoorPart3
import Derived.Test.YtodoglljjhdbeaaGreatDoorPart1
import Derived.OwnWalk
import Derived.Laws.OwnMore
import Derived.Deep.QuietTactic
import Derived.BigQuiet
import Derived.Maps.AppendAt
import Derived.Deep.RegionHeld3
import Derived.Deep.RegionLaw
import Derived.Deep.AppendLies
import Derived.Deep.CutRange
import Derived.Deep.LoopGhost
import Derived.StillTailTactics
import Derived.Deep.CutBlock
import Derived.Shelf.SlicesQ.IndexFunc
import Derived.Ground.SlgfProg
import Derived.Shelf.SlGeneric
import Derived.Test.YtodoglljjhdbeaaGreatDoorProg
/- Layer 8: All: an iterator over the keys; Victim. -/
namespace Go.Proofs.YtodoglljjhdbeaaGreatDoor.Slru
open Go Go.RowKit Go.Shelf Go.Proofs.YtodoglljjhdbeaaGreatDoor.Mem Go.Proofs.YtodoglljjhdbeaaGreatDoor.Rng
attribute [local go_sem] Oper.semAt_some

def encS (x : ByteArray) : Array Value := #[.string x]
theorem pt_none : pt none = .pointer none := rfl
def cnt (ts ss : List Nd) (q : Nat) : Nat := if q = 0 then 0 else if q = 1 then ts.length else ts.length + ss.length
theorem drewn_own {J : Nat → World → Prop} {B k : Nat} {W : World} (hJ : OwnFrom B J) (h : J k W) (n : Nat) : J k (W.drewN n) :=
  have ho := (Only.refl (fun _ => False) W).drewN n
  hJ k W (W.drewN n) none h ⟨ho.os, ho.tape, ho.output, ho.size, fun j hj _ => ho.same j hj (fun e => e)⟩ fun r e => by cases e
set_option maxRecDepth 100000 in
set_option maxHeartbeats 2000000 in
theorem all_seq {w : World} {b mb Bx : Nat} {F : Nat → Prop} {s : St} {ts ss : List Nd} {ps : List (ByteArray × Value)} (h : AtW w b F s mb ts ss ps) (hbx : w.heap[Bx]? = some (.cells #[.pointer (some ⟨b, 0, none⟩)] 66 (0, 0))) :
    SeqI Tryz.prog 116 #[.pointer (some ⟨Bx, 0, none⟩)] encS (fun k => k = Bx ∨ F k) s.all w := by
  intro l J Jx W hW hJ hJx hY hj
  have hR : Rows W b mb s.most ts ss := (h.same (fun k hk => hW.block k (h.lt k hk)) hW.size).rows
  have hx : W.heap[Bx]? = some (.cells #[.pointer (some ⟨b, 0, none⟩)] 66 (0, 0)) := (hW.block Bx (Array.getElem?_eq_some_iff.1 hbx).1).trans hbx
  have hKB : ∀ {W' : World}, Keep (fun k => k = Bx ∨ F k) W W' → Rows W' b mb s.most ts ss := fun hk => hR.same fun j hj => hk j (.inr (hj.elim (fun e => e ▸ h.fb) (h.fn j)))
  have hall : s.all = (ts ++ ss).map (·.2) := h.all
  have e0 := Mem.box_cell hx
  have hJ' := hJ
  have HH := Lib.hid (And.intro (@hKB) (And.intro hall hR))
  clear hW hJ hJx hR hx hbx hKB hall
  refine callsIn_of_wp Tryz.func116 rfl trivial ?_ rfl
  simp only [Tryz.ntmps116, List.size_toArray, List.length_cons, List.length_nil, Nat.reduceAdd, Nat.reduceSub, Array.replicate_succ, Array.replicate_zero, List.push_toArray, List.append_toArray, List.nil_append, List.cons_append]
  gi_wp2
  gi_quiet (fail)
  gi_wp2
  have hj0 : J 0 (W.drewN nq) := drewn_own hJ' hj nq
  have hk0 : Keep (fun k => k = Bx ∨ F k) W (W.drewN nq) := fun k _ => rfl
  clear hj hJ'
  generalize W.drewN nq = W2 at *
  have hY := Lib.hid @hY
  gi_loopg [4, 5, 13] 2 (fun g _ _ i wr => ∃ q : Nat, i = .int .i64 q ∧ g + q = 2 ∧ J (cnt ts ss q) wr ∧ Keep (fun k => k = Bx ∨ F k) W wr)
  case atStart => exact ⟨0, rfl, rfl, hj0, hk0⟩
  case round =>
    obtain ⟨q, rfl, hq, hjr, hkr⟩ := hrel
    clear hj0 hk0 e0
    by_cases hq2 : q < 2
    · have hrows := HH.out.1 hkr
      obtain ⟨o, xs, ho, hxs, hch, hcnt, hfl⟩ : ∃ (o : Nat) (xs : List Nd), (∀ W : World, (Instr.index 192 (.agg #[.pointer (some ⟨b, 2, none⟩), .pointer (some ⟨b, 5, none⟩)]) (.int .i64 q)).run Tryz.prog W = .ok (.pointer (some ⟨b, o, none⟩)) W) ∧
          wr.cell? ⟨b, o, none⟩ = some (pt (fst xs)) ∧ (∀ W', Keep (fun k => k = Bx ∨ F k) W W' → Chain W' ⟨b, o, none⟩ xs) ∧ cnt ts ss (q + 1) = cnt ts ss q + xs.length ∧ (∀ i k, xs[i]?.map (·.2) = some k → s.all[cnt ts ss q + i]? = some k) := by
        have c2 := Mem.row_cell hrows.blk 2
        have c5 := Mem.row_cell hrows.blk 5
        simp only [listArr, List.getElem?_toArray, List.getElem?_cons_zero, List.getElem?_cons_succ] at c2 c5
        rcases (show q = 0 ∨ q = 1 by omega) with rfl | rfl
        · refine ⟨2, ts, fun W => by kernel_rfl, c2, fun W' hk => (HH.out.1 hk).ct, by simp [cnt], fun i k hi => ?_⟩
          rw [HH.out.2.1, List.getElem?_map, cnt, if_pos rfl, Nat.zero_add, List.getElem?_append_left]
          · exact hi
          · rcases hxi : ts[i]? with _ | p
            · rw [hxi] at hi; cases hi
            · exact (List.getElem?_eq_some_iff.1 hxi).1
        · refine ⟨5, ss, fun W => by kernel_rfl, c5, fun W' hk => (HH.out.1 hk).cs, by simp [cnt], fun i k hi => ?_⟩
          rw [HH.out.2.1, List.getElem?_map, cnt, if_neg (by decide), if_pos rfl, List.getElem?_append_right (by omega), show ts.length + i - ts.length = i from by omega]
          exact hi
      have ho' := ho wr
      obtain ⟨xp, hxp⟩ : ∃ xp, pt (fst xs) = .pointer xp := ⟨_, rfl⟩
      rw [hxp] at hxs
      have HO := Lib.hid (And.intro hcnt (And.intro hfl (And.intro hxp (And.intro hkr (And.intro hjr hq)))))
      have hch := Lib.hid hch
      have hqi : (q : Int) < 2 := by omega
      clear hcnt hfl hxp hkr hjr hrows hq ho
      gi_wp2
      gi_loopg [5] xs.length (fun g n wr => ∃ d rest, n = pt (fst rest) ∧ g = rest.length ∧ Hid (xs = d ++ rest) ∧ J (cnt ts ss q + d.length) wr ∧ Keep (fun k => k = Bx ∨ F k) W wr)
      case atStart => exact ⟨[], xs, HO.out.2.2.1.symm, rfl, Lib.hid rfl, HO.out.2.2.2.2.1, HO.out.2.2.2.1⟩
      case round =>
        obtain ⟨d, rest, rfl, hg, hx, hj2, hk2⟩ := hrel
        cases rest with
        | nil =>
          rw [show pt (fst []) = Value.pointer none from rfl]
          gi_wp2
          gi_roundg (2 - (q + 1))
          case measure => have := HO.out.2.2.2.2.2; omega
          case rel =>
            refine ⟨q + 1, by go_num, by have := HO.out.2.2.2.2.2; omega, ?_, hk2⟩
            have : xs = d := by simpa using hx.out
            rw [HO.out.1, this]; exact hj2
        | cons p rest =>
          obtain ⟨m, km⟩ := p
          have hnode := hch.out _ hk2 d m km rest hx.out
          have n0 := Mem.row_cell hnode 0
          simp only [List.getElem?_toArray, List.getElem?_cons_zero] at n0
          have hfull := HO.out.2.1 d.length km (by rw [hx.out]; simp)
          obtain ⟨fn, tmps, assign, body, hy, hR⟩ := hY.out _ _ wr hj2 hfull
          simp only [encS] at hy
          have hpm : pt (fst ((m, km) :: rest)) = .pointer (some ⟨m, 0, none⟩) := rfl
          rw [hpm]
          have HF := Lib.hid (And.intro hk2 (And.intro hfull hg))
          clear hk2 hfull hg hnode hj2 hpm
          gi_wp2
          refine (any_depth hR).mono ?_
          rintro e W' (⟨rfl, hJ', hk'⟩ | ⟨rfl, hJx'⟩)
          · have hkW := HF.out.1.trans hk'
            have hnode' := hch.out _ hkW d m km rest hx.out
            have n2 := Mem.row_cell hnode' 2
            simp only [List.getElem?_toArray, List.getElem?_cons_zero, List.getElem?_cons_succ] at n2
            obtain ⟨xr, hxr⟩ : ∃ xr, pt (fst rest) = .pointer xr := ⟨_, rfl⟩
            rw [hxr] at n2
            have HX := Lib.hid (And.intro hxr (And.intro hkW hJ'))
            clear hxr hkW hJ' hk' hnode' hR hy n0
            gi_wp2
            gi_roundg rest.length
            case measure => have := HF.out.2.2; simp at this; omega
            case rel => exact ⟨d ++ [(m, km)], rest, HX.out.1.symm, rfl, Lib.hid (by rw [hx.out]; simp), by rw [List.length_append]; exact HX.out.2.2, HX.out.2.1⟩
          · gi_wp2
            refine bodyPost_ret (results_none rfl _ _ _) rfl ?_
            refine ⟨⟨_, rfl⟩, .inr ⟨_, ?_, hJx'⟩⟩
            have := (List.getElem?_eq_some_iff.1 HF.out.2.1).1
            omega
    · have hqq : q = 2 := by omega
      subst hqq
      gi_wp2
      go_end0
      refine ⟨⟨_, rfl⟩, .inl ?_⟩
      rw [HH.out.2.1, List.length_map, List.length_append]
      exact hjr
end Go.Proofs.YtodoglljjhdbeaaGreatDoor.Slru

/- Layer 8: All's call, Victim. -/
namespace Go.Proofs.YtodoglljjhdbeaaGreatDoor.Slru
open Go Go.RowKit Go.Shelf Go.Proofs.YtodoglljjhdbeaaGreatDoor.Mem Go.Proofs.YtodoglljjhdbeaaGreatDoor.Rng
attribute [local go_sem] Oper.semAt_some

theorem all_any (b : Nat) (w : World) : Calls Tryz.prog 104 #[.pointer (some ⟨b, 0, none⟩)] w fun e w' =>
    e = .returned (.func (.func 116) #[] #[.pointer (some ⟨w.heap.size, 0, none⟩)]) ∧ w' = w.alloc (.cells #[.pointer (some ⟨b, 0, none⟩)] 66) := by
  go_enter Tryz.func104, Tryz.ntmps104
  go_wp2
  go_ret
  exact ⟨rfl, rfl⟩
/-- All: an iterator over the keys, in a world that has grown alone. -/
theorem all_gives {w : World} {b : Nat} {F : Nat → Prop} {s : St} (h : At w b F s) : Calls Tryz.prog 104 #[.pointer (some ⟨b, 0, none⟩)] w fun e w' =>
    ∃ (lb : Array Value) (K : Nat → Prop), e = .returned (.func (.func 116) #[] lb) ∧ SeqI Tryz.prog 116 lb encS K s.all w' ∧ Below w.heap.size w w' ∧ (∀ k, K k → (F k ∨ w.heap.size ≤ k) ∧ k < w'.heap.size) :=
  (all_any b w).mono fun e w' ⟨he, hw⟩ => by
    subst hw
    obtain ⟨mb, ts, ss, ps, h⟩ := h
    refine ⟨_, fun k => k = w.heap.size ∨ F k, he, all_seq (h.same (fun k hk => Below.heap_alloc _ _ _ (h.lt k hk)) (by simp)) (Mem.new_block w _), Mem.al (Below.refl _ _) _, fun k hk => ⟨?_, ?_⟩⟩
    · exact hk.elim (fun e => .inr (by omega)) .inl
    · rw [World.size_alloc]; exact hk.elim (fun e => by omega) (fun e => Nat.lt_succ_of_lt (h.lt k e))
theorem enters (args : Array Value) (w : World) : (callFunc 116 args).run Tryz.prog w = .ok (.enter 116 args) w := enters_of Tryz.func116 (by kernel_rfl) rfl args w

/-- What Victim answers. -/
def vic (s : St) (but : ByteArray) : ByteArray × Bool := match s.victim but with
  | some k => (k, true)
  | none => (ByteArray.empty, false)
def vblocks (B : Nat) (but k : ByteArray) (q : Bool) : List (Nat × Obj) := [Mem.box B 9 (.string but), Mem.box (B + 1) 9 (.string k), Mem.box (B + 1 + 1) 4 (.bool q)]
theorem vblocks_cells (B : Nat) (but k : ByteArray) (q : Bool) : ∀ p ∈ vblocks B but k q, p.2.isCells = true := by
  intro p hp
  simp only [vblocks, List.mem_cons, List.not_mem_nil, or_false] at hp
  rcases hp with rfl | rfl | rfl <;> rfl
theorem str_ne {a b : ByteArray} (h : a ≠ b) : (a.toList == b.toList) = false := by
  have := Maps.bytes_beq a b
  rw [← beq_toListBytes, this]; simpa using h
theorem str_eq (a : ByteArray) : (a.toList == a.toList) = true := by simp
theorem vic_some {s : St} {but k : ByteArray} {i : Nat} (h : s.all[i]? = some k) (hb : ∀ x ∈ s.all.take i, x = but) (hk : k ≠ but) : vic s but = (k, true) := by
  have hi := (List.getElem?_eq_some_iff.1 h).1
  have e : s.all = s.all.take i ++ k :: s.all.drop (i + 1) := by
    conv => lhs; rw [← List.take_append_drop i s.all, List.drop_eq_getElem_cons hi, (List.getElem?_eq_some_iff.1 h).2]
  have hv : s.victim but = some k := by
    unfold St.victim
    rw [e, List.find?_append, List.find?_eq_none.2 (fun x hx => by simpa using hb x hx)]
    simp [hk]
  unfold vic; rw [hv]
theorem vic_none {s : St} {but : ByteArray} (hb : ∀ x ∈ s.all, x = but) : vic s but = (ByteArray.empty, false) := by
  have hv : s.victim but = none := by
    unfold St.victim
    exact List.find?_eq_none.2 (fun x hx => by simpa using hb x hx)
  unfold vic; rw [hv]

set_option maxRecDepth 100000 in
set_option maxHeartbeats 1000000 in
theorem victim_any {w : World} {b : Nat} {F : Nat → Prop} {s : St} (h : At w b F s) (but : ByteArray) :
    Calls Tryz.prog 96 #[.pointer (some ⟨b, 0, none⟩), .string but] w fun e w' => e = .returned (.tuple #[.string (vic s but).1, .bool (vic s but).2]) ∧ Below w.heap.size w w' := by
  have hFl := h.lt
  obtain ⟨w1, hw1⟩ : ∃ w1, ((w.alloc (.cells #[.string but] 9)).alloc (.cells #[.string ⟨#[]⟩] 9)).alloc (.cells #[.bool false] 4) = w1 := ⟨_, rfl⟩
  have hb1 : Below w.heap.size w w1 := by rw [← hw1]; exact Mem.al (Mem.al (Mem.al (Below.refl _ _) _) _) _
  have hf1 : Fix w1 (vblocks w.heap.size but ⟨#[]⟩ false) := by
    rw [← hw1]
    exact Fix.cons (Mem.new_later (Mem.new_later (Mem.new_block w _) _) _) (Fix.cons (Mem.new_later (Mem.new_block2 w _ _) _) (Fix.cons (by
      have := Mem.new_block ((w.alloc (.cells #[.string but] 9)).alloc (.cells #[.string ⟨#[]⟩] 9)) (.cells #[.bool false] 4)
      simp only [World.size_alloc] at this
      exact this) (Fix.nil _)))
  have hz1 : w1.heap.size = w.heap.size + 3 := by rw [← hw1]; simp
  have hall := all_gives (h.below hb1)
  refine (callsIn_wide (n := 9)).1 (callsIn_of_wp_marks Tryz.func96 rfl trivial ?_ rfl)
  simp only [Tryz.ntmps96, List.size_toArray, List.length_cons, List.length_nil, Nat.reduceAdd, Nat.reduceSub, Array.replicate_succ, Array.replicate_zero, List.push_toArray, List.append_toArray, List.nil_append, List.cons_append]
  clear h
  gi_wp2_with fail
  refine ⟨trivial, ?_⟩
  refine (callsIn_wide.2 hall).mono ?_
  rintro e w2 ⟨lb, K, rfl, hseq, hbel, hK⟩
  have hb2 : Below w.heap.size w w2 := hb1.trans (hbel.mono hb1.size)
  have hf2 : Fix w2 (vblocks w.heap.size but ⟨#[]⟩ false) := hf1.below hbel (Nat.le_refl _)
  have hKw : ∀ j, K j → ¬ (w.heap.size ≤ j ∧ j < w.heap.size + 3) := fun j hj e => by
    have := hK j hj
    exact this.1.elim (fun e2 => by have := hFl j e2; omega) (fun e2 => by omega)
  have hz2 : w.heap.size + 3 ≤ w2.heap.size := by have := hbel.size; omega
  clear hbel hb1 hf1 hall hw1
  gi_wp2_with fail
  refine outer rfl enters hseq (Below.refl _ _) (fun k hk => (hK k hk).2) (fun _ => rfl)
    (fun i W => (Only (fun j => w.heap.size ≤ j) w2 W ∧ w2.heap.size ≤ W.heap.size) ∧ (Fix W (vblocks w.heap.size but ⟨#[]⟩ false) ∧ ∀ x ∈ s.all.take i, x = but))
    (fun c W => c = .ret ∧ Only (fun j => w.heap.size ≤ j) w2 W ∧ Fix W (vblocks w.heap.size but (vic s but).1 (vic s but).2))
    (((own_only (Nat.le_refl _)).and (own_size _ _)).and ((own_fix _ (fun _ => vblocks w.heap.size but ⟨#[]⟩ false) (fun _ => vblocks_cells _ _ _ _)).and (fun _ _ _ _ h _ _ => h)))
    (fun c W W' row h hg hr => ⟨h.1, own_only (β := Unit) (Nat.le_refl _) () W W' row h.2.1 hg hr, own_fix (β := Unit) _ (fun _ => vblocks w.heap.size but (vic s but).1 (vic s but).2) (fun _ => vblocks_cells _ _ _ _) () W W' row h.2.2 hg hr⟩)
    ⟨⟨Only.refl _ _, Nat.le_refl _⟩, hf2, by simp⟩ ?a1 ?assign ?body ?done ?stop
  case assign =>
    intro l x W Kc hKc
    simp only [encS]
    gi_wp2
    exact hKc
  case stop =>
    rintro D c W hD ⟨rfl, hO, hF⟩ hKD
    have HX := Lib.hid (And.intro hF (And.intro hO hKD))
    have c1 := Mem.box_cell hF.tail.head
    have c2 := Mem.box_cell hF.tail.tail.head
    clear hF hO hKD hseq hK hKw
    gi_wp2
    obtain ⟨hF, hO, hKD⟩ := HX.out
    refine ret1 rfl (v := .tuple #[.string (vic s but).1, .bool (vic s but).2]) hKD ?_ ⟨rfl, putObj_below (hb2.trans (hO.below hb2.size (fun _ e => e))) _ (by omega)⟩
    have q1 : (W.putObj D (.deferred none)).cell? ⟨w.heap.size + 1, 0, none⟩ = some (.string (vic s but).1) := by
      rw [putObj_cell _ (by simp; omega)]; exact c1
    have q2 : (W.putObj D (.deferred none)).cell? ⟨w.heap.size + 1 + 1, 0, none⟩ = some (.bool (vic s but).2) := by
      rw [putObj_cell _ (by simp; omega)]; exact c2
    simp [results, Tryz.results96, go_sem, q1, q2]
  case body =>
    rintro l i x W hl _ ⟨⟨hO, hZ⟩, hF, hT⟩ hx
    have c0 := Mem.box_cell hF.head
    have c1 := Mem.box_cell hF.tail.head
    have c2 := Mem.box_cell hF.tail.tail.head
    have f1 := Mem.box_free hF.tail.head
    have f2 := Mem.box_free hF.tail.tail.head
    have HX := Lib.hid (And.intro hF (And.intro hT (And.intro hx (And.intro hO hZ))))
    clear hF hT hx hO hZ hl
    by_cases hxb : x = but
    · have hse := str_eq but
      subst hxb
      gi_wp2
      obtain ⟨hF, hT, hx, hO, hZ⟩ := HX.out
      refine ⟨⟨Nat.le_refl _, fun _ _ _ h _ => h⟩, Keep.refl _ _, ⟨hO, hZ⟩, hF, fun y hy => ?_⟩
      rw [List.take_add_one, hx] at hy
      rcases List.mem_append.1 hy with hy | hy
      · exact hT y hy
      · simpa using hy
    · have hse := str_ne hxb
      have HN := Lib.hid hxb
      clear hxb
      gi_wp2
      obtain ⟨hF, hT, hx, hO, hZ⟩ := HX.out
      have hv := vic_some hx hT HN.out
      have hO1 : Only (fun j => j = w.heap.size + 1 ∨ j = w.heap.size + 1 + 1) W ((W.setCell ⟨w.heap.size + 1, 0, none⟩ (.string x)).setCell ⟨w.heap.size + 1 + 1, 0, none⟩ (.bool true)) :=
        ((Only.refl _ W).setCell (p := ⟨w.heap.size + 1, 0, none⟩) (.inl (.inl rfl)) _).setCell (p := ⟨w.heap.size + 1 + 1, 0, none⟩) (.inl (.inr rfl)) _
      refine ⟨hO1.keepsFrom (fun j e => by omega), rfl, hO.trans (hO1.mono fun j e => by omega) (Grows.refl _ _), ?_⟩
      rw [hv]
      have h0 : (W.setCell ⟨w.heap.size + 1, 0, none⟩ (.string x)).setCell ⟨w.heap.size + 1 + 1, 0, none⟩ (.bool true) = (W.setCell ⟨w.heap.size + 1, 0, none⟩ (.string x)).setCell ⟨w.heap.size + 1 + 1, 0, none⟩ (.bool true) := rfl
      refine Fix.cons ((set_far (by simp; omega)).trans ((set_far (by simp)).trans hF.head)) (Fix.cons ((set_far (by simp)).trans (Mem.box_set hF.tail.head (.string x))) (Fix.cons ?_ (Fix.nil _)))
      exact Mem.box_set (W := W.setCell ⟨w.heap.size + 1, 0, none⟩ (.string x)) ((set_far (by simp)).trans hF.tail.tail.head) (.bool true)
  case done =>
    rintro D W hD ⟨⟨hO, hZ⟩, hF, hT⟩ hKD
    rw [List.take_of_length_le (Nat.le_refl _)] at hT
    have hv := vic_none hT
    have c1 := Mem.box_cell hF.tail.head
    have c2 := Mem.box_cell hF.tail.tail.head
    have f1 := Mem.box_free hF.tail.head
    have f2 := Mem.box_free hF.tail.tail.head
    have HX := Lib.hid (And.intro hF (And.intro hO (And.intro hv hKD)))
    clear hF hT hO hv hKD hseq hK hKw
    gi_wp2
    obtain ⟨hF, hO, hv, hKD⟩ := HX.out
    have hO1 : Only (fun j => w.heap.size ≤ j) w2 ((W.setCell ⟨w.heap.size + 1, 0, none⟩ (.string ⟨#[]⟩)).setCell ⟨w.heap.size + 1 + 1, 0, none⟩ (.bool false)) :=
      (hO.setCell (p := ⟨w.heap.size + 1, 0, none⟩) (.inl (by simp)) _).setCell (p := ⟨w.heap.size + 1 + 1, 0, none⟩) (.inl (by simp; omega)) _
    have d1 : ((W.setCell ⟨w.heap.size + 1, 0, none⟩ (.string ⟨#[]⟩)).setCell ⟨w.heap.size + 1 + 1, 0, none⟩ (.bool false)).heap[w.heap.size + 1]? = some (.cells #[.string ⟨#[]⟩] 9 (0, 0)) := (set_far (by simp)).trans (Mem.box_set hF.tail.head _)
    have d2 : ((W.setCell ⟨w.heap.size + 1, 0, none⟩ (.string ⟨#[]⟩)).setCell ⟨w.heap.size + 1 + 1, 0, none⟩ (.bool false)).heap[w.heap.size + 1 + 1]? = some (.cells #[.bool false] 4 (0, 0)) :=
      Mem.box_set (W := W.setCell ⟨w.heap.size + 1, 0, none⟩ (.string ⟨#[]⟩)) ((set_far (by simp)).trans hF.tail.tail.head) _
    have d3 : ((W.setCell ⟨w.heap.size + 1, 0, none⟩ (.string ⟨#[]⟩)).setCell ⟨w.heap.size + 1 + 1, 0, none⟩ (.bool false)).heap[D]? = some (.deferred (some [])) := (set_far (by simp; omega)).trans ((set_far (by simp; omega)).trans hKD)
    generalize (W.setCell ⟨w.heap.size + 1, 0, none⟩ (.string ⟨#[]⟩)).setCell ⟨w.heap.size + 1 + 1, 0, none⟩ (.bool false) = W9 at *
    refine ret1 rfl (v := .tuple #[.string ⟨#[]⟩, .bool false]) d3 ?_ ⟨by rw [hv]; rfl, putObj_below (hb2.trans (hO1.below hb2.size (fun _ e => e))) _ (by omega)⟩
    have q1 : (W9.putObj D (.deferred none)).cell? ⟨w.heap.size + 1, 0, none⟩ = some (.string ⟨#[]⟩) := by
      rw [putObj_cell _ (by simp; omega)]; exact Mem.box_cell d1
    have q2 : (W9.putObj D (.deferred none)).cell? ⟨w.heap.size + 1 + 1, 0, none⟩ = some (.bool false) := by
      rw [putObj_cell _ (by simp; omega)]; exact Mem.box_cell d2
    simp [results, Tryz.results96, go_sem, q1, q2]
end Go.Proofs.YtodoglljjhdbeaaGreatDoor.Slru

/- Layer 9: the table in memory; New, Len, Left, Buckets. -/
namespace Go.Proofs.YtodoglljjhdbeaaGreatDoor.TabE
open Go Go.RowKit Go.Proofs.YtodoglljjhdbeaaGreatDoor.Mem Go.Proofs.YtodoglljjhdbeaaGreatDoor.Tab

abbrev V := Nat
abbrev encV (v : V) : Value := (.pointer (some ⟨v, 0, none⟩))
def pairCells (p : ByteArray × V) : List Value := [.string p.1, (.pointer (some ⟨p.2, 0, none⟩))]
def cellsP (l : Pairs V) : List Value := l.flatMap pairCells
theorem cellsP_cons (p : ByteArray × V) (l : Pairs V) : cellsP (p :: l) = .string p.1 :: (.pointer (some ⟨p.2, 0, none⟩)) :: cellsP l := rfl
theorem cellsP_app (l m : Pairs V) : cellsP (l ++ m) = cellsP l ++ cellsP m := by simp [cellsP]
theorem cellsP_len (l : Pairs V) : (cellsP l).length = l.length * 2 := by
  induction l with
  | nil => rfl
  | cons p l ih => rw [cellsP_cons, List.length_cons, List.length_cons, List.length_cons, ih]; omega
theorem cellsP_get : ∀ (l : Pairs V) (k : Nat) (p : ByteArray × V), l[k]? = some p → (cellsP l)[k * 2]? = some (.string p.1) ∧ (cellsP l)[k * 2 + 1]? = some (.pointer (some ⟨p.2, 0, none⟩))
  | [], k, p, h => by simp at h
  | d :: l, 0, p, h => by
    simp at h; subst h; exact ⟨rfl, rfl⟩
  | d :: l, k + 1, p, h => by
    have := cellsP_get l k p (by simpa using h)
    rw [cellsP_cons]
    refine ⟨?_, ?_⟩
    · rw [show (k + 1) * 2 = k * 2 + 1 + 1 from by omega, List.getElem?_cons_succ, List.getElem?_cons_succ]; exact this.1
    · rw [show (k + 1) * 2 + 1 = k * 2 + 1 + 1 + 1 from by omega, List.getElem?_cons_succ, List.getElem?_cons_succ]; exact this.2
theorem one_cellsP (l : Pairs V) : ∀ u ∈ cellsP l, u.oneCell' = true := fun u hu => by
  simp only [cellsP, pairCells, List.mem_flatMap] at hu
  obtain ⟨p, _, hp⟩ := hu
  rcases List.mem_cons.1 hp with rfl | hp
  · rfl
  · have : u = (.pointer (some ⟨p.2, 0, none⟩)) := by simpa using hp
    subst this; rfl

/-- The bucket's place for a text, as a number. -/
def hN (seed : Int) (k : ByteArray) : Nat := (Hash.ofI seed k.data.toList).toNat
theorem below_hN {seed : Int} (h0 : 0 ≤ seed) (h1 : seed < 18446744073709551616) (k : ByteArray) {n : Nat} (hn : 0 < n) : Hash.belowI (Hash.ofI seed k.data.toList) (n : Int) = ((hN seed k % n : Nat) : Int) := by
  have := Hash.ofI_range k.data.toList h0 h1
  unfold Hash.belowI hN
  rw [if_neg (by omega), Int.natCast_emod, Int.toNat_of_nonneg this.1]
theorem below_zero (x : Int) : Hash.belowI x ((0 : Nat) : Int) = 0 := by unfold Hash.belowI; rfl

def tabObj (seed : Int) (ev nv : Value) (left many : Int) : Obj := .cells #[.int .u64 seed, ev, nv, .int .i64 left, .int .i64 many] 93 (0, 0)
abbrev OwnP (w : World) (v : Value) (l : Pairs V) : Prop := w.ownsRow 0 136 2 v l.length (cellsP l)
abbrev bkObj (a : Array Value) : Obj := .cells a 138 (0, 0)

structure AtW (w : World) (b : Nat) (F : Nat → Prop) (seed : Int) (c : Con V) (many : Nat) (ea : Option Addr) (eb nb : Nat) (gv : Nat → Value) : Prop where
  blk : w.heap[b]? = some (tabObj seed (.slice ea c.E c.E) (.slice (some ⟨nb, 0, none⟩) c.N c.N) c.left many)
  eo : (c.E = 0 ∧ ea = none) ∨ (ea = some ⟨eb, 0, none⟩ ∧ F eb ∧ eb ≠ nb ∧ ∃ a, w.heap[eb]? = some (bkObj a) ∧ a.size = c.E ∧ ∀ k, k < c.E → a[k]? = some (gv k))
  no : ∃ a, w.heap[nb]? = some (bkObj a) ∧ a.size = c.N ∧ ∀ k, k < c.N → a[k]? = some (gv (c.E + k))
  rows : ∀ k, k < c.E + c.N → OwnP w (gv k) (c.bs k)
  fb : F b
  fn : F nb
  fr : ∀ k, k < c.E + c.N → ∀ g, (gv k).ownBlock = some g → F g
  apart : ∀ j k, j < c.E + c.N → k < c.E + c.N → j ≠ k → ∀ g, (gv j).ownBlock = some g → (gv k).ownBlock ≠ some g
  lt : ∀ k, F k → k < w.heap.size

/-- The address of a bucket. -/
def adr (c : Con V) (eb nb k : Nat) : Addr := if k < c.E then ⟨eb, k, none⟩ else ⟨nb, k - c.E, none⟩

section
variable {w w' : World} {b : Nat} {F G : Nat → Prop} {seed : Int} {c : Con V} {many : Nat} {ea : Option Addr} {eb nb : Nat} {gv : Nat → Value}
theorem row_same {base : Nat} {e : TypeId} {size n : Nat} {v : Value} {xs : List Value} (h : w.ownsRow base e size v n xs) (hs : ∀ g, v.ownBlock = some g → w'.heap[g]? = w.heap[g]?) : w'.ownsRow base e size v n xs := by
  refine ⟨h.1, ?_⟩
  rcases h.2 with h1 | ⟨g, cap, cur, h1, h2, h3, h4⟩
  · exact .inl h1
  · exact .inr ⟨g, cap, cur, h1, h2, (hs g (by rw [h1]; rfl)).trans h3, h4⟩
theorem own_lt {base : Nat} {e : TypeId} {size n : Nat} {v : Value} {xs : List Value} (h : w.ownsRow base e size v n xs) : ∀ g, v.ownBlock = some g → base ≤ g ∧ g < w.heap.size := fun g e => by
  rcases h.2 with ⟨e1, _⟩ | ⟨g', cap, cur, e1, h2, e2, _⟩
  · rw [e1] at e; cases e
  · rw [e1] at e
    have : g' = g := by simpa [Value.ownBlock] using e
    subst this
    exact ⟨h2, (Array.getElem?_eq_some_iff.1 e2).1⟩
theorem row_not {e t : TypeId} {base size n k : Nat} {v : Value} {xs : List Value} {cs : Array Value} (h : w.ownsRow base e size v n xs) (hk : w.heap[k]? = some (.cells cs t (0, 0))) (hne : e ≠ t) : v.ownBlock ≠ some k := fun e1 => by
  rcases h.2 with ⟨q, _⟩ | ⟨g1, cap, cur, q, _, b1, _⟩
  · rw [q] at e1; cases e1
  · rw [q] at e1
    have : g1 = k := by simpa [Value.ownBlock] using e1
    subst this
    rw [b1] at hk
    injection hk with hk
    injection hk with _ hk
    exact hne hk
theorem AtW.row_b (h : AtW w b F seed c many ea eb nb gv) {k : Nat} (hk : k < c.E + c.N) : (gv k).ownBlock ≠ some b := row_not (h.rows k hk) h.blk (by decide)
theorem AtW.row_n (h : AtW w b F seed c many ea eb nb gv) {k : Nat} (hk : k < c.E + c.N) : (gv k).ownBlock ≠ some nb := by
  obtain ⟨a, ha, _⟩ := h.no
  exact row_not (h.rows k hk) ha (by decide)
theorem AtW.ne_bn (h : AtW w b F seed c many ea eb nb gv) : b ≠ nb := fun e => by
  obtain ⟨a, ha, _⟩ := h.no
  rw [← e, h.blk] at ha
  injection ha with ha
  injection ha with _ ha
  exact absurd ha (by decide)
theorem AtW.ne_be (h : AtW w b F seed c many ea eb nb gv) (hE : 0 < c.E) : b ≠ eb := fun e => by
  rcases h.eo with ⟨h0, _⟩ | ⟨_, _, _, a, ha, _⟩
  · omega
  · rw [← e, h.blk] at ha
    injection ha with ha
    injection ha with _ ha
    exact absurd ha (by decide)
theorem AtW.row_e (h : AtW w b F seed c many ea eb nb gv) (hE : 0 < c.E) {k : Nat} (hk : k < c.E + c.N) : (gv k).ownBlock ≠ some eb := by
  rcases h.eo with ⟨h0, _⟩ | ⟨_, _, _, a, ha, _⟩
  · omega
  · exact row_not (h.rows k hk) ha (by decide)
theorem AtW.same (h : AtW w b F seed c many ea eb nb gv) (hs : ∀ k, F k → w'.heap[k]? = w.heap[k]?) (hz : w.heap.size ≤ w'.heap.size) : AtW w' b F seed c many ea eb nb gv := by
  refine ⟨(hs _ h.fb).trans h.blk, ?_, ?_, fun k hk => row_same (h.rows k hk) fun g e => hs g (h.fr k hk g e), h.fb, h.fn, h.fr, h.apart, fun k hk => Nat.lt_of_lt_of_le (h.lt k hk) hz⟩
  · rcases h.eo with h0 | ⟨h1, h2, h3, a, h4, h5⟩
    · exact .inl h0
    · exact .inr ⟨h1, h2, h3, a, (hs _ h2).trans h4, h5⟩
  · obtain ⟨a, h1, h2⟩ := h.no
    exact ⟨a, (hs _ h.fn).trans h1, h2⟩
theorem AtW.below (h : AtW w b F seed c many ea eb nb gv) (hb : Below w.heap.size w w') : AtW w' b F seed c many ea eb nb gv := h.same (fun k hk => hb.block k (h.lt k hk)) hb.size
theorem AtW.only (h : AtW w b F seed c many ea eb nb gv) (ho : Only G w w') (hd : ∀ k, F k → ¬ G k) : AtW w' b F seed c many ea eb nb gv := h.same (fun k hk => ho.same k (h.lt k hk) (hd k hk)) ho.size
/-- A bucket's cell. -/
theorem AtW.loc (h : AtW w b F seed c many ea eb nb gv) {k : Nat} (hk : k < c.E + c.N) : ∃ g i, adr c eb nb k = ⟨g, i, none⟩ ∧ F g ∧ w.cell? ⟨g, i, none⟩ = some (gv k) ∧ w.frozen? ⟨g, i, none⟩ = false ∧ g ≠ b ∧ ∀ j, j < c.E + c.N → (gv j).ownBlock ≠ some g := by
  unfold adr
  by_cases hE : k < c.E
  · rw [if_pos hE]
    rcases h.eo with ⟨h0, _⟩ | ⟨_, h2, _, a, ha, _, hc⟩
    · omega
    · exact ⟨eb, k, rfl, h2, (Mem.row_cell ha k).trans (hc k hE), Mem.row_free ha k, Ne.symm (h.ne_be (by omega)), fun j hj => h.row_e (by omega) hj⟩
  · rw [if_neg hE]
    obtain ⟨a, ha, _, hc⟩ := h.no
    refine ⟨nb, k - c.E, rfl, h.fn, (Mem.row_cell ha _).trans ?_, Mem.row_free ha _, Ne.symm h.ne_bn, fun j hj => h.row_n hj⟩
    have := hc (k - c.E) (by omega)
    rwa [show c.E + (k - c.E) = k from by omega] at this
def updv (gv : Nat → Value) (k : Nat) (v : Value) : Nat → Value := fun j => if j = k then v else gv j
@[simp] theorem updv_same (gv : Nat → Value) (k : Nat) (v : Value) : updv gv k v k = v := by simp [updv]
theorem updv_other (gv : Nat → Value) {k j : Nat} (v : Value) (h : j ≠ k) : updv gv k v j = gv j := by simp [updv, h]
theorem arr_set {a : Array Value} {n i : Nat} {f : Nat → Value} (v : Value) (hs : a.size = n) (_hi : i < n) (hc : ∀ k, k < n → a[k]? = some (f k)) : (a.setIfInBounds i v).size = n ∧ ∀ k, k < n → (a.setIfInBounds i v)[k]? = some (if k = i then v else f k) := by
  refine ⟨by simpa using hs, fun k hk => ?_⟩
  rw [Array.getElem?_setIfInBounds]
  by_cases e : i = k
  · subst e; simp [hs, hk]
  · rw [if_neg e, if_neg (Ne.symm e)]; exact hc k hk
/-- A bucket gets a new row: what else is the table's lay as it lay. -/
theorem AtW.setRow (h : AtW w b F seed c many ea eb nb gv) {k : Nat} (hk : k < c.E + c.N) {v : Value} {x : Pairs V} (hs : ∀ j, F j → (gv k).ownBlock ≠ some j → w'.heap[j]? = w.heap[j]?) (hz : w.heap.size ≤ w'.heap.size)
    (hown : OwnP w' v x) (hat : ∀ g, v.ownBlock = some g → (gv k).ownBlock = some g ∨ w.heap.size ≤ g) :
    AtW (w'.setCell (adr c eb nb k) v) b (fun j => F j ∨ v.ownBlock = some j) seed (c.set k x) many ea eb nb (updv gv k v) := by
  obtain ⟨g0, i0, hadr, hF0, hc0, _, hgb, hgr⟩ := h.loc hk
  have hnv : v.ownBlock ≠ some g0 := fun e => (hat g0 e).elim (hgr k hk) (fun e1 => by have := h.lt g0 hF0; omega)
  have hset : ∀ j, j ≠ g0 → (w'.setCell (adr c eb nb k) v).heap[j]? = w'.heap[j]? := fun j hj => Below.heap_setCell _ _ _ _ (by rw [hadr]; exact hj)
  have hz2 : (w'.setCell (adr c eb nb k) v).heap.size = w'.heap.size := by simp [World.setCell]
  have hold : ∀ j, F j → j ≠ g0 → (gv k).ownBlock ≠ some j → (w'.setCell (adr c eb nb k) v).heap[j]? = w.heap[j]? := fun j h1 h2 h3 => (hset j h2).trans (hs j h1 h3)
  have hvb : v.ownBlock ≠ some b := fun e => (hat b e).elim (h.row_b hk) (fun e1 => by have := h.lt b h.fb; omega)
  refine ⟨(hold b h.fb (Ne.symm hgb) (h.row_b hk)).trans h.blk, ?_, ?_, fun j hj => ?_, .inl h.fb, .inl h.fn, fun j hj g e => ?_, fun i j hi hj hij g e e' => ?_, fun j hj => ?_⟩
  · rcases h.eo with h0 | ⟨h1, h2, h3, a, ha, hsz, hc⟩
    · exact .inl h0
    · refine .inr ⟨h1, .inl h2, h3, ?_⟩
      have hE : 0 < c.E ∨ c.E = 0 := by omega
      by_cases hke : k < c.E
      · have e1 : (⟨eb, k, none⟩ : Addr) = ⟨g0, i0, none⟩ := by rw [← hadr]; unfold adr; rw [if_pos hke]
        injection e1 with e1 e2
        obtain ⟨q1, q2⟩ := arr_set v hsz hke hc
        refine ⟨_, ?_, q1, fun j hj => q2 j hj⟩
        rw [hadr, ← e1, ← e2]
        exact Mem.row_set ((hs eb h2 (h.row_e (by omega) hk)).trans ha) k v
      · have e1 : (⟨nb, k - c.E, none⟩ : Addr) = ⟨g0, i0, none⟩ := by rw [← hadr]; unfold adr; rw [if_neg hke]
        injection e1 with e1 e2
        refine ⟨a, ?_, hsz, fun j hj => ?_⟩
        · refine (hset eb (by rw [← e1]; exact h3)).trans ((hs eb h2 (fun e => ?_)).trans ha)
          exact row_not (h.rows k hk) ha (by decide) e
        · rw [updv_other _ _ (by have : j < c.E := hj; omega)]; exact hc j hj
  · obtain ⟨a, ha, hsz, hc⟩ := h.no
    by_cases hke : k < c.E
    · have e1 : (⟨eb, k, none⟩ : Addr) = ⟨g0, i0, none⟩ := by rw [← hadr]; unfold adr; rw [if_pos hke]
      injection e1 with e1 e2
      have hne : nb ≠ g0 := by
        rcases h.eo with ⟨h0, _⟩ | ⟨_, _, h3, _⟩
        · omega
        · rw [← e1]; exact Ne.symm h3
      refine ⟨a, (hold nb h.fn hne (h.row_n hk)).trans ha, hsz, fun j hj => ?_⟩
      rw [updv_other _ _ (by show c.E + j ≠ k; omega)]; exact hc j hj
    · have e1 : (⟨nb, k - c.E, none⟩ : Addr) = ⟨g0, i0, none⟩ := by rw [← hadr]; unfold adr; rw [if_neg hke]
      injection e1 with e1 e2
      obtain ⟨q1, q2⟩ := arr_set (f := fun j => gv (c.E + j)) v hsz (show k - c.E < c.N by omega) hc
      refine ⟨_, ?_, q1, fun j hj => ?_⟩
      · rw [hadr, ← e1, ← e2]
        exact Mem.row_set ((hs nb h.fn (h.row_n hk)).trans ha) (k - c.E) v
      · rw [q2 j hj]
        unfold updv
        show some (if j = k - c.E then v else gv (c.E + j)) = some (if c.E + j = k then v else gv (c.E + j))
        by_cases e : j = k - c.E
        · rw [if_pos e, if_pos (by omega)]
        · rw [if_neg e, if_neg (by omega)]
  · show OwnP _ (updv gv k v j) (upd c.bs k x j)
    by_cases e : j = k
    · subst e
      rw [updv_same, upd_same]
      exact row_same hown fun g e => hset g (fun e1 => hnv (e1 ▸ e))
    · rw [updv_other _ _ e, upd_other _ _ e]
      exact row_same (h.rows j hj) fun g e' => hold g (h.fr j hj g e') (fun e1 => hgr j hj (e1 ▸ e')) (h.apart j k hj hk e g e')
  · by_cases e1 : j = k
    · subst e1; rw [updv_same] at e; exact .inr e
    · rw [updv_other _ _ e1] at e; exact .inl (h.fr j hj g e)
  · by_cases e1 : i = k
    · subst e1
      rw [updv_same] at e
      rw [updv_other _ _ (Ne.symm hij)] at e'
      exact (hat g e).elim (fun e2 => h.apart i j hi hj hij g e2 e') (fun e2 => by have := h.lt g (h.fr j hj g e'); omega)
    · rw [updv_other _ _ e1] at e
      by_cases e2 : j = k
      · subst e2
        rw [updv_same] at e'
        exact (hat g e').elim (fun e2 => h.apart i j hi hj hij g e e2) (fun e2 => by have := h.lt g (h.fr i hi g e); omega)
      · rw [updv_other _ _ e2] at e'
        exact h.apart i j hi hj hij g e e'
  · rw [hz2]
    exact hj.elim (fun e => Nat.lt_of_lt_of_le (h.lt j e) hz) (fun e => (own_lt hown j e).2)
/-- The struct's numbers turn. -/
theorem AtW.setBlk (h : AtW w b F seed c many ea eb nb gv) (l' m' : Nat) (hb : w'.heap[b]? = some (tabObj seed (.slice ea c.E c.E) (.slice (some ⟨nb, 0, none⟩) c.N c.N) l' m')) (hs : ∀ j, j ≠ b → w'.heap[j]? = w.heap[j]?) (hz : w.heap.size ≤ w'.heap.size) :
    AtW w' b F seed { c with left := l' } m' ea eb nb gv := by
  refine ⟨hb, ?_, ?_, fun k hk => row_same (h.rows k hk) fun g e => hs g (fun e1 => h.row_b hk (e1 ▸ e)), h.fb, h.fn, h.fr, h.apart, fun k hk => Nat.lt_of_lt_of_le (h.lt k hk) hz⟩
  · rcases h.eo with h0 | ⟨h1, h2, h3, a, h4, h5⟩
    · exact .inl h0
    · refine .inr ⟨h1, h2, h3, a, (hs _ (fun e => ?_)).trans h4, h5⟩
      rw [e, h.blk] at h4
      injection h4 with h4
      injection h4 with _ h4
      exact absurd h4 (by decide)
  · obtain ⟨a, h1, h2⟩ := h.no
    exact ⟨a, (hs _ (Ne.symm h.ne_bn)).trans h1, h2⟩
end

/-- A table in state s lies at block b, its memory the blocks F. -/
def At (w : World) (b : Nat) (F : Nat → Prop) (seed : Int) (s : St V) : Prop := ∃ c ea eb nb gv, AtW w b F seed c s.L.length ea eb nb gv ∧ Abs (hN seed) c s.L ∧ c.E ≤ c.N ∧ c.N = s.buckets ∧ c.left = s.left ∧ ∀ p ∈ s.L, p.1.size ≤ maxLen
section
variable {w w' : World} {b : Nat} {F G : Nat → Prop} {seed : Int} {s : St V}
theorem At.lt (h : At w b F seed s) : ∀ k, F k → k < w.heap.size := by obtain ⟨_, _, _, _, _, h, _⟩ := h; exact h.lt
theorem At.fb (h : At w b F seed s) : F b := by obtain ⟨_, _, _, _, _, h, _⟩ := h; exact h.fb
theorem At.same (h : At w b F seed s) (hs : ∀ k, F k → w'.heap[k]? = w.heap[k]?) (hz : w.heap.size ≤ w'.heap.size) : At w' b F seed s := by
  obtain ⟨c, ea, eb, nb, gv, h, h'⟩ := h
  exact ⟨c, ea, eb, nb, gv, h.same hs hz, h'⟩
theorem At.below (h : At w b F seed s) (hb : Below w.heap.size w w') : At w' b F seed s := h.same (fun k hk => hb.block k (h.lt k hk)) hb.size
theorem At.only (h : At w b F seed s) (ho : Only G w w') (hd : ∀ k, F k → ¬ G k) : At w' b F seed s := h.same (fun k hk => ho.same k (h.lt k hk) (hd k hk)) ho.size
theorem At.rise (h : At w b F seed s) : Rising s.L := by obtain ⟨_, _, _, _, _, _, h, _⟩ := h; exact h.rise
end
theorem infoBk : (Tryz.prog.info? 138).map (fun i => (i.zero, i.size, i.bytes)) = some (some (.slice none 0 0), 1, 24) := by kernel_rfl
theorem infoPair : (Tryz.prog.info? 136).map (fun i => (i.zero, i.size, i.bytes)) = some (some (.agg #[.string ⟨#[]⟩, (.pointer none)]), 2, 24) := by kernel_rfl
theorem made_nil {n : Nat} {cur : Array Value} (hs : cur.size = n * 1) (ht : cur.toList.take (n * 1) = (madeCells (Value.slice none 0 0).cells (n * 1)).toList) : ∀ k, k < n → cur[k]? = some (.slice none 0 0) := fun k hk => by
  have h1 : cur.toList.take (n * 1) = cur.toList := List.take_of_length_le (by simp [hs])
  rw [h1] at ht
  have h2 : cur[k]? = cur.toList[k]? := by simp
  rw [h2, ht]
  simp [madeCells, Value.cells, hk, Nat.mod_one]
def NewPost (w : World) (seed : Int) (e : Ending) (w' : World) : Prop :=
  ∃ (b : Nat) (F : Nat → Prop), e = .returned (.pointer (some ⟨b, 0, none⟩)) ∧ At w' b F seed new ∧ (∀ k, F k → w.heap.size ≤ k) ∧ Below w.heap.size w w'
set_option maxRecDepth 100000 in
set_option maxHeartbeats 1000000 in
theorem new_any (seed : Int) (w : World) : Calls Tryz.prog 24 #[.int .u64 seed] w (NewPost w seed) := by
  obtain ⟨i0, hi, hz0, hz1, hz2⟩ := info_parts infoBk
  have hfin : ∀ w1, w1.ownsRow w.heap.size 138 1 (.slice (some ⟨w.heap.size, 0, none⟩) 8 8) 8 (madeCells (Value.slice none 0 0).cells (8 * 1)).toList → w.grownBy w1 none →
      NewPost w seed (.returned (.pointer (some ⟨w1.heap.size, 0, none⟩))) (w1.alloc (tabObj seed (.slice none 0 0) (.slice (some ⟨w.heap.size, 0, none⟩) 8 8) 0 0)) := fun w1 hown hg => by
    rcases hown.2 with ⟨e, _⟩ | ⟨g, cap, cur, e, _, hgb, _, _, hsz, htk⟩
    · cases e
    injection e with e _ e2
    injection e with e
    injection e with e
    subst e; subst e2
    have hlt := (Array.getElem?_eq_some_iff.1 hgb).1
    have hle := hg.size
    refine ⟨_, fun k => k = w.heap.size ∨ k = w1.heap.size, rfl, ⟨⟨0, 8, 0, fun _ => []⟩, none, 0, w.heap.size, fun _ => .slice none 0 0, ⟨Mem.new_block _ _, .inl ⟨rfl, rfl⟩, ⟨cur, (Below.heap_alloc _ _ _ hlt).trans hgb, hsz, made_nil hsz htk⟩, fun k _ => World.ownsRow_nil _ _ _ _, .inr rfl, .inl rfl, fun k _ g e => (by cases e), fun j k _ _ _ g e => (by cases e), ?_⟩, abs_new _, Nat.zero_le _, rfl, rfl, fun p hp => by cases hp⟩, ?_, ?_⟩
    · rintro k (rfl | rfl) <;> simp <;> omega
    · rintro k (rfl | rfl) <;> omega
    · exact ((Below.refl _ w).grown hg (Nat.le_refl _) (fun j hj => by cases hj)).alloc hle _
  have HF := Lib.hid hfin
  clear hfin
  go_enter Tryz.func24, Tryz.ntmps24
  go_wp2_with (at_make; refine wpList_make_full _ rfl _ _ _ rfl w.heap.size 138 i0 _ 1 Tryz.underlying91 hi hz0 hz1 .i64 .i64 8 8 8 rfl rfl rfl rfl (by rw [hz2]; omega) (by unfold maxLen; omega) (Nat.le_refl _) ?_; intro w1 hown hg; have H1 := Lib.hid (HF.out w1 hown hg); clear hown hg)
  go_ret
  exact H1.out
end Go.Proofs.YtodoglljjhdbeaaGreatDoor.TabE

/- A quiet call behind a quiet region: the world has drawn already. -/
namespace Go.Proofs.YtodoglljjhdbeaaGreatDoor.Qt
open Go
section
variable {P : Program} {f : FuncId} {args : Array Value} {w : World} {a n : Nat} {v : Value}
theorem add (h : Calls P f args (w.drewN (a + n)) fun e w' => e = .returned v ∧ ∃ m, w' = (w.drewN (a + n)).drewN m) :
    Calls P f args (w.drewN (a + n)) fun e w'' => e = .returned v ∧ ∃ m, w'' = w.drewN (a + m) :=
  h.mono fun _ _ ⟨he, m, hm⟩ => ⟨he, n + m, by rw [hm, World.drewN_drewN, Nat.add_assoc]⟩
theorem add_left (h : Calls P f args (w.drewN (a + n)) fun e w' => e = .returned v ∧ w.drewN (a + n) = w') :
    Calls P f args (w.drewN (a + n)) fun e w'' => e = .returned v ∧ ∃ m, w'' = w.drewN (a + m) :=
  h.mono fun _ _ ⟨he, hm⟩ => ⟨he, n, hm.symm⟩
theorem left (h : Calls P f args (w.drewN n) fun e w' => e = .returned v ∧ w.drewN n = w') : Calls P f args (w.drewN n) fun e w'' => e = .returned v ∧ ∃ m, w'' = w.drewN m :=
  h.mono fun _ _ ⟨he, hm⟩ => ⟨he, n, hm.symm⟩
end
end Go.Proofs.YtodoglljjhdbeaaGreatDoor.Qt

/- Layer 9: a text's bucket. -/
namespace Go.Proofs.YtodoglljjhdbeaaGreatDoor.TabE
open Go Go.RowKit Go.Proofs.YtodoglljjhdbeaaGreatDoor.Mem Go.Proofs.YtodoglljjhdbeaaGreatDoor.Tab

theorem idx_elder {H : ByteArray → Nat} {c : Con V} {k : ByteArray} (h : 0 < c.left ∧ c.E - c.left ≤ H k % c.E) (eb nb : Nat) : adr c eb nb (c.idx H k) = ⟨eb, H k % c.E, none⟩ ∨ c.E = 0 := by
  by_cases hE : c.E = 0
  · exact .inr hE
  · refine .inl ?_
    have : H k % c.E < c.E := Nat.mod_lt _ (by omega)
    unfold Con.idx adr
    rw [if_pos h, if_pos this]
theorem idx_now {H : ByteArray → Nat} {c : Con V} {k : ByteArray} (h : ¬ (0 < c.left ∧ c.E - c.left ≤ H k % c.E)) (eb nb : Nat) : adr c eb nb (c.idx H k) = ⟨nb, H k % c.N, none⟩ := by
  unfold Con.idx adr
  rw [if_neg h, if_neg (by omega), Nat.add_sub_cancel_left]

def OfAt (w : World) (p : Addr) (e : Ending) (w' : World) : Prop := e = .returned (.pointer (some p)) ∧ ∃ d, w' = w.drewN d
set_option maxRecDepth 100000 in
set_option maxHeartbeats 1000000 in
theorem of_elder {w : World} {b eb : Nat} {seed : Int} {k : ByteArray} {x : Int} (E lf y : Nat) (c0 : w.cell? ⟨b, 0, none⟩ = some (.int .u64 seed)) (c1 : w.cell? ⟨b, 1, none⟩ = some (.slice (some ⟨eb, 0, none⟩) E E)) (c3 : w.cell? ⟨b, 3, none⟩ = some (.int .i64 lf))
    (hof : ∀ w, Calls Tryz.prog 93 #[.int .u64 seed, .string k] w fun e w' => e = .returned (.int .u64 x) ∧ w = w')
    (hbE : ∀ w, Calls Tryz.prog 72 #[.int .u64 x, .int .i64 E] w fun e w' => e = .returned (.int .i64 (y : Nat)) ∧ w = w')
    (hl2 : (y : Int) < E) (hw : IntKind.i64.wrap ((E : Int) - lf) = (E : Int) - lf) (hd1 : decide (0 < lf) = true) (hd2 : decide ((E : Int) - lf ≤ y) = true) :
    Calls Tryz.prog 89 #[.pointer (some ⟨b, 0, none⟩), .string k] w (OfAt w ⟨eb, y, none⟩) := by
  unfold OfAt
  go_enter Tryz.func89, Tryz.ntmps89
  go_wp2_with (first | (go_at_call 93; refine (hof _).mono ?_; rintro e w' ⟨rfl, rfl⟩) | (go_at_call 72; refine (hbE _).mono ?_; rintro e w' ⟨rfl, rfl⟩))
  go_quiet (fail)
  go_wp2
  go_ret
  exact ⟨rfl, _, rfl⟩
set_option maxRecDepth 100000 in
set_option maxHeartbeats 1000000 in
theorem of_now1 {w : World} {b nb : Nat} {ea : Option Addr} {seed : Int} {k : ByteArray} {x y : Int} (E lf N z : Nat) (c0 : w.cell? ⟨b, 0, none⟩ = some (.int .u64 seed)) (c1 : w.cell? ⟨b, 1, none⟩ = some (.slice ea E E)) (c2 : w.cell? ⟨b, 2, none⟩ = some (.slice (some ⟨nb, 0, none⟩) N N)) (c3 : w.cell? ⟨b, 3, none⟩ = some (.int .i64 lf))
    (hof : ∀ w, Calls Tryz.prog 93 #[.int .u64 seed, .string k] w fun e w' => e = .returned (.int .u64 x) ∧ w = w')
    (hbE : ∀ w, Calls Tryz.prog 72 #[.int .u64 x, .int .i64 E] w fun e w' => e = .returned (.int .i64 y) ∧ w = w')
    (hbN : ∀ w, Calls Tryz.prog 72 #[.int .u64 x, .int .i64 N] w fun e w' => e = .returned (.int .i64 (z : Nat)) ∧ w = w')
    (hw : IntKind.i64.wrap ((E : Int) - lf) = (E : Int) - lf) (hd1 : decide (0 < lf) = true) (hd2 : decide ((E : Int) - lf ≤ y) = false) (hz1 : (z : Int) < N) :
    Calls Tryz.prog 89 #[.pointer (some ⟨b, 0, none⟩), .string k] w (OfAt w ⟨nb, z, none⟩) := by
  unfold OfAt
  go_enter Tryz.func89, Tryz.ntmps89
  go_wp2_with (first | (go_at_call 93; refine (hof _).mono ?_; rintro e w' ⟨rfl, rfl⟩) | (go_at_call 72; refine (hbE _).mono ?_; rintro e w' ⟨rfl, rfl⟩))
  go_quiet (fail)
  go_wp2
  go_quiet ((go_at_call 72; exact Qt.add_left (hbN _)))
  go_wp2
  go_ret
  exact ⟨rfl, _, World.drewN_drewN _ _ _⟩
set_option maxRecDepth 100000 in
set_option maxHeartbeats 1000000 in
theorem of_now0 {w : World} {b nb : Nat} {ea : Option Addr} {seed : Int} {k : ByteArray} {x y : Int} (E lf N z : Nat) (c0 : w.cell? ⟨b, 0, none⟩ = some (.int .u64 seed)) (c1 : w.cell? ⟨b, 1, none⟩ = some (.slice ea E E)) (c2 : w.cell? ⟨b, 2, none⟩ = some (.slice (some ⟨nb, 0, none⟩) N N)) (c3 : w.cell? ⟨b, 3, none⟩ = some (.int .i64 lf))
    (hof : ∀ w, Calls Tryz.prog 93 #[.int .u64 seed, .string k] w fun e w' => e = .returned (.int .u64 x) ∧ w = w')
    (hbE : ∀ w, Calls Tryz.prog 72 #[.int .u64 x, .int .i64 E] w fun e w' => e = .returned (.int .i64 y) ∧ w = w')
    (hbN : ∀ w, Calls Tryz.prog 72 #[.int .u64 x, .int .i64 N] w fun e w' => e = .returned (.int .i64 (z : Nat)) ∧ w = w')
    (hd1 : decide (0 < lf) = false) (hz1 : (z : Int) < N) :
    Calls Tryz.prog 89 #[.pointer (some ⟨b, 0, none⟩), .string k] w (OfAt w ⟨nb, z, none⟩) := by
  unfold OfAt
  go_enter Tryz.func89, Tryz.ntmps89
  go_wp2_with (first | (go_at_call 93; refine (hof _).mono ?_; rintro e w' ⟨rfl, rfl⟩) | (go_at_call 72; refine (hbE _).mono ?_; rintro e w' ⟨rfl, rfl⟩))
  go_quiet (fail)
  go_wp2
  go_quiet ((go_at_call 72; exact Qt.add_left (hbN _)))
  go_wp2
  go_ret
  exact ⟨rfl, _, World.drewN_drewN _ _ _⟩
theorem of_any {w : World} {b : Nat} {F : Nat → Prop} {seed : Int} {c : Con V} {many : Nat} {ea : Option Addr} {eb nb : Nat} {gv : Nat → Value} (h : AtW w b F seed c many ea eb nb gv) (h0 : 0 ≤ seed) (h1 : seed < 18446744073709551616)
    (k : ByteArray) (hk : k.size ≤ maxLen) (hle : c.left ≤ c.E) (hp : 0 < c.N) (hE : c.E ≤ 1099511627776) (hN : c.N ≤ 1099511627776) :
    Calls Tryz.prog 89 #[.pointer (some ⟨b, 0, none⟩), .string k] w (OfAt w (adr c eb nb (c.idx (TabE.hN seed) k))) := by
  have c0 : w.cell? ⟨b, 0, none⟩ = some (.int .u64 seed) := Mem.row_cell h.blk 0
  have c1 : w.cell? ⟨b, 1, none⟩ = some (.slice ea c.E c.E) := Mem.row_cell h.blk 1
  have c2 : w.cell? ⟨b, 2, none⟩ = some (.slice (some ⟨nb, 0, none⟩) c.N c.N) := Mem.row_cell h.blk 2
  have c3 : w.cell? ⟨b, 3, none⟩ = some (.int .i64 (c.left : Nat)) := Mem.row_cell h.blk 3
  have hof := Hash.of_any seed k h0 h1 hk
  have hr := Hash.ofI_range k.data.toList h0 h1
  have hbE : ∀ w, Calls Tryz.prog 72 #[.int .u64 (Hash.ofI seed k.data.toList), .int .i64 (c.E : Nat)] w fun e w' => e = .returned (.int .i64 (if c.E = 0 then 0 else ((TabE.hN seed k % c.E : Nat) : Int))) ∧ w = w' := fun w => by
    refine (Hash.below_any _ _ hr.1 hr.2 (by omega) w).mono ?_
    rintro e w' ⟨rfl, rfl⟩
    refine ⟨?_, rfl⟩
    by_cases e : c.E = 0
    · rw [if_pos e, e, below_zero]
    · rw [if_neg e, below_hN h0 h1 k (by omega)]
  have hbN : ∀ w, Calls Tryz.prog 72 #[.int .u64 (Hash.ofI seed k.data.toList), .int .i64 (c.N : Nat)] w fun e w' => e = .returned (.int .i64 ((TabE.hN seed k % c.N : Nat) : Int)) ∧ w = w' := fun w => by
    refine (Hash.below_any _ _ hr.1 hr.2 (by omega) w).mono ?_
    rintro e w' ⟨rfl, rfl⟩
    exact ⟨by rw [below_hN h0 h1 k hp], rfl⟩
  have hmN := Nat.mod_lt (TabE.hN seed k) hp
  by_cases hc : 0 < c.left ∧ c.E - c.left ≤ TabE.hN seed k % c.E
  · have hm := Nat.mod_lt (TabE.hN seed k) (show 0 < c.E by omega)
    rw [(idx_elder hc eb nb).resolve_right (by omega)]
    rw [if_neg (by omega)] at hbE
    have hea : ea = some ⟨eb, 0, none⟩ := by
      rcases h.eo with ⟨e, _⟩ | ⟨e, _⟩
      · omega
      · exact e
    rw [hea] at c1
    refine of_elder c.E c.left _ c0 c1 c3 hof hbE (by omega) (by rw [IntKind.wrap_i64]; omega) ?_ ?_
    · simp; omega
    · simp only [decide_eq_true_eq]; omega
  · rw [idx_now hc]
    obtain ⟨y, hy⟩ : ∃ y, (if c.E = 0 then 0 else ((TabE.hN seed k % c.E : Nat) : Int)) = y := ⟨_, rfl⟩
    rw [hy] at hbE
    by_cases hl0 : (0 : Int) < c.left
    · have hy1 : ¬ ((c.E : Int) - c.left ≤ y) := fun e2 => by
        rw [if_neg (by omega)] at hy
        exact hc ⟨by omega, by omega⟩
      refine of_now1 c.E c.left c.N _ c0 c1 c2 c3 hof hbE hbN (by rw [IntKind.wrap_i64]; omega) ?_ ?_ (by omega)
      · simp; omega
      · simp only [decide_eq_false_iff_not]; exact hy1
    · refine of_now0 c.E c.left c.N _ c0 c1 c2 c3 hof hbE hbN ?_ (by omega)
      simp; omega
end Go.Proofs.YtodoglljjhdbeaaGreatDoor.TabE

/- Layer 9: one of the elder buckets moves. -/
namespace Go.Proofs.YtodoglljjhdbeaaGreatDoor.TabE
open Go Go.RowKit Go.Proofs.YtodoglljjhdbeaaGreatDoor.Mem Go.Proofs.YtodoglljjhdbeaaGreatDoor.Tab

/-- A table in the midst of something, since the world w. -/
structure Mid (w : World) (F : Nat → Prop) (w' : World) (b : Nat) (F' : Nat → Prop) (seed : Int) (c : Con V) (many : Nat) (ea : Option Addr) (eb nb : Nat) (gv : Nat → Value) : Prop where
  at_ : AtW w' b F' seed c many ea eb nb gv
  only : Only F w w'
  grows : Grows w F F'
/-- A row that was a bucket's, and is none any more. -/
structure Old (w : World) (b nb : Nat) (c : Con V) (gv : Nat → Value) (v : Value) (l : Pairs V) : Prop where
  own : OwnP w v l
  off : ∀ k, k < c.E + c.N → ∀ g, (gv k).ownBlock = some g → v.ownBlock ≠ some g
section
variable {w w' : World} {b : Nat} {F G : Nat → Prop} {seed : Int} {c : Con V} {many : Nat} {ea : Option Addr} {eb nb : Nat} {gv : Nat → Value} {v : Value} {l : Pairs V}
theorem own_get (h : OwnP w v l) {k : Nat} {p : ByteArray × V} (hk : l[k]? = some p) :
    ∃ g cap, v = .slice (some ⟨g, 0, none⟩) l.length cap ∧ g < w.heap.size ∧ w.cell? ⟨g, k * 2, none⟩ = some (.string p.1) ∧ w.cell? ⟨g, k * 2 + 1, none⟩ = some (.pointer (some ⟨p.2, 0, none⟩)) := by
  have hkl := (List.getElem?_eq_some_iff.1 hk).1
  obtain ⟨n, hn⟩ : ∃ n, l.length = n + 1 := ⟨l.length - 1, by omega⟩
  have ho : w.ownsRow 0 136 2 v l.length (cellsP l) := h
  rw [hn] at ho
  obtain ⟨g, cap, cur, e1, _, e2, _, _, e3⟩ := Mem.row_block ho
  obtain ⟨q1, q2⟩ := cellsP_get l k p hk
  exact ⟨g, cap, by rw [hn]; exact e1, (Array.getElem?_eq_some_iff.1 e2).1, (Mem.row_cell e2 _).trans (e3 _ _ q1), (Mem.row_cell e2 _).trans (e3 _ _ q2)⟩
theorem own_shape (h : OwnP w v l) : ∃ a cap, v = .slice a l.length cap := by
  rcases h.2 with ⟨e1, e2⟩ | ⟨g, cap, cur, e1, _⟩
  · exact ⟨none, 0, by rw [e1, e2]⟩
  · exact ⟨_, _, e1⟩
end
/-- The start: the elder bucket is taken away. -/
theorem pop_mid {w w2 : World} {b : Nat} {F : Nat → Prop} {seed : Int} {c : Con V} {many : Nat} {ea : Option Addr} {eb nb : Nat} {gv : Nat → Value} (h : AtW w b F seed c many ea eb nb gv) (hl : 0 < c.left) (hle : c.left ≤ c.E)
    (hw : w2 = (w.setCell ⟨eb, c.E - c.left, none⟩ (.slice none 0 0)).setCell ⟨b, 3, none⟩ (.int .i64 ((c.left - 1 : Nat) : Int))) :
    Mid w F w2 b F seed c.pop many ea eb nb (updv gv (c.E - c.left) (.slice none 0 0)) ∧ Old w2 b nb c.pop (updv gv (c.E - c.left) (.slice none 0 0)) (gv (c.E - c.left)) (c.bs (c.E - c.left)) := by
  have hk : c.E - c.left < c.E + c.N := by omega
  have hadr : adr c eb nb (c.E - c.left) = ⟨eb, c.E - c.left, none⟩ := by unfold adr; rw [if_pos (by omega)]
  have hFe : F eb ∧ eb ≠ nb := by
    rcases h.eo with ⟨e, _⟩ | ⟨_, h2, h3, _⟩
    · omega
    · exact ⟨h2, h3⟩
  have h1 := h.setRow hk (w' := w) (v := .slice none 0 0) (x := []) (fun _ _ _ => rfl) (Nat.le_refl _) (World.ownsRow_nil _ _ _ _) (fun g e => by cases e)
  rw [hadr] at h1
  have hF1 : (fun j => F j ∨ (Value.slice none 0 0).ownBlock = some j) = F := by funext j; simp [Value.ownBlock]
  rw [hF1] at h1
  have hb2 : w2.heap[b]? = some (tabObj seed (.slice ea c.E c.E) (.slice (some ⟨nb, 0, none⟩) c.N c.N) ((c.left - 1 : Nat) : Int) many) := by
    rw [hw]; exact Mem.row_set h1.blk 3 _
  have hs2 : ∀ j, j ≠ b → w2.heap[j]? = (w.setCell ⟨eb, c.E - c.left, none⟩ (.slice none 0 0)).heap[j]? := fun j hj => by rw [hw]; exact Below.heap_setCell _ _ _ _ hj
  have hz2 : w2.heap.size = w.heap.size := by rw [hw]; simp [World.setCell]
  have h2 := h1.setBlk (c.left - 1) many hb2 hs2 (by rw [hz2]; simp [World.setCell])
  have hrest : ∀ j, j ≠ b → j ≠ eb → w2.heap[j]? = w.heap[j]? := fun j h3 h4 => (hs2 j h3).trans (Below.heap_setCell _ _ _ _ h4)
  refine ⟨⟨h2, ?_, Grows.refl _ _⟩, ?_, fun k hk2 g e e2 => ?_⟩
  · rw [hw]; exact ((Only.refl F w).setCell (p := ⟨eb, c.E - c.left, none⟩) (.inl hFe.1) _).setCell (p := ⟨b, 3, none⟩) (.inl h.fb) _
  · exact row_same (h.rows _ hk) fun g e => hrest g (fun e1 => h.row_b hk (e1 ▸ e)) (fun e1 => h.row_e (by omega) hk (e1 ▸ e))
  · by_cases e1 : k = c.E - c.left
    · rw [e1, updv_same] at e; cases e
    · rw [updv_other _ _ e1] at e
      exact h.apart k _ hk2 hk e1 g e e2
theorem step_none {w : World} {b : Nat} {seed : Int} {c : Con V} (hl : c.left = 0) (c3 : w.cell? ⟨b, 3, none⟩ = some (.int .i64 0)) :
    Calls Tryz.prog 88 #[.pointer (some ⟨b, 0, none⟩)] w fun e w' => e = .returned (.tuple #[]) ∧ w = w' ∧ c.step (hN seed) = c := by
  have e : c.step (hN seed) = c := by unfold Con.step; rw [if_pos hl]
  have HE := Lib.hid e
  clear e hl
  go_enter Tryz.func88, Tryz.ntmps88
  go_wp2
  refine bodyPost_ret (results_none rfl _ _ _) rfl ?_
  exact ⟨rfl, rfl, HE.out⟩
/-- A pair is pushed. -/
theorem Mid.push {w w' w2 w3 : World} {b : Nat} {F F' : Nat → Prop} {seed : Int} {c : Con V} {many : Nat} {ea : Option Addr} {eb nb : Nat} {gv : Nat → Value} {p : ByteArray × V} (h : Mid w F w' b F' seed c many ea eb nb gv) (hp : 0 < c.N) {v : Value}
    (hb : Below w'.heap.size w' w2) (hg : w2.grownBy w3 (gv (c.E + hN seed p.1 % c.N)).ownBlock) (hown : OwnP w3 v (c.bs (c.E + hN seed p.1 % c.N) ++ [p])) (hat : v.ownBlock = (gv (c.E + hN seed p.1 % c.N)).ownBlock ∨ ∃ g, v.ownBlock = some g ∧ w2.heap.size ≤ g) :
    Mid w F (w3.setCell ⟨nb, hN seed p.1 % c.N, none⟩ v) b (fun j => F' j ∨ v.ownBlock = some j) seed (c.push (hN seed) p) many ea eb nb (updv gv (c.E + hN seed p.1 % c.N) v) := by
  have hm := Nat.mod_lt (hN seed p.1) hp
  have hk : c.E + hN seed p.1 % c.N < c.E + c.N := by omega
  have hadr : adr c eb nb (c.E + hN seed p.1 % c.N) = ⟨nb, hN seed p.1 % c.N, none⟩ := by unfold adr; rw [if_neg (by omega), Nat.add_sub_cancel_left]
  have hz := hb.size
  have hat' : ∀ g, v.ownBlock = some g → (gv (c.E + hN seed p.1 % c.N)).ownBlock = some g ∨ w'.heap.size ≤ g := fun g e => hat.elim (fun e1 => .inl (by rw [← e1]; exact e)) (fun ⟨g', e1, e2⟩ => .inr (by rw [e] at e1; injection e1 with e1; omega))
  have h1 := h.at_.setRow hk (w' := w3) (v := v) (x := c.bs (c.E + hN seed p.1 % c.N) ++ [p]) (fun j hj hn => (hg.block j (Nat.lt_of_lt_of_le (h.at_.lt j hj) hz) (Ne.symm hn)).trans (hb.block j (h.at_.lt j hj))) (Nat.le_trans hz hg.size) hown hat'
  rw [hadr] at h1
  refine ⟨h1, ?_, fun j hj => ?_⟩
  · have ho : Only F' w' w2 := Only.of_below hb (fun k h1 h2 => by omega)
    have ho2 : Only F' w' (w3.setCell ⟨nb, hN seed p.1 % c.N, none⟩ v) := (ho.grown hg fun g e => .inl (h.at_.fr _ hk g e)).setCell (p := ⟨nb, hN seed p.1 % c.N, none⟩) (.inl h.at_.fn) _
    exact h.only.trans ho2 h.grows
  · rcases hj with e | e
    · exact h.grows j e
    · exact (hat' j e).elim (fun e1 => h.grows j (h.at_.fr _ hk j e1)) (fun e1 => .inr (by have := h.only.size; omega))
theorem Old.push {w' w2 w3 : World} {b : Nat} {F' : Nat → Prop} {seed : Int} {c : Con V} {many : Nat} {ea : Option Addr} {eb nb : Nat} {gv : Nat → Value} {p : ByteArray × V} {v u : Value} {l : Pairs V} (h : AtW w' b F' seed c many ea eb nb gv) (ho : Old w' b nb c gv u l) (hp : 0 < c.N)
    (hb : Below w'.heap.size w' w2) (hg : w2.grownBy w3 (gv (c.E + hN seed p.1 % c.N)).ownBlock) (hat : v.ownBlock = (gv (c.E + hN seed p.1 % c.N)).ownBlock ∨ ∃ g, v.ownBlock = some g ∧ w2.heap.size ≤ g) :
    Old (w3.setCell ⟨nb, hN seed p.1 % c.N, none⟩ v) b nb (c.push (hN seed) p) (updv gv (c.E + hN seed p.1 % c.N) v) u l := by
  have hm := Nat.mod_lt (hN seed p.1) hp
  have hk : c.E + hN seed p.1 % c.N < c.E + c.N := by omega
  obtain ⟨a, ha, _⟩ := h.no
  refine ⟨row_same ho.own fun g e => ?_, fun k hk2 g e e2 => ?_⟩
  · have hl := (own_lt ho.own g e).2
    refine (Below.heap_setCell _ _ _ _ (fun e1 : g = nb => row_not ho.own ha (by decide) (e1 ▸ e))).trans ((hg.block g (Nat.lt_of_lt_of_le hl hb.size) (fun e1 => ho.off _ hk g e1.symm e)).trans (hb.block g hl))
  · by_cases e1 : k = c.E + hN seed p.1 % c.N
    · rw [e1, updv_same] at e
      rcases hat with e3 | ⟨g', e3, e4⟩
      · rw [e] at e3; exact ho.off _ hk g e3.symm e2
      · rw [e] at e3; injection e3 with e3
        have := (own_lt ho.own g e2).2
        have := hb.size
        omega
    · rw [updv_other _ _ e1] at e
      exact ho.off k hk2 g e e2
end Go.Proofs.YtodoglljjhdbeaaGreatDoor.TabE

/- Layer 9: step. -/
namespace Go.Proofs.YtodoglljjhdbeaaGreatDoor.TabE
open Go Go.RowKit Go.Proofs.YtodoglljjhdbeaaGreatDoor.Mem Go.Proofs.YtodoglljjhdbeaaGreatDoor.Tab

def StepPost (w : World) (b : Nat) (F : Nat → Prop) (seed : Int) (c : Con V) (many : Nat) (ea : Option Addr) (eb nb : Nat) (e : Ending) (w' : World) : Prop :=
  ∃ F' gv, e = .returned (.tuple #[]) ∧ Mid w F w' b F' seed c many ea eb nb gv
/-- So far: k of the moved ones are pushed. -/
def Far (w : World) (F : Nat → Prop) (b : Nat) (seed : Int) (c : Con V) (many : Nat) (ea : Option Addr) (eb nb : Nat) (u : Value) (l : Pairs V) (k : Nat) (w' : World) : Prop :=
  ∃ F' gv, Mid w F w' b F' seed ((l.take k).foldl (Con.push (hN seed)) c) many ea eb nb gv ∧ Old w' b nb ((l.take k).foldl (Con.push (hN seed)) c) gv u l

set_option maxRecDepth 100000 in
set_option maxHeartbeats 2000000 in
theorem step_walk {w : World} {b eb nb : Nat} {F : Nat → Prop} {seed : Int} {c : Con V} {many : Nat} {ua : Option Addr} {ucap : Nat} {l : Pairs V} (E N lf a0 : Nat) (ha : a0 + lf + 1 = E)
    (h0 : 0 ≤ seed) (h1 : seed < 18446744073709551616) (hE : E ≤ 1099511627776) (hNp : 0 < N) (hNb : N ≤ 1099511627776) (hks : ∀ p ∈ l, p.1.size ≤ maxLen) (hlen : l.length ≤ 1000000000) (hbk : ∀ k j, (((l.take k).foldl (Con.push (hN seed)) c).bs j).length ≤ 2000000000)
    (c1 : w.cell? ⟨b, 1, none⟩ = some (.slice (some ⟨eb, 0, none⟩) E E)) (c3 : w.cell? ⟨b, 3, none⟩ = some (.int .i64 ((lf : Int) + 1))) (ce : w.cell? ⟨eb, a0, none⟩ = some (.slice ua l.length ucap)) (fe : w.frozen? ⟨eb, a0, none⟩ = false) (f3 : w.frozen? ⟨b, 3, none⟩ = false) (hne : eb ≠ b)
    (hcE : c.E = E) (hcN : c.N = N) (hfar : ∀ d, Far w F b seed c many (some ⟨eb, 0, none⟩) eb nb (.slice ua l.length ucap) l 0 (((w.drewN d).setCell ⟨eb, a0, none⟩ (.slice none 0 0)).setCell ⟨b, 3, none⟩ (.int .i64 lf))) :
    Calls Tryz.prog 88 #[.pointer (some ⟨b, 0, none⟩)] w (StepPost w b F seed (l.foldl (Con.push (hN seed)) c) many (some ⟨eb, 0, none⟩) eb nb) := by
  obtain ⟨i0, hi, hz0, hz1, hz2⟩ := info_parts infoPair
  have hz : ((lf : Int) + 1 == 0) = false := by simp; omega
  have hlf : (lf : Int) ≤ 1099511627776 := by omega
  have hw : IntKind.i64.wrap ((E : Int) - ((lf : Int) + 1)) = (a0 : Int) := by rw [IntKind.wrap_i64]; omega
  have haE : (a0 : Int) < E := by omega
  have hne2 : ¬ (eb = b) := hne
  have HF := Lib.hid hfar
  have HC := Lib.hid (And.intro hcE hcN)
  have HK := Lib.hid hks
  have HB := Lib.hid hbk
  clear hfar hcE hcN ha hks hbk hne
  go_enter Tryz.func88, Tryz.ntmps88
  go_wp2_with fail
  go_quiet (fail)
  go_wp2_with fail
  go_loopg [44] l.length (fun g i wr => ∃ k : Nat, i = .int .i64 k ∧ g + k = l.length ∧ Hid (Far w F b seed c many (some ⟨eb, 0, none⟩) eb nb (.slice ua l.length ucap) l k wr))
  case atStart => exact ⟨0, rfl, by omega, Lib.hid (HF.out _)⟩
  case round =>
    obtain ⟨k, rfl, hg, HR⟩ := hrel
    have HG := Lib.hid hg
    clear hg c1 c3 ce fe f3
    by_cases hk : k < l.length
    · obtain ⟨⟨pk, pv⟩, hp⟩ : ∃ p, l[k]? = some p := ⟨_, List.getElem?_eq_getElem hk⟩
      have hki : (k : Int) < l.length := by omega
      have hpm := HK.out (pk, pv) (List.mem_of_getElem? hp)
      obtain ⟨F1, gv1, hmid, hold⟩ := HR.out
      obtain ⟨e1, e2, e3, -⟩ := push_fold (H := hN seed) (l.take k) c
      rw [HC.out.1] at e1
      rw [HC.out.2] at e2
      obtain ⟨g, cap, eg, hgl, q0, q1⟩ := own_get hold.own hp
      injection eg with eg _ ec
      subst eg
      subst ec
      have d0 : wr.cell? ⟨b, 0, none⟩ = some (.int .u64 seed) := Mem.row_cell hmid.at_.blk 0
      have d2 : wr.cell? ⟨b, 2, none⟩ = some (.slice (some ⟨nb, 0, none⟩) N N) := by
        have := Mem.row_cell hmid.at_.blk 2
        rw [e2] at this; exact this
      have hof := Hash.of_any seed pk h0 h1 hpm
      have hr := Hash.ofI_range pk.data.toList h0 h1
      have hbN : ∀ w, Calls Tryz.prog 72 #[.int .u64 (Hash.ofI seed pk.data.toList), .int .i64 (N : Nat)] w fun e w' => e = .returned (.int .i64 ((TabE.hN seed pk % N : Nat) : Int)) ∧ w = w' := fun w => by
        refine (Hash.below_any _ _ hr.1 hr.2 (by omega) w).mono ?_
        rintro e w' ⟨rfl, rfl⟩
        exact ⟨by rw [below_hN h0 h1 pk hNp], rfl⟩
      obtain ⟨x, hx⟩ : ∃ x, Hash.ofI seed pk.data.toList = x := ⟨_, rfl⟩
      rw [hx] at hof hbN
      obtain ⟨z, hz⟩ : ∃ z, TabE.hN seed pk % N = z := ⟨_, rfl⟩
      rw [hz] at hbN
      have hzN : (z : Int) < N := by have := Nat.mod_lt (TabE.hN seed pk) hNp; omega
      have HZ := Lib.hid hz
      have HM := Lib.hid (And.intro hmid hold)
      have HP := Lib.hid hp
      have hgw : g < wr.heap.size := hgl
      clear hmid hold hp hz hx hr hpm e1 e2 e3 hgl
      go_upto_block 1 with fail
      go_cut [5, 6] from 46 to 73 (fun _ _ wx => Hid (Far w F b seed c many (some ⟨eb, 0, none⟩) eb nb (.slice (some ⟨g, 0, none⟩) l.length ucap) l (k + 1) wx))
      case rest =>
        have HR1 := Lib.hid hcut.out
        clear hcut d0 d2 q0 q1
        go_wp2_with fail
        go_roundg (l.length - (k + 1))
        case measure => have := HG.out; omega
        case rel => exact ⟨k + 1, by go_num, by have := HG.out; omega, HR1⟩
      case first =>
       go_wp2_with fail
       have hb2 : Below wr.heap.size wr (wr.alloc (.cells #[.string pk, (.pointer (some ⟨pv, 0, none⟩))] 136)) := Mem.al (Below.refl _ _) _
       have n0 := Mem.new_block wr (.cells #[.string pk, (.pointer (some ⟨pv, 0, none⟩))] 136)
       have hz2w : (wr.alloc (.cells #[.string pk, (.pointer (some ⟨pv, 0, none⟩))] 136)).heap.size = wr.heap.size + 1 := by simp
       have hbl := HM.out.1.at_.lt b HM.out.1.at_.fb
       replace d0 := (hb2.cell (p := ⟨b, 0, none⟩) hbl).trans d0
       replace d2 := (hb2.cell (p := ⟨b, 2, none⟩) hbl).trans d2
       obtain ⟨pb, hpb⟩ : ∃ pb, wr.heap.size = pb := ⟨_, rfl⟩
       obtain ⟨w2, hw2⟩ : ∃ w2, wr.alloc (.cells #[.string pk, (.pointer (some ⟨pv, 0, none⟩))] 136) = w2 := ⟨_, rfl⟩
       rw [hw2] at hb2 n0 hz2w d0 d2 ⊢
       rw [hpb] at hb2 n0 hz2w hbl ⊢
       have k0 := Mem.row_cell n0 0
       have k1 := Mem.row_cell n0 1
       simp only [List.getElem?_toArray, List.getElem?_cons_zero, List.getElem?_cons_succ] at k0 k1
       have HW := Lib.hid (And.intro hb2 (And.intro n0 (And.intro hz2w (And.intro hbl (And.intro hpb hw2)))))
       clear hb2 n0 hz2w hbl hpb hw2 q0 q1 hgw
       go_quiet (first | (go_at_call 93; exact Qt.left (hof _)) | (go_at_call 72; exact Qt.left (hbN _)))
       go_wp2_with fail
       have hW3 : Below pb wr (w2.drewN nq) ∧ (w2.drewN nq).heap.size = pb + 1 ∧ (w2.drewN nq).heap[pb]? = some (.cells #[.string pk, (.pointer (some ⟨pv, 0, none⟩))] 136 (0, 0)) := ⟨Mem.dn' HW.out.1 nq, HW.out.2.2.1, HW.out.2.1⟩
       replace k0 : (w2.drewN nq).cell? ⟨pb, 0, none⟩ = some (.string pk) := k0
       replace k1 : (w2.drewN nq).cell? ⟨pb, 1, none⟩ = some (.pointer (some ⟨pv, 0, none⟩)) := k1
       clear d0 d2
       obtain ⟨Wb, hWb⟩ : ∃ Wb, w2.drewN nq = Wb := ⟨_, rfl⟩
       rw [hWb] at hW3 k0 k1 ⊢
       obtain ⟨hBb, hSb, hNb2⟩ := hW3
       have hzk : c.E + z < c.E + c.N := by rw [HC.out.2]; omega
       have hzp := HZ.out
       have hck : ((l.take k).foldl (Con.push (hN seed)) c).E = c.E ∧ ((l.take k).foldl (Con.push (hN seed)) c).N = c.N := by
         obtain ⟨e1, e2, _, _⟩ := push_fold (H := hN seed) (l.take k) c
         exact ⟨e1, e2⟩
       have hat := HM.out.1.at_.same (w' := Wb) (fun j hj => hBb.block j (by rw [← HW.out.2.2.2.2.1]; exact HM.out.1.at_.lt j hj)) (by rw [HW.out.2.2.2.2.1, hSb]; omega)
       have hzk2 : c.E + z < ((l.take k).foldl (Con.push (hN seed)) c).E + ((l.take k).foldl (Con.push (hN seed)) c).N := by rw [hck.1, hck.2]; exact hzk
       have hloc : Wb.cell? ⟨nb, z, none⟩ = some (gv1 (c.E + z)) ∧ Wb.frozen? ⟨nb, z, none⟩ = false := by
         obtain ⟨g2, i2, e1, _, e2, e3, _⟩ := hat.loc hzk2
         unfold adr at e1
         rw [if_neg (by rw [hck.1]; omega), hck.1, Nat.add_sub_cancel_left] at e1
         rw [e1]; exact ⟨e2, e3⟩
       have hrow := hat.rows _ hzk2
       have hbn : (((l.take k).foldl (Con.push (hN seed)) c).bs (c.E + z)).length ≤ 2000000000 := HB.out _ _
       have hnn : (gv1 (c.E + z)).ownBlock ≠ some nb := hat.row_n hzk2
       have hnp : (gv1 (c.E + z)).ownBlock ≠ some pb := fun e => by have := HM.out.1.at_.lt _ (HM.out.1.at_.fr _ hzk2 _ e); have := HW.out.2.2.2.2.1; omega
       have hnb : nb < Wb.heap.size := hat.lt _ hat.fn
       clear hat hzk hck hzk2 hzp
       obtain ⟨ck, fk⟩ := hloc
       obtain ⟨v0, hv0⟩ : ∃ v0, gv1 (c.E + z) = v0 := ⟨_, rfl⟩
       obtain ⟨L, hL⟩ : ∃ L, (((l.take k).foldl (Con.push (hN seed)) c).bs (c.E + z)).length = L := ⟨_, rfl⟩
       obtain ⟨X, hX⟩ : ∃ X, cellsP (((l.take k).foldl (Con.push (hN seed)) c).bs (c.E + z)) = X := ⟨_, rfl⟩
       simp only [OwnP, hv0, hL, hX] at ck hrow hbn hnn hnp
       have HV := Lib.hid (And.intro hv0 (And.intro hL hX))
       have HBb := Lib.hid (And.intro hBb (And.intro hSb (And.intro hNb2 hWb)))
       clear hv0 hL hX hBb hNb2 hWb
       have hmx : L + 1 ≤ maxLen := by unfold maxLen; omega
       have hby : (L + 1) * 24 ≤ 140737488355328 := by omega
       have hpbl : pb < Wb.heap.size := by omega
       have hstep : ∀ {ops : Array Oper} {o : Oper} {a : Act} {K : Act → World → Prop} {Q : Exit → Act → World → Prop} {E : Prop}, o.guard = none → o.op = .call { callee := .builtin .append, args := #[.tmp 69, .tmp 71], argTypes := #[138, 138] } → a.eval (.tmp 69) = v0 → a.eval (.tmp 71) = .slice (some ⟨Wb.heap.size, 0, none⟩) 1 1 → (∀ g cap w', w'.ownsRow 0 136 2 (.slice (some ⟨g, 0, none⟩) (L + 1) cap) (L + 1) (X ++ [.string pk, (.pointer (some ⟨pv, 0, none⟩))]) → (Wb.alloc (.cells #[.string pk, (.pointer (some ⟨pv, 0, none⟩))] 136)).drew.grownBy w' v0.ownBlock → (v0.ownBlock = some g ∨ g = Wb.heap.size + 1) → g < w'.heap.size → K (a.put o.dst (.slice (some ⟨g, 0, none⟩) (L + 1) cap)) w') → if Region.wanted o (yielded ops a.tmps) = true then Oper.wp Tryz.prog o a (Wb.alloc (.cells #[.string pk, (.pointer (some ⟨pv, 0, none⟩))] 136)).drew K Q else E := fun hg ho he hx hK => step_append_lies _ hg _ _ _ ho 0 136 i0 _ 2 24 Tryz.underlying138 hi hz0 hz1 hz2 rfl (by omega) v0 L X he ((hrow.alloc _).drew) ⟨Wb.heap.size, 0, none⟩ 1 1 [.string pk, (.pointer (some ⟨pv, 0, none⟩))] hx rfl (World.news_of_block (cs := #[.string pk, (.pointer (some ⟨pv, 0, none⟩))]) (t := 136) (fr := (0, 0)) (heap_alloc_new Wb _)) (by simp [Value.oneCell']) (by decide) hmx hby (Nat.zero_le _) (Wb.heap.size + 1) (by simp) hK
       have hblk : ∀ w1 : World, (Wb.alloc (.cells #[.string pk, (.pointer (some ⟨pv, 0, none⟩))] 136)).drew.grownBy w1 v0.ownBlock → w1.heap[nb]? = Wb.heap[nb]? ∧ w1.heap[pb]? = Wb.heap[pb]? := fun w1 hg => by
         constructor
         · exact (hg.block nb (by simp; omega) (Ne.symm hnn)).trans (Below.heap_alloc Wb _ _ hnb)
         · exact (hg.block pb (by simp; omega) (Ne.symm hnp)).trans (Below.heap_alloc Wb _ _ hpbl)
       have hfarb : ∀ w1 : World, (Wb.alloc (.cells #[.string pk, (.pointer (some ⟨pv, 0, none⟩))] 136)).drew.grownBy w1 v0.ownBlock → w1.cell? ⟨nb, z, none⟩ = some v0 ∧ w1.frozen? ⟨nb, z, none⟩ = false ∧ w1.cell? ⟨pb, 0, none⟩ = some (.string pk) ∧ w1.cell? ⟨pb, 1, none⟩ = some (.pointer (some ⟨pv, 0, none⟩)) := fun w1 hg => by
         obtain ⟨e1, e2⟩ := hblk w1 hg
         exact ⟨(World.cell?_of_block e1).trans ck, (World.frozen?_of_block e1).trans fk, (World.cell?_of_block e2).trans k0, (World.cell?_of_block e2).trans k1⟩
       have hfin : ∀ g' cap' w1, w1.ownsRow 0 136 2 (.slice (some ⟨g', 0, none⟩) (L + 1) cap') (L + 1) (X ++ [.string pk, (.pointer (some ⟨pv, 0, none⟩))]) → (Wb.alloc (.cells #[.string pk, (.pointer (some ⟨pv, 0, none⟩))] 136)).drew.grownBy w1 v0.ownBlock → (v0.ownBlock = some g' ∨ g' = Wb.heap.size + 1) →
           Far w F b seed c many (some ⟨eb, 0, none⟩) eb nb (.slice (some ⟨g, 0, none⟩) l.length ucap) l (k + 1) (w1.setCell ⟨nb, z, none⟩ (.slice (some ⟨g', 0, none⟩) (L + 1) cap')) := fun g' cap' w1 hown hgrow hat => by
         obtain ⟨hv0, hL, hX⟩ := HV.out
         obtain ⟨e1, e2, _, _⟩ := push_fold (H := hN seed) (l.take k) c
         have htk : (l.take (k + 1)).foldl (Con.push (hN seed)) c = Con.push (hN seed) ((l.take k).foldl (Con.push (hN seed)) c) (pk, pv) := by
           rw [List.take_add_one, HP.out]; simp
         have hwb : Below wr.heap.size wr (Wb.alloc (.cells #[.string pk, (.pointer (some ⟨pv, 0, none⟩))] 136)).drew := by
           rw [HW.out.2.2.2.2.1]; exact Below.drew (HBb.out.1.alloc (by rw [HBb.out.2.1]; omega) _)
         have hidx : ((l.take k).foldl (Con.push (hN seed)) c).E + hN seed (pk, pv).1 % ((l.take k).foldl (Con.push (hN seed)) c).N = c.E + z := by rw [e1, e2, HC.out.2, HZ.out]
         have hz' : hN seed (pk, pv).1 % ((l.take k).foldl (Con.push (hN seed)) c).N = z := by rw [e2, HC.out.2, HZ.out]
         have hpos : 0 < ((l.take k).foldl (Con.push (hN seed)) c).N := by rw [e2, HC.out.2]; exact hNp
         have hatv : (Value.slice (some ⟨g', 0, none⟩) (L + 1) cap').ownBlock = v0.ownBlock ∨ ∃ g2, (Value.slice (some ⟨g', 0, none⟩) (L + 1) cap').ownBlock = some g2 ∧ (Wb.alloc (.cells #[.string pk, (.pointer (some ⟨pv, 0, none⟩))] 136)).drew.heap.size ≤ g2 := hat.elim (fun e => .inl e.symm) (fun e => .inr ⟨g', rfl, by simp; omega⟩)
         have hown' : OwnP w1 (.slice (some ⟨g', 0, none⟩) (L + 1) cap') (((l.take k).foldl (Con.push (hN seed)) c).bs (c.E + z) ++ [(pk, pv)]) := by
           unfold OwnP
           rw [List.length_append, cellsP_app, hL, hX]; exact hown
         have r1 := HM.out.1.push (p := (pk, pv)) (v := .slice (some ⟨g', 0, none⟩) (L + 1) cap') hpos hwb (w3 := w1) (by rw [hidx, hv0]; exact hgrow) (by rw [hidx]; exact hown') (by rw [hidx, hv0]; exact hatv)
         have r2 := Old.push (p := (pk, pv)) (v := .slice (some ⟨g', 0, none⟩) (L + 1) cap') HM.out.1.at_ HM.out.2 hpos hwb (w3 := w1) (by rw [hidx, hv0]; exact hgrow) (by rw [hidx, hv0]; exact hatv)
         rw [hz'] at r1 r2
         unfold Far
         rw [htk]
         exact ⟨_, _, r1, r2⟩
       have HFn := Lib.hid hfin
       clear hfin hSb
       go_region_law (refine hstep (by rfl) (by rfl) (by kernel_rfl) (by kernel_rfl) ?_; intro gg cap1 w1 hown1 hgrow hat hlt; have cw1 := (hfarb w1 hgrow).1; have fw1 := (hfarb w1 hgrow).2.1; have ew1 := (hfarb w1 hgrow).2.2.1; have gw1 := (hfarb w1 hgrow).2.2.2)
       all_goals (go_wp2_with fail; go_meet; exact Lib.hid (HFn.out _ _ _ hown1 hgrow hat))
    · have hlk : (l.length : Int) ≤ k := by omega
      have hr := HR.out
      unfold Far at hr
      rw [List.take_of_length_le (by omega)] at hr
      obtain ⟨F1, gv1, hm, _⟩ := hr
      have HM := Lib.hid hm
      clear hm
      go_wp2_with fail
      go_end0
      exact ⟨F1, gv1, rfl, HM.out⟩
theorem fold_len (H : ByteArray → Nat) (c : Con V) {M : Nat} (l : Pairs V) (hM : ∀ j, (c.bs j).length + l.length ≤ M) (k j : Nat) : (((l.take k).foldl (Con.push H) c).bs j).length ≤ M := by
  rw [(push_fold (H := H) (l.take k) c).2.2.2 j, List.length_append]
  have h1 : ((l.take k).filter fun p => decide (c.E + H p.1 % c.N = j)).length ≤ l.length := Nat.le_trans (List.length_filter_le _ _) (by rw [List.length_take]; omega)
  have := hM j
  omega
/-- What a table of at most n texts keeps to. -/
structure Fits (n : Nat) (seed : Int) (c : Con V) (L : Pairs V) : Prop where
  s0 : 0 ≤ seed
  s1 : seed < 18446744073709551616
  abs : Abs (hN seed) c L
  E : c.E ≤ 1099511627776
  N : c.N ≤ 1099511627776
  len : L.length ≤ n
  n : n ≤ 1000000000
  keys : ∀ p ∈ L, p.1.size ≤ maxLen
theorem bs_len {seed : Int} {c : Con V} {L : Pairs V} (h : Abs (hN seed) c L) (k : Nat) : (c.bs k).length ≤ L.length := by
  have h1 : ∀ p ∈ c.bs k, p ∈ L := fun p hp => (h.mem p).2 (by rw [← h.home k p hp]; exact hp)
  exact (nodup_of_keys (h.nd k)).length_le_of_subset h1
theorem step_any {w : World} {b : Nat} {F : Nat → Prop} {seed : Int} {c : Con V} {many : Nat} {ea : Option Addr} {eb nb n : Nat} {gv : Nat → Value} {L : Pairs V} (h : AtW w b F seed c many ea eb nb gv) (hf : Fits n seed c L) :
    Calls Tryz.prog 88 #[.pointer (some ⟨b, 0, none⟩)] w (StepPost w b F seed (c.step (hN seed)) many ea eb nb) := by
  have ha := hf.abs
  by_cases hl : c.left = 0
  · have c3 : w.cell? ⟨b, 3, none⟩ = some (.int .i64 (c.left : Nat)) := Mem.row_cell h.blk 3
    rw [hl] at c3
    refine (step_none (seed := seed) hl c3).mono ?_
    rintro e w' ⟨rfl, rfl, e⟩
    rw [e]
    exact ⟨F, gv, rfl, h, Only.refl _ _, Grows.refl _ _⟩
  have hea : ea = some ⟨eb, 0, none⟩ := by
    have := ha.le
    rcases h.eo with ⟨e, _⟩ | ⟨e, _⟩
    · omega
    · exact e
  subst hea
  have c1 : w.cell? ⟨b, 1, none⟩ = some (.slice (some ⟨eb, 0, none⟩) c.E c.E) := Mem.row_cell h.blk 1
  have c3 : w.cell? ⟨b, 3, none⟩ = some (.int .i64 (((c.left - 1 : Nat) : Int) + 1)) := by
    have := Mem.row_cell h.blk 3
    simp only [List.getElem?_toArray, List.getElem?_cons_zero, List.getElem?_cons_succ] at this
    rw [this]; congr 2; omega
  have hle := ha.le
  have hk : c.E - c.left < c.E + c.N := by omega
  obtain ⟨ua, ucap, hu⟩ := own_shape (h.rows _ hk)
  have ce : w.cell? ⟨eb, c.E - c.left, none⟩ = some (.slice ua (c.bs (c.E - c.left)).length ucap) ∧ w.frozen? ⟨eb, c.E - c.left, none⟩ = false ∧ eb ≠ b := by
    obtain ⟨g, i, e1, _, e2, e3, e4, _⟩ := h.loc hk
    unfold adr at e1
    rw [if_pos (by omega)] at e1
    rw [← hu, e1]
    injection e1 with e1 e5
    rw [e1]; exact ⟨e2, e3, e4⟩
  have hstep : c.step (hN seed) = (c.bs (c.E - c.left)).foldl (Con.push (hN seed)) c.pop := by unfold Con.step; rw [if_neg hl]
  rw [hstep]
  have hbl := bs_len ha
  have hlen := hf.len
  have hn := hf.n
  refine step_walk c.E c.N (c.left - 1) (c.E - c.left) (by omega) hf.s0 hf.s1 hf.E ha.pos hf.N (fun p hp => hf.keys p ((ha.mem p).2 (by rw [← ha.home _ p hp]; exact hp))) (by have := hbl (c.E - c.left); omega)
    (fold_len _ _ _ fun j => ?_) c1 c3 ce.1 ce.2.1 (Mem.row_free h.blk 3) ce.2.2 rfl rfl fun d => ?_
  · have h1 : (c.pop.bs j).length ≤ (c.bs j).length := by
      show (upd c.bs (c.E - c.left) [] j).length ≤ _
      unfold upd; split
      · exact Nat.zero_le _
      · exact Nat.le_refl _
    have := hbl j
    have := hbl (c.E - c.left)
    omega
  · have hd : AtW (w.drewN d) b F seed c many (some ⟨eb, 0, none⟩) eb nb gv := h.same (fun _ _ => rfl) (Nat.le_refl _)
    obtain ⟨q1, q2⟩ := pop_mid hd (by omega) hle rfl
    refine ⟨F, _, ⟨q1.at_, ((Only.refl F w).drewN d).trans q1.only (Grows.refl _ _), Grows.refl _ _⟩, ?_⟩
    have e : c.bs (c.E - c.left) = c.bs (c.E - c.left) := rfl
    rw [← hu]
    exact q2
end Go.Proofs.YtodoglljjhdbeaaGreatDoor.TabE

/- The library functions that the code calls, as the kit's own contracts take them: which numbers they bear here. -/
namespace Go.Proofs.YtodoglljjhdbeaaGreatDoor.Lay
open Go.Shelf
def idxF_ren : Go.Shelf.Ren := ⟨fun | 6 => 90 | n => n, fun | 22 => 138 | 23 => 136 | 25 => 169 | 3 => 3 | 0 => 0 | 4 => 4 | n => n, fun | n => n⟩
theorem idxF : Go.Proofs.SlLaysH0.n6 Tryz.prog idxF_ren := {
  mixed := by kernel_rfl,
  f6 := ⟨Tryz.f90.name, by decide, Tryz.func90.trans (congrArg some (by kernel_rfl))⟩,
  t0 := Tryz.underlying0,
  a0 := Tryz.isAgg0,
  z0 := Tryz.sizeOf0,
  v0 := Tryz.zeroValue0,
  t3 := Tryz.underlying3,
  a3 := Tryz.isAgg3,
  z3 := Tryz.sizeOf3,
  v3 := Tryz.zeroValue3,
  t4 := Tryz.underlying4,
  a4 := Tryz.isAgg4,
  z4 := Tryz.sizeOf4,
  v4 := Tryz.zeroValue4,
  t22 := Tryz.underlying138,
  a22 := Tryz.isAgg138,
  z22 := Tryz.sizeOf138,
  v22 := Tryz.zeroValue138,
  t25 := Tryz.underlying169,
  a25 := Tryz.isAgg169,
  z25 := Tryz.sizeOf169,
  v25 := Tryz.zeroValue169 }
end Go.Proofs.YtodoglljjhdbeaaGreatDoor.Lay

/- Layer 9: find. -/
namespace Go.Proofs.YtodoglljjhdbeaaGreatDoor.TabE
open Go Go.RowKit Go.Proofs.YtodoglljjhdbeaaGreatDoor.Mem Go.Proofs.YtodoglljjhdbeaaGreatDoor.Tab Go.Shelf

theorem str_eq (a : ByteArray) : (a.toList == a.toList) = true := by simp
theorem toList_data (b : ByteArray) : b.toList = b.data.toList := by
  have h : ∀ (n i : Nat) (r : List UInt8), b.size - i = n → ByteArray.toList.loop b i r = r.reverse ++ b.data.toList.drop i := by
    intro n
    induction n with
    | zero =>
      intro i r hn
      unfold ByteArray.toList.loop
      have h1 : ¬ i < b.size := by omega
      rw [if_neg h1, List.drop_eq_nil_of_le (by have h9 : b.data.toList.length = b.size := (by simp); omega), List.append_nil]
    | succ n ih =>
      intro i r hn
      have h1 : i < b.size := by omega
      unfold ByteArray.toList.loop
      rw [if_pos h1, ih (i + 1) _ (by omega)]
      have h2 : i < b.data.toList.length := by simpa using h1
      rw [List.drop_eq_getElem_cons h2]
      have h3 : b.get! i = b.data.toList[i] := by
        have e1 : b.get! i = b.data[i]! := rfl
        rw [e1, getElem!_pos b.data i h1]
        simp
      rw [h3]; simp
  have := h (b.size - 0) 0 [] rfl
  simpa [ByteArray.toList] using this
theorem str_ne {a b : ByteArray} (h : a ≠ b) : (a.toList == b.toList) = false := by
  rw [beq_eq_false_iff_ne]
  intro e
  rw [toList_data, toList_data] at e
  apply h
  obtain ⟨⟨x⟩⟩ := a
  obtain ⟨⟨y⟩⟩ := b
  simp at e
  rw [e]

abbrev encP (x : ByteArray × V) : Value := .agg (pairCells x).toArray
theorem pred_any (key : ByteArray) (B : Nat) (w : World) (hB : B < w.heap.size) (hcell : w.cell? ⟨B, 0, none⟩ = some (.string key)) :
    PredBelow Tryz.prog 91 #[.pointer (some ⟨B, 0, none⟩)] encP (fun x => decide (x.1 = key)) w := fun W x hb => by
  obtain ⟨pk, pv⟩ := x
  have hc : W.cell? ⟨B, 0, none⟩ = some (.string key) := (hb.cell (p := ⟨B, 0, none⟩) hB).trans hcell
  have hBW : B < W.heap.size := Nat.lt_of_lt_of_le hB hb.size
  have hne : B ≠ W.heap.size := by omega
  show Calls Tryz.prog 91 #[.agg #[.string pk, (.pointer (some ⟨pv, 0, none⟩))], .pointer (some ⟨B, 0, none⟩)] W fun e w' => e = .returned (.bool (decide (pk = key))) ∧ Below w.heap.size w w'
  have HB := Lib.hid hb
  clear hb hcell
  by_cases hk : pk = key
  · subst hk
    have hse := str_eq pk
    rw [show decide (pk = pk) = true from by simp]
    go_enter Tryz.func91, Tryz.ntmps91
    go_wp2
    go_ret
    exact ⟨rfl, HB.out.alloc HB.out.size _⟩
  · have hse := str_ne hk
    rw [show decide (pk = key) = false from by simpa using hk]
    clear hk
    go_enter Tryz.func91, Tryz.ntmps91
    go_wp2
    go_ret
    exact ⟨rfl, HB.out.alloc HB.out.size _⟩

/-- The place of a text in a bucket; -1: it is not there. -/
def pos (l : Pairs V) (k : ByteArray) : Int := Lib.idxBy (fun (_ p : ByteArray × V) => decide (p.1 = k)) l default
theorem pos_none {l : Pairs V} {k : ByteArray} (h : k ∉ l.map (·.1)) : pos l k = -1 := by
  unfold pos
  have := Lib.idxBy_miss (fun (_ p : ByteArray × V) => decide (p.1 = k)) l l.length default (fun j hj => by
    simp only [decide_eq_false_iff_not]
    intro e
    rw [getElem!_pos l j hj] at e
    exact h (List.mem_map.2 ⟨_, List.getElem_mem hj, e⟩))
  rwa [List.take_length] at this
theorem pos_some {l : Pairs V} {k : ByteArray} (hn : (l.map (·.1)).Nodup) (h : k ∈ l.map (·.1)) : ∃ (i : Nat) (u : V), l[i]? = some (k, u) ∧ pos l k = i := by
  obtain ⟨⟨k', u⟩, hp, e⟩ := List.mem_map.1 h
  replace e : k' = k := e
  subst e
  obtain ⟨i, hi⟩ := List.mem_iff_getElem?.1 hp
  have hil := (List.getElem?_eq_some_iff.1 hi).1
  refine ⟨i, u, hi, ?_⟩
  unfold pos
  have := Lib.idxBy_hit (fun (_ p : ByteArray × V) => decide (p.1 = k')) l l.length i default hil (Nat.le_refl _) (by rw [getElem!_pos l i hil]; rw [(List.getElem?_eq_some_iff.1 hi).2]; simp) (fun j hj => by
    have hjl : j < l.length := by omega
    rw [getElem!_pos l j hjl]
    simp only [decide_eq_false_iff_not]
    intro e
    have h1 : (l.map (·.1))[i]? = some k' := by rw [List.getElem?_map, hi]; rfl
    have h2 : (l.map (·.1))[j]? = some k' := by rw [List.getElem?_map, List.getElem?_eq_getElem hjl]; simp [e]
    have := (List.getElem?_inj (List.getElem?_eq_some_iff.1 h1).1 hn).1 (h1.trans h2.symm)
    omega)
  rwa [List.take_length] at this
theorem cells_of_own {w : World} {v : Value} {l : Pairs V} (h : OwnP w v l) : (v = .slice none 0 0 ∧ l = []) ∨ ∃ g cap, v = .slice (some ⟨g, 0, none⟩) l.length cap ∧ g < w.heap.size ∧ ∀ j p, l[j]? = some p → ∀ i u, (pairCells p)[i]? = some u → w.cell? ⟨g, 0 + j * 2 + i, none⟩ = some u := by
  rcases h.2 with ⟨e1, e2⟩ | ⟨g, cap, cur, e1, _, e2, e3, _, e4, e5⟩
  · exact .inl ⟨e1, List.eq_nil_of_length_eq_zero e2⟩
  · refine .inr ⟨g, cap, e1, (Array.getElem?_eq_some_iff.1 e2).1, fun j p hj i u hi => ?_⟩
    obtain ⟨q1, q2⟩ := cellsP_get l j p hj
    have hjl := (List.getElem?_eq_some_iff.1 hj).1
    have hcell : ∀ m x, m < l.length * 2 → (cellsP l)[m]? = some x → w.cell? ⟨g, m, none⟩ = some x := fun m x hm hx => by
      rw [← e5, List.getElem?_take, if_pos hm, Array.getElem?_toList] at hx
      exact (Mem.row_cell e2 m).trans hx
    rw [Nat.zero_add]
    match i, hi with
    | 0, hi => simp [pairCells] at hi; rw [← hi]; exact hcell _ _ (by omega) q1
    | 1, hi => simp [pairCells] at hi; rw [← hi]; exact hcell _ _ (by omega) q2
    | i + 2, hi => simp [pairCells] at hi
theorem index_any {w : World} {v : Value} {l : Pairs V} {key : ByteArray} {B : Nat} (h : OwnP w v l) (hl : l.length ≤ 9223372036854775807) (hB : B < w.heap.size) (hcell : w.cell? ⟨B, 0, none⟩ = some (.string key)) :
    Calls Tryz.prog 90 #[v, .func (.func 91) #[] #[.pointer (some ⟨B, 0, none⟩)]] w fun e w' => e = .returned (.int .i64 (pos l key)) ∧ Below w.heap.size w w' := by
  have eg : ∀ args w, (callFunc 91 args).run Tryz.prog w = .ok (.enter 91 args) w := enters_of Tryz.func91 (by kernel_rfl) rfl
  rcases cells_of_own h with ⟨rfl, rfl⟩ | ⟨g, cap, rfl, hg, hc⟩
  · rw [pos_none (by simp)]
    clear h eg hcell
    go_enter Tryz.func90, Tryz.ntmps90
    go_wp2_with fail
    go_loopw [8] (fun i wr => i = .int .i64 0 ∧ wr = w) (fun _ _ => 0)
    case atStart => exact ⟨rfl, rfl⟩
    case round =>
      obtain ⟨rfl, rfl⟩ := hrel
      go_wp2_with fail
      go_ret
      exact ⟨rfl, Below.refl _ _⟩
  · have hcon := Go.Proofs.AnyQ.slices_IndexFunc Lay.idxF 2 Tryz.isAgg136 Tryz.sizeOf136 pairCells (fun _ => rfl) (fun x => decide (x.1 = key)) 91 #[.pointer (some ⟨B, 0, none⟩)] eg g 0 l.length cap l w
      (pred_any key B w hB hcell) (Nat.le_refl _) hl hg (fun j hj i u hi => hc j _ (by rw [getElem!_pos l j hj]; exact List.getElem?_eq_getElem hj) i u hi)
    rw [List.take_length] at hcon
    exact hcon
end Go.Proofs.YtodoglljjhdbeaaGreatDoor.TabE

/- Layer 9: find, Get. -/
namespace Go.Proofs.YtodoglljjhdbeaaGreatDoor.TabE
open Go Go.RowKit Go.Proofs.YtodoglljjhdbeaaGreatDoor.Mem Go.Proofs.YtodoglljjhdbeaaGreatDoor.Tab

def FindPost (w : World) (b : Nat) (F : Nat → Prop) (seed : Int) (c : Con V) (many : Nat) (ea : Option Addr) (eb nb : Nat) (k : ByteArray) (e : Ending) (w' : World) : Prop :=
  ∃ F' gv, e = .returned (.tuple #[.pointer (some (adr c eb nb (c.idx (hN seed) k))), .int .i64 (pos (c.bs (c.idx (hN seed) k)) k)]) ∧ Mid w F w' b F' seed c many ea eb nb gv
theorem Fits.step {n : Nat} {seed : Int} {c : Con V} {L : Pairs V} (h : Fits n seed c L) : Fits n seed (c.step (hN seed)) L := by
  obtain ⟨e1, e2, _⟩ := step_shape (H := hN seed) c
  exact ⟨h.s0, h.s1, h.abs.step, by rw [e1]; exact h.E, by rw [e2]; exact h.N, h.len, h.n, h.keys⟩
set_option maxRecDepth 100000 in
set_option maxHeartbeats 1000000 in
theorem find_any {w : World} {b : Nat} {F : Nat → Prop} {seed : Int} {c : Con V} {many : Nat} {ea : Option Addr} {eb nb n : Nat} {gv : Nat → Value} {L : Pairs V} (h : AtW w b F seed c many ea eb nb gv) (hf : Fits n seed c L) (k : ByteArray) (hk : k.size ≤ maxLen) :
    Calls Tryz.prog 68 #[.pointer (some ⟨b, 0, none⟩), .string k] w (FindPost w b F seed (c.step (hN seed)) many ea eb nb k) := by
  have hb1 : Below w.heap.size w (w.alloc (.cells #[.string k] 9)) := Mem.al (Below.refl _ _) _
  have n0 := Mem.new_block w (.cells #[.string k] 9)
  have h1 := h.below hb1
  have hcall := step_any h1 hf
  have hlt := h.lt
  have HW := Lib.hid (And.intro hb1 (And.intro n0 hlt))
  clear h hb1 n0 hlt h1
  unfold StepPost at hcall
  go_enter Tryz.func68, Tryz.ntmps68
  go_wp2_with fail
  refine hcall.mono ?_
  rintro e w1 ⟨F1, gv1, rfl, hm⟩
  have hs := hf.step
  have hidx := hs.abs.idx_lt k
  have hkb : w1.cell? ⟨w.heap.size, 0, none⟩ = some (.string k) := by
    have := hm.only.same w.heap.size (by simp) (fun e => by have := HW.out.2.2 _ e; omega)
    exact (World.cell?_of_block this).trans (Mem.row_cell HW.out.2.1 0)
  have hkbl : w.heap.size < w1.heap.size := by have := hm.only.size; simp at this; omega
  have hof := fun d => of_any (hm.at_.same (w' := w1.drewN d) (fun _ _ => rfl) (Nat.le_refl _)) hs.s0 hs.s1 k hk hs.abs.le hs.abs.pos hs.E hs.N
  replace hof := hof 0
  unfold OfAt at hof
  obtain ⟨g, i, hadr, _, cg, _, _, _⟩ := hm.at_.loc hidx
  rw [hadr] at hof
  have hrow := hm.at_.rows _ hidx
  have hbl := bs_len hs.abs ((c.step (hN seed)).idx (hN seed) k)
  have hl1 := hs.len
  have hl2 := hs.n
  have hix : ∀ d, Calls Tryz.prog 90 #[gv1 ((c.step (hN seed)).idx (hN seed) k), .func (.func 91) #[] #[.pointer (some ⟨w.heap.size, 0, none⟩)]] (w1.drewN d) fun e w' => e = .returned (.int .i64 (pos ((c.step (hN seed)).bs ((c.step (hN seed)).idx (hN seed) k)) k)) ∧ Below w1.heap.size (w1.drewN d) w' := fun d =>
    index_any (w := w1.drewN d) (row_same hrow fun _ _ => rfl) (by omega) hkbl hkb
  have hfin : ∀ w2 d, Below w1.heap.size (w1.drewN d) w2 → FindPost w b F seed (c.step (hN seed)) many ea eb nb k (.returned (.tuple #[.pointer (some ⟨g, i, none⟩), .int .i64 (pos ((c.step (hN seed)).bs ((c.step (hN seed)).idx (hN seed) k)) k)])) w2 := fun w2 d hb2 => by
    have hb3 : Below w1.heap.size w1 w2 := (Mem.dn (Below.refl _ w1) d).trans (hb2.mono (Nat.le_refl _))
    refine ⟨F1, gv1, by rw [hadr], hm.at_.below hb3, ?_, fun j hj => (hm.grows j hj).imp id (fun e => by simp at e; omega)⟩
    exact ((Only.of_below (F := F) HW.out.1 (fun k h1 h2 => by omega)).trans hm.only (Grows.refl _ _)).trans (Only.of_below (F := F) hb3 (fun k h1 h2 => by omega)) (Grows.refl _ _)
  have HF := Lib.hid hfin
  obtain ⟨v0, hv0⟩ : ∃ v0, gv1 ((c.step (hN seed)).idx (hN seed) k) = v0 := ⟨_, rfl⟩
  obtain ⟨ps, hps⟩ : ∃ ps, pos ((c.step (hN seed)).bs ((c.step (hN seed)).idx (hN seed) k)) k = ps := ⟨_, rfl⟩
  rw [hv0] at cg hix
  rw [hps] at hix HF
  clear hcall hm hs hidx hadr hrow hbl hl1 hl2 hfin hv0 hps hkbl
  obtain ⟨kb, hkbe⟩ : ∃ kb, w.heap.size = kb := ⟨_, rfl⟩
  rw [hkbe] at hkb hix ⊢
  clear hkbe
  go_wp2_with fail
  refine hof.mono ?_
  rintro e w2 ⟨rfl, d, rfl⟩
  clear hof
  have cg2 : (w1.drewN d).cell? ⟨g, i, none⟩ = some v0 := cg
  have hcall := hix (0 + d)
  go_wp2_with fail
  refine (hix _).mono ?_
  rintro e w3 ⟨rfl, hb3⟩
  have HR := Lib.hid (HF.out _ _ hb3)
  clear hb3 hix hcall
  go_wp2_with fail
  go_ret2
  exact HR.out

/-- Found, or not. -/
theorem pos_cases {n : Nat} {seed : Int} {c : Con V} {L : Pairs V} (h : Fits n seed c L) (k : ByteArray) : (Tab.get L k = none ∧ k ∉ L.map (·.1) ∧ pos (c.bs (c.idx (hN seed) k)) k = -1) ∨
    ∃ (i : Nat) (u : V), (c.bs (c.idx (hN seed) k))[i]? = some (k, u) ∧ pos (c.bs (c.idx (hN seed) k)) k = i ∧ Tab.get L k = some u ∧ k ∈ L.map (·.1) := by
  by_cases hm : k ∈ L.map (·.1)
  · obtain ⟨i, u, h1, h2⟩ := pos_some (h.abs.nd _) ((h.abs.find k).2 hm)
    exact .inr ⟨i, u, h1, h2, (get_mem h.abs.rise.nodup).2 ((h.abs.mem (k, u)).2 (List.mem_of_getElem? h1)), hm⟩
  · exact .inl ⟨get_none.2 hm, hm, pos_none fun e => hm ((h.abs.find k).1 e)⟩
def TurnPost (w : World) (b : Nat) (F : Nat → Prop) (seed : Int) (s : St V) (v : Value) (e : Ending) (w' : World) : Prop := ∃ F', e = .returned v ∧ At w' b F' seed s ∧ Only F w w' ∧ Grows w F F'
/-- What a table asks of its numbers. -/
structure Sm (n : Nat) (seed : Int) (s : St V) : Prop where
  s0 : 0 ≤ seed
  s1 : seed < 18446744073709551616
  len : s.L.length ≤ n
  nle : n ≤ 1000000000
  bk : s.buckets ≤ 8 + n
theorem Sm.fits {n : Nat} {seed : Int} {s : St V} {c : Con V} (h : Sm n seed s) (ha : Abs (hN seed) c s.L) (hE : c.E ≤ c.N) (hN : c.N = s.buckets) (hk : ∀ p ∈ s.L, p.1.size ≤ maxLen) : Fits n seed c s.L := by
  have := h.bk
  have := h.nle
  exact ⟨h.s0, h.s1, ha, by omega, by omega, h.len, h.nle, hk⟩
theorem Mid.done {w w' : World} {F F' : Nat → Prop} {b : Nat} {seed : Int} {c : Con V} {ea : Option Addr} {eb nb : Nat} {gv : Nat → Value} {s : St V} {many : Nat} (h : Mid w F w' b F' seed c many ea eb nb gv) (hm : many = s.L.length) (ha : Abs (hN seed) c s.L) (hE : c.E ≤ c.N) (h1 : c.N = s.buckets) (h2 : c.left = s.left) (hk : ∀ p ∈ s.L, p.1.size ≤ maxLen) {v : Value} : TurnPost w b F seed s v (.returned v) w' := by
  subst hm
  exact ⟨F', rfl, ⟨c, ea, eb, nb, gv, h.at_, ha, hE, h1, h2, hk⟩, h.only, h.grows⟩
def getV (L : Pairs V) (k : ByteArray) : Value := match Tab.get L k with
  | some v => .tuple #[(.pointer (some ⟨v, 0, none⟩)), .bool true]
  | none => .tuple #[(.pointer none), .bool false]
set_option maxRecDepth 100000 in
set_option maxHeartbeats 1000000 in
theorem get_any {w : World} {b : Nat} {F : Nat → Prop} {seed : Int} {s : St V} {n : Nat} (h : At w b F seed s) (hs : Sm n seed s) (k : ByteArray) (hk : k.size ≤ maxLen) :
    Calls Tryz.prog 45 #[.pointer (some ⟨b, 0, none⟩), .string k] w (TurnPost w b F seed s.tick (getV s.L k)) := by
  obtain ⟨c, ea, eb, nb, gv, hat, ha, hE, hcN, hcl, hks⟩ := h
  have hf := hs.fits ha hE hcN hks
  have hcall := find_any hat hf k hk
  obtain ⟨q1, q2, q3⟩ := step_shape (H := hN seed) c
  have hpos := pos_cases hf.step k
  have hfin : ∀ w' F' gv', Mid w F w' b F' seed (c.step (hN seed)) s.L.length ea eb nb gv' → ∀ v, TurnPost w b F seed s.tick v (.returned v) w' := fun w' F' gv' hm v =>
    hm.done (s := s.tick) rfl ha.step (by rw [q1, q2]; exact hE) (q2.trans hcN) (by rw [q3, hcl]; rfl) hks
  have hbs := fun k => bs_len hf.step.abs k
  have hL := hf.len
  have hLn := hf.n
  have hidx := hf.step.abs.idx_lt k
  unfold FindPost at hcall
  unfold getV
  rcases hpos with ⟨hg, -, hp⟩ | ⟨i, u, hi, hp, hg, -⟩
  · rw [hp] at hcall
    simp only [hg]
    have HF := Lib.hid hfin
    obtain ⟨ad, had⟩ : ∃ ad, adr (c.step (hN seed)) eb nb ((c.step (hN seed)).idx (hN seed) k) = ad := ⟨_, rfl⟩
    rw [had] at hcall
    clear hat ha hE hcN hcl hks hf q1 q2 q3 hp hg hfin hbs hL hLn had hidx
    go_enter Tryz.func45, Tryz.ntmps45
    go_wp2_with fail
    refine hcall.mono ?_
    rintro e w1 ⟨F1, gv1, rfl, hm⟩
    have HR := Lib.hid (HF.out _ _ _ hm)
    clear hm hcall
    go_wp2_with fail
    go_ret2
    exact HR.out _
  · rw [hp] at hcall
    simp only [hg]
    have hil := (List.getElem?_eq_some_iff.1 hi).1
    have hil2 := hbs ((c.step (hN seed)).idx (hN seed) k)
    have HF := Lib.hid (And.intro hfin (And.intro hi hidx))
    have hi1 : (i : Int) < ((c.step (hN seed)).bs ((c.step (hN seed)).idx (hN seed) k)).length := by omega
    obtain ⟨n1, hn1⟩ : ∃ n1, ((c.step (hN seed)).bs ((c.step (hN seed)).idx (hN seed) k)).length = n1 := ⟨_, rfl⟩
    rw [hn1] at hi1
    have HN := Lib.hid hn1
    have hi2 : (i : Int) ≤ 1000000000 := by omega
    clear hat ha hE hcN hcl hks hf q1 q2 q3 hp hg hfin hbs hL hLn hil hil2 hn1 hi hidx
    go_enter Tryz.func45, Tryz.ntmps45
    go_wp2_with fail
    refine hcall.mono ?_
    rintro e w1 ⟨F1, gv1, rfl, hm⟩
    obtain ⟨g, j, hadr, _, cg, _, _, _⟩ := hm.at_.loc HF.out.2.2
    rw [hadr]
    obtain ⟨g2, cap, e2, _, _, c2⟩ := own_get (hm.at_.rows _ HF.out.2.2) HF.out.2.1
    rw [e2, HN.out] at cg
    have HR := Lib.hid (HF.out.1 _ _ _ hm)
    clear hm hcall hadr e2
    go_wp2_with fail
    go_ret2
    exact HR.out _
end Go.Proofs.YtodoglljjhdbeaaGreatDoor.TabE

/- Layer 9: Put. -/
namespace Go.Proofs.YtodoglljjhdbeaaGreatDoor.TabE
open Go Go.RowKit Go.Proofs.YtodoglljjhdbeaaGreatDoor.Mem Go.Proofs.YtodoglljjhdbeaaGreatDoor.Tab

section
variable {w w' : World} {b : Nat} {F G : Nat → Prop} {seed : Int} {c : Con V} {many : Nat} {ea : Option Addr} {eb nb : Nat} {gv : Nat → Value}
/-- A bucket's row turns where it lies. -/
theorem AtW.turnRow (h : AtW w b F seed c many ea eb nb gv) {k : Nat} (hk : k < c.E + c.N) {x : Pairs V} (hs : ∀ j, F j → (gv k).ownBlock ≠ some j → w'.heap[j]? = w.heap[j]?) (hz : w.heap.size ≤ w'.heap.size) (hown : OwnP w' (gv k) x) :
    AtW w' b F seed (c.set k x) many ea eb nb gv := by
  refine ⟨(hs b h.fb (h.row_b hk)).trans h.blk, ?_, ?_, fun j hj => ?_, h.fb, h.fn, h.fr, h.apart, fun j hj => Nat.lt_of_lt_of_le (h.lt j hj) hz⟩
  · rcases h.eo with h0 | ⟨h1, h2, h3, a, ha, h5⟩
    · exact .inl h0
    · exact .inr ⟨h1, h2, h3, a, (hs eb h2 (row_not (h.rows k hk) ha (by decide))).trans ha, h5⟩
  · obtain ⟨a, ha, h2⟩ := h.no
    exact ⟨a, (hs nb h.fn (h.row_n hk)).trans ha, h2⟩
  · show OwnP w' (gv j) (upd c.bs k x j)
    by_cases e : j = k
    · subst e; rw [upd_same]; exact hown
    · rw [upd_other _ _ e]
      exact row_same (h.rows j hj) fun g e' => hs g (h.fr j hj g e') (h.apart j k hj hk e g e')
/-- A pair's value is stored. -/
theorem own_store {l : Pairs V} {g n cap i : Nat} {k : ByteArray} {u u' : V} (h : OwnP w (.slice (some ⟨g, 0, none⟩) n cap) l) (hi : l[i]? = some (k, u)) : OwnP (w.setCell ⟨g, i * 2 + 1, none⟩ (.pointer (some ⟨u', 0, none⟩))) (.slice (some ⟨g, 0, none⟩) n cap) (l.set i (k, u')) := by
  have hil := (List.getElem?_eq_some_iff.1 hi).1
  have hset : ∀ (l : Pairs V) (i : Nat), l[i]? = some (k, u) → cellsP (l.set i (k, u')) = (cellsP l).set (i * 2 + 1) (.pointer (some ⟨u', 0, none⟩)) := fun l => by
    induction l with
    | nil => intro i h; simp at h
    | cons p l ih =>
      intro i h
      match i, h with
      | 0, h => simp at h; subst h; rfl
      | i + 1, h =>
        rw [List.set_cons_succ, cellsP_cons, cellsP_cons, ih i (by simpa using h), show (i + 1) * 2 + 1 = i * 2 + 1 + 1 + 1 from by omega]
        rfl
  refine ⟨by rw [cellsP_len], ?_⟩
  rcases h.2 with ⟨e, _⟩ | ⟨g', cap', cur, e, h2, h3, h4, h5, h6, h7⟩
  · cases e
  injection e with e e1 e2
  injection e with e
  injection e with e
  subst e; subst e2
  refine .inr ⟨g, cap, cur.setIfInBounds (i * 2 + 1) (.pointer (some ⟨u', 0, none⟩)), by rw [List.length_set, e1], h2, Mem.row_set h3 _ _, by rw [List.length_set]; exact h4, h5, by simpa using h6, ?_⟩
  rw [hset l i hi, List.length_set, ← h7]
  simp only [Array.toList_setIfInBounds]
  rw [List.take_set]
/-- The table grows. -/
theorem AtW.grow (h : AtW w b F seed c many ea eb nb gv) {nb' : Nat} {a : Array Value} (hnb : w.heap.size ≤ nb') (hb : w'.heap[b]? = some (tabObj seed (.slice (some ⟨nb, 0, none⟩) c.N c.N) (.slice (some ⟨nb', 0, none⟩) (2 * c.N) (2 * c.N)) c.N many))
    (hn : w'.heap[nb']? = some (bkObj a)) (hs : a.size = 2 * c.N) (ha : ∀ k, k < 2 * c.N → a[k]? = some (.slice none 0 0)) (ho : ∀ j, F j → j ≠ b → w'.heap[j]? = w.heap[j]?) (hz : w.heap.size ≤ w'.heap.size) :
    AtW w' b (fun j => F j ∨ j = nb') seed c.grow many (some ⟨nb, 0, none⟩) nb nb' (fun j => if j < c.N then gv (c.E + j) else .slice none 0 0) := by
  have hob : ∀ j g, (if j < c.N then gv (c.E + j) else Value.slice none 0 0).ownBlock = some g → j < c.N ∧ (gv (c.E + j)).ownBlock = some g := fun j g e => by
    by_cases hj : j < c.N
    · rw [if_pos hj] at e; exact ⟨hj, e⟩
    · rw [if_neg hj] at e; cases e
  have hnblt := h.lt nb h.fn
  obtain ⟨a0, h1, h2, h3⟩ := h.no
  refine ⟨hb, .inr ⟨rfl, .inl h.fn, by omega, a0, (ho nb h.fn (Ne.symm h.ne_bn)).trans h1, h2, fun k hk => ?_⟩, ⟨a, hn, hs, fun k hk => ?_⟩, fun k hk => ?_, .inl h.fb, .inr rfl, fun k _ g e => ?_, fun j k _ _ hjk g e e' => ?_, fun j hj => ?_⟩
  · rw [h3 k hk]; rw [if_pos (show k < c.N from hk)]
  · rw [ha k hk]; rw [if_neg (show ¬ c.grow.E + k < c.N from by show ¬ c.N + k < c.N; omega)]
  · show OwnP w' (if k < c.N then gv (c.E + k) else .slice none 0 0) (if k < c.N then c.bs (c.E + k) else [])
    by_cases hkN : k < c.N
    · rw [if_pos hkN, if_pos hkN]
      exact row_same (h.rows _ (by omega)) fun g e => ho g (h.fr _ (by omega) g e) (fun e1 => h.row_b (show c.E + k < c.E + c.N by omega) (e1 ▸ e))
    · rw [if_neg hkN, if_neg hkN]; exact World.ownsRow_nil _ _ _ _
  · obtain ⟨q1, q2⟩ := hob k g e
    exact .inl (h.fr _ (by omega) g q2)
  · obtain ⟨q1, q2⟩ := hob j g e
    obtain ⟨q3, q4⟩ := hob k g e'
    exact h.apart _ _ (by omega) (by omega) (by omega) g q2 q4
  · rcases hj with e | e
    · exact Nat.lt_of_lt_of_le (h.lt j e) hz
    · rw [e]; exact (Array.getElem?_eq_some_iff.1 hn).1
end
/-- Where Put stands behind its store. -/
def Stored (w : World) (b : Nat) (F : Nat → Prop) (seed : Int) (s : St V) (k : ByteArray) (v : V) (w' : World) : Prop :=
  ∃ F' c ea eb nb gv, Mid w F w' b F' seed c (Tab.put s.L k v).length ea eb nb gv ∧ Abs (hN seed) c (Tab.put s.L k v) ∧ c.E ≤ c.N ∧ c.N = s.buckets ∧ c.left = s.left - 1
theorem stored_old {w w1 : World} {b : Nat} {F F1 : Nat → Prop} {seed : Int} {s : St V} {c : Con V} {ea : Option Addr} {eb nb n g n1 cap i : Nat} {gv : Nat → Value} {k : ByteArray} {u : V} (v : V) (h : Mid w F w1 b F1 seed c s.L.length ea eb nb gv) (hf : Fits n seed c s.L)
    (hE : c.E ≤ c.N) (hNb : c.N = s.buckets) (hl : c.left = s.left - 1) (hi : (c.bs (c.idx (hN seed) k))[i]? = some (k, u)) (hg : gv (c.idx (hN seed) k) = .slice (some ⟨g, 0, none⟩) n1 cap) : Stored w b F seed s k v (w1.setCell ⟨g, i * 2 + 1, none⟩ (.pointer (some ⟨v, 0, none⟩))) := by
  have hidx := hf.abs.idx_lt k
  have hrow := h.at_.rows _ hidx
  rw [hg] at hrow
  have hkm : k ∈ s.L.map (·.1) := (hf.abs.find k).1 (List.mem_map.2 ⟨_, List.mem_of_getElem? hi, rfl⟩)
  have h1 := h.at_.turnRow hidx (w' := w1.setCell ⟨g, i * 2 + 1, none⟩ (.pointer (some ⟨v, 0, none⟩))) (x := (c.bs (c.idx (hN seed) k)).set i (k, v)) (fun j hj hn => Below.heap_setCell _ _ _ _ (fun e => by rw [hg] at hn; exact hn (by rw [e]; rfl))) (by simp [World.setCell]) (by rw [hg]; exact own_store hrow hi)
  refine ⟨F1, _, ea, eb, nb, gv, ⟨by rw [put_len_old hf.abs.rise v hkm]; exact h1, h.only.setCell (p := ⟨g, i * 2 + 1, none⟩) ?_ _, h.grows⟩, hf.abs.change v hi, hE, hNb, hl⟩
  exact (h.grows g (h.at_.fr _ hidx g (by rw [hg]; rfl)))
theorem stored_new {w w1 w6 : World} {b : Nat} {F F1 : Nat → Prop} {seed : Int} {s : St V} {c : Con V} {ea : Option Addr} {eb nb n g i g' cap' : Nat} {gv : Nat → Value} {k : ByteArray} (v : V) (h : Mid w F w1 b F1 seed c s.L.length ea eb nb gv) (hf : Fits n seed c s.L)
    (hE : c.E ≤ c.N) (hNb : c.N = s.buckets) (hl : c.left = s.left - 1) (hk : k ∉ s.L.map (·.1)) (hadr : adr c eb nb (c.idx (hN seed) k) = ⟨g, i, none⟩) {o : Obj}
    (hown : OwnP w6 (.slice (some ⟨g', 0, none⟩) ((c.bs (c.idx (hN seed) k)).length + 1) cap') (c.bs (c.idx (hN seed) k) ++ [(k, v)])) (hgrow : (w1.alloc o).grownBy w6 (gv (c.idx (hN seed) k)).ownBlock) (hat : (gv (c.idx (hN seed) k)).ownBlock = some g' ∨ g' = w1.heap.size + 1) :
    Stored w b F seed s k v ((w6.setCell ⟨g, i, none⟩ (.slice (some ⟨g', 0, none⟩) ((c.bs (c.idx (hN seed) k)).length + 1) cap')).setCell ⟨b, 4, none⟩ (.int .i64 ((s.L.length : Int) + 1))) := by
  have hidx := hf.abs.idx_lt k
  have hsm : ∀ j, F1 j → (gv (c.idx (hN seed) k)).ownBlock ≠ some j → w6.heap[j]? = w1.heap[j]? := fun j hj hn => (hgrow.block j (by have := h.at_.lt j hj; simp; omega) (Ne.symm hn)).trans (Below.heap_alloc _ _ _ (h.at_.lt j hj))
  have hz : w1.heap.size + 1 ≤ w6.heap.size := by have := hgrow.size; simpa using this
  have h1 := h.at_.setRow hidx (w' := w6) (v := .slice (some ⟨g', 0, none⟩) ((c.bs (c.idx (hN seed) k)).length + 1) cap') hsm (by omega) hown (fun g2 e => by
    have e2 : g' = g2 := by simpa [Value.ownBlock] using e
    subst e2
    exact hat.imp id (fun e => by omega))
  rw [hadr] at h1
  have hFg : F1 g := by
    obtain ⟨g2, i2, e, hF, _⟩ := h.at_.loc hidx
    rw [hadr] at e; injection e with e; rw [e]; exact hF
  have h2 := h1.setBlk (w' := (w6.setCell ⟨g, i, none⟩ (.slice (some ⟨g', 0, none⟩) ((c.bs (c.idx (hN seed) k)).length + 1) cap')).setCell ⟨b, 4, none⟩ (.int .i64 ((s.L.length : Int) + 1))) c.left (s.L.length + 1) (Mem.row_set h1.blk 4 _) (fun j hj => Below.heap_setCell _ _ _ _ hj) (by simp [World.setCell])
  refine ⟨_, _, ea, eb, nb, _, ⟨by rw [put_len_new hf.abs.rise v hk]; exact h2, ?_, fun j hj => ?_⟩, hf.abs.add v hk, hE, hNb, hl⟩
  · refine ((h.only.trans (((Only.refl F1 w1).alloc o).grown hgrow fun g2 e => ?_) h.grows).setCell (p := ⟨g, i, none⟩) (h.grows g hFg) _).setCell (p := ⟨b, 4, none⟩) (h.grows b h.at_.fb) _
    exact .inl (h.at_.fr _ hidx g2 e)
  · rcases hj with e | e
    · exact h.grows j e
    · have e2 : g' = j := by simpa [Value.ownBlock] using e
      subst e2
      exact hat.elim (fun e => h.grows _ (h.at_.fr _ hidx _ e)) (fun e => .inr (by have := h.only.size; omega))
theorem Sm.put {n : Nat} {seed : Int} {s : St V} (h : Sm n seed s) (hn : n + 1 ≤ 1000000000) (k : ByteArray) (v : V) : Sm (n + 1) seed (s.put k v) := by
  have := h.len
  have := h.bk
  have hp := (Tab.put_len (L := s.L) k v).1
  refine ⟨h.s0, h.s1, by rw [put_L]; omega, hn, ?_⟩
  unfold St.put St.grown
  split
  · rename_i hc; simp only at hc ⊢; omega
  · simp only; omega
theorem Sm.tick {n : Nat} {seed : Int} {s : St V} (h : Sm n seed s) : Sm n seed s.tick := ⟨h.s0, h.s1, h.len, h.nle, h.bk⟩
theorem Sm.del {n : Nat} {seed : Int} {s : St V} (h : Sm n seed s) (k : ByteArray) : Sm n seed (s.del k) := ⟨h.s0, h.s1, Nat.le_trans (del_len_le _ _) h.len, h.nle, h.bk⟩
theorem Sm.mono {n m : Nat} {seed : Int} {s : St V} (h : Sm n seed s) (hm : n ≤ m) (hm2 : m ≤ 1000000000) : Sm m seed s := ⟨h.s0, h.s1, Nat.le_trans h.len hm, hm2, by have := h.bk; omega⟩
end Go.Proofs.YtodoglljjhdbeaaGreatDoor.TabE

