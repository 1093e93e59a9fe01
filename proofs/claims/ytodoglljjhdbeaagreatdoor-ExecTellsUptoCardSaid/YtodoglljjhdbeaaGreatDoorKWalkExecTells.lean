/- KWalkExecTells: WalkExecTells, one behind the other. -/
import Derived.Test.YtodoglljjhdbeaaGreatDoorPartX1
import Derived.Deep.RegionHeld3
import Derived.StillTailTactics
import Derived.BigQuiet
/- ExecTells answers true for every list of commands and every command. Conditions: the numbers are of their kinds; no text of a command has more than 2000000 letters. -/
namespace Go.Proofs.YtodoglljjhdbeaaGreatDoor.ExecTells
set_option maxRecDepth 100000
open Go Go.RowKit Go.Proofs.YtodoglljjhdbeaaGreatDoor.Mem Go.Proofs.YtodoglljjhdbeaaGreatDoor.App Go.Proofs.YtodoglljjhdbeaaGreatDoor.Ops Go.Proofs.YtodoglljjhdbeaaGreatDoor.Shard Go.Proofs.YtodoglljjhdbeaaGreatDoor.Exec

set_option maxHeartbeats 4000000 in
theorem walk (W : World) (hp : Pows W) (he : Errs W) (x : Option Addr) (n0 c : Nat) (l : List Exec.Op) (o : Exec.Op) (hl : n0 = l.length ∧ n0 ≤ maxLen ∧ (∀ a ∈ l, Exec.OpOk W a) ∧ Lies W 14 Exec.encO x l) (hsm : Small l) (ho : Exec.OpOk W o ∧ o.cmd.key.size ≤ 1048576 ∧ o.cmd.val.length ≤ 1048576) (hx : x = none → c = 0 ∧ l = []) :
    Calls Tryz.prog 3 #[.slice x n0 c, .agg (Exec.encO o).toArray] W fun e W' => e = .returned (.bool true) ∧ Below W.heap.size W W' := by
  obtain ⟨oc, ov, oe⟩ := o
  obtain ⟨rfl, hml, hok, hlies⟩ := hl
  obtain ⟨ho1, ho2, ho3⟩ := ho
  obtain ⟨va, vk, hsh⟩ := ho1.src.shape
  replace hsh : ov = .slice va oc.val.length vk := hsh
  replace ho2 : oc.key.size ≤ 1048576 := ho2
  replace ho3 : oc.val.length ≤ 1048576 := ho3
  obtain ⟨vn, hvn⟩ : ∃ vn, oc.val.length = vn := ⟨_, rfl⟩
  rw [hvn] at hsh
  subst hsh
  have hbx := Mem.al (Below.refl W.heap.size W) (.cells #[.int .i64 oc.op, .string oc.key, .slice va vn vk, .int .u32 oc.flags, .int .i64 oc.exp, .int .u64 oc.cas, .int .u64 oc.delta, .int .u64 oc.initial, .bool oc.makes, .bool oc.sets, .int .i64 oe.now, .int .u64 oe.seq, .int .i64 oe.flush, .int .u64 oe.flushSeq] 31)
  have hrow := Mem.new_block W (.cells #[.int .i64 oc.op, .string oc.key, .slice va vn vk, .int .u32 oc.flags, .int .i64 oc.exp, .int .u64 oc.cas, .int .u64 oc.delta, .int .u64 oc.initial, .bool oc.makes, .bool oc.sets, .int .i64 oe.now, .int .u64 oe.seq, .int .i64 oe.flush, .int .u64 oe.flushSeq] 31)
  obtain ⟨W0, hW0⟩ : ∃ W0, W.alloc (.cells #[.int .i64 oc.op, .string oc.key, .slice va vn vk, .int .u32 oc.flags, .int .i64 oc.exp, .int .u64 oc.cas, .int .u64 oc.delta, .int .u64 oc.initial, .bool oc.makes, .bool oc.sets, .int .i64 oe.now, .int .u64 oe.seq, .int .i64 oe.flush, .int .u64 oe.flushSeq] 31) = W0 := ⟨_, rfl⟩
  rw [hW0] at hbx hrow
  have hS : ∀ W' : World, Below W0.heap.size W0 W' → W'.cell? ⟨W.heap.size, 0, none⟩ = some (.int .i64 oc.op) ∧ W'.cell? ⟨W.heap.size, 1, none⟩ = some (.string oc.key) ∧ W'.cell? ⟨W.heap.size, 2, none⟩ = some (.slice va vn vk) ∧ W'.cell? ⟨W.heap.size, 3, none⟩ = some (.int .u32 oc.flags) ∧ W'.cell? ⟨W.heap.size, 4, none⟩ = some (.int .i64 oc.exp) ∧ W'.cell? ⟨W.heap.size, 5, none⟩ = some (.int .u64 oc.cas) ∧ W'.cell? ⟨W.heap.size, 6, none⟩ = some (.int .u64 oc.delta) ∧ W'.cell? ⟨W.heap.size, 7, none⟩ = some (.int .u64 oc.initial) ∧ W'.cell? ⟨W.heap.size, 8, none⟩ = some (.bool oc.makes) ∧ W'.cell? ⟨W.heap.size, 9, none⟩ = some (.bool oc.sets) ∧ W'.cell? ⟨W.heap.size, 10, none⟩ = some (.int .i64 oe.now) ∧ W'.cell? ⟨W.heap.size, 11, none⟩ = some (.int .u64 oe.seq) ∧ W'.cell? ⟨W.heap.size, 12, none⟩ = some (.int .i64 oe.flush) ∧ W'.cell? ⟨W.heap.size, 13, none⟩ = some (.int .u64 oe.flushSeq) := fun W' hb => by
    have hr := (hb.block _ (Array.getElem?_eq_some_iff.1 hrow).1).trans hrow
    exact ⟨Mem.row_cell hr 0, Mem.row_cell hr 1, Mem.row_cell hr 2, Mem.row_cell hr 3, Mem.row_cell hr 4, Mem.row_cell hr 5, Mem.row_cell hr 6, Mem.row_cell hr 7, Mem.row_cell hr 8, Mem.row_cell hr 9, Mem.row_cell hr 10, Mem.row_cell hr 11, Mem.row_cell hr 12, Mem.row_cell hr 13⟩
  have HS0 := Lib.hid hS
  have hlen : l.length ≤ 500000 := hsm.1
  have HW := Lib.hid (And.intro (tabIs_below hp hbx) (he.below hbx))
  have HO := Lib.hid (And.intro (Exec.OpOk.below ho1 hbx) (And.intro ho2 (And.intro ho3 hvn)))
  have HL0 := Lib.hid (And.intro (show ∀ o ∈ l, OpOk W0 o from fun o ho => (hok o ho).below hbx) (And.intro (hlies.same hbx) (And.intro hsm (And.intro hml (And.intro hx hbx)))))
  clear hml hok hlies hsm hp he hx hS hrow ho1 ho2 ho3 hvn hbx
  unfold Exec.encO
  show Calls _ _ #[.slice x l.length c, .agg #[.int .i64 oc.op, .string oc.key, .slice va vn vk, .int .u32 oc.flags, .int .i64 oc.exp, .int .u64 oc.cas, .int .u64 oc.delta, .int .u64 oc.initial, .bool oc.makes, .bool oc.sets, .int .i64 oe.now, .int .u64 oe.seq, .int .i64 oe.flush, .int .u64 oe.flushSeq]] _ _
  go_enter Tryz.func3, Tryz.ntmps3
  go_wp2_with fail
  refine (awake_any W0 HW.out.1 HW.out.2).mono ?_
  rintro e w1 ⟨rfl, hb1⟩
  have H1 := Lib.hid hb1
  obtain ⟨l2, hl2⟩ : ∃ l2, l ++ [⟨oc, .slice va vn vk, oe⟩] = l2 := ⟨_, rfl⟩
  have hf2 : l2.flatMap Exec.encO = l.flatMap Exec.encO ++ Exec.encO ⟨oc, .slice va vn vk, oe⟩ := by rw [← hl2, List.flatMap_append]; simp
  have hn2 : l2.length = l.length + 1 := by rw [← hl2]; simp
  have hok2 : ∀ o ∈ l2, OpOk W0 o := fun o ho => by
    rw [← hl2] at ho
    rcases List.mem_append.1 ho with ho | ho
    · exact HL0.out.1 o ho
    · rw [List.mem_singleton.1 ho]
      exact HO.out.1
  have hmax : fewB l2 = true → oe.now ≤ 1099511627776 := fun h => by
    have h' := (of_decide_eq_true h).2 ⟨oc, .slice va vn vk, oe⟩ (by rw [← hl2]; simp)
    exact h'.2.1
  have hst1 : ∀ (wq : World) (ops : Array Oper) (oo : Oper) (a : Act) (K : Act → World → Prop) (Q : Exit → Act → World → Prop) (E : Prop), Below w1.heap.size w1 wq → oo.guard = none → oo.op = .call { callee := .builtin .append, args := #[.const (.slice none 0 0), .tmp 13], argTypes := #[22, 22] } → a.eval (.const (.slice none 0 0)) = .slice none 0 0 → a.eval (.tmp 13) = .slice x l.length c →
      (∀ aA cA wA, Below wq.heap.size wq wA → wA.ownsRow w1.heap.size 31 14 (.slice aA l.length cA) l.length (l.flatMap Exec.encO) → K (a.put oo.dst (.slice aA l.length cA)) wA) → if Region.wanted oo (yielded ops a.tmps) = true then Oper.wp Tryz.prog oo a wq K Q else E := by
    intro wq ops oo a K Q E hbq hgd hop he1 he2 hk
    refine step_append_many hgd _ _ hop w1.heap.size _ 0 [] he1 ⟨rfl, .inl ⟨rfl, rfl⟩⟩ _ l.length _ he2 (many_of_lies (HL0.out.2.1.same (Mem.tr H1.out hbq)) HL0.out.2.2.2.2.1) (one_flat HL0.out.1) (by omega) hbq.size ?_
    intro v' w' h1 h2
    rw [Nat.zero_add, List.nil_append] at h1
    obtain ⟨aA, cA, rfl⟩ := (Src.of_row h1).shape
    exact hk aA cA w' ((Below.refl _ _).grown h2 (Nat.le_refl _) (fun k e => by cases e)) h1
  have hst2 : ∀ (wq : World) (ops : Array Oper) (oo : Oper) (a : Act) (K : Act → World → Prop) (Q : Exit → Act → World → Prop) (E : Prop) (aA : Option Addr) (cA g16 : Nat), Below w1.heap.size w1 wq → wq.ownsRow w1.heap.size 31 14 (.slice aA l.length cA) l.length (l.flatMap Exec.encO) → wq.heap[g16]? = some (.cells #[.int .i64 oc.op, .string oc.key, .slice va vn vk, .int .u32 oc.flags, .int .i64 oc.exp, .int .u64 oc.cas, .int .u64 oc.delta, .int .u64 oc.initial, .bool oc.makes, .bool oc.sets, .int .i64 oe.now, .int .u64 oe.seq, .int .i64 oe.flush, .int .u64 oe.flushSeq] 31) → oo.guard = none → oo.op = .call { callee := .builtin .append, args := #[.tmp 14, .tmp 16], argTypes := #[22, 22] } → a.eval (.tmp 14) = .slice aA l.length cA → a.eval (.tmp 16) = .slice (some ⟨g16, 0, none⟩) 1 1 →
      (∀ x2 c2 w', Below w1.heap.size w1 w' → Lies w' 14 Exec.encO x2 l2 → K (a.put oo.dst (.slice x2 l2.length c2)) w') → if Region.wanted oo (yielded ops a.tmps) = true then Oper.wp Tryz.prog oo a wq K Q else E := by
    intro wq ops oo a K Q E aA cA g16 hbq hown hblk hgd hop he1 he2 hk
    refine step_append_many hgd _ _ hop w1.heap.size _ l.length _ he1 hown _ 1 (Exec.encO ⟨oc, .slice va vn vk, oe⟩) he2 (.inr ⟨⟨g16, 0, none⟩, 1, rfl, rfl, World.news_of_block hblk⟩) (one_enc HO.out.1) (by omega) hbq.size ?_
    intro v' w' h1 h2
    rw [← hf2, ← hn2] at h1
    obtain ⟨x2, c2, rfl, hl⟩ := lies_of_src (Src.of_row h1)
    exact hk x2 c2 w' (hbq.grown h2 hbq.size (fun k e => (own_block_lt hown k e).1)) hl
  have hS1 : ∀ W' : World, Below w1.heap.size w1 W' → W'.cell? ⟨W.heap.size, 0, none⟩ = some (.int .i64 oc.op) ∧ W'.cell? ⟨W.heap.size, 1, none⟩ = some (.string oc.key) ∧ W'.cell? ⟨W.heap.size, 2, none⟩ = some (.slice va vn vk) ∧ W'.cell? ⟨W.heap.size, 3, none⟩ = some (.int .u32 oc.flags) ∧ W'.cell? ⟨W.heap.size, 4, none⟩ = some (.int .i64 oc.exp) ∧ W'.cell? ⟨W.heap.size, 5, none⟩ = some (.int .u64 oc.cas) ∧ W'.cell? ⟨W.heap.size, 6, none⟩ = some (.int .u64 oc.delta) ∧ W'.cell? ⟨W.heap.size, 7, none⟩ = some (.int .u64 oc.initial) ∧ W'.cell? ⟨W.heap.size, 8, none⟩ = some (.bool oc.makes) ∧ W'.cell? ⟨W.heap.size, 9, none⟩ = some (.bool oc.sets) ∧ W'.cell? ⟨W.heap.size, 10, none⟩ = some (.int .i64 oe.now) ∧ W'.cell? ⟨W.heap.size, 11, none⟩ = some (.int .u64 oe.seq) ∧ W'.cell? ⟨W.heap.size, 12, none⟩ = some (.int .i64 oe.flush) ∧ W'.cell? ⟨W.heap.size, 13, none⟩ = some (.int .u64 oe.flushSeq) := fun W' hb => HS0.out _ (Mem.tr H1.out hb)
  have hSd := hS1 w1.drew (Below.drew (Below.refl _ _))
  have hSa := hS1 (w1.alloc (.cells #[.int .i64 oc.op, .string oc.key, .slice va vn vk, .int .u32 oc.flags, .int .i64 oc.exp, .int .u64 oc.cas, .int .u64 oc.delta, .int .u64 oc.initial, .bool oc.makes, .bool oc.sets, .int .i64 oe.now, .int .u64 oe.seq, .int .i64 oe.flush, .int .u64 oe.flushSeq] 31)).drew (Below.drew (Mem.al (Below.refl _ _) _))
  have HS := Lib.hid hS1
  have HT1 := Lib.hid hst1
  have HT2 := Lib.hid hst2
  clear hst1 hst2
  have hfew := fun x2 c2 w' (h : Lies w' 14 Exec.encO x2 l2) => few_any (c := c2) h (by unfold maxLen; omega) hok2
  have HM := Lib.hid hmax
  clear hl2 hf2 hok2 hmax hS1 hb1 hn2
  obtain ⟨c0, c1, c2, c3, c4, c5, c6, c7, c8, c9, c10, c11, c12, c13⟩ := HS0.out _ H1.out
  go_upto_region 2 with (fail)
  go_cut [6] from 13 to 18 (fun p wx => ∃ q : Bool, p = .bool q ∧ Hid (Below w1.heap.size w1 wx ∧ (q = true → oe.now ≤ 1099511627776)))
  case first =>
    go_region_held3 (fun W' : World => W'.cell? ⟨W.heap.size, 0, none⟩ = some (.int .i64 oc.op) ∧ W'.cell? ⟨W.heap.size, 1, none⟩ = some (.string oc.key) ∧ W'.cell? ⟨W.heap.size, 2, none⟩ = some (.slice va vn vk) ∧ W'.cell? ⟨W.heap.size, 3, none⟩ = some (.int .u32 oc.flags) ∧ W'.cell? ⟨W.heap.size, 4, none⟩ = some (.int .i64 oc.exp) ∧ W'.cell? ⟨W.heap.size, 5, none⟩ = some (.int .u64 oc.cas) ∧ W'.cell? ⟨W.heap.size, 6, none⟩ = some (.int .u64 oc.delta) ∧ W'.cell? ⟨W.heap.size, 7, none⟩ = some (.int .u64 oc.initial) ∧ W'.cell? ⟨W.heap.size, 8, none⟩ = some (.bool oc.makes) ∧ W'.cell? ⟨W.heap.size, 9, none⟩ = some (.bool oc.sets) ∧ W'.cell? ⟨W.heap.size, 10, none⟩ = some (.int .i64 oe.now) ∧ W'.cell? ⟨W.heap.size, 11, none⟩ = some (.int .u64 oe.seq) ∧ W'.cell? ⟨W.heap.size, 12, none⟩ = some (.int .i64 oe.flush) ∧ W'.cell? ⟨W.heap.size, 13, none⟩ = some (.int .u64 oe.flushSeq)) (first
      | with_reducible exact HS.out _ H3.out
      | with_reducible exact HS.out _ H2.out.1
      | with_reducible exact HS.out _ (Mem.al HA.out.1 _)
      | with_reducible exact HS.out _ HA.out.1
      | with_reducible exact hSa
      | with_reducible exact hSd) (first
      | (go_at_call 12; refine (hfew x2 c2 _ H2.out.2).mono ?_; rintro en wF ⟨rfl, hbF⟩; have H3 := Lib.hid (Mem.tr H2.out.1 hbF); clear hbF)
      | (refine HT1.out _ _ _ _ _ _ _ (show Below w1.heap.size w1 (w1.alloc (.cells #[.int .i64 oc.op, .string oc.key, .slice va vn vk, .int .u32 oc.flags, .int .i64 oc.exp, .int .u64 oc.cas, .int .u64 oc.delta, .int .u64 oc.initial, .bool oc.makes, .bool oc.sets, .int .i64 oe.now, .int .u64 oe.seq, .int .i64 oe.flush, .int .u64 oe.flushSeq] 31)).drew from Below.drew (Mem.al (Below.refl _ _) _)) (by rfl) (by rfl) (by kernel_rfl) (by kernel_rfl) ?_; intro aA cA wA hbA hownA; have HG := Lib.hid ((hbA.block w1.heap.size (by show w1.heap.size < (w1.alloc _).heap.size; rw [World.size_alloc]; omega)).trans (show (w1.alloc (.cells #[.int .i64 oc.op, .string oc.key, .slice va vn vk, .int .u32 oc.flags, .int .i64 oc.exp, .int .u64 oc.cas, .int .u64 oc.delta, .int .u64 oc.initial, .bool oc.makes, .bool oc.sets, .int .i64 oe.now, .int .u64 oe.seq, .int .i64 oe.flush, .int .u64 oe.flushSeq] 31)).heap[w1.heap.size]? = _ from Mem.new_block w1 (.cells #[.int .i64 oc.op, .string oc.key, .slice va vn vk, .int .u32 oc.flags, .int .i64 oc.exp, .int .u64 oc.cas, .int .u64 oc.delta, .int .u64 oc.initial, .bool oc.makes, .bool oc.sets, .int .i64 oe.now, .int .u64 oe.seq, .int .i64 oe.flush, .int .u64 oe.flushSeq] 31))); have HA := Lib.hid (And.intro (Mem.tr (Below.drew (Mem.al (Below.refl w1.heap.size w1) (.cells #[.int .i64 oc.op, .string oc.key, .slice va vn vk, .int .u32 oc.flags, .int .i64 oc.exp, .int .u64 oc.cas, .int .u64 oc.delta, .int .u64 oc.initial, .bool oc.makes, .bool oc.sets, .int .i64 oe.now, .int .u64 oe.seq, .int .i64 oe.flush, .int .u64 oe.flushSeq] 31))) hbA) hownA); clear hbA hownA)
      | (refine HT1.out _ _ _ _ _ _ _ (show Below w1.heap.size w1 w1.drew from Below.drew (Below.refl _ _)) (by rfl) (by rfl) (by kernel_rfl) (by kernel_rfl) ?_; intro aA cA wA hbA hownA; have HA := Lib.hid (And.intro (Mem.tr (Below.drew (Below.refl w1.heap.size w1)) hbA) hownA); clear hbA hownA)
      | (refine HT2.out _ _ _ _ _ _ _ _ _ _ HA.out.1 HA.out.2 HG.out (by rfl) (by rfl) (by kernel_rfl) (by kernel_rfl) ?_; intro x2 c2 wB hbB hlB; have H2 := Lib.hid (And.intro hbB hlB); clear hbB hlB)
      | (refine HT2.out _ _ _ _ _ _ _ _ _ _ (show Below w1.heap.size w1 (wA.alloc (.cells #[.int .i64 oc.op, .string oc.key, .slice va vn vk, .int .u32 oc.flags, .int .i64 oc.exp, .int .u64 oc.cas, .int .u64 oc.delta, .int .u64 oc.initial, .bool oc.makes, .bool oc.sets, .int .i64 oe.now, .int .u64 oe.seq, .int .i64 oe.flush, .int .u64 oe.flushSeq] 31)) from Mem.al HA.out.1 _) (row_keep HA.out.2 fun g e => Below.heap_alloc _ _ _ (own_block_lt HA.out.2 g e).2) (Mem.new_block wA (.cells #[.int .i64 oc.op, .string oc.key, .slice va vn vk, .int .u32 oc.flags, .int .i64 oc.exp, .int .u64 oc.cas, .int .u64 oc.delta, .int .u64 oc.initial, .bool oc.makes, .bool oc.sets, .int .i64 oe.now, .int .u64 oe.seq, .int .i64 oe.flush, .int .u64 oe.flushSeq] 31)) (by rfl) (by rfl) (by kernel_rfl) (by kernel_rfl) ?_; intro x2 c2 wB hbB hlB; have H2 := Lib.hid (And.intro hbB hlB); clear hbB hlB))
    all_goals (go_wp2_with fail; go_meet)
    all_goals exact ⟨_, rfl, Lib.hid ⟨H3.out, HM.out⟩⟩
  case rest =>
    obtain ⟨q, rfl, HQ⟩ := hcut
    have hdn := done_any (c := c) HL0.out.2.1 (Mem.tr H1.out HQ.out.1) HL0.out.2.2.1 HL0.out.1 HW.out.1 HW.out.2
    clear hfew hSd hSa c0 c1 c2 c3 c4 c5 c6 c7 c8 c9 c10 c11 c12 c13
    go_wp2_with fail
    refine hdn.mono ?_
    rintro e w3 ⟨b, s, rfl, hL⟩
    have HL := Lib.hid hL
    clear hdn hL
    have HLN := Lib.hid hlen
    clear hlen
    have HE := Lib.hid (show ∀ w' : World, Below W0.heap.size W0 w' → Below W.heap.size W w' from fun _ h => Mem.tr HL0.out.2.2.2.2.2 h)
    cases q with
    | false =>
      go_wp2_with fail
      go_ret
      exact ⟨rfl, HE.out _ HL.out.low⟩
    | true =>
      have HNW := Lib.hid (HQ.out.2 rfl)
      obtain ⟨c0, c1, c2, c3, c4, c5, c6, c7, c8, c9, c10, c11, c12, c13⟩ := HS0.out _ HL.out.low
      by_cases hg : oc.op < 3
      · have hgi : oc.op < 3 := hg
        clear hg
        go_wp2_with fail
        go_ret
        exact ⟨rfl, HE.out _ HL.out.low⟩
      have g0 : 3 ≤ oc.op := by omega
      clear hg
      by_cases hg : 5 < oc.op
      · have hgi : 5 < oc.op := hg
        clear hg
        go_wp2_with fail
        go_ret
        exact ⟨rfl, HE.out _ HL.out.low⟩
      have g1 : oc.op ≤ 5 := by omega
      clear hg
      by_cases hg : oe.now < 1
      · have hgi : oe.now < 1 := hg
        clear hg
        go_wp2_with fail
        go_ret
        exact ⟨rfl, HE.out _ HL.out.low⟩
      have g2 : 1 ≤ oe.now := by omega
      clear hg
      by_cases hg : oc.exp < 0
      · have hgi : oc.exp < 0 := hg
        clear hg
        go_wp2_with fail
        go_ret
        exact ⟨rfl, HE.out _ HL.out.low⟩
      have g3 : 0 ≤ oc.exp := by omega
      clear hg
      by_cases hg : 2592000 < oc.exp
      · have hgi : 2592000 < oc.exp := hg
        clear hg
        go_wp2_with fail
        go_ret
        exact ⟨rfl, HE.out _ HL.out.low⟩
      have g4 : oc.exp ≤ 2592000 := by omega
      clear hg
      have HR0 := Lib.hid (And.intro (And.intro g0 g1) (And.intro (And.intro g2 HNW.out) (And.intro g3 g4)))
      obtain ⟨z, hz⟩ : ∃ z, IntKind.u64.wrap (oe.seq + 1) = z := ⟨_, rfl⟩
      have hA := HL.out.val (HO.out.1.src.below HL.out.low) HO.out.1.low
      clear HL
      have HL := Lib.hid hA
      clear hA
      go_upto_region 7 with (fail)
      have hA := HL.out.alloc (.cells (env0 (oe.now) (oe.seq)).arr 29)
      obtain ⟨wE, hwE⟩ : ∃ wE, w3.alloc (.cells (env0 (oe.now) (oe.seq)).arr 29) = wE := ⟨_, rfl⟩
      obtain ⟨q0, hq0⟩ : ∃ q0, w3.heap.size = q0 := ⟨_, rfl⟩
      rw [hwE, hq0] at hA
      unfold Shard.Env.arr env0 at hwE
      rw [hwE, hq0]
      clear hwE hq0 HL
      have HL := Lib.hid hA
      clear hA
      clear c0 c1 c2 c3 c4 c5 c6 c7 c8 c9 c10 c11 c12 c13
      have hev := HL.out.row (List.Mem.head _)
      have v0 := Mem.row_cell hev 0
      have v1 := Mem.row_cell hev 1
      have v2 := Mem.row_cell hev 2
      have v3 := Mem.row_cell hev 3
      simp only [Shard.Env.arr, env0, List.getElem?_toArray, List.getElem?_cons_zero, List.getElem?_cons_succ] at v0 v1 v2 v3
      have hdo := calls_args (args' := #[.pointer (some ⟨b, 0, none⟩), .agg #[.int .i64 oc.op, .string oc.key, .slice va vn vk, .int .u32 oc.flags, .int .i64 oc.exp, .int .u64 oc.cas, .int .u64 oc.delta, .int .u64 oc.initial, .bool oc.makes, .bool oc.sets], .agg #[.int .i64 oe.now, .int .u64 oe.seq, .int .i64 0, .int .u64 0]]) (do_law HL.out (by have := HLN.out; omega) HW.out.1 HW.out.2 (oc) (env0 oe.now oe.seq) HO.out.2.2.2 (by have := HO.out.2.1; omega) (by have := HO.out.2.2.1; omega) (.inl (List.Mem.head _)) HO.out.1.cmd.initial HO.out.1.cmd.delta) rfl
      obtain ⟨c0, c1, c2, c3, c4, c5, c6, c7, c8, c9, c10, c11, c12, c13⟩ := HS0.out _ HL.out.low
      go_wp2_with fail
      refine hdo.mono ?_
      rintro e wD ⟨f1, r1, t1, a1, n1, k1, hf, hr, rfl, hn, hL⟩
      have HR1 := Lib.hid (And.intro hf (And.intro hr (And.intro hn HL.out.inv)))
      have HC1 := Lib.hid HL.out.2
      clear HL
      have HL := Lib.hid hL
      clear hf hr hn hL hdo c0 c1 c2 c3 c4 c5 c6 c7 c8 c9 c10 c11 c12 c13 v0 v1 v2 v3 hev
      go_upto_region 8 with (fail)
      have hA := HL.out.alloc (.cells (r1.arr (.slice a1 n1 k1)) 37)
      obtain ⟨w1, hw1⟩ : ∃ w1, wD.alloc (.cells (r1.arr (.slice a1 n1 k1)) 37) = w1 := ⟨_, rfl⟩
      obtain ⟨p1, hp1⟩ : ∃ p1, wD.heap.size = p1 := ⟨_, rfl⟩
      rw [hw1, hp1] at hA
      unfold Res.arr at hw1
      rw [hw1, hp1]
      clear hw1 hp1 HL
      have HL := Lib.hid hA
      clear hA
      have hev := HL.out.row (List.Mem.tail _ (List.Mem.head _))
      have v0 := Mem.row_cell hev 0
      have v1 := Mem.row_cell hev 1
      have v2 := Mem.row_cell hev 2
      have v3 := Mem.row_cell hev 3
      simp only [Shard.Env.arr, env0, List.getElem?_toArray, List.getElem?_cons_zero, List.getElem?_cons_succ] at v0 v1 v2 v3
      have hdo := calls_args (args' := #[.pointer (some ⟨b, 0, none⟩), .agg #[.int .i64 0, .string oc.key, .slice none 0 0, .int .u32 0, .int .i64 0, .int .u64 0, .int .u64 0, .int .u64 0, .bool false, .bool false], .agg #[.int .i64 oe.now, .int .u64 oe.seq, .int .i64 0, .int .u64 0]]) (do_law HL.out (by have := HLN.out; omega) HW.out.1 HW.out.2 (cmd 0 oc.key) (env0 oe.now oe.seq) rfl (show oc.key.size ≤ 2000000 by have := HO.out.2.1; omega) (show ([] : List UInt8).length ≤ 1100000 by decide) (.inr ⟨rfl, rfl⟩) ⟨by show (0 : Int) ≤ 0; decide, by show (0 : Int) ≤ 18446744073709551615; decide⟩ ⟨by show (0 : Int) ≤ 0; decide, by show (0 : Int) ≤ 18446744073709551615; decide⟩) rfl
      obtain ⟨c0, c1, c2, c3, c4, c5, c6, c7, c8, c9, c10, c11, c12, c13⟩ := HS0.out _ HL.out.low
      go_wp2_with fail
      refine hdo.mono ?_
      rintro e wD ⟨f2, r2, t2, a2, n2, k2, hf, hr, rfl, hn, hL⟩
      have HR2 := Lib.hid (And.intro hf (And.intro hr (And.intro hn HL.out.inv)))
      have HC2 := Lib.hid HL.out.2
      clear HL
      have HL := Lib.hid hL
      clear hf hr hn hL hdo c0 c1 c2 c3 c4 c5 c6 c7 c8 c9 c10 c11 c12 c13 v0 v1 v2 v3 hev
      go_upto_region 9 with (fail)
      have hA := HL.out.alloc (.cells (r2.arr (.slice a2 n2 k2)) 37)
      obtain ⟨w2, hw2⟩ : ∃ w2, wD.alloc (.cells (r2.arr (.slice a2 n2 k2)) 37) = w2 := ⟨_, rfl⟩
      obtain ⟨p2, hp2⟩ : ∃ p2, wD.heap.size = p2 := ⟨_, rfl⟩
      rw [hw2, hp2] at hA
      unfold Res.arr at hw2
      rw [hw2, hp2]
      clear hw2 hp2 HL
      have HL := Lib.hid hA
      clear hA
      have hbx := HL.out.row (List.Mem.tail _ (List.Mem.head _))
      have a0 := Mem.row_cell hbx 0
      have a3 := Mem.row_cell hbx 3
      simp only [Res.arr, List.getElem?_toArray, List.getElem?_cons_zero, List.getElem?_cons_succ] at a0 a3
      clear hbx
      by_cases h2 : r1.status = 2
      case neg =>
        have hb : (r1.status != 2) = true := by simpa using h2
        clear h2
        go_wp2_with fail
        go_ret
        exact ⟨rfl, HE.out _ HL.out.low⟩
      have hpl := tells_law (f1 := f1) (f2 := f2) (s1 := t1) HR1.out.2.2.2.choose_spec.choose_spec oc (by have := HR0.out.1; omega) (by have := HO.out.2.1; omega) oe.now oe.seq HR0.out.2.1 HR0.out.2.2 HR1.out.1 (by rw [HR1.out.2.1]) HR2.out.2.2.2 (by rw [HR1.out.2.1]; exact h2)
      rw [HR1.out.2.1, HR2.out.2.1, hz] at hpl
      have k1 : r1 = { only 2 with cas := z } := hpl.1
      have k2 : r2 = ⟨0, oc.val, oc.flags, z, if oc.exp = 0 then -1 else oc.exp, 0, false, false, false⟩ := hpl.2
      have j1 : r1.cas = z := by rw [k1]
      have j2 : r2.status = 0 := by rw [k2]
      have j3 : r2.val = oc.val := by rw [k2]
      have j4 : r2.flags = oc.flags := by rw [k2]
      have j5 : r2.cas = z := by rw [k2]
      have j6 : r2.ttl = if oc.exp = 0 then -1 else oc.exp := by rw [k2]
      have j7 : r2.stale = false := by rw [k2]
      rw [h2] at a0
      rw [j1] at a3
      clear hpl k1 k2 h2 j1
      have hbx := HL.out.row (List.Mem.head _)
      have b0 := Mem.row_cell hbx 0
      have b1 := Mem.row_cell hbx 1
      have b2 := Mem.row_cell hbx 2
      have b3 := Mem.row_cell hbx 3
      have b4 := Mem.row_cell hbx 4
      have b6 := Mem.row_cell hbx 6
      simp only [Res.arr, List.getElem?_toArray, List.getElem?_cons_zero, List.getElem?_cons_succ] at b0 b1 b2 b3 b4 b6
      clear hbx
      rw [j2] at b0
      rw [j4] at b2
      rw [j5] at b3
      rw [j7] at b6
      have hcg := conv_any (HL.out.src (List.Mem.head _))
      have hco := conv_any (HL.out.src (List.Mem.tail _ (List.Mem.tail _ (List.Mem.head _))))
      simp only [j3] at hcg
      clear j2 j3 j4 j5 j7
      have hev := HL.out.row (List.Mem.tail _ (List.Mem.tail _ (List.Mem.head _)))
      have v0 := Mem.row_cell hev 0
      have v1 := Mem.row_cell hev 1
      have v2 := Mem.row_cell hev 2
      have v3 := Mem.row_cell hev 3
      simp only [Shard.Env.arr, env0, List.getElem?_toArray, List.getElem?_cons_zero, List.getElem?_cons_succ] at v0 v1 v2 v3
      clear hev
      obtain ⟨c0, c1, c2, c3, c4, c5, c6, c7, c8, c9, c10, c11, c12, c13⟩ := HS0.out _ HL.out.low
      by_cases e0 : oc.exp = 0
      · rw [if_pos e0] at j6
        rw [j6] at b4
        have e1 : (oc.exp == 0) = true := by simpa using e0
        clear e0 j6
        go_wp2_with fail
        go_ret
        exact ⟨rfl, HE.out _ HL.out.low⟩
      · rw [if_neg e0] at j6
        rw [j6] at b4
        have e1 : (oc.exp == 0) = false := by simpa using e0
        clear e0 j6
        go_wp2_with fail
        go_ret
        exact ⟨rfl, HE.out _ HL.out.low⟩
end Go.Proofs.YtodoglljjhdbeaaGreatDoor.ExecTells

