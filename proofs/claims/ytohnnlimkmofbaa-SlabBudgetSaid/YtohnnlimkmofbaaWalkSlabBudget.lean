/- SlabBudget answers true for every budget and list of calls. Conditions: the numbers are ints. -/
import Derived.Test.YtohnnlimkmofbaaSlabAwake
import Derived.Test.YtohnnlimkmofbaaSlab6
import Derived.Test.YtohnnlimkmofbaaChunks
import Derived.Deep.LoopGhost
import Derived.Deep.QuietTactic
import Derived.BigQuiet
import Derived.Deep.CutRange
import Derived.Deep.RegionLaw
namespace Go.Proofs.Ytohnnlimkmofbaa.SlabBudget
open Go Go.RowKit Go.Proofs.Ytohnnlimkmofbaa.Slab Go.Proofs.Ytohnnlimkmofbaa.Mem Go.Proofs.Ytohnnlimkmofbaa.Ops

theorem erase_at {α : Type} [BEq α] [LawfulBEq α] : ∀ (l : List α) (k : Nat) (c : α), l.Nodup → l[k]? = some c → l.erase c = l.take k ++ l.drop (k + 1)
  | [], k, c, _, h => by simp at h
  | d :: l, 0, c, _, h => by simp at h; subst h; simp
  | d :: l, k + 1, c, hn, h => by
    have hn' := List.nodup_cons.1 hn
    have hm := List.mem_of_getElem? (show l[k]? = some c by simpa using h)
    have hne : (d == c) = false := by simp; exact fun e => hn'.1 (e ▸ hm)
    rw [List.erase_cons, hne, erase_at l k c hn'.2 (by simpa using h)]
    simp

/-- What holds at the head of a round, and behind each of its parts. -/
structure Mid (W wr : World) (N m b : Nat) (budget : Int) (F : Nat → Prop) (va : Value) (s : St) : Prop where
  run : Run W wr N b F s
  row : Row W wr F va s.inn
  len : s.inn.length ≤ m
  most : s.used ≤ budget
  bud : s.budget = budget
theorem Mid.step {W wr w' : World} {N m b : Nat} {budget : Int} {F : Nat → Prop} {va : Value} {s : St} (h : Mid W wr N m b budget F va s) (hb : Below wr.heap.size wr w') : Mid W w' N m b budget F va s :=
  ⟨h.run.step hb, h.row.step hb, h.len, h.most, h.bud⟩
/-- A block that is neither the slab's nor the list's. -/
structure Aside (wr : World) (F : Nat → Prop) (va : Value) (ob : Nat) (o : Obj) : Prop where
  is : wr.heap[ob]? = some o
  off : ¬ F ob
  not : va.ownBlock ≠ some ob
theorem Aside.lt {wr : World} {F : Nat → Prop} {va : Value} {ob : Nat} {o : Obj} (h : Aside wr F va ob o) : ob < wr.heap.size := (Array.getElem?_eq_some_iff.1 h.is).1
theorem Aside.new {W wr : World} {N m b : Nat} {budget : Int} {F : Nat → Prop} {va : Value} {s : St} (h : Mid W wr N m b budget F va s) (o : Obj) : Aside (wr.alloc o) F va wr.heap.size o :=
  ⟨Mem.new_block wr o, fun e => by have := h.run.lt _ e; omega, fun e => by have := (ownsRow_lt h.row.own _ e).2; omega⟩
theorem Aside.only {wr w' : World} {F F' : Nat → Prop} {va : Value} {ob : Nat} {o : Obj} (h : Aside wr F va ob o) (ho : Only F wr w') (hg : Grows wr F F') : Aside w' F' va ob o :=
  ⟨(ho.same ob h.lt h.off).trans h.is, fun e => (hg ob e).elim h.off (fun e' => by have := h.lt; omega), h.not⟩
theorem Aside.step {wr w' : World} {F : Nat → Prop} {va : Value} {ob : Nat} {o : Obj} (h : Aside wr F va ob o) (hb : Below wr.heap.size wr w') : Aside w' F va ob o := ⟨(hb.block ob h.lt).trans h.is, h.off, h.not⟩

/-- Behind the copy of a list in two appends. -/
theorem copied {W w5 w6 w7 : World} {N b ob : Nat} {F : Nat → Prop} {s : St} {v0 v1 v2 : Value} {obj : Obj} {xs : List (Int × Int)} (hR : Run W w5 N b F s) (hA : Aside w5 F v0 ob obj) (h1 : w5.drew.grownBy w6 none) (a1 : v1.ownBlock = none ∨ v1.ownBlock = some w5.heap.size)
    (h2 : w6.grownBy w7 v1.ownBlock) (a2 : v2.ownBlock = v1.ownBlock ∨ v2.ownBlock = some w6.heap.size) (hown : w7.ownsRow W.heap.size 34 2 v2 xs.length (cellsC xs)) : Run W w7 N b F s ∧ Row W w7 F v2 xs ∧ Aside w7 F v2 ob obj := by
  have hs1 : w5.heap.size ≤ w6.heap.size := h1.size
  have hW : W.heap.size ≤ w5.heap.size := hR.below.size
  have hv1 : ∀ g, v1.ownBlock = some g → g = w5.heap.size := fun g e => a1.elim (fun e1 => by rw [e1] at e; cases e) (fun e1 => by rw [e1] at e; injection e with e; exact e.symm)
  have hv2 : ∀ g, v2.ownBlock = some g → w5.heap.size ≤ g := fun g e => a2.elim (fun e1 => by rw [e1] at e; have := hv1 g e; omega) (fun e1 => by rw [e1] at e; injection e with e; omega)
  have hR6 := (hR.step (w' := w5.drew) (Below.drew (Below.refl _ _))).grown h1 fun g e => by cases e
  have hR7 := hR6.grown h2 fun g e => ⟨fun hF => by have := hR.lt g hF; have := hv1 g e; omega, by have := hv1 g e; omega⟩
  refine ⟨hR7, ⟨hown, fun g e hF => by have := hR.lt g hF; have := hv2 g e; omega⟩, ⟨?_, hA.off, fun e => by have := hv2 ob e; have := hA.lt; omega⟩⟩
  exact (h2.block ob (by have := hA.lt; omega) (fun e => by have := hv1 ob e.symm; have := hA.lt; omega)).trans ((h1.block ob hA.lt (fun e => by cases e)).trans hA.is)

set_option maxRecDepth 20000 in
set_option maxHeartbeats 4000000 in
theorem walk (W : World) (budget : Int) (x : Option Addr) (n c : Nat) (l : List Slab.Op) (hb : isI budget) (hl : n = l.length ∧ n ≤ maxLen ∧ (∀ a ∈ l, OpOk a) ∧ Lies W 6 encO x l) :
    Calls Try.prog 7 #[.int .i64 budget, .slice x n c] W fun e W' => e = .returned (.bool true) ∧ Below W.heap.size W W' := by
  obtain ⟨rfl, -, hok, hlies⟩ := hl
  have HL := Lib.hid hlies
  have HO := Lib.hid hok
  obtain ⟨i0, hi, hz0, hz1, hz2⟩ := info_parts infoChunk
  clear hlies hok
  go_enter Try.func7, Try.ntmps7
  go_wp2_with fail
  refine (awake_any _).mono ?_
  rintro e w1 ⟨rfl, hb1⟩
  go_wp2_with fail
  refine (new_gives _ _).mono ?_
  rintro e w2 ⟨b, F, rfl, h0, hF, hb2⟩
  have r0 : Run W w2 0 b F (new budget) := ⟨h0, fun k hk => Nat.le_trans hb1.size (hF k hk), hb1.trans (hb2.mono hb1.size), Good.new budget hb⟩
  clear h0 hF hb1 hb2
  by_cases hn : 200 < l.length
  · go_wp2_with fail
    go_ret
    exact ⟨rfl, r0.below⟩
  by_cases hbu : budget < 0
  · go_wp2_with fail
    go_ret
    exact ⟨rfl, r0.below⟩
  go_wp2_with fail
  go_loopg [7, 8] l.length (fun g va i wr => ∃ (m : Nat) (F : Nat → Prop) (s : St), i = .int .i64 m ∧ g + m = l.length ∧ Mid W wr (2 * m) m b budget F va s)
  case atStart => exact ⟨0, F, new budget, rfl, by omega, r0, Row.nil _ _ _, Nat.le_refl _, by simp only [new]; omega, rfl⟩
  case round =>
    obtain ⟨m, F1, s, rfl, hg, hM⟩ := hrel
    clear r0
    by_cases hm : m < l.length
    · obtain ⟨o, ho⟩ : ∃ o, l[m]? = some o := ⟨_, List.getElem?_eq_getElem hm⟩
      obtain ⟨B, off, rfl, hB, hc⟩ := HL.out m o ho
      have hce : ∀ j u, (encO o)[j]? = some u → wr.cell? ⟨B, off + m * 6 + j, none⟩ = some u := fun j u hj => (World.cell?_of_block (hM.run.below.block B hB)).trans (hc j u hj)
      have ce0 : wr.cell? ⟨B, off + m * 6, none⟩ = some (.int .i64 o.kind) := hce 0 _ rfl
      have ce1 := hce 1 _ rfl
      have ce2 := hce 2 _ rfl
      have ce3 := hce 3 _ rfl
      have ce4 := hce 4 _ rfl
      have ce5 := hce 5 _ rfl
      have HG := Lib.hid hg
      have hm200 : m ≤ 200 := by omega
      obtain ⟨ya, yc, rfl⟩ := hM.row.shape
      have hoo := HO.out o (List.mem_of_getElem? ho)
      have hno := hoo.no
      have hsi := hoo.size
      clear hc ho hg hce hoo
      have hmi : (m : Int) < l.length := by omega
      have hM1 := hM.step (Mem.al (Below.refl _ _) (.cells #[.int .i64 o.kind, .int .i64 o.size, .int .i64 o.no, .bool o.raw, .int .i64 o.c, .int .i64 o.n] 38))
      have hA1 := Aside.new hM (.cells #[.int .i64 o.kind, .int .i64 o.size, .int .i64 o.no, .bool o.raw, .int .i64 o.c, .int .i64 o.n] 38)
      clear hM
      go_upto_region 10 with (fail)
      generalize wr.alloc (.cells #[.int .i64 o.kind, .int .i64 o.size, .int .i64 o.no, .bool o.raw, .int .i64 o.c, .int .i64 o.n] 38) = wa at *
      have b0 := Mem.row_cell hA1.is 0
      have b1 := Mem.row_cell hA1.is 1
      have b2 := Mem.row_cell hA1.is 2
      simp only [List.getElem?_toArray, List.getElem?_cons_zero, List.getElem?_cons_succ] at b0 b1 b2
      clear ce0 ce1 ce2 ce3 ce4 ce5
      obtain ⟨ob, hob⟩ : ∃ ob, wr.heap.size = ob := ⟨_, rfl⟩
      rw [hob] at hA1 b0 b1 b2
      simp only [hob]
      clear hob hmi
      have HM := Lib.hid hM1
      have HA := Lib.hid hA1
      clear hM1 hA1
      have hlen : s.inn.length ≤ 200 := by have := HM.out.len; omega
      go_cut [63] from 41 to 167 (fun v wx => ∃ q, v = .bool q ∧ (q = true ↔ o.kind = 1 ∧ 0 < s.inn.length ∧ 0 ≤ o.no) ∧ wx = wa)
      case first =>
        by_cases h1 : o.kind = 1
        · by_cases h2 : 0 < s.inn.length
          · have h2' : (0 : Int) < s.inn.length := by omega
            by_cases h3 : 0 ≤ o.no
            · go_wp2_with fail
              go_meet
              exact ⟨_, rfl, by simp [h1, h2, h3], rfl⟩
            · go_wp2_with fail
              go_meet
              exact ⟨_, rfl, by simp [h3], rfl⟩
          · have h2' : (s.inn.length : Int) ≤ 0 := by omega
            go_wp2_with fail
            go_meet
            exact ⟨_, rfl, by simp [h2], rfl⟩
        · go_wp2_with fail
          go_meet
          exact ⟨_, rfl, by simp [h1], rfl⟩
      case rest =>
        obtain ⟨q, rfl, hq, rfl⟩ := hcut
        have HQ := Lib.hid hq
        clear hq
        go_upto_if 63 with (fail)
        go_cut [7, 10] from 41 to 167 (fun va u wx => ∃ F s, Mid W wx (2 * m + 1) m b budget F va s ∧ Aside wx F va ob (.cells #[.int .i64 o.kind, .int .i64 o.size, .int .i64 o.no, .bool o.raw, .int .i64 o.c, .int .i64 o.n] 38))
        case first =>
          -- [done
          cases q with
          | true =>
            obtain ⟨h1, h2, h3⟩ := HQ.out.1 rfl
            obtain ⟨kk, hkk⟩ : ∃ kk : Nat, o.no.tmod s.inn.length = kk := ⟨(o.no.tmod s.inn.length).toNat, by
              have := Int.tmod_nonneg (s.inn.length : Int) h3; omega⟩
            have hkl : kk < s.inn.length := by
              have := Int.tmod_lt_of_pos o.no (show (0 : Int) < s.inn.length by omega); omega
            have hmod : o.no % (s.inn.length : Int) = kk := by rw [← hkk, Int.tmod_eq_emod_of_nonneg h3]
            obtain ⟨⟨cc, nn⟩, hck⟩ : ∃ q, s.inn[kk]? = some q := ⟨_, List.getElem?_eq_getElem hkl⟩
            have hcin : (cc, nn) ∈ s.inn := List.mem_of_getElem? hck
            have hR := HM.out.run
            have hrow := HM.out.row
            obtain ⟨f1, f2, f3, f4⟩ := free_in hcin
            have hG1 := hR.good.free (cc, nn)
            have hout : decide ((cc, nn) ∈ (s.free (cc, nn)).2.inn) = false := by rw [f2]; simp; exact fun h => ((hR.good.nd.mem_erase_iff).1 h).1 rfl
            obtain ⟨g, cap, hya, hgl, q0, q1⟩ := hrow.get hck
            injection hya with hya _ hyc
            subst hya hyc
            have hkki : (kk : Int) < s.inn.length := by omega
            have hkk0 : (0 : Int) ≤ kk := by omega
            have hlp : ¬ (s.inn.length : Int) = 0 := by omega
            have HF := Lib.hid (And.intro f2 (And.intro f3 (And.intro f4 hG1)))
            have HC := Lib.hid hck
            clear hkk hck hcin hR hrow f2 f3 f4 hG1
            go_upto_region 12 with (fail)
            simp only [hmod]
            go_wp2_with fail
            refine (free_any HM.out.run.at_ HM.out.run.good.small (by omega) cc nn).mono ?_
            rintro e w4 ⟨F4, rfl, h4, o4, q4⟩
            rw [f1]
            have hR4 := HM.out.run.post h4 o4 q4 HF.out.2.2.2
            have hrow4 := HM.out.row.only o4 q4
            have hA4 := HA.out.only o4 q4
            have hbud4 : (s.free (cc, nn)).2.used ≤ budget ∧ (s.free (cc, nn)).2.budget = budget := by
              rw [HF.out.2.1, HF.out.2.2.1]; have := HM.out.most; have := (bytes_range cc).1; exact ⟨by omega, HM.out.bud⟩
            have hinn4 : (s.free (cc, nn)).2.inn = s.inn.take kk ++ s.inn.drop (kk + 1) := by rw [HF.out.1]; exact erase_at _ _ _ HM.out.run.good.nd HC.out
            have hhas := has_any hR4.at_ cc nn
            rw [hout] at hhas
            generalize (s.free (cc, nn)).2 = s1 at *
            obtain ⟨g', cap', hya, hgl4, q0', q1'⟩ := hrow4.get HC.out
            injection hya with hya _ hyc
            injection hya with hya
            injection hya with hya
            subst hya hyc
            have H4 := Lib.hid (And.intro hR4 (And.intro hrow4 (And.intro hA4 (And.intro hbud4 hinn4))))
            clear hR4 hrow4 hA4 hbud4 hinn4 h4 o4 q4 hgl q0 q1 hout f1
            go_wp2_with fail
            refine hhas.mono ?_
            rintro e w5 ⟨rfl, hb5⟩
            have hR5 := H4.out.1.step hb5
            have hrow5 := H4.out.2.1.step hb5
            have hA5 := H4.out.2.2.1.step hb5
            have hcap := hrow5.cap
            have hgl5 : g < w5.heap.size := Nat.lt_of_lt_of_le hgl4 hb5.size
            have hrd := hrow5.reads
            have H5 := Lib.hid (And.intro hR5 (And.intro hrow5 (And.intro hA5 hrd)))
            have hWw : W.heap.size ≤ w5.heap.size := hR5.below.size
            clear hR5 hrow5 hA5 hrd hb5 hhas q0' q1'
            have hk1i : (kk : Int) + 1 ≤ s.inn.length := by omega
            have hl1 : (s.inn.take kk).length = kk := by rw [List.length_take]; omega
            have hl2 : (s.inn.drop (kk + 1)).length = s.inn.length - (kk + 1) := by rw [List.length_drop]
            have hstep1 : ∀ {ops : Array Oper} {o : Oper} {a : Act} {K : Act → World → Prop} {Q : Exit → Act → World → Prop} {E : Prop}, o.guard = none → o.op = .call { callee := .builtin .append, args := #[.const (.slice none 0 0), .tmp 86], argTypes := #[31, 31] } → a.eval (.tmp 86) = .slice (some ⟨g, 0, none⟩) kk yc →
                (∀ v' w', w'.ownsRow W.heap.size 34 2 v' ([] ++ s.inn.take kk).length (cellsC ([] ++ s.inn.take kk)) → w5.drew.grownBy w' none → (v'.ownBlock = none ∨ v'.ownBlock = some w5.heap.size) → K (a.put o.dst v') w') → if Region.wanted o (yielded ops a.tmps) = true then Oper.wp Try.prog o a w5.drew K Q else E :=
              fun hg ho he hK => step_appC _ _ W.heap.size (.slice none 0 0) [] (s.inn.take kk) g 0 yc hg ho rfl (by rw [hl1]; exact he) (World.ownsRow_nil _ _ _ _) ((H5.out.2.2.2.take kk).same rfl) (by rw [hl1]; simp; omega) hWw hK
            have hcapi : (kk : Int) ≤ yc := by omega
            have hcapi1 : (s.inn.length : Int) ≤ yc := by omega
            go_upto_region 14 with (fail)
            have hw1 : IntKind.i64.wrap ((kk : Int) + 1) = (kk : Int) + 1 := by rw [IntKind.wrap_i64]; omega
            have htn : ((kk : Int) + 1).toNat = kk + 1 := by omega
            have hk01 : (0 : Int) ≤ (kk : Int) + 1 := by omega
            obtain ⟨off2, hoff2, hrd2⟩ : ∃ off2, (if yc = kk + 1 then some (⟨g, 0, none⟩ : Addr) else some ⟨g, (kk + 1) * 2, none⟩) = some ⟨g, off2, none⟩ ∧ ReadsC w5 g off2 (s.inn.drop (kk + 1)) := by
              by_cases hy : yc = kk + 1
              · refine ⟨0, by rw [if_pos hy], ?_⟩
                rw [List.drop_eq_nil_of_le (by omega)]
                exact fun j u hu => by simp [cellsC] at hu
              · refine ⟨(kk + 1) * 2, by rw [if_neg hy], ?_⟩
                have := H5.out.2.2.2.drop (kk + 1)
                rwa [Nat.zero_add] at this
            have HRD := Lib.hid hrd2
            clear hrd2
            have hstep2 : ∀ (v1 : Value) (w6 : World), w6.ownsRow W.heap.size 34 2 v1 ([] ++ s.inn.take kk).length (cellsC ([] ++ s.inn.take kk)) → w5.drew.grownBy w6 none → ∀ {ops : Array Oper} {o : Oper} {a : Act} {K : Act → World → Prop} {Q : Exit → Act → World → Prop} {E : Prop}, o.guard = none → o.op = .call { callee := .builtin .append, args := #[.tmp 87, .tmp 91], argTypes := #[31, 31] } → a.eval (.tmp 87) = v1 → a.eval (.tmp 91) = .slice (some ⟨g, off2, none⟩) (s.inn.length - (kk + 1)) (yc - (kk + 1)) →
                (∀ v' w', w'.ownsRow W.heap.size 34 2 v' (s.inn.take kk ++ s.inn.drop (kk + 1)).length (cellsC (s.inn.take kk ++ s.inn.drop (kk + 1))) → w6.grownBy w' v1.ownBlock → (v'.ownBlock = v1.ownBlock ∨ v'.ownBlock = some w6.heap.size) → K (a.put o.dst v') w') → if Region.wanted o (yielded ops a.tmps) = true then Oper.wp Try.prog o a w6 K Q else E :=
              fun v1 w6 hown1 hgr1 {_ _ _ _ _ _} hg ho he hx hK => step_appC _ _ W.heap.size v1 (s.inn.take kk) (s.inn.drop (kk + 1)) g off2 (yc - (kk + 1)) hg ho he (by rw [hl2]; exact hx) hown1 (HRD.out.same (hgr1.block g hgl5 (fun e => by cases e))) (by rw [hl1, hl2]; omega) (Nat.le_trans hWw hgr1.size) hK
            go_cut [7] from 41 to 167 (fun va wx => ∃ v1 w6, w6.ownsRow W.heap.size 34 2 v1 ([] ++ s.inn.take kk).length (cellsC ([] ++ s.inn.take kk)) ∧ w5.drew.grownBy w6 none ∧ (v1.ownBlock = none ∨ v1.ownBlock = some w5.heap.size) ∧ wx.ownsRow W.heap.size 34 2 va (s.inn.take kk ++ s.inn.drop (kk + 1)).length (cellsC (s.inn.take kk ++ s.inn.drop (kk + 1))) ∧ w6.grownBy wx v1.ownBlock ∧ (va.ownBlock = v1.ownBlock ∨ va.ownBlock = some w6.heap.size))
            case first =>
              go_region_law (first | (refine hstep1 (by kernel_rfl) (by kernel_rfl) (by kernel_rfl) ?_; intro v1 w6 hown1 hgrow1 hat1; have hh := And.intro hown1 (And.intro hgrow1 hat1)) | (refine hstep2 v1 w6 hown1 hgrow1 (by kernel_rfl) (by kernel_rfl) (by kernel_rfl) (by kernel_rfl) ?_; intro v2 w7 hown2 hgrow2 hat2) | fail)
              all_goals (go_wp2_with fail; go_meet; exact ⟨v1, w6, hown1, hgrow1, hat1, hown2, hgrow2, hat2⟩)
            case rest =>
              obtain ⟨v1, w6, -, hgr1, hat1, hown2, hgr2, hat2⟩ := hcut
              have hcp := copied H5.out.1 H5.out.2.2.1 hgr1 hat1 hgr2 hat2 hown2
              have hinn4 := H4.out.2.2.2.2
              have hbud4 := H4.out.2.2.2.1
              have hsl := HM.out.len
              clear hgr1 hat1 hown2 hgr2 hat2 hstep1 hstep2
              go_wp2_with fail
              go_meet
              exact ⟨F4, s1, ⟨hcp.1, by rw [hinn4]; exact hcp.2.1, by rw [hinn4]; simp; omega, hbud4.1, hbud4.2⟩, hcp.2.2⟩
          | false =>
            go_wp2_with fail
            go_meet
            exact ⟨F1, s, ⟨HM.out.run.mono (by omega), HM.out.row, HM.out.len, HM.out.most, HM.out.bud⟩, HA.out⟩
          -- done]
        case rest =>
          obtain ⟨F2, s2, hM2, hA2⟩ := hcut
          clear HM HA b0 b1 b2
          have b0 := Mem.row_cell hA2.is 0
          have b1 := Mem.row_cell hA2.is 1
          simp only [List.getElem?_toArray, List.getElem?_cons_zero, List.getElem?_cons_succ] at b0 b1
          obtain ⟨ya2, yc2, rfl⟩ := hM2.row.shape
          have HM := Lib.hid hM2
          have HA := Lib.hid hA2
          clear hM2 hA2
          go_upto_if 95 with (fail)
          go_cut [7, 11, 12, 13, 14, 15] from 41 to 167 (fun va _ _ _ _ _ wx => ∃ F s, Mid W wx (2 * m + 2) (m + 1) b budget F va s)
          case first =>
            by_cases hk0 : o.kind = 0
            · go_wp2_with fail
              refine (fits_any HM.out.run.at_ HM.out.run.good.small (by omega) o.size 0 (by omega)).mono ?_
              rintro e w3 ⟨rfl, nq, rfl⟩
              rw [fits_take HM.out.run.good]
              have hM3 := HM.out.step (Mem.dn (Below.refl _ _) nq)
              have d1 := Mem.row_cell (HA.out.step (Mem.dn (Below.refl _ _) nq)).is 1
              simp only [List.getElem?_toArray, List.getElem?_cons_zero, List.getElem?_cons_succ] at d1
              have hused := used_any hM3.run.at_
              have htake := take_any hM3.run.at_ hM3.run.good.small (by omega) o.size
              have hgt := hM3.run.good.take o.size
              have tc := hM3.run.good.take_two o.size
              unfold TakePost at htake
              generalize hst : s2.take o.size = r at *
              obtain ⟨cc, nn, ee, e1, tc⟩ := tc
              obtain ⟨r1, s3⟩ := r
              simp only at e1 hgt tc htake
              subst e1
              simp only at htake ⊢
              clear hst
              have H3 := Lib.hid (And.intro hM3 (And.intro hgt tc))
              clear hM3 hgt tc
              generalize wc.drewN nq = wd at *
              go_wp2_with fail
              refine hused.mono ?_
              rintro e w' ⟨rfl, rfl⟩
              go_wp2_with fail
              refine htake.mono ?_
              rintro e w4 ⟨F4, rfl, h4, o4, q4⟩
              obtain ⟨hM3, hgt, tc⟩ := H3.out
              have hR4 := hM3.run.post h4 o4 q4 hgt
              have hrow4 := hM3.row.only o4 q4
              have hst5 : Below w4.heap.size w4 (w4.alloc (.cells #[.int .i64 cc, .int .i64 nn] 34)) := Mem.al (Below.refl _ _) _
              have hk5 := Mem.new_block w4 (.cells #[.int .i64 cc, .int .i64 nn] 34)
              have hR5 := hR4.step hst5
              have hrow5 := hrow4.step hst5
              have hWw : W.heap.size ≤ w4.heap.size := hR4.below.size
              have hlm := hM3.len
              have hmost := hM3.most
              have hbud := hM3.bud
              clear hM3 hgt hR4 hrow4 h4 o4 q4 hused htake d1 b0 b1 hst5 H3
              rcases tc with ⟨he, hinn, -, -⟩ | ⟨rfl, -, -, hnew, hfit, hinn, hus, hbd⟩
              · have he' : (ee == 0) = false := by rcases he with rfl | rfl <;> rfl
                have he2 : (ee != 0) = true := by rcases he with rfl | rfl <;> rfl
                subst hinn
                have hused5 := used_any hR5.at_
                have hres : Mid W (w4.alloc (.cells #[.int .i64 cc, .int .i64 nn] 34)) (2 * m + 2) (m + 1) b budget F4 (.slice ya2 s3.inn.length yc2) s3 := ⟨hR5.mono (by omega), hrow5, by omega, hmost, hbud⟩
                have HRS := Lib.hid hres
                clear hR5 hrow5 hk5 he hres hmost
                go_wp2_with fail
                go_loopg [15] 0 (fun g i wr => i = .int .i64 0 ∧ wr = w4.alloc (.cells #[.int .i64 cc, .int .i64 nn] 34))
                case atStart => exact ⟨rfl, rfl⟩
                case round =>
                  obtain ⟨rfl, rfl⟩ := hrel
                  have hnl : (0 : Int) ≤ s3.inn.length := by omega
                  by_cases h0 : (0 : Int) < s3.inn.length
                  · go_wp2_with (refine hused5.mono ?_; rintro e w' ⟨rfl, rfl⟩)
                    go_meet
                    exact ⟨F4, s3, HRS.out⟩
                  · go_wp2_with (refine hused5.mono ?_; rintro e w' ⟨rfl, rfl⟩)
                    go_meet
                    exact ⟨F4, s3, HRS.out⟩
              · have hne : ∀ (j : Nat) (cj nj : Int), s2.inn[j]? = some (cj, nj) → ¬ (cj = cc ∧ nj = nn) := fun j cj nj hj h => hnew (by
                  have := List.mem_of_getElem? hj
                  rw [h.1, h.2] at this; exact this)
                have hlx : s2.inn.length ≤ 200 := by omega
                have HN := Lib.hid (And.intro hne (And.intro hR5 (And.intro hrow5 (And.intro hk5 (And.intro hinn (And.intro hus (And.intro hbd hfit)))))))
                have hWw5 : W.heap.size ≤ w4.heap.size + 1 := by omega
                clear hne hR5 hrow5 hk5 hinn hus hbd hfit hnew
                go_wp2_with fail
                have hs5 : (w4.alloc (.cells #[.int .i64 cc, .int .i64 nn] 34)).heap.size = w4.heap.size + 1 := by simp
                generalize w4.alloc (.cells #[.int .i64 cc, .int .i64 nn] 34) = w5 at *
                generalize w4.heap.size = cb at *
                go_loopg [15] s2.inn.length (fun g i wr => ∃ j : Nat, i = .int .i64 j ∧ g + j = s2.inn.length ∧ Below w5.heap.size w5 wr)
                case atStart => exact ⟨0, rfl, by omega, Below.refl _ _⟩
                case round =>
                  obtain ⟨j, rfl, hg, hdn⟩ := hrel
                  have HG2 := Lib.hid hg
                  have hkq := (hdn.block cb (by omega)).trans HN.out.2.2.2.1
                  have p0 := Mem.row_cell hkq 0
                  have p1 := Mem.row_cell hkq 1
                  simp only [List.getElem?_toArray, List.getElem?_cons_zero, List.getElem?_cons_succ] at p0 p1
                  have hrq := HN.out.2.2.1.step hdn
                  by_cases hj : j < s2.inn.length
                  · obtain ⟨⟨cj, nj⟩, hcj⟩ : ∃ q, s2.inn[j]? = some q := ⟨_, List.getElem?_eq_getElem hj⟩
                    obtain ⟨g', cap', hya, hgl', z0, z1⟩ := hrq.get hcj
                    injection hya with hya _ hyc
                    subst hya hyc
                    have hji : (j : Int) < s2.inn.length := by omega
                    have hnn := HN.out.1 j cj nj hcj
                    have HB := Lib.hid hdn
                    clear hg hdn hkq hrq hcj
                    by_cases hcc : cj = cc
                    · subst hcc
                      have hnb : (nj == nn) = false := by simp; exact fun e => hnn ⟨rfl, e⟩
                      have hnb' : ¬ nj = nn := fun e => hnn ⟨rfl, e⟩
                      clear hnn
                      go_wp2_with fail
                      go_quiet (fail)
                      go_wp2_with fail
                      go_roundg (s2.inn.length - (j + 1))
                      case measure => have := HG2.out; omega
                      case rel => exact ⟨j + 1, by go_num, by have := HG2.out; omega, Mem.tr HB.out (Mem.dn (Below.refl _ _) _)⟩
                    · have hnb : (cj == cc) = false := by simp; exact hcc
                      clear hnn
                      go_wp2_with fail
                      go_quiet (fail)
                      go_wp2_with fail
                      go_roundg (s2.inn.length - (j + 1))
                      case measure => have := HG2.out; omega
                      case rel => exact ⟨j + 1, by go_num, by have := HG2.out; omega, Mem.tr HB.out (Mem.dn (Below.refl _ _) _)⟩
                  · have hjs : (s2.inn.length : Int) ≤ j := by omega
                    have hRq := HN.out.2.1.step (hdn.trans (Mem.al (Below.refl _ wr) (.cells #[.int .i64 cc, .int .i64 nn] 34) |>.mono hdn.size))
                    have hrA := hrq.step (Mem.al (Below.refl _ wr) (.cells #[.int .i64 cc, .int .i64 nn] 34))
                    have hWr : W.heap.size ≤ wr.heap.size := Nat.le_trans hWw5 (by rw [← hs5]; exact hdn.size)
                    have HR := Lib.hid hRq
                    have HW := Lib.hid hrA
                    clear hRq hrA hrq hkq hdn hg
                    go_wp2_with (at_builtin; refine wpList_append_lies _ rfl _ _ _ rfl W.heap.size 34 i0 _ 2 16 Try.underlying31 hi hz0 hz1 hz2 rfl (by decide) _ s2.inn.length (cellsC s2.inn) rfl HW.out.own ⟨wr.heap.size, 0, none⟩ 1 1 [.int .i64 cc, .int .i64 nn] rfl rfl (World.news_of_block (Mem.new_block wr _)) (by simp [Value.oneCell']) (by decide) (by unfold maxLen; omega) (by omega) (by simp; omega) (wr.heap.size + 1) (by simp) ?_; intro gg cap w6 hown hgrow hat hlt)
                    go_meet
                    have hinn := HN.out.2.2.2.2.1
                    have hR6 := HR.out.grown hgrow fun g e => ⟨HW.out.off g e, (ownsRow_lt HW.out.own g e).1⟩
                    have hrow6 := HW.out.appended (c := (cc, nn)) HR.out hown (hat.imp id fun e => by rw [e]; simp)
                    rw [← hinn] at hrow6
                    exact ⟨F4, s3, ⟨hR6.mono (by omega), hrow6, by rw [hinn]; simp; omega, by rw [HN.out.2.2.2.2.2.1]; have := HN.out.2.2.2.2.2.2.2; omega, by rw [HN.out.2.2.2.2.2.2.1]; exact hbud⟩⟩
            · go_wp2_with fail
              go_meet
              exact ⟨F2, s2, ⟨HM.out.run.mono (by omega), HM.out.row, Nat.le_succ_of_le HM.out.len, HM.out.most, HM.out.bud⟩⟩
          case rest =>
            obtain ⟨F3, s3, hM3⟩ := hcut
            obtain ⟨ya3, yc3, rfl⟩ := hM3.row.shape
            have hsum := hM3.run.good.sum
            have hmost := hM3.most
            have hused := used_any hM3.run.at_
            have hl3 : s3.inn.length ≤ 201 := by have := hM3.len; omega
            have hmx : budget ≤ 9223372036854775807 := hb.2
            clear HM HA b0 b1
            have H3 := Lib.hid hM3
            clear hM3
            go_wp2_with fail
            go_loopg [16, 17] s3.inn.length (fun g n i wr => ∃ j : Nat, n = .int .i64 (total (s3.inn.take j)) ∧ i = .int .i64 j ∧ g + j = s3.inn.length ∧ wr = wc)
            case atStart => exact ⟨0, rfl, rfl, by omega, rfl⟩
            case round =>
              obtain ⟨j, rfl, rfl, hg, rfl⟩ := hrel
              have HG3 := Lib.hid hg
              have htl := total_le s3.inn j
              by_cases hj : j < s3.inn.length
              · obtain ⟨⟨cj, nj⟩, hcj⟩ : ∃ q, s3.inn[j]? = some q := ⟨_, List.getElem?_eq_getElem hj⟩
                obtain ⟨g', cap', hya, hgl', z0, z1⟩ := H3.out.row.get hcj
                injection hya with hya _ hyc
                subst hya hyc
                have hji : (j : Int) < s3.inn.length := by omega
                have htk := total_take hcj
                have htl1 := total_le s3.inn (j + 1)
                have hbr := bytes_range cj
                have hB := fun w => bytes_any cj w
                simp only at htk
                have hwr : IntKind.i64.wrap (total (s3.inn.take j) + bytesI cj) = total (s3.inn.take (j + 1)) := by rw [htk, IntKind.wrap_i64]; omega
                have HT := Lib.hid hwr
                clear hg hcj htk htl1 hwr
                generalize total (s3.inn.take j) = t at *
                generalize bytesI cj = bc at *
                go_wp2_with (refine (hB _).mono ?_; rintro e w' ⟨rfl, rfl⟩)
                go_roundg (s3.inn.length - (j + 1))
                case measure => have := HG3.out; omega
                case rel => exact ⟨j + 1, congrArg (Value.int .i64) ((IntWalk.i64_left _).symm.trans HT.out), by go_num, by have := HG3.out; omega, rfl⟩
              · have hjl : j = s3.inn.length := by omega
                have hjs : (s3.inn.length : Int) ≤ j := by omega
                have htt : total (s3.inn.take j) = s3.used := by rw [hjl, List.take_length]; exact hsum.symm
                rw [htt]
                clear hg htl htt hsum hjl
                generalize s3.used = u at *
                go_wp2_with (refine hused.mono ?_; rintro e w' ⟨rfl, rfl⟩)
                go_roundg (l.length - (m + 1))
                case measure => have := HG.out; omega
                case rel => exact ⟨m + 1, F3, s3, by go_num, by have := HG.out; omega, H3.out⟩
    · have hml : (l.length : Int) ≤ m := by omega
      have HR := Lib.hid hM
      clear hM
      go_wp2_with fail
      go_ret
      exact ⟨rfl, HR.out.run.below⟩
end Go.Proofs.Ytohnnlimkmofbaa.SlabBudget
