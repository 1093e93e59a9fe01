/- Layer 9: step. -/
import Derived.Test.YtekcogoijlbmnaaTabI4
import Derived.Deep.CutBlock
namespace Go.Proofs.Ytekcogoijlbmnaa.TabI
open Go Go.RowKit Go.Proofs.Ytekcogoijlbmnaa.Mem Go.Proofs.Ytekcogoijlbmnaa.Tab

def StepPost (w : World) (b : Nat) (F : Nat → Prop) (seed : Int) (c : Con V) (many : Nat) (ea : Option Addr) (eb nb : Nat) (e : Ending) (w' : World) : Prop :=
  ∃ F' gv, e = .returned (.tuple #[]) ∧ Mid w F w' b F' seed c many ea eb nb gv
/-- So far: k of the moved ones are pushed. -/
def Far (w : World) (F : Nat → Prop) (b : Nat) (seed : Int) (c : Con V) (many : Nat) (ea : Option Addr) (eb nb : Nat) (u : Value) (l : Pairs V) (k : Nat) (w' : World) : Prop :=
  ∃ F' gv, Mid w F w' b F' seed ((l.take k).foldl (Con.push (hN seed)) c) many ea eb nb gv ∧ Old w' b nb ((l.take k).foldl (Con.push (hN seed)) c) gv u l

set_option maxHeartbeats 2000000 in
theorem step_walk {w : World} {b eb nb : Nat} {F : Nat → Prop} {seed : Int} {c : Con V} {many : Nat} {ua : Option Addr} {ucap : Nat} {l : Pairs V} (E N lf a0 : Nat) (ha : a0 + lf + 1 = E)
    (h0 : 0 ≤ seed) (h1 : seed < 18446744073709551616) (hE : E ≤ 1099511627776) (hNp : 0 < N) (hNb : N ≤ 1099511627776) (hks : ∀ p ∈ l, p.1.size ≤ maxLen) (hlen : l.length ≤ 1000000000) (hbk : ∀ k j, (((l.take k).foldl (Con.push (hN seed)) c).bs j).length ≤ 2000000000)
    (c1 : w.cell? ⟨b, 1, none⟩ = some (.slice (some ⟨eb, 0, none⟩) E E)) (c3 : w.cell? ⟨b, 3, none⟩ = some (.int .i64 ((lf : Int) + 1))) (ce : w.cell? ⟨eb, a0, none⟩ = some (.slice ua l.length ucap)) (fe : w.frozen? ⟨eb, a0, none⟩ = false) (f3 : w.frozen? ⟨b, 3, none⟩ = false) (hne : eb ≠ b)
    (hcE : c.E = E) (hcN : c.N = N) (hfar : ∀ d, Far w F b seed c many (some ⟨eb, 0, none⟩) eb nb (.slice ua l.length ucap) l 0 (((w.drewN d).setCell ⟨eb, a0, none⟩ (.slice none 0 0)).setCell ⟨b, 3, none⟩ (.int .i64 lf))) :
    Calls Try.prog 29 #[.pointer (some ⟨b, 0, none⟩)] w (StepPost w b F seed (l.foldl (Con.push (hN seed)) c) many (some ⟨eb, 0, none⟩) eb nb) := by
  obtain ⟨i0, hi, hz0, hz1, hz2⟩ := info_parts infoPair
  have hz : ((lf : Int) + 1 == 0) = false := by simp; omega
  have hlf : (lf : Int) ≤ 1099511627776 := by omega
  have hw : IntKind.i64.wrap ((E : Int) - ((lf : Int) + 1)) = (a0 : Int) := by rw [IntKind.wrap_i64]; omega
  have haE : (a0 : Int) < E := by omega
  have hne2 : ¬ (eb = b) := hne
  have HF := Lib.hid hfar
  have HC := Lib.hid (And.intro hcE hcN)
  have HK := Lib.hid hks
  have HB := Lib.hid hbk
  clear hfar hcE hcN ha hks hbk hne
  go_enter Try.func29, Try.ntmps29
  go_wp2_with fail
  go_quiet (fail)
  go_wp2_with fail
  go_loopg [44] l.length (fun g i wr => ∃ k : Nat, i = .int .i64 k ∧ g + k = l.length ∧ Hid (Far w F b seed c many (some ⟨eb, 0, none⟩) eb nb (.slice ua l.length ucap) l k wr))
  case atStart => exact ⟨0, rfl, by omega, Lib.hid (HF.out _)⟩
  case round =>
    obtain ⟨k, rfl, hg, HR⟩ := hrel
    have HG := Lib.hid hg
    clear hg c1 c3 ce fe f3
    by_cases hk : k < l.length
    · obtain ⟨⟨pk, pv⟩, hp⟩ : ∃ p, l[k]? = some p := ⟨_, List.getElem?_eq_getElem hk⟩
      have hki : (k : Int) < l.length := by omega
      have hpm := HK.out (pk, pv) (List.mem_of_getElem? hp)
      obtain ⟨F1, gv1, hmid, hold⟩ := HR.out
      obtain ⟨e1, e2, e3, -⟩ := push_fold (H := hN seed) (l.take k) c
      rw [HC.out.1] at e1
      rw [HC.out.2] at e2
      obtain ⟨g, cap, eg, hgl, q0, q1⟩ := own_get hold.own hp
      injection eg with eg _ ec
      subst eg
      subst ec
      have d0 : wr.cell? ⟨b, 0, none⟩ = some (.int .u64 seed) := Mem.row_cell hmid.at_.blk 0
      have d2 : wr.cell? ⟨b, 2, none⟩ = some (.slice (some ⟨nb, 0, none⟩) N N) := by
        have := Mem.row_cell hmid.at_.blk 2
        rw [e2] at this; exact this
      have hof := Hash.of_any seed pk h0 h1 hpm
      have hr := Hash.ofI_range pk.data.toList h0 h1
      have hbN : ∀ w, Calls Try.prog 35 #[.int .u64 (Hash.ofI seed pk.data.toList), .int .i64 (N : Nat)] w fun e w' => e = .returned (.int .i64 ((TabI.hN seed pk % N : Nat) : Int)) ∧ w = w' := fun w => by
        refine (Hash.below_any _ _ hr.1 hr.2 (by omega) w).mono ?_
        rintro e w' ⟨rfl, rfl⟩
        exact ⟨by rw [below_hN h0 h1 pk hNp], rfl⟩
      obtain ⟨x, hx⟩ : ∃ x, Hash.ofI seed pk.data.toList = x := ⟨_, rfl⟩
      rw [hx] at hof hbN
      obtain ⟨z, hz⟩ : ∃ z, TabI.hN seed pk % N = z := ⟨_, rfl⟩
      rw [hz] at hbN
      have hzN : (z : Int) < N := by have := Nat.mod_lt (TabI.hN seed pk) hNp; omega
      have HZ := Lib.hid hz
      have HM := Lib.hid (And.intro hmid hold)
      have HP := Lib.hid hp
      have hgw : g < wr.heap.size := hgl
      clear hmid hold hp hz hx hr hpm e1 e2 e3 hgl
      go_upto_block 1 with fail
      go_cut [5, 6] from 46 to 73 (fun _ _ wx => Hid (Far w F b seed c many (some ⟨eb, 0, none⟩) eb nb (.slice (some ⟨g, 0, none⟩) l.length ucap) l (k + 1) wx))
      case rest =>
        have HR1 := Lib.hid hcut.out
        clear hcut d0 d2 q0 q1
        go_wp2_with fail
        go_roundg (l.length - (k + 1))
        case measure => have := HG.out; omega
        case rel => exact ⟨k + 1, by go_num, by have := HG.out; omega, HR1⟩
      case first =>
       go_wp2_with fail
       have hb2 : Below wr.heap.size wr (wr.alloc (.cells #[.string pk, (.int .i64 pv)] 57)) := Mem.al (Below.refl _ _) _
       have n0 := Mem.new_block wr (.cells #[.string pk, (.int .i64 pv)] 57)
       have hz2w : (wr.alloc (.cells #[.string pk, (.int .i64 pv)] 57)).heap.size = wr.heap.size + 1 := by simp
       have hbl := HM.out.1.at_.lt b HM.out.1.at_.fb
       replace d0 := (hb2.cell (p := ⟨b, 0, none⟩) hbl).trans d0
       replace d2 := (hb2.cell (p := ⟨b, 2, none⟩) hbl).trans d2
       obtain ⟨pb, hpb⟩ : ∃ pb, wr.heap.size = pb := ⟨_, rfl⟩
       obtain ⟨w2, hw2⟩ : ∃ w2, wr.alloc (.cells #[.string pk, (.int .i64 pv)] 57) = w2 := ⟨_, rfl⟩
       rw [hw2] at hb2 n0 hz2w d0 d2 ⊢
       rw [hpb] at hb2 n0 hz2w hbl ⊢
       have k0 := Mem.row_cell n0 0
       have k1 := Mem.row_cell n0 1
       simp only [List.getElem?_toArray, List.getElem?_cons_zero, List.getElem?_cons_succ] at k0 k1
       have HW := Lib.hid (And.intro hb2 (And.intro n0 (And.intro hz2w (And.intro hbl (And.intro hpb hw2)))))
       clear hb2 n0 hz2w hbl hpb hw2 q0 q1 hgw
       go_quiet (first | (go_at_call 36; exact Qt.left (hof _)) | (go_at_call 35; exact Qt.left (hbN _)))
       go_wp2_with fail
       have hW3 : Below pb wr (w2.drewN nq) ∧ (w2.drewN nq).heap.size = pb + 1 ∧ (w2.drewN nq).heap[pb]? = some (.cells #[.string pk, (.int .i64 pv)] 57 (0, 0)) := ⟨Mem.dn' HW.out.1 nq, HW.out.2.2.1, HW.out.2.1⟩
       replace k0 : (w2.drewN nq).cell? ⟨pb, 0, none⟩ = some (.string pk) := k0
       replace k1 : (w2.drewN nq).cell? ⟨pb, 1, none⟩ = some (.int .i64 pv) := k1
       clear d0 d2
       obtain ⟨Wb, hWb⟩ : ∃ Wb, w2.drewN nq = Wb := ⟨_, rfl⟩
       rw [hWb] at hW3 k0 k1 ⊢
       obtain ⟨hBb, hSb, hNb2⟩ := hW3
       have hzk : c.E + z < c.E + c.N := by rw [HC.out.2]; omega
       have hzp := HZ.out
       have hck : ((l.take k).foldl (Con.push (hN seed)) c).E = c.E ∧ ((l.take k).foldl (Con.push (hN seed)) c).N = c.N := by
         obtain ⟨e1, e2, _, _⟩ := push_fold (H := hN seed) (l.take k) c
         exact ⟨e1, e2⟩
       have hat := HM.out.1.at_.same (w' := Wb) (fun j hj => hBb.block j (by rw [← HW.out.2.2.2.2.1]; exact HM.out.1.at_.lt j hj)) (by rw [HW.out.2.2.2.2.1, hSb]; omega)
       have hzk2 : c.E + z < ((l.take k).foldl (Con.push (hN seed)) c).E + ((l.take k).foldl (Con.push (hN seed)) c).N := by rw [hck.1, hck.2]; exact hzk
       have hloc : Wb.cell? ⟨nb, z, none⟩ = some (gv1 (c.E + z)) ∧ Wb.frozen? ⟨nb, z, none⟩ = false := by
         obtain ⟨g2, i2, e1, _, e2, e3, _⟩ := hat.loc hzk2
         unfold adr at e1
         rw [if_neg (by rw [hck.1]; omega), hck.1, Nat.add_sub_cancel_left] at e1
         rw [e1]; exact ⟨e2, e3⟩
       have hrow := hat.rows _ hzk2
       have hbn : (((l.take k).foldl (Con.push (hN seed)) c).bs (c.E + z)).length ≤ 2000000000 := HB.out _ _
       have hnn : (gv1 (c.E + z)).ownBlock ≠ some nb := hat.row_n hzk2
       have hnp : (gv1 (c.E + z)).ownBlock ≠ some pb := fun e => by have := HM.out.1.at_.lt _ (HM.out.1.at_.fr _ hzk2 _ e); have := HW.out.2.2.2.2.1; omega
       have hnb : nb < Wb.heap.size := hat.lt _ hat.fn
       clear hat hzk hck hzk2 hzp
       obtain ⟨ck, fk⟩ := hloc
       obtain ⟨v0, hv0⟩ : ∃ v0, gv1 (c.E + z) = v0 := ⟨_, rfl⟩
       obtain ⟨L, hL⟩ : ∃ L, (((l.take k).foldl (Con.push (hN seed)) c).bs (c.E + z)).length = L := ⟨_, rfl⟩
       obtain ⟨X, hX⟩ : ∃ X, cellsP (((l.take k).foldl (Con.push (hN seed)) c).bs (c.E + z)) = X := ⟨_, rfl⟩
       simp only [OwnP, hv0, hL, hX] at ck hrow hbn hnn hnp
       have HV := Lib.hid (And.intro hv0 (And.intro hL hX))
       have HBb := Lib.hid (And.intro hBb (And.intro hSb (And.intro hNb2 hWb)))
       clear hv0 hL hX hBb hNb2 hWb
       have hmx : L + 1 ≤ maxLen := by unfold maxLen; omega
       have hby : (L + 1) * 24 ≤ 140737488355328 := by omega
       have hpbl : pb < Wb.heap.size := by omega
       have hstep : ∀ {ops : Array Oper} {o : Oper} {a : Act} {K : Act → World → Prop} {Q : Exit → Act → World → Prop} {E : Prop}, o.guard = none → o.op = .call { callee := .builtin .append, args := #[.tmp 69, .tmp 71], argTypes := #[59, 59] } → a.eval (.tmp 69) = v0 → a.eval (.tmp 71) = .slice (some ⟨Wb.heap.size, 0, none⟩) 1 1 → (∀ g cap w', w'.ownsRow 0 57 2 (.slice (some ⟨g, 0, none⟩) (L + 1) cap) (L + 1) (X ++ [.string pk, (.int .i64 pv)]) → (Wb.alloc (.cells #[.string pk, (.int .i64 pv)] 57)).drew.grownBy w' v0.ownBlock → (v0.ownBlock = some g ∨ g = Wb.heap.size + 1) → g < w'.heap.size → K (a.put o.dst (.slice (some ⟨g, 0, none⟩) (L + 1) cap)) w') → if Region.wanted o (yielded ops a.tmps) = true then Oper.wp Try.prog o a (Wb.alloc (.cells #[.string pk, (.int .i64 pv)] 57)).drew K Q else E := fun hg ho he hx hK => step_append_lies _ hg _ _ _ ho 0 57 i0 _ 2 24 Try.underlying59 hi hz0 hz1 hz2 rfl (by omega) v0 L X he ((hrow.alloc _).drew) ⟨Wb.heap.size, 0, none⟩ 1 1 [.string pk, (.int .i64 pv)] hx rfl (World.news_of_block (cs := #[.string pk, (.int .i64 pv)]) (t := 57) (fr := (0, 0)) (heap_alloc_new Wb _)) (by simp [Value.oneCell']) (by decide) hmx hby (Nat.zero_le _) (Wb.heap.size + 1) (by simp) hK
       have hblk : ∀ w1 : World, (Wb.alloc (.cells #[.string pk, (.int .i64 pv)] 57)).drew.grownBy w1 v0.ownBlock → w1.heap[nb]? = Wb.heap[nb]? ∧ w1.heap[pb]? = Wb.heap[pb]? := fun w1 hg => by
         constructor
         · exact (hg.block nb (by simp; omega) (Ne.symm hnn)).trans (Below.heap_alloc Wb _ _ hnb)
         · exact (hg.block pb (by simp; omega) (Ne.symm hnp)).trans (Below.heap_alloc Wb _ _ hpbl)
       have hfarb : ∀ w1 : World, (Wb.alloc (.cells #[.string pk, (.int .i64 pv)] 57)).drew.grownBy w1 v0.ownBlock → w1.cell? ⟨nb, z, none⟩ = some v0 ∧ w1.frozen? ⟨nb, z, none⟩ = false ∧ w1.cell? ⟨pb, 0, none⟩ = some (.string pk) ∧ w1.cell? ⟨pb, 1, none⟩ = some (.int .i64 pv) := fun w1 hg => by
         obtain ⟨e1, e2⟩ := hblk w1 hg
         exact ⟨(World.cell?_of_block e1).trans ck, (World.frozen?_of_block e1).trans fk, (World.cell?_of_block e2).trans k0, (World.cell?_of_block e2).trans k1⟩
       have hfin : ∀ g' cap' w1, w1.ownsRow 0 57 2 (.slice (some ⟨g', 0, none⟩) (L + 1) cap') (L + 1) (X ++ [.string pk, (.int .i64 pv)]) → (Wb.alloc (.cells #[.string pk, (.int .i64 pv)] 57)).drew.grownBy w1 v0.ownBlock → (v0.ownBlock = some g' ∨ g' = Wb.heap.size + 1) →
           Far w F b seed c many (some ⟨eb, 0, none⟩) eb nb (.slice (some ⟨g, 0, none⟩) l.length ucap) l (k + 1) (w1.setCell ⟨nb, z, none⟩ (.slice (some ⟨g', 0, none⟩) (L + 1) cap')) := fun g' cap' w1 hown hgrow hat => by
         obtain ⟨hv0, hL, hX⟩ := HV.out
         obtain ⟨e1, e2, _, _⟩ := push_fold (H := hN seed) (l.take k) c
         have htk : (l.take (k + 1)).foldl (Con.push (hN seed)) c = Con.push (hN seed) ((l.take k).foldl (Con.push (hN seed)) c) (pk, pv) := by
           rw [List.take_add_one, HP.out]; simp
         have hwb : Below wr.heap.size wr (Wb.alloc (.cells #[.string pk, (.int .i64 pv)] 57)).drew := by
           rw [HW.out.2.2.2.2.1]; exact Below.drew (HBb.out.1.alloc (by rw [HBb.out.2.1]; omega) _)
         have hidx : ((l.take k).foldl (Con.push (hN seed)) c).E + hN seed (pk, pv).1 % ((l.take k).foldl (Con.push (hN seed)) c).N = c.E + z := by rw [e1, e2, HC.out.2, HZ.out]
         have hz' : hN seed (pk, pv).1 % ((l.take k).foldl (Con.push (hN seed)) c).N = z := by rw [e2, HC.out.2, HZ.out]
         have hpos : 0 < ((l.take k).foldl (Con.push (hN seed)) c).N := by rw [e2, HC.out.2]; exact hNp
         have hatv : (Value.slice (some ⟨g', 0, none⟩) (L + 1) cap').ownBlock = v0.ownBlock ∨ ∃ g2, (Value.slice (some ⟨g', 0, none⟩) (L + 1) cap').ownBlock = some g2 ∧ (Wb.alloc (.cells #[.string pk, (.int .i64 pv)] 57)).drew.heap.size ≤ g2 := hat.elim (fun e => .inl e.symm) (fun e => .inr ⟨g', rfl, by simp; omega⟩)
         have hown' : OwnP w1 (.slice (some ⟨g', 0, none⟩) (L + 1) cap') (((l.take k).foldl (Con.push (hN seed)) c).bs (c.E + z) ++ [(pk, pv)]) := by
           unfold OwnP
           rw [List.length_append, cellsP_app, hL, hX]; exact hown
         have r1 := HM.out.1.push (p := (pk, pv)) (v := .slice (some ⟨g', 0, none⟩) (L + 1) cap') hpos hwb (w3 := w1) (by rw [hidx, hv0]; exact hgrow) (by rw [hidx]; exact hown') (by rw [hidx, hv0]; exact hatv)
         have r2 := Old.push (p := (pk, pv)) (v := .slice (some ⟨g', 0, none⟩) (L + 1) cap') HM.out.1.at_ HM.out.2 hpos hwb (w3 := w1) (by rw [hidx, hv0]; exact hgrow) (by rw [hidx, hv0]; exact hatv)
         rw [hz'] at r1 r2
         unfold Far
         rw [htk]
         exact ⟨_, _, r1, r2⟩
       have HFn := Lib.hid hfin
       clear hfin hSb
       go_region_law (refine hstep (by rfl) (by rfl) (by kernel_rfl) (by kernel_rfl) ?_; intro gg cap1 w1 hown1 hgrow hat hlt; have cw1 := (hfarb w1 hgrow).1; have fw1 := (hfarb w1 hgrow).2.1; have ew1 := (hfarb w1 hgrow).2.2.1; have gw1 := (hfarb w1 hgrow).2.2.2)
       all_goals (go_wp2_with fail; go_meet; exact Lib.hid (HFn.out _ _ _ hown1 hgrow hat))
    · have hlk : (l.length : Int) ≤ k := by omega
      have hr := HR.out
      unfold Far at hr
      rw [List.take_of_length_le (by omega)] at hr
      obtain ⟨F1, gv1, hm, _⟩ := hr
      have HM := Lib.hid hm
      clear hm
      go_wp2_with fail
      go_end0
      exact ⟨F1, gv1, rfl, HM.out⟩
theorem fold_len (H : ByteArray → Nat) (c : Con V) {M : Nat} (l : Pairs V) (hM : ∀ j, (c.bs j).length + l.length ≤ M) (k j : Nat) : (((l.take k).foldl (Con.push H) c).bs j).length ≤ M := by
  rw [(push_fold (H := H) (l.take k) c).2.2.2 j, List.length_append]
  have h1 : ((l.take k).filter fun p => decide (c.E + H p.1 % c.N = j)).length ≤ l.length := Nat.le_trans (List.length_filter_le _ _) (by rw [List.length_take]; omega)
  have := hM j
  omega
/-- What a table of at most n texts keeps to. -/
structure Fits (n : Nat) (seed : Int) (c : Con V) (L : Pairs V) : Prop where
  s0 : 0 ≤ seed
  s1 : seed < 18446744073709551616
  abs : Abs (hN seed) c L
  E : c.E ≤ 1099511627776
  N : c.N ≤ 1099511627776
  len : L.length ≤ n
  n : n ≤ 1000000000
  keys : ∀ p ∈ L, p.1.size ≤ maxLen
theorem bs_len {seed : Int} {c : Con V} {L : Pairs V} (h : Abs (hN seed) c L) (k : Nat) : (c.bs k).length ≤ L.length := by
  have h1 : ∀ p ∈ c.bs k, p ∈ L := fun p hp => (h.mem p).2 (by rw [← h.home k p hp]; exact hp)
  exact (nodup_of_keys (h.nd k)).length_le_of_subset h1
theorem step_any {w : World} {b : Nat} {F : Nat → Prop} {seed : Int} {c : Con V} {many : Nat} {ea : Option Addr} {eb nb n : Nat} {gv : Nat → Value} {L : Pairs V} (h : AtW w b F seed c many ea eb nb gv) (hf : Fits n seed c L) :
    Calls Try.prog 29 #[.pointer (some ⟨b, 0, none⟩)] w (StepPost w b F seed (c.step (hN seed)) many ea eb nb) := by
  have ha := hf.abs
  by_cases hl : c.left = 0
  · have c3 : w.cell? ⟨b, 3, none⟩ = some (.int .i64 (c.left : Nat)) := Mem.row_cell h.blk 3
    rw [hl] at c3
    refine (step_none (seed := seed) hl c3).mono ?_
    rintro e w' ⟨rfl, rfl, e⟩
    rw [e]
    exact ⟨F, gv, rfl, h, Only.refl _ _, Grows.refl _ _⟩
  have hea : ea = some ⟨eb, 0, none⟩ := by
    have := ha.le
    rcases h.eo with ⟨e, _⟩ | ⟨e, _⟩
    · omega
    · exact e
  subst hea
  have c1 : w.cell? ⟨b, 1, none⟩ = some (.slice (some ⟨eb, 0, none⟩) c.E c.E) := Mem.row_cell h.blk 1
  have c3 : w.cell? ⟨b, 3, none⟩ = some (.int .i64 (((c.left - 1 : Nat) : Int) + 1)) := by
    have := Mem.row_cell h.blk 3
    simp only [List.getElem?_toArray, List.getElem?_cons_zero, List.getElem?_cons_succ] at this
    rw [this]; congr 2; omega
  have hle := ha.le
  have hk : c.E - c.left < c.E + c.N := by omega
  obtain ⟨ua, ucap, hu⟩ := own_shape (h.rows _ hk)
  have ce : w.cell? ⟨eb, c.E - c.left, none⟩ = some (.slice ua (c.bs (c.E - c.left)).length ucap) ∧ w.frozen? ⟨eb, c.E - c.left, none⟩ = false ∧ eb ≠ b := by
    obtain ⟨g, i, e1, _, e2, e3, e4, _⟩ := h.loc hk
    unfold adr at e1
    rw [if_pos (by omega)] at e1
    rw [← hu, e1]
    injection e1 with e1 e5
    rw [e1]; exact ⟨e2, e3, e4⟩
  have hstep : c.step (hN seed) = (c.bs (c.E - c.left)).foldl (Con.push (hN seed)) c.pop := by unfold Con.step; rw [if_neg hl]
  rw [hstep]
  have hbl := bs_len ha
  have hlen := hf.len
  have hn := hf.n
  refine step_walk c.E c.N (c.left - 1) (c.E - c.left) (by omega) hf.s0 hf.s1 hf.E ha.pos hf.N (fun p hp => hf.keys p ((ha.mem p).2 (by rw [← ha.home _ p hp]; exact hp))) (by have := hbl (c.E - c.left); omega)
    (fold_len _ _ _ fun j => ?_) c1 c3 ce.1 ce.2.1 (Mem.row_free h.blk 3) ce.2.2 rfl rfl fun d => ?_
  · have h1 : (c.pop.bs j).length ≤ (c.bs j).length := by
      show (upd c.bs (c.E - c.left) [] j).length ≤ _
      unfold upd; split
      · exact Nat.zero_le _
      · exact Nat.le_refl _
    have := hbl j
    have := hbl (c.E - c.left)
    omega
  · have hd : AtW (w.drewN d) b F seed c many (some ⟨eb, 0, none⟩) eb nb gv := h.same (fun _ _ => rfl) (Nat.le_refl _)
    obtain ⟨q1, q2⟩ := pop_mid hd (by omega) hle rfl
    refine ⟨F, _, ⟨q1.at_, ((Only.refl F w).drewN d).trans q1.only (Grows.refl _ _), Grows.refl _ _⟩, ?_⟩
    have e : c.bs (c.E - c.left) = c.bs (c.E - c.left) := rfl
    rw [← hu]
    exact q2
end Go.Proofs.Ytekcogoijlbmnaa.TabI
