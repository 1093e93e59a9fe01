/- Part5: TabE5, Lay, TabE6, TabE7, TabE8, TabE9, Cells, TabE10, one behind the other. -/
import Derived.Test.YtpghckiochjogaaGreatDoorPart4
import Derived.Deep.CutBlock
import Derived.Shelf.SlicesQ.IndexFunc
import Derived.Ground.SlgfProg
import Derived.Shelf.SlGeneric
import Derived.Test.YtpghckiochjogaaGreatDoorProg
import Derived.Shelf.RegionOpen
import Derived.RegionTactic
import Derived.ChangeAlike
import Derived.Test.YtpghckiochjogaaGreatDoorPart1
import Derived.Laws.IdiomCopy
/- Layer 9: step. -/
namespace Go.Proofs.YtpghckiochjogaaGreatDoor.TabE
open Go Go.RowKit Go.Proofs.YtpghckiochjogaaGreatDoor.Mem Go.Proofs.YtpghckiochjogaaGreatDoor.Tab
def StepPost (w : World) (b : Nat) (F : Nat → Prop) (seed : Int) (c : Con V) (many : Nat) (ea : Option Addr) (eb nb : Nat) (e : Ending) (w' : World) : Prop :=
  ∃ F' gv, e = .returned (.tuple #[]) ∧ Mid w F w' b F' seed c many ea eb nb gv
def Far (w : World) (F : Nat → Prop) (b : Nat) (seed : Int) (c : Con V) (many : Nat) (ea : Option Addr) (eb nb : Nat) (u : Value) (l : Pairs V) (k : Nat) (w' : World) : Prop :=
  ∃ F' gv, Mid w F w' b F' seed ((l.take k).foldl (Con.push (hN seed)) c) many ea eb nb gv ∧ Old w' b nb ((l.take k).foldl (Con.push (hN seed)) c) gv u l
set_option maxRecDepth 100000 in
set_option maxHeartbeats 2000000 in
theorem step_walk {w : World} {b eb nb : Nat} {F : Nat → Prop} {seed : Int} {c : Con V} {many : Nat} {ua : Option Addr} {ucap : Nat} {l : Pairs V} (E N lf a0 : Nat) (ha : a0 + lf + 1 = E)
    (h0 : 0 ≤ seed) (h1 : seed < 18446744073709551616) (hE : E ≤ 1099511627776) (hNp : 0 < N) (hNb : N ≤ 1099511627776) (hks : ∀ p ∈ l, p.1.size ≤ maxLen) (hlen : l.length ≤ 1000000000) (hbk : ∀ k j, (((l.take k).foldl (Con.push (hN seed)) c).bs j).length ≤ 2000000000)
    (c1 : w.cell? ⟨b, 1, none⟩ = some (.slice (some ⟨eb, 0, none⟩) E E)) (c3 : w.cell? ⟨b, 3, none⟩ = some (.int .i64 ((lf : Int) + 1))) (ce : w.cell? ⟨eb, a0, none⟩ = some (.slice ua l.length ucap)) (fe : w.frozen? ⟨eb, a0, none⟩ = false) (f3 : w.frozen? ⟨b, 3, none⟩ = false) (hne : eb ≠ b)
    (hcE : c.E = E) (hcN : c.N = N) (hfar : ∀ d, Far w F b seed c many (some ⟨eb, 0, none⟩) eb nb (.slice ua l.length ucap) l 0 (((w.drewN d).setCell ⟨eb, a0, none⟩ (.slice none 0 0)).setCell ⟨b, 3, none⟩ (.int .i64 lf))) :
    Calls Tryz.prog 129 #[.pointer (some ⟨b, 0, none⟩)] w (StepPost w b F seed (l.foldl (Con.push (hN seed)) c) many (some ⟨eb, 0, none⟩) eb nb) := by
  obtain ⟨i0, hi, hz0, hz1, hz2⟩ := info_parts infoPair
  have hz : ((lf : Int) + 1 == 0) = false := by simp; omega
  have hlf : (lf : Int) ≤ 1099511627776 := by omega
  have hw : IntKind.i64.wrap ((E : Int) - ((lf : Int) + 1)) = (a0 : Int) := by rw [IntKind.wrap_i64]; omega
  have haE : (a0 : Int) < E := by omega
  have hne2 : ¬ (eb = b) := hne
  have HF := Lib.hid hfar
  have HC := Lib.hid (And.intro hcE hcN)
  have HK := Lib.hid hks
  have HB := Lib.hid hbk
  clear hfar hcE hcN ha hks hbk hne
  go_enter Tryz.func129, Tryz.ntmps129
  go_wp2_with fail
  go_quiet (fail)
  go_wp2_with fail
  go_loopg [44] l.length (fun g i wr => ∃ k : Nat, i = .int .i64 k ∧ g + k = l.length ∧ Hid (Far w F b seed c many (some ⟨eb, 0, none⟩) eb nb (.slice ua l.length ucap) l k wr))
  case atStart => exact ⟨0, rfl, by omega, Lib.hid (HF.out _)⟩
  case round =>
    obtain ⟨k, rfl, hg, HR⟩ := hrel
    have HG := Lib.hid hg
    clear hg c1 c3 ce fe f3
    by_cases hk : k < l.length
    · obtain ⟨⟨pk, pv⟩, hp⟩ : ∃ p, l[k]? = some p := ⟨_, List.getElem?_eq_getElem hk⟩
      have hki : (k : Int) < l.length := by omega
      have hpm := HK.out (pk, pv) (List.mem_of_getElem? hp)
      obtain ⟨F1, gv1, hmid, hold⟩ := HR.out
      obtain ⟨e1, e2, e3, -⟩ := push_fold (H := hN seed) (l.take k) c
      rw [HC.out.1] at e1
      rw [HC.out.2] at e2
      obtain ⟨g, cap, eg, hgl, q0, q1⟩ := own_get hold.own hp
      injection eg with eg _ ec
      subst eg
      subst ec
      have d0 : wr.cell? ⟨b, 0, none⟩ = some (.int .u64 seed) := Mem.row_cell hmid.at_.blk 0
      have d2 : wr.cell? ⟨b, 2, none⟩ = some (.slice (some ⟨nb, 0, none⟩) N N) := by
        have := Mem.row_cell hmid.at_.blk 2
        rw [e2] at this; exact this
      have hof := Hash.of_any seed pk h0 h1 hpm
      have hr := Hash.ofI_range pk.data.toList h0 h1
      have hbN : ∀ w, Calls Tryz.prog 23 #[.int .u64 (Hash.ofI seed pk.data.toList), .int .i64 (N : Nat)] w fun e w' => e = .returned (.int .i64 ((TabE.hN seed pk % N : Nat) : Int)) ∧ w = w' := fun w => by
        refine (Hash.below_any _ _ hr.1 hr.2 (by omega) w).mono ?_
        rintro e w' ⟨rfl, rfl⟩
        exact ⟨by rw [below_hN h0 h1 pk hNp], rfl⟩
      obtain ⟨x, hx⟩ : ∃ x, Hash.ofI seed pk.data.toList = x := ⟨_, rfl⟩
      rw [hx] at hof hbN
      obtain ⟨z, hz⟩ : ∃ z, TabE.hN seed pk % N = z := ⟨_, rfl⟩
      rw [hz] at hbN
      have hzN : (z : Int) < N := by have := Nat.mod_lt (TabE.hN seed pk) hNp; omega
      have HZ := Lib.hid hz
      have HM := Lib.hid (And.intro hmid hold)
      have HP := Lib.hid hp
      have hgw : g < wr.heap.size := hgl
      clear hmid hold hp hz hx hr hpm e1 e2 e3 hgl
      go_upto_block 1 with fail
      go_cut [5, 6] from 46 to 73 (fun _ _ wx => Hid (Far w F b seed c many (some ⟨eb, 0, none⟩) eb nb (.slice (some ⟨g, 0, none⟩) l.length ucap) l (k + 1) wx))
      case rest =>
        have HR1 := Lib.hid hcut.out
        clear hcut d0 d2 q0 q1
        go_wp2_with fail
        go_roundg (l.length - (k + 1))
        case measure => have := HG.out; omega
        case rel => exact ⟨k + 1, by go_num, by have := HG.out; omega, HR1⟩
      case first =>
       go_wp2_with fail
       have hb2 : Below wr.heap.size wr (wr.alloc (.cells #[.string pk, (.pointer (some ⟨pv, 0, none⟩))] 165)) := Mem.al (Below.refl _ _) _
       have n0 := Mem.new_block wr (.cells #[.string pk, (.pointer (some ⟨pv, 0, none⟩))] 165)
       have hz2w : (wr.alloc (.cells #[.string pk, (.pointer (some ⟨pv, 0, none⟩))] 165)).heap.size = wr.heap.size + 1 := by simp
       have hbl := HM.out.1.at_.lt b HM.out.1.at_.fb
       replace d0 := (hb2.cell (p := ⟨b, 0, none⟩) hbl).trans d0
       replace d2 := (hb2.cell (p := ⟨b, 2, none⟩) hbl).trans d2
       obtain ⟨pb, hpb⟩ : ∃ pb, wr.heap.size = pb := ⟨_, rfl⟩
       obtain ⟨w2, hw2⟩ : ∃ w2, wr.alloc (.cells #[.string pk, (.pointer (some ⟨pv, 0, none⟩))] 165) = w2 := ⟨_, rfl⟩
       rw [hw2] at hb2 n0 hz2w d0 d2 ⊢
       rw [hpb] at hb2 n0 hz2w hbl ⊢
       have k0 := Mem.row_cell n0 0
       have k1 := Mem.row_cell n0 1
       simp only [List.getElem?_toArray, List.getElem?_cons_zero, List.getElem?_cons_succ] at k0 k1
       have HW := Lib.hid (And.intro hb2 (And.intro n0 (And.intro hz2w (And.intro hbl (And.intro hpb hw2)))))
       clear hb2 n0 hz2w hbl hpb hw2 q0 q1 hgw
       go_quiet (first | (go_at_call 24; exact Qt.left (hof _)) | (go_at_call 23; exact Qt.left (hbN _)))
       go_wp2_with fail
       have hW3 : Below pb wr (w2.drewN nq) ∧ (w2.drewN nq).heap.size = pb + 1 ∧ (w2.drewN nq).heap[pb]? = some (.cells #[.string pk, (.pointer (some ⟨pv, 0, none⟩))] 165 (0, 0)) := ⟨Mem.dn' HW.out.1 nq, HW.out.2.2.1, HW.out.2.1⟩
       replace k0 : (w2.drewN nq).cell? ⟨pb, 0, none⟩ = some (.string pk) := k0
       replace k1 : (w2.drewN nq).cell? ⟨pb, 1, none⟩ = some (.pointer (some ⟨pv, 0, none⟩)) := k1
       clear d0 d2
       obtain ⟨Wb, hWb⟩ : ∃ Wb, w2.drewN nq = Wb := ⟨_, rfl⟩
       rw [hWb] at hW3 k0 k1 ⊢
       obtain ⟨hBb, hSb, hNb2⟩ := hW3
       have hzk : c.E + z < c.E + c.N := by rw [HC.out.2]; omega
       have hzp := HZ.out
       have hck : ((l.take k).foldl (Con.push (hN seed)) c).E = c.E ∧ ((l.take k).foldl (Con.push (hN seed)) c).N = c.N := by
         obtain ⟨e1, e2, _, _⟩ := push_fold (H := hN seed) (l.take k) c
         exact ⟨e1, e2⟩
       have hat := HM.out.1.at_.same (w' := Wb) (fun j hj => hBb.block j (by rw [← HW.out.2.2.2.2.1]; exact HM.out.1.at_.lt j hj)) (by rw [HW.out.2.2.2.2.1, hSb]; omega)
       have hzk2 : c.E + z < ((l.take k).foldl (Con.push (hN seed)) c).E + ((l.take k).foldl (Con.push (hN seed)) c).N := by rw [hck.1, hck.2]; exact hzk
       have hloc : Wb.cell? ⟨nb, z, none⟩ = some (gv1 (c.E + z)) ∧ Wb.frozen? ⟨nb, z, none⟩ = false := by
         obtain ⟨g2, i2, e1, _, e2, e3, _⟩ := hat.loc hzk2
         unfold adr at e1
         rw [if_neg (by rw [hck.1]; omega), hck.1, Nat.add_sub_cancel_left] at e1
         rw [e1]; exact ⟨e2, e3⟩
       have hrow := hat.rows _ hzk2
       have hbn : (((l.take k).foldl (Con.push (hN seed)) c).bs (c.E + z)).length ≤ 2000000000 := HB.out _ _
       have hnn : (gv1 (c.E + z)).ownBlock ≠ some nb := hat.row_n hzk2
       have hnp : (gv1 (c.E + z)).ownBlock ≠ some pb := fun e => by have := HM.out.1.at_.lt _ (HM.out.1.at_.fr _ hzk2 _ e); have := HW.out.2.2.2.2.1; omega
       have hnb : nb < Wb.heap.size := hat.lt _ hat.fn
       clear hat hzk hck hzk2 hzp
       obtain ⟨ck, fk⟩ := hloc
       obtain ⟨v0, hv0⟩ : ∃ v0, gv1 (c.E + z) = v0 := ⟨_, rfl⟩
       obtain ⟨L, hL⟩ : ∃ L, (((l.take k).foldl (Con.push (hN seed)) c).bs (c.E + z)).length = L := ⟨_, rfl⟩
       obtain ⟨X, hX⟩ : ∃ X, cellsP (((l.take k).foldl (Con.push (hN seed)) c).bs (c.E + z)) = X := ⟨_, rfl⟩
       simp only [OwnP, hv0, hL, hX] at ck hrow hbn hnn hnp
       have HV := Lib.hid (And.intro hv0 (And.intro hL hX))
       have HBb := Lib.hid (And.intro hBb (And.intro hSb (And.intro hNb2 hWb)))
       clear hv0 hL hX hBb hNb2 hWb
       have hmx : L + 1 ≤ maxLen := by unfold maxLen; omega
       have hby : (L + 1) * 24 ≤ 140737488355328 := by omega
       have hpbl : pb < Wb.heap.size := by omega
       have hstep : ∀ {ops : Array Oper} {o : Oper} {a : Act} {K : Act → World → Prop} {Q : Exit → Act → World → Prop} {E : Prop}, o.guard = none → o.op = .call { callee := .builtin .append, args := #[.tmp 69, .tmp 71], argTypes := #[179, 179] } → a.eval (.tmp 69) = v0 → a.eval (.tmp 71) = .slice (some ⟨Wb.heap.size, 0, none⟩) 1 1 → (∀ g cap w', w'.ownsRow 0 165 2 (.slice (some ⟨g, 0, none⟩) (L + 1) cap) (L + 1) (X ++ [.string pk, (.pointer (some ⟨pv, 0, none⟩))]) → (Wb.alloc (.cells #[.string pk, (.pointer (some ⟨pv, 0, none⟩))] 165)).drew.grownBy w' v0.ownBlock → (v0.ownBlock = some g ∨ g = Wb.heap.size + 1) → g < w'.heap.size → K (a.put o.dst (.slice (some ⟨g, 0, none⟩) (L + 1) cap)) w') → if Region.wanted o (yielded ops a.tmps) = true then Oper.wp Tryz.prog o a (Wb.alloc (.cells #[.string pk, (.pointer (some ⟨pv, 0, none⟩))] 165)).drew K Q else E := fun hg ho he hx hK => step_append_lies _ hg _ _ _ ho 0 165 i0 _ 2 24 Tryz.underlying179 hi hz0 hz1 hz2 rfl (by omega) v0 L X he ((hrow.alloc _).drew) ⟨Wb.heap.size, 0, none⟩ 1 1 [.string pk, (.pointer (some ⟨pv, 0, none⟩))] hx rfl (World.news_of_block (cs := #[.string pk, (.pointer (some ⟨pv, 0, none⟩))]) (t := 165) (fr := (0, 0)) (heap_alloc_new Wb _)) (by simp [Value.oneCell']) (by decide) hmx hby (Nat.zero_le _) (Wb.heap.size + 1) (by simp) hK
       have hblk : ∀ w1 : World, (Wb.alloc (.cells #[.string pk, (.pointer (some ⟨pv, 0, none⟩))] 165)).drew.grownBy w1 v0.ownBlock → w1.heap[nb]? = Wb.heap[nb]? ∧ w1.heap[pb]? = Wb.heap[pb]? := fun w1 hg => by
         constructor
         · exact (hg.block nb (by simp; omega) (Ne.symm hnn)).trans (Below.heap_alloc Wb _ _ hnb)
         · exact (hg.block pb (by simp; omega) (Ne.symm hnp)).trans (Below.heap_alloc Wb _ _ hpbl)
       have hfarb : ∀ w1 : World, (Wb.alloc (.cells #[.string pk, (.pointer (some ⟨pv, 0, none⟩))] 165)).drew.grownBy w1 v0.ownBlock → w1.cell? ⟨nb, z, none⟩ = some v0 ∧ w1.frozen? ⟨nb, z, none⟩ = false ∧ w1.cell? ⟨pb, 0, none⟩ = some (.string pk) ∧ w1.cell? ⟨pb, 1, none⟩ = some (.pointer (some ⟨pv, 0, none⟩)) := fun w1 hg => by
         obtain ⟨e1, e2⟩ := hblk w1 hg
         exact ⟨(World.cell?_of_block e1).trans ck, (World.frozen?_of_block e1).trans fk, (World.cell?_of_block e2).trans k0, (World.cell?_of_block e2).trans k1⟩
       have hfin : ∀ g' cap' w1, w1.ownsRow 0 165 2 (.slice (some ⟨g', 0, none⟩) (L + 1) cap') (L + 1) (X ++ [.string pk, (.pointer (some ⟨pv, 0, none⟩))]) → (Wb.alloc (.cells #[.string pk, (.pointer (some ⟨pv, 0, none⟩))] 165)).drew.grownBy w1 v0.ownBlock → (v0.ownBlock = some g' ∨ g' = Wb.heap.size + 1) →
           Far w F b seed c many (some ⟨eb, 0, none⟩) eb nb (.slice (some ⟨g, 0, none⟩) l.length ucap) l (k + 1) (w1.setCell ⟨nb, z, none⟩ (.slice (some ⟨g', 0, none⟩) (L + 1) cap')) := fun g' cap' w1 hown hgrow hat => by
         obtain ⟨hv0, hL, hX⟩ := HV.out
         obtain ⟨e1, e2, _, _⟩ := push_fold (H := hN seed) (l.take k) c
         have htk : (l.take (k + 1)).foldl (Con.push (hN seed)) c = Con.push (hN seed) ((l.take k).foldl (Con.push (hN seed)) c) (pk, pv) := by
           rw [List.take_add_one, HP.out]; simp
         have hwb : Below wr.heap.size wr (Wb.alloc (.cells #[.string pk, (.pointer (some ⟨pv, 0, none⟩))] 165)).drew := by
           rw [HW.out.2.2.2.2.1]; exact Below.drew (HBb.out.1.alloc (by rw [HBb.out.2.1]; omega) _)
         have hidx : ((l.take k).foldl (Con.push (hN seed)) c).E + hN seed (pk, pv).1 % ((l.take k).foldl (Con.push (hN seed)) c).N = c.E + z := by rw [e1, e2, HC.out.2, HZ.out]
         have hz' : hN seed (pk, pv).1 % ((l.take k).foldl (Con.push (hN seed)) c).N = z := by rw [e2, HC.out.2, HZ.out]
         have hpos : 0 < ((l.take k).foldl (Con.push (hN seed)) c).N := by rw [e2, HC.out.2]; exact hNp
         have hatv : (Value.slice (some ⟨g', 0, none⟩) (L + 1) cap').ownBlock = v0.ownBlock ∨ ∃ g2, (Value.slice (some ⟨g', 0, none⟩) (L + 1) cap').ownBlock = some g2 ∧ (Wb.alloc (.cells #[.string pk, (.pointer (some ⟨pv, 0, none⟩))] 165)).drew.heap.size ≤ g2 := hat.elim (fun e => .inl e.symm) (fun e => .inr ⟨g', rfl, by simp; omega⟩)
         have hown' : OwnP w1 (.slice (some ⟨g', 0, none⟩) (L + 1) cap') (((l.take k).foldl (Con.push (hN seed)) c).bs (c.E + z) ++ [(pk, pv)]) := by
           unfold OwnP
           rw [List.length_append, cellsP_app, hL, hX]; exact hown
         have r1 := HM.out.1.push (p := (pk, pv)) (v := .slice (some ⟨g', 0, none⟩) (L + 1) cap') hpos hwb (w3 := w1) (by rw [hidx, hv0]; exact hgrow) (by rw [hidx]; exact hown') (by rw [hidx, hv0]; exact hatv)
         have r2 := Old.push (p := (pk, pv)) (v := .slice (some ⟨g', 0, none⟩) (L + 1) cap') HM.out.1.at_ HM.out.2 hpos hwb (w3 := w1) (by rw [hidx, hv0]; exact hgrow) (by rw [hidx, hv0]; exact hatv)
         rw [hz'] at r1 r2
         unfold Far
         rw [htk]
         exact ⟨_, _, r1, r2⟩
       have HFn := Lib.hid hfin
       clear hfin hSb
       go_region_law (refine hstep (by rfl) (by rfl) (by kernel_rfl) (by kernel_rfl) ?_; intro gg cap1 w1 hown1 hgrow hat hlt; have cw1 := (hfarb w1 hgrow).1; have fw1 := (hfarb w1 hgrow).2.1; have ew1 := (hfarb w1 hgrow).2.2.1; have gw1 := (hfarb w1 hgrow).2.2.2)
       all_goals (go_wp2_with fail; go_meet; exact Lib.hid (HFn.out _ _ _ hown1 hgrow hat))
    · have hlk : (l.length : Int) ≤ k := by omega
      have hr := HR.out
      unfold Far at hr
      rw [List.take_of_length_le (by omega)] at hr
      obtain ⟨F1, gv1, hm, _⟩ := hr
      have HM := Lib.hid hm
      clear hm
      go_wp2_with fail
      go_end0
      exact ⟨F1, gv1, rfl, HM.out⟩
theorem fold_len (H : ByteArray → Nat) (c : Con V) {M : Nat} (l : Pairs V) (hM : ∀ j, (c.bs j).length + l.length ≤ M) (k j : Nat) : (((l.take k).foldl (Con.push H) c).bs j).length ≤ M := by
  rw [(push_fold (H := H) (l.take k) c).2.2.2 j, List.length_append]
  have h1 : ((l.take k).filter fun p => decide (c.E + H p.1 % c.N = j)).length ≤ l.length := Nat.le_trans (List.length_filter_le _ _) (by rw [List.length_take]; omega)
  have := hM j
  omega
structure Fits (n : Nat) (seed : Int) (c : Con V) (L : Pairs V) : Prop where
  s0 : 0 ≤ seed
  s1 : seed < 18446744073709551616
  abs : Abs (hN seed) c L
  E : c.E ≤ 1099511627776
  N : c.N ≤ 1099511627776
  len : L.length ≤ n
  n : n ≤ 1000000000
  keys : ∀ p ∈ L, p.1.size ≤ maxLen
theorem bs_len {seed : Int} {c : Con V} {L : Pairs V} (h : Abs (hN seed) c L) (k : Nat) : (c.bs k).length ≤ L.length := by
  have h1 : ∀ p ∈ c.bs k, p ∈ L := fun p hp => (h.mem p).2 (by rw [← h.home k p hp]; exact hp)
  exact (nodup_of_keys (h.nd k)).length_le_of_subset h1
theorem step_any {w : World} {b : Nat} {F : Nat → Prop} {seed : Int} {c : Con V} {many : Nat} {ea : Option Addr} {eb nb n : Nat} {gv : Nat → Value} {L : Pairs V} (h : AtW w b F seed c many ea eb nb gv) (hf : Fits n seed c L) :
    Calls Tryz.prog 129 #[.pointer (some ⟨b, 0, none⟩)] w (StepPost w b F seed (c.step (hN seed)) many ea eb nb) := by
  have ha := hf.abs
  by_cases hl : c.left = 0
  · have c3 : w.cell? ⟨b, 3, none⟩ = some (.int .i64 (c.left : Nat)) := Mem.row_cell h.blk 3
    rw [hl] at c3
    refine (step_none (seed := seed) hl c3).mono ?_
    rintro e w' ⟨rfl, rfl, e⟩
    rw [e]
    exact ⟨F, gv, rfl, h, Only.refl _ _, Grows.refl _ _⟩
  have hea : ea = some ⟨eb, 0, none⟩ := by
    have := ha.le
    rcases h.eo with ⟨e, _⟩ | ⟨e, _⟩
    · omega
    · exact e
  subst hea
  have c1 : w.cell? ⟨b, 1, none⟩ = some (.slice (some ⟨eb, 0, none⟩) c.E c.E) := Mem.row_cell h.blk 1
  have c3 : w.cell? ⟨b, 3, none⟩ = some (.int .i64 (((c.left - 1 : Nat) : Int) + 1)) := by
    have := Mem.row_cell h.blk 3
    simp only [List.getElem?_toArray, List.getElem?_cons_zero, List.getElem?_cons_succ] at this
    rw [this]; congr 2; omega
  have hle := ha.le
  have hk : c.E - c.left < c.E + c.N := by omega
  obtain ⟨ua, ucap, hu⟩ := own_shape (h.rows _ hk)
  have ce : w.cell? ⟨eb, c.E - c.left, none⟩ = some (.slice ua (c.bs (c.E - c.left)).length ucap) ∧ w.frozen? ⟨eb, c.E - c.left, none⟩ = false ∧ eb ≠ b := by
    obtain ⟨g, i, e1, _, e2, e3, e4, _⟩ := h.loc hk
    unfold adr at e1
    rw [if_pos (by omega)] at e1
    rw [← hu, e1]
    injection e1 with e1 e5
    rw [e1]; exact ⟨e2, e3, e4⟩
  have hstep : c.step (hN seed) = (c.bs (c.E - c.left)).foldl (Con.push (hN seed)) c.pop := by unfold Con.step; rw [if_neg hl]
  rw [hstep]
  have hbl := bs_len ha
  have hlen := hf.len
  have hn := hf.n
  refine step_walk c.E c.N (c.left - 1) (c.E - c.left) (by omega) hf.s0 hf.s1 hf.E ha.pos hf.N (fun p hp => hf.keys p ((ha.mem p).2 (by rw [← ha.home _ p hp]; exact hp))) (by have := hbl (c.E - c.left); omega)
    (fold_len _ _ _ fun j => ?_) c1 c3 ce.1 ce.2.1 (Mem.row_free h.blk 3) ce.2.2 rfl rfl fun d => ?_
  · have h1 : (c.pop.bs j).length ≤ (c.bs j).length := by
      show (upd c.bs (c.E - c.left) [] j).length ≤ _
      unfold upd; split
      · exact Nat.zero_le _
      · exact Nat.le_refl _
    have := hbl j
    have := hbl (c.E - c.left)
    omega
  · have hd : AtW (w.drewN d) b F seed c many (some ⟨eb, 0, none⟩) eb nb gv := h.same (fun _ _ => rfl) (Nat.le_refl _)
    obtain ⟨q1, q2⟩ := pop_mid hd (by omega) hle rfl
    refine ⟨F, _, ⟨q1.at_, ((Only.refl F w).drewN d).trans q1.only (Grows.refl _ _), Grows.refl _ _⟩, ?_⟩
    have e : c.bs (c.E - c.left) = c.bs (c.E - c.left) := rfl
    rw [← hu]
    exact q2
end Go.Proofs.YtpghckiochjogaaGreatDoor.TabE

/- The library functions that the code calls, as the kit's own contracts take them: which numbers they bear here. -/
namespace Go.Proofs.YtpghckiochjogaaGreatDoor.Lay
open Go.Shelf
def idxF_ren : Go.Shelf.Ren := ⟨fun | 6 => 131 | n => n, fun | 22 => 179 | 23 => 165 | 25 => 218 | 3 => 3 | 0 => 0 | 4 => 4 | n => n, fun | n => n⟩
theorem idxF : Go.Proofs.SlLaysH0.n6 Tryz.prog idxF_ren := {
  mixed := by kernel_rfl,
  f6 := ⟨Tryz.f131.name, by decide, Tryz.func131.trans (congrArg some (by kernel_rfl))⟩,
  t0 := Tryz.underlying0,
  a0 := Tryz.isAgg0,
  z0 := Tryz.sizeOf0,
  v0 := Tryz.zeroValue0,
  t3 := Tryz.underlying3,
  a3 := Tryz.isAgg3,
  z3 := Tryz.sizeOf3,
  v3 := Tryz.zeroValue3,
  t4 := Tryz.underlying4,
  a4 := Tryz.isAgg4,
  z4 := Tryz.sizeOf4,
  v4 := Tryz.zeroValue4,
  t22 := Tryz.underlying179,
  a22 := Tryz.isAgg179,
  z22 := Tryz.sizeOf179,
  v22 := Tryz.zeroValue179,
  t25 := Tryz.underlying218,
  a25 := Tryz.isAgg218,
  z25 := Tryz.sizeOf218,
  v25 := Tryz.zeroValue218 }
end Go.Proofs.YtpghckiochjogaaGreatDoor.Lay

/- Layer 9: find. -/
namespace Go.Proofs.YtpghckiochjogaaGreatDoor.TabE
open Go Go.RowKit Go.Proofs.YtpghckiochjogaaGreatDoor.Mem Go.Proofs.YtpghckiochjogaaGreatDoor.Tab Go.Shelf
theorem str_eq (a : ByteArray) : (a.toList == a.toList) = true := by simp
theorem toList_data (b : ByteArray) : b.toList = b.data.toList := by
  have h : ∀ (n i : Nat) (r : List UInt8), b.size - i = n → ByteArray.toList.loop b i r = r.reverse ++ b.data.toList.drop i := by
    intro n
    induction n with
    | zero =>
      intro i r hn
      unfold ByteArray.toList.loop
      have h1 : ¬ i < b.size := by omega
      rw [if_neg h1, List.drop_eq_nil_of_le (by have h9 : b.data.toList.length = b.size := (by simp); omega), List.append_nil]
    | succ n ih =>
      intro i r hn
      have h1 : i < b.size := by omega
      unfold ByteArray.toList.loop
      rw [if_pos h1, ih (i + 1) _ (by omega)]
      have h2 : i < b.data.toList.length := by simpa using h1
      rw [List.drop_eq_getElem_cons h2]
      have h3 : b.get! i = b.data.toList[i] := by
        have e1 : b.get! i = b.data[i]! := rfl
        rw [e1, getElem!_pos b.data i h1]
        simp
      rw [h3]; simp
  have := h (b.size - 0) 0 [] rfl
  simpa [ByteArray.toList] using this
theorem str_ne {a b : ByteArray} (h : a ≠ b) : (a.toList == b.toList) = false := by
  rw [beq_eq_false_iff_ne]
  intro e
  rw [toList_data, toList_data] at e
  apply h
  obtain ⟨⟨x⟩⟩ := a
  obtain ⟨⟨y⟩⟩ := b
  simp at e
  rw [e]
abbrev encP (x : ByteArray × V) : Value := .agg (pairCells x).toArray
theorem pred_any (key : ByteArray) (B : Nat) (w : World) (hB : B < w.heap.size) (hcell : w.cell? ⟨B, 0, none⟩ = some (.string key)) :
    PredBelow Tryz.prog 132 #[.pointer (some ⟨B, 0, none⟩)] encP (fun x => decide (x.1 = key)) w := fun W x hb => by
  obtain ⟨pk, pv⟩ := x
  have hc : W.cell? ⟨B, 0, none⟩ = some (.string key) := (hb.cell (p := ⟨B, 0, none⟩) hB).trans hcell
  have hBW : B < W.heap.size := Nat.lt_of_lt_of_le hB hb.size
  have hne : B ≠ W.heap.size := by omega
  show Calls Tryz.prog 132 #[.agg #[.string pk, (.pointer (some ⟨pv, 0, none⟩))], .pointer (some ⟨B, 0, none⟩)] W fun e w' => e = .returned (.bool (decide (pk = key))) ∧ Below w.heap.size w w'
  have HB := Lib.hid hb
  clear hb hcell
  by_cases hk : pk = key
  · subst hk
    have hse := str_eq pk
    rw [show decide (pk = pk) = true from by simp]
    go_enter Tryz.func132, Tryz.ntmps132
    go_wp2
    go_ret
    exact ⟨rfl, HB.out.alloc HB.out.size _⟩
  · have hse := str_ne hk
    rw [show decide (pk = key) = false from by simpa using hk]
    clear hk
    go_enter Tryz.func132, Tryz.ntmps132
    go_wp2
    go_ret
    exact ⟨rfl, HB.out.alloc HB.out.size _⟩
def pos (l : Pairs V) (k : ByteArray) : Int := Lib.idxBy (fun (_ p : ByteArray × V) => decide (p.1 = k)) l default
theorem pos_none {l : Pairs V} {k : ByteArray} (h : k ∉ l.map (·.1)) : pos l k = -1 := by
  unfold pos
  have := Lib.idxBy_miss (fun (_ p : ByteArray × V) => decide (p.1 = k)) l l.length default (fun j hj => by
    simp only [decide_eq_false_iff_not]
    intro e
    rw [getElem!_pos l j hj] at e
    exact h (List.mem_map.2 ⟨_, List.getElem_mem hj, e⟩))
  rwa [List.take_length] at this
theorem pos_some {l : Pairs V} {k : ByteArray} (hn : (l.map (·.1)).Nodup) (h : k ∈ l.map (·.1)) : ∃ (i : Nat) (u : V), l[i]? = some (k, u) ∧ pos l k = i := by
  obtain ⟨⟨k', u⟩, hp, e⟩ := List.mem_map.1 h
  replace e : k' = k := e
  subst e
  obtain ⟨i, hi⟩ := List.mem_iff_getElem?.1 hp
  have hil := (List.getElem?_eq_some_iff.1 hi).1
  refine ⟨i, u, hi, ?_⟩
  unfold pos
  have := Lib.idxBy_hit (fun (_ p : ByteArray × V) => decide (p.1 = k')) l l.length i default hil (Nat.le_refl _) (by rw [getElem!_pos l i hil]; rw [(List.getElem?_eq_some_iff.1 hi).2]; simp) (fun j hj => by
    have hjl : j < l.length := by omega
    rw [getElem!_pos l j hjl]
    simp only [decide_eq_false_iff_not]
    intro e
    have h1 : (l.map (·.1))[i]? = some k' := by rw [List.getElem?_map, hi]; rfl
    have h2 : (l.map (·.1))[j]? = some k' := by rw [List.getElem?_map, List.getElem?_eq_getElem hjl]; simp [e]
    have := (List.getElem?_inj (List.getElem?_eq_some_iff.1 h1).1 hn).1 (h1.trans h2.symm)
    omega)
  rwa [List.take_length] at this
theorem cells_of_own {w : World} {v : Value} {l : Pairs V} (h : OwnP w v l) : (v = .slice none 0 0 ∧ l = []) ∨ ∃ g cap, v = .slice (some ⟨g, 0, none⟩) l.length cap ∧ g < w.heap.size ∧ ∀ j p, l[j]? = some p → ∀ i u, (pairCells p)[i]? = some u → w.cell? ⟨g, 0 + j * 2 + i, none⟩ = some u := by
  rcases h.2 with ⟨e1, e2⟩ | ⟨g, cap, cur, e1, _, e2, e3, _, e4, e5⟩
  · exact .inl ⟨e1, List.eq_nil_of_length_eq_zero e2⟩
  · refine .inr ⟨g, cap, e1, (Array.getElem?_eq_some_iff.1 e2).1, fun j p hj i u hi => ?_⟩
    obtain ⟨q1, q2⟩ := cellsP_get l j p hj
    have hjl := (List.getElem?_eq_some_iff.1 hj).1
    have hcell : ∀ m x, m < l.length * 2 → (cellsP l)[m]? = some x → w.cell? ⟨g, m, none⟩ = some x := fun m x hm hx => by
      rw [← e5, List.getElem?_take, if_pos hm, Array.getElem?_toList] at hx
      exact (Mem.row_cell e2 m).trans hx
    rw [Nat.zero_add]
    match i, hi with
    | 0, hi => simp [pairCells] at hi; rw [← hi]; exact hcell _ _ (by omega) q1
    | 1, hi => simp [pairCells] at hi; rw [← hi]; exact hcell _ _ (by omega) q2
    | i + 2, hi => simp [pairCells] at hi
theorem index_any {w : World} {v : Value} {l : Pairs V} {key : ByteArray} {B : Nat} (h : OwnP w v l) (hl : l.length ≤ 9223372036854775807) (hB : B < w.heap.size) (hcell : w.cell? ⟨B, 0, none⟩ = some (.string key)) :
    Calls Tryz.prog 131 #[v, .func (.func 132) #[] #[.pointer (some ⟨B, 0, none⟩)]] w fun e w' => e = .returned (.int .i64 (pos l key)) ∧ Below w.heap.size w w' := by
  have eg : ∀ args w, (callFunc 132 args).run Tryz.prog w = .ok (.enter 132 args) w := enters_of Tryz.func132 (by kernel_rfl) rfl
  rcases cells_of_own h with ⟨rfl, rfl⟩ | ⟨g, cap, rfl, hg, hc⟩
  · rw [pos_none (by simp)]
    clear h eg hcell
    go_enter Tryz.func131, Tryz.ntmps131
    go_wp2_with fail
    go_loopw [8] (fun i wr => i = .int .i64 0 ∧ wr = w) (fun _ _ => 0)
    case atStart => exact ⟨rfl, rfl⟩
    case round =>
      obtain ⟨rfl, rfl⟩ := hrel
      go_wp2_with fail
      go_ret
      exact ⟨rfl, Below.refl _ _⟩
  · have hcon := Go.Proofs.AnyQ.slices_IndexFunc Lay.idxF 2 Tryz.isAgg165 Tryz.sizeOf165 pairCells (fun _ => rfl) (fun x => decide (x.1 = key)) 132 #[.pointer (some ⟨B, 0, none⟩)] eg g 0 l.length cap l w
      (pred_any key B w hB hcell) (Nat.le_refl _) hl hg (fun j hj i u hi => hc j _ (by rw [getElem!_pos l j hj]; exact List.getElem?_eq_getElem hj) i u hi)
    rw [List.take_length] at hcon
    exact hcon
end Go.Proofs.YtpghckiochjogaaGreatDoor.TabE

/- Layer 9: find, Get. -/
namespace Go.Proofs.YtpghckiochjogaaGreatDoor.TabE
open Go Go.RowKit Go.Proofs.YtpghckiochjogaaGreatDoor.Mem Go.Proofs.YtpghckiochjogaaGreatDoor.Tab
def FindPost (w : World) (b : Nat) (F : Nat → Prop) (seed : Int) (c : Con V) (many : Nat) (ea : Option Addr) (eb nb : Nat) (k : ByteArray) (e : Ending) (w' : World) : Prop :=
  ∃ F' gv, e = .returned (.tuple #[.pointer (some (adr c eb nb (c.idx (hN seed) k))), .int .i64 (pos (c.bs (c.idx (hN seed) k)) k)]) ∧ Mid w F w' b F' seed c many ea eb nb gv
theorem Fits.step {n : Nat} {seed : Int} {c : Con V} {L : Pairs V} (h : Fits n seed c L) : Fits n seed (c.step (hN seed)) L := by
  obtain ⟨e1, e2, _⟩ := step_shape (H := hN seed) c
  exact ⟨h.s0, h.s1, h.abs.step, by rw [e1]; exact h.E, by rw [e2]; exact h.N, h.len, h.n, h.keys⟩
set_option maxRecDepth 100000 in
set_option maxHeartbeats 1000000 in
theorem find_any {w : World} {b : Nat} {F : Nat → Prop} {seed : Int} {c : Con V} {many : Nat} {ea : Option Addr} {eb nb n : Nat} {gv : Nat → Value} {L : Pairs V} (h : AtW w b F seed c many ea eb nb gv) (hf : Fits n seed c L) (k : ByteArray) (hk : k.size ≤ maxLen) :
    Calls Tryz.prog 102 #[.pointer (some ⟨b, 0, none⟩), .string k] w (FindPost w b F seed (c.step (hN seed)) many ea eb nb k) := by
  have hb1 : Below w.heap.size w (w.alloc (.cells #[.string k] 9)) := Mem.al (Below.refl _ _) _
  have n0 := Mem.new_block w (.cells #[.string k] 9)
  have h1 := h.below hb1
  have hcall := step_any h1 hf
  have hlt := h.lt
  have HW := Lib.hid (And.intro hb1 (And.intro n0 hlt))
  clear h hb1 n0 hlt h1
  unfold StepPost at hcall
  go_enter Tryz.func102, Tryz.ntmps102
  go_wp2_with fail
  refine hcall.mono ?_
  rintro e w1 ⟨F1, gv1, rfl, hm⟩
  have hs := hf.step
  have hidx := hs.abs.idx_lt k
  have hkb : w1.cell? ⟨w.heap.size, 0, none⟩ = some (.string k) := by
    have := hm.only.same w.heap.size (by simp) (fun e => by have := HW.out.2.2 _ e; omega)
    exact (World.cell?_of_block this).trans (Mem.row_cell HW.out.2.1 0)
  have hkbl : w.heap.size < w1.heap.size := by have := hm.only.size; simp at this; omega
  have hof := fun d => of_any (hm.at_.same (w' := w1.drewN d) (fun _ _ => rfl) (Nat.le_refl _)) hs.s0 hs.s1 k hk hs.abs.le hs.abs.pos hs.E hs.N
  replace hof := hof 0
  unfold OfAt at hof
  obtain ⟨g, i, hadr, _, cg, _, _, _⟩ := hm.at_.loc hidx
  rw [hadr] at hof
  have hrow := hm.at_.rows _ hidx
  have hbl := bs_len hs.abs ((c.step (hN seed)).idx (hN seed) k)
  have hl1 := hs.len
  have hl2 := hs.n
  have hix : ∀ d, Calls Tryz.prog 131 #[gv1 ((c.step (hN seed)).idx (hN seed) k), .func (.func 132) #[] #[.pointer (some ⟨w.heap.size, 0, none⟩)]] (w1.drewN d) fun e w' => e = .returned (.int .i64 (pos ((c.step (hN seed)).bs ((c.step (hN seed)).idx (hN seed) k)) k)) ∧ Below w1.heap.size (w1.drewN d) w' := fun d =>
    index_any (w := w1.drewN d) (row_same hrow fun _ _ => rfl) (by omega) hkbl hkb
  have hfin : ∀ w2 d, Below w1.heap.size (w1.drewN d) w2 → FindPost w b F seed (c.step (hN seed)) many ea eb nb k (.returned (.tuple #[.pointer (some ⟨g, i, none⟩), .int .i64 (pos ((c.step (hN seed)).bs ((c.step (hN seed)).idx (hN seed) k)) k)])) w2 := fun w2 d hb2 => by
    have hb3 : Below w1.heap.size w1 w2 := (Mem.dn (Below.refl _ w1) d).trans (hb2.mono (Nat.le_refl _))
    refine ⟨F1, gv1, by rw [hadr], hm.at_.below hb3, ?_, fun j hj => (hm.grows j hj).imp id (fun e => by simp at e; omega)⟩
    exact ((Only.of_below (F := F) HW.out.1 (fun k h1 h2 => by omega)).trans hm.only (Grows.refl _ _)).trans (Only.of_below (F := F) hb3 (fun k h1 h2 => by omega)) (Grows.refl _ _)
  have HF := Lib.hid hfin
  obtain ⟨v0, hv0⟩ : ∃ v0, gv1 ((c.step (hN seed)).idx (hN seed) k) = v0 := ⟨_, rfl⟩
  obtain ⟨ps, hps⟩ : ∃ ps, pos ((c.step (hN seed)).bs ((c.step (hN seed)).idx (hN seed) k)) k = ps := ⟨_, rfl⟩
  rw [hv0] at cg hix
  rw [hps] at hix HF
  clear hcall hm hs hidx hadr hrow hbl hl1 hl2 hfin hv0 hps hkbl
  obtain ⟨kb, hkbe⟩ : ∃ kb, w.heap.size = kb := ⟨_, rfl⟩
  rw [hkbe] at hkb hix ⊢
  clear hkbe
  go_wp2_with fail
  refine hof.mono ?_
  rintro e w2 ⟨rfl, d, rfl⟩
  clear hof
  have cg2 : (w1.drewN d).cell? ⟨g, i, none⟩ = some v0 := cg
  have hcall := hix (0 + d)
  go_wp2_with fail
  refine (hix _).mono ?_
  rintro e w3 ⟨rfl, hb3⟩
  have HR := Lib.hid (HF.out _ _ hb3)
  clear hb3 hix hcall
  go_wp2_with fail
  go_ret2
  exact HR.out
theorem pos_cases {n : Nat} {seed : Int} {c : Con V} {L : Pairs V} (h : Fits n seed c L) (k : ByteArray) : (Tab.get L k = none ∧ k ∉ L.map (·.1) ∧ pos (c.bs (c.idx (hN seed) k)) k = -1) ∨
    ∃ (i : Nat) (u : V), (c.bs (c.idx (hN seed) k))[i]? = some (k, u) ∧ pos (c.bs (c.idx (hN seed) k)) k = i ∧ Tab.get L k = some u ∧ k ∈ L.map (·.1) := by
  by_cases hm : k ∈ L.map (·.1)
  · obtain ⟨i, u, h1, h2⟩ := pos_some (h.abs.nd _) ((h.abs.find k).2 hm)
    exact .inr ⟨i, u, h1, h2, (get_mem h.abs.rise.nodup).2 ((h.abs.mem (k, u)).2 (List.mem_of_getElem? h1)), hm⟩
  · exact .inl ⟨get_none.2 hm, hm, pos_none fun e => hm ((h.abs.find k).1 e)⟩
def TurnPost (w : World) (b : Nat) (F : Nat → Prop) (seed : Int) (s : St V) (v : Value) (e : Ending) (w' : World) : Prop := ∃ F', e = .returned v ∧ At w' b F' seed s ∧ Only F w w' ∧ Grows w F F'
structure Sm (n : Nat) (seed : Int) (s : St V) : Prop where
  s0 : 0 ≤ seed
  s1 : seed < 18446744073709551616
  len : s.L.length ≤ n
  nle : n ≤ 1000000000
  bk : s.buckets ≤ 8 + n
theorem Sm.fits {n : Nat} {seed : Int} {s : St V} {c : Con V} (h : Sm n seed s) (ha : Abs (hN seed) c s.L) (hE : c.E ≤ c.N) (hN : c.N = s.buckets) (hk : ∀ p ∈ s.L, p.1.size ≤ maxLen) : Fits n seed c s.L := by
  have := h.bk
  have := h.nle
  exact ⟨h.s0, h.s1, ha, by omega, by omega, h.len, h.nle, hk⟩
theorem Mid.done {w w' : World} {F F' : Nat → Prop} {b : Nat} {seed : Int} {c : Con V} {ea : Option Addr} {eb nb : Nat} {gv : Nat → Value} {s : St V} {many : Nat} (h : Mid w F w' b F' seed c many ea eb nb gv) (hm : many = s.L.length) (ha : Abs (hN seed) c s.L) (hE : c.E ≤ c.N) (h1 : c.N = s.buckets) (h2 : c.left = s.left) (hk : ∀ p ∈ s.L, p.1.size ≤ maxLen) {v : Value} : TurnPost w b F seed s v (.returned v) w' := by
  subst hm
  exact ⟨F', rfl, ⟨c, ea, eb, nb, gv, h.at_, ha, hE, h1, h2, hk⟩, h.only, h.grows⟩
def getV (L : Pairs V) (k : ByteArray) : Value := match Tab.get L k with
  | some v => .tuple #[(.pointer (some ⟨v, 0, none⟩)), .bool true]
  | none => .tuple #[(.pointer none), .bool false]
set_option maxRecDepth 100000 in
set_option maxHeartbeats 1000000 in
theorem get_any {w : World} {b : Nat} {F : Nat → Prop} {seed : Int} {s : St V} {n : Nat} (h : At w b F seed s) (hs : Sm n seed s) (k : ByteArray) (hk : k.size ≤ maxLen) :
    Calls Tryz.prog 67 #[.pointer (some ⟨b, 0, none⟩), .string k] w (TurnPost w b F seed s.tick (getV s.L k)) := by
  obtain ⟨c, ea, eb, nb, gv, hat, ha, hE, hcN, hcl, hks⟩ := h
  have hf := hs.fits ha hE hcN hks
  have hcall := find_any hat hf k hk
  obtain ⟨q1, q2, q3⟩ := step_shape (H := hN seed) c
  have hpos := pos_cases hf.step k
  have hfin : ∀ w' F' gv', Mid w F w' b F' seed (c.step (hN seed)) s.L.length ea eb nb gv' → ∀ v, TurnPost w b F seed s.tick v (.returned v) w' := fun w' F' gv' hm v =>
    hm.done (s := s.tick) rfl ha.step (by rw [q1, q2]; exact hE) (q2.trans hcN) (by rw [q3, hcl]; rfl) hks
  have hbs := fun k => bs_len hf.step.abs k
  have hL := hf.len
  have hLn := hf.n
  have hidx := hf.step.abs.idx_lt k
  unfold FindPost at hcall
  unfold getV
  rcases hpos with ⟨hg, -, hp⟩ | ⟨i, u, hi, hp, hg, -⟩
  · rw [hp] at hcall
    simp only [hg]
    have HF := Lib.hid hfin
    obtain ⟨ad, had⟩ : ∃ ad, adr (c.step (hN seed)) eb nb ((c.step (hN seed)).idx (hN seed) k) = ad := ⟨_, rfl⟩
    rw [had] at hcall
    clear hat ha hE hcN hcl hks hf q1 q2 q3 hp hg hfin hbs hL hLn had hidx
    go_enter Tryz.func67, Tryz.ntmps67
    go_wp2_with fail
    refine hcall.mono ?_
    rintro e w1 ⟨F1, gv1, rfl, hm⟩
    have HR := Lib.hid (HF.out _ _ _ hm)
    clear hm hcall
    go_wp2_with fail
    go_ret2
    exact HR.out _
  · rw [hp] at hcall
    simp only [hg]
    have hil := (List.getElem?_eq_some_iff.1 hi).1
    have hil2 := hbs ((c.step (hN seed)).idx (hN seed) k)
    have HF := Lib.hid (And.intro hfin (And.intro hi hidx))
    have hi1 : (i : Int) < ((c.step (hN seed)).bs ((c.step (hN seed)).idx (hN seed) k)).length := by omega
    obtain ⟨n1, hn1⟩ : ∃ n1, ((c.step (hN seed)).bs ((c.step (hN seed)).idx (hN seed) k)).length = n1 := ⟨_, rfl⟩
    rw [hn1] at hi1
    have HN := Lib.hid hn1
    have hi2 : (i : Int) ≤ 1000000000 := by omega
    clear hat ha hE hcN hcl hks hf q1 q2 q3 hp hg hfin hbs hL hLn hil hil2 hn1 hi hidx
    go_enter Tryz.func67, Tryz.ntmps67
    go_wp2_with fail
    refine hcall.mono ?_
    rintro e w1 ⟨F1, gv1, rfl, hm⟩
    obtain ⟨g, j, hadr, _, cg, _, _, _⟩ := hm.at_.loc HF.out.2.2
    rw [hadr]
    obtain ⟨g2, cap, e2, _, _, c2⟩ := own_get (hm.at_.rows _ HF.out.2.2) HF.out.2.1
    rw [e2, HN.out] at cg
    have HR := Lib.hid (HF.out.1 _ _ _ hm)
    clear hm hcall hadr e2
    go_wp2_with fail
    go_ret2
    exact HR.out _
end Go.Proofs.YtpghckiochjogaaGreatDoor.TabE

/- Layer 9: Put. -/
namespace Go.Proofs.YtpghckiochjogaaGreatDoor.TabE
open Go Go.RowKit Go.Proofs.YtpghckiochjogaaGreatDoor.Mem Go.Proofs.YtpghckiochjogaaGreatDoor.Tab
section
variable {w w' : World} {b : Nat} {F G : Nat → Prop} {seed : Int} {c : Con V} {many : Nat} {ea : Option Addr} {eb nb : Nat} {gv : Nat → Value}
theorem AtW.turnRow (h : AtW w b F seed c many ea eb nb gv) {k : Nat} (hk : k < c.E + c.N) {x : Pairs V} (hs : ∀ j, F j → (gv k).ownBlock ≠ some j → w'.heap[j]? = w.heap[j]?) (hz : w.heap.size ≤ w'.heap.size) (hown : OwnP w' (gv k) x) :
    AtW w' b F seed (c.set k x) many ea eb nb gv := by
  refine ⟨(hs b h.fb (h.row_b hk)).trans h.blk, ?_, ?_, fun j hj => ?_, h.fb, h.fn, h.fr, h.apart, fun j hj => Nat.lt_of_lt_of_le (h.lt j hj) hz⟩
  · rcases h.eo with h0 | ⟨h1, h2, h3, a, ha, h5⟩
    · exact .inl h0
    · exact .inr ⟨h1, h2, h3, a, (hs eb h2 (row_not (h.rows k hk) ha (by decide))).trans ha, h5⟩
  · obtain ⟨a, ha, h2⟩ := h.no
    exact ⟨a, (hs nb h.fn (h.row_n hk)).trans ha, h2⟩
  · show OwnP w' (gv j) (upd c.bs k x j)
    by_cases e : j = k
    · subst e; rw [upd_same]; exact hown
    · rw [upd_other _ _ e]
      exact row_same (h.rows j hj) fun g e' => hs g (h.fr j hj g e') (h.apart j k hj hk e g e')
theorem own_store {l : Pairs V} {g n cap i : Nat} {k : ByteArray} {u u' : V} (h : OwnP w (.slice (some ⟨g, 0, none⟩) n cap) l) (hi : l[i]? = some (k, u)) : OwnP (w.setCell ⟨g, i * 2 + 1, none⟩ (.pointer (some ⟨u', 0, none⟩))) (.slice (some ⟨g, 0, none⟩) n cap) (l.set i (k, u')) := by
  have hil := (List.getElem?_eq_some_iff.1 hi).1
  have hset : ∀ (l : Pairs V) (i : Nat), l[i]? = some (k, u) → cellsP (l.set i (k, u')) = (cellsP l).set (i * 2 + 1) (.pointer (some ⟨u', 0, none⟩)) := fun l => by
    induction l with
    | nil => intro i h; simp at h
    | cons p l ih =>
      intro i h
      match i, h with
      | 0, h => simp at h; subst h; rfl
      | i + 1, h =>
        rw [List.set_cons_succ, cellsP_cons, cellsP_cons, ih i (by simpa using h), show (i + 1) * 2 + 1 = i * 2 + 1 + 1 + 1 from by omega]
        rfl
  refine ⟨by rw [cellsP_len], ?_⟩
  rcases h.2 with ⟨e, _⟩ | ⟨g', cap', cur, e, h2, h3, h4, h5, h6, h7⟩
  · cases e
  injection e with e e1 e2
  injection e with e
  injection e with e
  subst e; subst e2
  refine .inr ⟨g, cap, cur.setIfInBounds (i * 2 + 1) (.pointer (some ⟨u', 0, none⟩)), by rw [List.length_set, e1], h2, Mem.row_set h3 _ _, by rw [List.length_set]; exact h4, h5, by simpa using h6, ?_⟩
  rw [hset l i hi, List.length_set, ← h7]
  simp only [Array.toList_setIfInBounds]
  rw [List.take_set]
theorem AtW.grow (h : AtW w b F seed c many ea eb nb gv) {nb' : Nat} {a : Array Value} (hnb : w.heap.size ≤ nb') (hb : w'.heap[b]? = some (tabObj seed (.slice (some ⟨nb, 0, none⟩) c.N c.N) (.slice (some ⟨nb', 0, none⟩) (2 * c.N) (2 * c.N)) c.N many))
    (hn : w'.heap[nb']? = some (bkObj a)) (hs : a.size = 2 * c.N) (ha : ∀ k, k < 2 * c.N → a[k]? = some (.slice none 0 0)) (ho : ∀ j, F j → j ≠ b → w'.heap[j]? = w.heap[j]?) (hz : w.heap.size ≤ w'.heap.size) :
    AtW w' b (fun j => F j ∨ j = nb') seed c.grow many (some ⟨nb, 0, none⟩) nb nb' (fun j => if j < c.N then gv (c.E + j) else .slice none 0 0) := by
  have hob : ∀ j g, (if j < c.N then gv (c.E + j) else Value.slice none 0 0).ownBlock = some g → j < c.N ∧ (gv (c.E + j)).ownBlock = some g := fun j g e => by
    by_cases hj : j < c.N
    · rw [if_pos hj] at e; exact ⟨hj, e⟩
    · rw [if_neg hj] at e; cases e
  have hnblt := h.lt nb h.fn
  obtain ⟨a0, h1, h2, h3⟩ := h.no
  refine ⟨hb, .inr ⟨rfl, .inl h.fn, by omega, a0, (ho nb h.fn (Ne.symm h.ne_bn)).trans h1, h2, fun k hk => ?_⟩, ⟨a, hn, hs, fun k hk => ?_⟩, fun k hk => ?_, .inl h.fb, .inr rfl, fun k _ g e => ?_, fun j k _ _ hjk g e e' => ?_, fun j hj => ?_⟩
  · rw [h3 k hk]; rw [if_pos (show k < c.N from hk)]
  · rw [ha k hk]; rw [if_neg (show ¬ c.grow.E + k < c.N from by show ¬ c.N + k < c.N; omega)]
  · show OwnP w' (if k < c.N then gv (c.E + k) else .slice none 0 0) (if k < c.N then c.bs (c.E + k) else [])
    by_cases hkN : k < c.N
    · rw [if_pos hkN, if_pos hkN]
      exact row_same (h.rows _ (by omega)) fun g e => ho g (h.fr _ (by omega) g e) (fun e1 => h.row_b (show c.E + k < c.E + c.N by omega) (e1 ▸ e))
    · rw [if_neg hkN, if_neg hkN]; exact World.ownsRow_nil _ _ _ _
  · obtain ⟨q1, q2⟩ := hob k g e
    exact .inl (h.fr _ (by omega) g q2)
  · obtain ⟨q1, q2⟩ := hob j g e
    obtain ⟨q3, q4⟩ := hob k g e'
    exact h.apart _ _ (by omega) (by omega) (by omega) g q2 q4
  · rcases hj with e | e
    · exact Nat.lt_of_lt_of_le (h.lt j e) hz
    · rw [e]; exact (Array.getElem?_eq_some_iff.1 hn).1
end
def Stored (w : World) (b : Nat) (F : Nat → Prop) (seed : Int) (s : St V) (k : ByteArray) (v : V) (w' : World) : Prop :=
  ∃ F' c ea eb nb gv, Mid w F w' b F' seed c (Tab.put s.L k v).length ea eb nb gv ∧ Abs (hN seed) c (Tab.put s.L k v) ∧ c.E ≤ c.N ∧ c.N = s.buckets ∧ c.left = s.left - 1
theorem stored_old {w w1 : World} {b : Nat} {F F1 : Nat → Prop} {seed : Int} {s : St V} {c : Con V} {ea : Option Addr} {eb nb n g n1 cap i : Nat} {gv : Nat → Value} {k : ByteArray} {u : V} (v : V) (h : Mid w F w1 b F1 seed c s.L.length ea eb nb gv) (hf : Fits n seed c s.L)
    (hE : c.E ≤ c.N) (hNb : c.N = s.buckets) (hl : c.left = s.left - 1) (hi : (c.bs (c.idx (hN seed) k))[i]? = some (k, u)) (hg : gv (c.idx (hN seed) k) = .slice (some ⟨g, 0, none⟩) n1 cap) : Stored w b F seed s k v (w1.setCell ⟨g, i * 2 + 1, none⟩ (.pointer (some ⟨v, 0, none⟩))) := by
  have hidx := hf.abs.idx_lt k
  have hrow := h.at_.rows _ hidx
  rw [hg] at hrow
  have hkm : k ∈ s.L.map (·.1) := (hf.abs.find k).1 (List.mem_map.2 ⟨_, List.mem_of_getElem? hi, rfl⟩)
  have h1 := h.at_.turnRow hidx (w' := w1.setCell ⟨g, i * 2 + 1, none⟩ (.pointer (some ⟨v, 0, none⟩))) (x := (c.bs (c.idx (hN seed) k)).set i (k, v)) (fun j hj hn => Below.heap_setCell _ _ _ _ (fun e => by rw [hg] at hn; exact hn (by rw [e]; rfl))) (by simp [World.setCell]) (by rw [hg]; exact own_store hrow hi)
  refine ⟨F1, _, ea, eb, nb, gv, ⟨by rw [put_len_old hf.abs.rise v hkm]; exact h1, h.only.setCell (p := ⟨g, i * 2 + 1, none⟩) ?_ _, h.grows⟩, hf.abs.change v hi, hE, hNb, hl⟩
  exact (h.grows g (h.at_.fr _ hidx g (by rw [hg]; rfl)))
theorem stored_new {w w1 w6 : World} {b : Nat} {F F1 : Nat → Prop} {seed : Int} {s : St V} {c : Con V} {ea : Option Addr} {eb nb n g i g' cap' : Nat} {gv : Nat → Value} {k : ByteArray} (v : V) (h : Mid w F w1 b F1 seed c s.L.length ea eb nb gv) (hf : Fits n seed c s.L)
    (hE : c.E ≤ c.N) (hNb : c.N = s.buckets) (hl : c.left = s.left - 1) (hk : k ∉ s.L.map (·.1)) (hadr : adr c eb nb (c.idx (hN seed) k) = ⟨g, i, none⟩) {o : Obj}
    (hown : OwnP w6 (.slice (some ⟨g', 0, none⟩) ((c.bs (c.idx (hN seed) k)).length + 1) cap') (c.bs (c.idx (hN seed) k) ++ [(k, v)])) (hgrow : (w1.alloc o).grownBy w6 (gv (c.idx (hN seed) k)).ownBlock) (hat : (gv (c.idx (hN seed) k)).ownBlock = some g' ∨ g' = w1.heap.size + 1) :
    Stored w b F seed s k v ((w6.setCell ⟨g, i, none⟩ (.slice (some ⟨g', 0, none⟩) ((c.bs (c.idx (hN seed) k)).length + 1) cap')).setCell ⟨b, 4, none⟩ (.int .i64 ((s.L.length : Int) + 1))) := by
  have hidx := hf.abs.idx_lt k
  have hsm : ∀ j, F1 j → (gv (c.idx (hN seed) k)).ownBlock ≠ some j → w6.heap[j]? = w1.heap[j]? := fun j hj hn => (hgrow.block j (by have := h.at_.lt j hj; simp; omega) (Ne.symm hn)).trans (Below.heap_alloc _ _ _ (h.at_.lt j hj))
  have hz : w1.heap.size + 1 ≤ w6.heap.size := by have := hgrow.size; simpa using this
  have h1 := h.at_.setRow hidx (w' := w6) (v := .slice (some ⟨g', 0, none⟩) ((c.bs (c.idx (hN seed) k)).length + 1) cap') hsm (by omega) hown (fun g2 e => by
    have e2 : g' = g2 := by simpa [Value.ownBlock] using e
    subst e2
    exact hat.imp id (fun e => by omega))
  rw [hadr] at h1
  have hFg : F1 g := by
    obtain ⟨g2, i2, e, hF, _⟩ := h.at_.loc hidx
    rw [hadr] at e; injection e with e; rw [e]; exact hF
  have h2 := h1.setBlk (w' := (w6.setCell ⟨g, i, none⟩ (.slice (some ⟨g', 0, none⟩) ((c.bs (c.idx (hN seed) k)).length + 1) cap')).setCell ⟨b, 4, none⟩ (.int .i64 ((s.L.length : Int) + 1))) c.left (s.L.length + 1) (Mem.row_set h1.blk 4 _) (fun j hj => Below.heap_setCell _ _ _ _ hj) (by simp [World.setCell])
  refine ⟨_, _, ea, eb, nb, _, ⟨by rw [put_len_new hf.abs.rise v hk]; exact h2, ?_, fun j hj => ?_⟩, hf.abs.add v hk, hE, hNb, hl⟩
  · refine ((h.only.trans (((Only.refl F1 w1).alloc o).grown hgrow fun g2 e => ?_) h.grows).setCell (p := ⟨g, i, none⟩) (h.grows g hFg) _).setCell (p := ⟨b, 4, none⟩) (h.grows b h.at_.fb) _
    exact .inl (h.at_.fr _ hidx g2 e)
  · rcases hj with e | e
    · exact h.grows j e
    · have e2 : g' = j := by simpa [Value.ownBlock] using e
      subst e2
      exact hat.elim (fun e => h.grows _ (h.at_.fr _ hidx _ e)) (fun e => .inr (by have := h.only.size; omega))
theorem Sm.put {n : Nat} {seed : Int} {s : St V} (h : Sm n seed s) (hn : n + 1 ≤ 1000000000) (k : ByteArray) (v : V) : Sm (n + 1) seed (s.put k v) := by
  have := h.len
  have := h.bk
  have hp := (Tab.put_len (L := s.L) k v).1
  refine ⟨h.s0, h.s1, by rw [put_L]; omega, hn, ?_⟩
  unfold St.put St.grown
  split
  · rename_i hc; simp only at hc ⊢; omega
  · simp only; omega
theorem Sm.tick {n : Nat} {seed : Int} {s : St V} (h : Sm n seed s) : Sm n seed s.tick := ⟨h.s0, h.s1, h.len, h.nle, h.bk⟩
theorem Sm.del {n : Nat} {seed : Int} {s : St V} (h : Sm n seed s) (k : ByteArray) : Sm n seed (s.del k) := ⟨h.s0, h.s1, Nat.le_trans (del_len_le _ _) h.len, h.nle, h.bk⟩
theorem Sm.mono {n m : Nat} {seed : Int} {s : St V} (h : Sm n seed s) (hm : n ≤ m) (hm2 : m ≤ 1000000000) : Sm m seed s := ⟨h.s0, h.s1, Nat.le_trans h.len hm, hm2, by have := h.bk; omega⟩
end Go.Proofs.YtpghckiochjogaaGreatDoor.TabE

/- Layer 9: Put. -/
namespace Go.Proofs.YtpghckiochjogaaGreatDoor.TabE
open Go Go.RowKit Go.Proofs.YtpghckiochjogaaGreatDoor.Mem Go.Proofs.YtpghckiochjogaaGreatDoor.Tab
structure Turned (w w' : World) (b : Nat) (o : Obj) : Prop where
  blk : w'.heap[b]? = some o
  same : ∀ j, j ≠ b → w'.heap[j]? = w.heap[j]?
  only : Only (· = b) w w'
set_option maxRecDepth 100000 in
set_option maxHeartbeats 2000000 in
theorem put_any {w : World} {b : Nat} {F : Nat → Prop} {seed : Int} {s : St V} {n : Nat} (h : At w b F seed s) (hs : Sm n seed s) (hn : n + 1 ≤ 1000000000) (k : ByteArray) (v : V) (hk : k.size ≤ maxLen) :
    Calls Tryz.prog 111 #[.pointer (some ⟨b, 0, none⟩), .string k, (.pointer (some ⟨v, 0, none⟩))] w (TurnPost w b F seed (s.put k v) (.tuple #[])) := by
  obtain ⟨i0, hi, hz0, hz1, hz2⟩ := info_parts infoPair
  obtain ⟨j0, hj, hy0, hy1, hy2⟩ := info_parts infoBk
  obtain ⟨c, ea, eb, nb, gv, hat, ha, hE, hcN, hcl, hks⟩ := h
  have hf := hs.fits ha hE hcN hks
  have hrise := ha.rise
  have hcall := find_any hat hf k hk
  obtain ⟨q1, q2, q3⟩ := step_shape (H := hN seed) c
  have hpos := pos_cases hf.step k
  have hfs := hf.step
  have hcN2 : (c.step (hN seed)).N = s.buckets := q2.trans hcN
  have hE2 : (c.step (hN seed)).E ≤ (c.step (hN seed)).N := by rw [q1, q2]; exact hE
  have hl2 : (c.step (hN seed)).left = s.left - 1 := by rw [q3, hcl]
  obtain ⟨c2, hc2⟩ : ∃ c2, c.step (hN seed) = c2 := ⟨_, rfl⟩
  rw [hc2] at hcall hpos hfs hcN2 hE2 hl2
  have HS := Lib.hid (And.intro hs (And.intro hfs (And.intro hcN2 (And.intro hE2 (And.intro hl2 (And.intro hks hrise))))))
  have HP := Lib.hid hpos
  clear hat ha hE hcN hcl hks hrise hf q1 q2 q3 hpos hfs hcN2 hE2 hl2 hc2 hs
  unfold FindPost at hcall
  obtain ⟨ps, hps⟩ : ∃ ps, pos (c2.bs (c2.idx (hN seed) k)) k = ps := ⟨_, rfl⟩
  rw [hps] at hcall
  go_enter Tryz.func111, Tryz.ntmps111
  go_wp2_with fail
  refine hcall.mono ?_
  rintro e w1 ⟨F1, gv1, rfl, hm⟩
  have hidx := HS.out.2.1.abs.idx_lt k
  obtain ⟨g, i, hadr, _, cg, fg, hgb, hgr⟩ := hm.at_.loc hidx
  rw [hadr]
  have HM := Lib.hid (And.intro hm (And.intro hadr hidx))
  have HPs := Lib.hid hps
  have hbg : ¬ (g = b) := hgb
  clear hm hadr hidx hcall hps hgb
  go_upto_if 15 with (fail)
  go_cut [] from 16 to 39 (fun wx => Hid (Stored w b F seed s k v wx))
  case first =>
    rcases HP.out with ⟨hg, hkn, hp⟩ | ⟨i1, u, hi1, hp, hg, -⟩
    · rw [HPs.out] at hp
      subst hp
      have hrow := HM.out.1.at_.rows _ HM.out.2.2
      have hbl := bs_len HS.out.2.1.abs (c2.idx (hN seed) k)
      have hl1 := HS.out.2.1.len
      have c4 : w1.cell? ⟨b, 4, none⟩ = some (.int .i64 (s.L.length : Nat)) := Mem.row_cell HM.out.1.at_.blk 4
      obtain ⟨ya, yc, hsh⟩ := own_shape hrow
      have hlen : s.L.length ≤ 1000000000 := by omega
      have hbn : (c2.bs (c2.idx (hN seed) k)).length ≤ 1000000000 := by omega
      have hro := (World.ownsRow.alloc (o := .cells #[.string k, (.pointer (some ⟨v, 0, none⟩))] 165) hrow)
      have hbfar : ∀ w6, (w1.alloc (.cells #[.string k, (.pointer (some ⟨v, 0, none⟩))] 165)).grownBy w6 (gv1 (c2.idx (hN seed) k)).ownBlock → w6.heap[g]? = w1.heap[g]? ∧ w6.heap[b]? = w1.heap[b]? := fun w6 hgw => by
        have hFg : F1 g := by
          obtain ⟨g3, i3, e, hF, _⟩ := HM.out.1.at_.loc HM.out.2.2
          rw [HM.out.2.1] at e
          have e9 : g = g3 := congrArg Addr.block e
          rw [e9]; exact hF
        exact ⟨(hgw.block g (Nat.lt_of_lt_of_le (HM.out.1.at_.lt g hFg) (by simp)) (Ne.symm (hgr _ HM.out.2.2))).trans (Below.heap_alloc _ _ _ (HM.out.1.at_.lt g hFg)),
          (hgw.block b (Nat.lt_of_lt_of_le (HM.out.1.at_.lt b HM.out.1.at_.fb) (by simp)) (Ne.symm (HM.out.1.at_.row_b HM.out.2.2))).trans (Below.heap_alloc _ _ _ (HM.out.1.at_.lt b HM.out.1.at_.fb))⟩
      have hfin : ∀ g' cap' w6, w6.ownsRow 0 165 2 (.slice (some ⟨g', 0, none⟩) ((c2.bs (c2.idx (hN seed) k)).length + 1) cap') ((c2.bs (c2.idx (hN seed) k)).length + 1) (cellsP (c2.bs (c2.idx (hN seed) k)) ++ [.string k, (.pointer (some ⟨v, 0, none⟩))]) → (w1.alloc (.cells #[.string k, (.pointer (some ⟨v, 0, none⟩))] 165)).grownBy w6 (gv1 (c2.idx (hN seed) k)).ownBlock → ((gv1 (c2.idx (hN seed) k)).ownBlock = some g' ∨ g' = w1.heap.size + 1) →
          w6.cell? ⟨g, i, none⟩ = some (gv1 (c2.idx (hN seed) k)) ∧ w6.frozen? ⟨g, i, none⟩ = false ∧ w6.cell? ⟨b, 4, none⟩ = some (.int .i64 (s.L.length : Nat)) ∧ w6.frozen? ⟨b, 4, none⟩ = false ∧
          Stored w b F seed s k v ((w6.setCell ⟨g, i, none⟩ (.slice (some ⟨g', 0, none⟩) ((c2.bs (c2.idx (hN seed) k)).length + 1) cap')).setCell ⟨b, 4, none⟩ (.int .i64 ((s.L.length : Int) + 1))) := fun g' cap' w6 hown hgw hat => by
        obtain ⟨e1, e2⟩ := hbfar w6 hgw
        refine ⟨(World.cell?_of_block e1).trans cg, (World.frozen?_of_block e1).trans fg, (World.cell?_of_block e2).trans c4, (World.frozen?_of_block e2).trans (Mem.row_free HM.out.1.at_.blk 4), ?_⟩
        refine stored_new v HM.out.1 HS.out.2.1 HS.out.2.2.2.1 HS.out.2.2.1 HS.out.2.2.2.2.1 hkn HM.out.2.1 ?_ hgw hat
        unfold OwnP
        rw [List.length_append, cellsP_app]; exact hown
      have HFn := Lib.hid hfin
      obtain ⟨L, hL⟩ : ∃ L, (c2.bs (c2.idx (hN seed) k)).length = L := ⟨_, rfl⟩
      obtain ⟨X, hX⟩ : ∃ X, cellsP (c2.bs (c2.idx (hN seed) k)) = X := ⟨_, rfl⟩
      rw [hL, hX, hsh, hL] at HFn
      rw [hsh, hL] at cg
      rw [hL] at hbn
      rw [hL, hX, hsh, hL] at hro
      have HR := Lib.hid hro
      clear hrow hbl hl1 hfin hbfar hL hX hsh hgr hkn hg hro c4
      go_wp2_with (at_builtin; refine wpList_append_lies _ rfl _ _ _ rfl 0 165 i0 _ 2 24 Tryz.underlying179 hi hz0 hz1 hz2 rfl (by omega) _ L X rfl HR.out ⟨w1.heap.size, 0, none⟩ 1 1 [.string k, (.pointer (some ⟨v, 0, none⟩))] rfl rfl (World.news_of_block (Mem.new_block w1 _)) (by simp [Value.oneCell']) (by decide) (by unfold maxLen; omega) (by omega) (Nat.zero_le _) (w1.heap.size + 1) (by simp) ?_; intro gg cap w6 hown hgrow hat hlt; obtain ⟨d1, d2, d3, d4, d5⟩ := HFn.out _ _ _ hown hgrow hat; have H5 := Lib.hid d5; clear d5 hown hgrow hat hlt)
      go_meet
      exact H5
    · rw [HPs.out] at hp
      subst hp
      have hil := (List.getElem?_eq_some_iff.1 hi1).1
      have hbl := bs_len HS.out.2.1.abs (c2.idx (hN seed) k)
      have hl1 := HS.out.2.1.len
      obtain ⟨g2, cap, e2, _, _, _⟩ := own_get (HM.out.1.at_.rows _ HM.out.2.2) hi1
      have hst := stored_old v HM.out.1 HS.out.2.1 HS.out.2.2.2.1 HS.out.2.2.1 HS.out.2.2.2.2.1 hi1 e2
      have hfz : w1.frozen? ⟨g2, i1 * 2 + 1, none⟩ = false := by
        have hrow := HM.out.1.at_.rows _ HM.out.2.2
        rw [e2] at hrow
        rcases hrow.2 with ⟨e, _⟩ | ⟨g3, cap3, cur, e, _, e3, _⟩
        · cases e
        · injection e with e; injection e with e; injection e with e
          subst e
          exact Mem.row_free e3 _
      have H5 := Lib.hid hst
      have hi2 : (i1 : Int) < (c2.bs (c2.idx (hN seed) k)).length := by omega
      rw [e2] at cg
      obtain ⟨L, hL⟩ : ∃ L, (c2.bs (c2.idx (hN seed) k)).length = L := ⟨_, rfl⟩
      rw [hL] at cg hi2
      have hi3 : (i1 : Int) ≤ 1000000000 := by omega
      clear hil hbl hl1 e2 hst hL hgr hg hi1
      go_wp2_with fail
      go_meet
      exact H5
  case rest =>
    have HT := Lib.hid hcut.out
    have HS2 := Lib.hid (And.intro HS.out.1 HS.out.2.2.2.2.2)
    clear hcut HM HPs HP HS cg fg hgr hbg
    obtain ⟨F2, c3, ea2, eb2, nb2, gv2, hm, ha, hE, hN3, hl3⟩ := HT.out
    clear HT
    have hks' : ∀ p ∈ Tab.put s.L k v, p.1.size ≤ maxLen := fun p hp => by
      rcases (mem_put HS2.out.2.2 k v p).1 hp with rfl | ⟨hp, _⟩
      · exact hk
      · exact HS2.out.2.1 p hp
    have hlen := (Tab.put_len (L := s.L) k v).1
    have hsl := HS2.out.1.len
    have hbk := HS2.out.1.bk
    have hlf := ha.le
    have c4 : wc.cell? ⟨b, 4, none⟩ = some (.int .i64 ((Tab.put s.L k v).length : Nat)) := Mem.row_cell hm.at_.blk 4
    have c22 : wc.cell? ⟨b, 2, none⟩ = some (.slice (some ⟨nb2, 0, none⟩) c3.N c3.N) := Mem.row_cell hm.at_.blk 2
    have c33 : wc.cell? ⟨b, 3, none⟩ = some (.int .i64 (c3.left : Nat)) := Mem.row_cell hm.at_.blk 3
    have c11 : wc.cell? ⟨b, 1, none⟩ = some (.slice ea2 c3.E c3.E) := Mem.row_cell hm.at_.blk 1
    have f1 := Mem.row_free hm.at_.blk 1
    have f2 := Mem.row_free hm.at_.blk 2
    have f3 := Mem.row_free hm.at_.blk 3
    have hN1 : c3.N ≤ 1000000100 := by omega
    have hM1 : (Tab.put s.L k v).length ≤ 1000000100 := by omega
    have hl1 : c3.left ≤ 1000000100 := by omega
    have hput : s.put k v = if 2 * c3.N < (Tab.put s.L k v).length ∧ c3.left = 0 then ⟨Tab.put s.L k v, 2 * c3.N, c3.N⟩ else ⟨Tab.put s.L k v, c3.N, c3.left⟩ := by
      unfold St.put St.grown; rw [hN3, hl3]
    have HM := Lib.hid (And.intro hm (And.intro ha (And.intro hE (And.intro hks' hput))))
    obtain ⟨M, hM⟩ : ∃ M, (Tab.put s.L k v).length = M := ⟨_, rfl⟩
    obtain ⟨N, hN⟩ : ∃ N, c3.N = N := ⟨_, rfl⟩
    obtain ⟨lf, hlf2⟩ : ∃ lf, c3.left = lf := ⟨_, rfl⟩
    rw [hM] at c4 hM1
    rw [hN] at c22 hN1
    rw [hlf2] at c33 hl1
    have HE := Lib.hid (And.intro hM (And.intro hN hlf2))
    have hw2 : IntKind.i64.wrap (2 * (N : Int)) = 2 * (N : Int) := by rw [IntKind.wrap_i64]; omega
    clear hm ha hE hks' hlen hsl hbk hlf hput hM hN hlf2 hN3 hl3
    by_cases hg : 2 * N < M ∧ lf = 0
    · obtain ⟨hg1, rfl⟩ := hg
      have hd1 : decide (2 * (N : Int) < (M : Int)) = true := by simp only [decide_eq_true_eq]; omega
      have hd2 : decide (2 * N < M) = true := by simpa using hg1
      have hgi : 2 * (N : Int) < M := by omega
      go_wp2_with fail
      go_quiet (fail)
      go_wp2_with fail
      have htu : ∀ d, Turned wc (((wc.drewN d).setCell ⟨b, 1, none⟩ (.slice (some ⟨nb2, 0, none⟩) N N)).setCell ⟨b, 3, none⟩ (.int .i64 (N : Nat))) b (tabObj seed (.slice (some ⟨nb2, 0, none⟩) N N) (.slice (some ⟨nb2, 0, none⟩) N N) N M) := fun d => by
        have hb := HM.out.1.at_.blk
        rw [HE.out.1, HE.out.2.1, HE.out.2.2] at hb
        exact ⟨Mem.row_set (Mem.row_set (W := wc.drewN d) hb 1 _) 3 _, fun j hj => (Below.heap_setCell _ _ _ _ hj).trans (Below.heap_setCell _ _ _ _ hj), ((Only.drewN (Only.refl (· = b) wc) d).setCell (p := ⟨b, 1, none⟩) (.inl rfl) _).setCell (p := ⟨b, 3, none⟩) (.inl rfl) _⟩
      have htu2 : ∀ d, Turned wc (((wc.drewN d).setCell ⟨b, 3, none⟩ (.int .i64 (N : Nat))).setCell ⟨b, 1, none⟩ (.slice (some ⟨nb2, 0, none⟩) N N)) b (tabObj seed (.slice (some ⟨nb2, 0, none⟩) N N) (.slice (some ⟨nb2, 0, none⟩) N N) N M) := fun d => by
        have hb := HM.out.1.at_.blk
        rw [HE.out.1, HE.out.2.1, HE.out.2.2] at hb
        exact ⟨Mem.row_set (Mem.row_set (W := wc.drewN d) hb 3 _) 1 _, fun j hj => (Below.heap_setCell _ _ _ _ hj).trans (Below.heap_setCell _ _ _ _ hj), ((Only.drewN (Only.refl (· = b) wc) d).setCell (p := ⟨b, 3, none⟩) (.inl rfl) _).setCell (p := ⟨b, 1, none⟩) (.inl rfl) _⟩
      have HU := Lib.hid (And.intro htu htu2)
      clear htu htu2
      go_cut [] from 58 to 72 (fun wy => Hid (Turned wc wy b (tabObj seed (.slice (some ⟨nb2, 0, none⟩) N N) (.slice (some ⟨nb2, 0, none⟩) N N) N M)))
      case first =>
        go_region
        all_goals (go_wp2_with fail; go_meet; first | exact Lib.hid (HU.out.1 _) | exact Lib.hid (HU.out.2 _))
      case rest =>
        have c25 : wc.cell? ⟨b, 2, none⟩ = some (.slice (some ⟨nb2, 0, none⟩) N N) := Mem.row_cell hcut.out.blk 2
        have hblt : b < wc.heap.size := (Array.getElem?_eq_some_iff.1 hcut.out.blk).1
        have hfin : ∀ w5, w5.ownsRow wc.heap.size 179 1 (.slice (some ⟨wc.heap.size, 0, none⟩) (2 * N) (2 * N)) (2 * N) (madeCells (Value.slice none 0 0).cells (2 * N * 1)).toList → wc.grownBy w5 none →
            w5.cell? ⟨b, 2, none⟩ = some (.slice (some ⟨nb2, 0, none⟩) N N) ∧ w5.frozen? ⟨b, 2, none⟩ = false ∧ TurnPost w b F seed (s.put k v) (.tuple #[]) (.returned (.tuple #[])) (w5.setCell ⟨b, 2, none⟩ (.slice (some ⟨wc.heap.size, 0, none⟩) (2 * N) (2 * N))) := fun w5 hown hgw => by
          obtain ⟨hm, ha, hE, hks', hput⟩ := HM.out
          obtain ⟨h1, h2, h3⟩ := HE.out
          have ht := hcut.out
          have hb5 : w5.heap[b]? = wc.heap[b]? := hgw.block b hblt (fun e => by cases e)
          rcases hown.2 with ⟨e, _⟩ | ⟨g5, cap5, cur, e, _, hg5, _, _, hsz, htk⟩
          · cases e
          injection e with e _ e2
          injection e with e
          injection e with e
          subst e; subst e2
          have hz5 := ht.only.size
          have hz6 := hgw.size
          refine ⟨(World.cell?_of_block hb5).trans c25, (World.frozen?_of_block hb5).trans (Mem.row_free ht.blk 2), ?_⟩
          rw [hput, h1, h2, h3, if_pos ⟨hg1, rfl⟩]
          have hne : wc.heap.size ≠ b := by omega
          have hold : ∀ j, F2 j → j ≠ b → (w5.setCell ⟨b, 2, none⟩ (.slice (some ⟨wc.heap.size, 0, none⟩) (2 * N) (2 * N))).heap[j]? = _ := fun j hj hjb => (Below.heap_setCell _ _ _ _ hjb).trans ((hgw.block j (Nat.lt_of_lt_of_le (hm.at_.lt j hj) hz5) (fun e => by cases e)).trans (ht.same j hjb))
          have hgrow := hm.at_.grow (w' := w5.setCell ⟨b, 2, none⟩ (.slice (some ⟨wc.heap.size, 0, none⟩) (2 * N) (2 * N))) (nb' := wc.heap.size) (a := cur) hz5 (by rw [h2, h1]; exact Mem.row_set (hb5.trans ht.blk) 2 _) ((Below.heap_setCell _ _ _ _ hne).trans hg5) (by rw [h2]; omega) (fun j hj => made_nil hsz htk j (by rw [h2] at hj; exact hj)) hold (by simp [World.setCell]; omega)
          have hon : Only F w (w5.setCell ⟨b, 2, none⟩ (.slice (some ⟨wc.heap.size, 0, none⟩) (2 * N) (2 * N))) := by
            have o1 := hm.only.trans (ht.only.mono (F' := F2) (fun j hj => hj ▸ hm.at_.fb)) hm.grows
            exact (o1.grown hgw (fun g e => by cases e)).setCell (p := ⟨b, 2, none⟩) (hm.grows b hm.at_.fb) _
          have hmid : Mid w F (w5.setCell ⟨b, 2, none⟩ (.slice (some ⟨wc.heap.size, 0, none⟩) (2 * N) (2 * N))) b (fun j => F2 j ∨ j = wc.heap.size) seed c3.grow (Tab.put s.L k v).length (some ⟨nb2, 0, none⟩) nb2 wc.heap.size _ :=
            ⟨hgrow, hon, fun j hj => hj.elim (hm.grows j) (fun e => .inr (by have := hm.only.size; omega))⟩
          exact hmid.done (s := ⟨Tab.put s.L k v, 2 * N, N⟩) rfl (ha.grow h3) (by show c3.N ≤ 2 * c3.N; omega) (by show 2 * c3.N = 2 * N; rw [h2]) (by show c3.N = N; exact h2) hks'
        have HFn := Lib.hid hfin
        have hb24 : j0.bytes * (2 * N) ≤ 281474976710656 := by rw [hy2]; omega
        have hml : 2 * N ≤ maxLen := by unfold maxLen; omega
        clear hcut hfin hblt hd1 hd2 hgi hg1 c4 c22 c33 c11 f1 f2 f3
        go_wp2_with (at_make; refine wpList_make_full _ rfl _ _ _ rfl wc.heap.size 179 j0 _ 1 Tryz.underlying99 hj hy0 hy1 .i64 .i64 (2 * (N : Int)) (2 * (N : Int)) (2 * N) rfl rfl (by omega) (by omega) hb24 hml (Nat.le_refl _) ?_; intro w5 hown hgw; obtain ⟨d1, d2, d3⟩ := HFn.out w5 hown hgw; have H5 := Lib.hid d3; clear d3 hown hgw)
        go_end0
        exact H5.out
    · have hd : (2 * N < M ∧ (lf : Int) ≠ 0) ∨ ¬ 2 * N < M := by omega
      have hfin : ∀ d, TurnPost w b F seed (s.put k v) (.tuple #[]) (.returned (.tuple #[])) (wc.drewN d) := fun d => by
        obtain ⟨hm, ha, hE, hks', hput⟩ := HM.out
        obtain ⟨h1, h2, h3⟩ := HE.out
        rw [hput, h1, h2, h3, if_neg hg]
        have hm2 : Mid w F (wc.drewN d) b F2 seed c3 (Tab.put s.L k v).length ea2 eb2 nb2 gv2 := ⟨hm.at_.same (fun _ _ => rfl) (Nat.le_refl _), hm.only.drewN d, hm.grows⟩
        exact hm2.done (s := ⟨Tab.put s.L k v, N, lf⟩) rfl ha hE h2 h3 hks'
      have HFn := Lib.hid hfin
      clear hfin
      rcases hd with ⟨hd, hl0⟩ | hd
      · have hd1 : decide (2 * (N : Int) < (M : Int)) = true := by simp only [decide_eq_true_eq]; omega
        have hd2 : decide (2 * N < M) = true := by simpa using hd
        have hd3 : ((lf : Int) == 0) = false := by simpa using hl0
        clear hg hl0
        go_wp2_with fail
        go_quiet (fail)
        go_wp2_with fail
        go_end0
        exact HFn.out _
      · have hd1 : decide (2 * (N : Int) < (M : Int)) = false := by simp only [decide_eq_false_iff_not]; omega
        have hd2 : decide (2 * N < M) = false := by simpa using hd
        clear hg
        go_wp2_with fail
        go_quiet (fail)
        go_wp2_with fail
        go_end0
        exact HFn.out _
end Go.Proofs.YtpghckiochjogaaGreatDoor.TabE

/- Cells stored one behind the other, as a block sees it. -/
namespace Go.Proofs.YtpghckiochjogaaGreatDoor.Mem
open Go Go.RowKit
def lay (cs : Array Value) : Nat → List Value → Array Value
  | _, [] => cs
  | o, x :: xs => lay (cs.setIfInBounds o x) (o + 1) xs
theorem lay_size : ∀ (xs : List Value) (o : Nat) (cs : Array Value), (lay cs o xs).size = cs.size
  | [], _, _ => rfl
  | x :: xs, o, cs => by rw [lay, lay_size xs]; simp
theorem lay_out : ∀ (xs : List Value) (o : Nat) (cs : Array Value) (j : Nat), j < o ∨ o + xs.length ≤ j → (lay cs o xs)[j]? = cs[j]?
  | [], _, _, _, _ => rfl
  | x :: xs, o, cs, j, h => by
    simp only [List.length_cons] at h
    rw [lay, lay_out xs (o + 1) _ j (by omega), Array.getElem?_setIfInBounds, if_neg (by omega)]
theorem lay_in : ∀ (xs : List Value) (o : Nat) (cs : Array Value) (j : Nat), o + xs.length ≤ cs.size → o ≤ j → j < o + xs.length → (lay cs o xs)[j]? = xs[j - o]?
  | [], _, _, _, _, _, h => by simp at h; omega
  | x :: xs, o, cs, j, h1, h2, h3 => by
    simp only [List.length_cons] at h1 h3
    rw [lay]
    by_cases e : j = o
    · subst e
      rw [lay_out xs (j + 1) _ j (by omega), Array.getElem?_setIfInBounds, if_pos rfl, if_pos (by omega)]
      simp
    · rw [lay_in xs (o + 1) _ j (by simp; omega) (by omega) (by omega), show j - o = j - (o + 1) + 1 from by omega, List.getElem?_cons_succ]
theorem set_cells {b : Nat} {t : TypeId} {fz : Nat × Nat} : ∀ (xs : List Value) (o : Nat) (cs : Array Value) {W : World}, W.heap[b]? = some (.cells cs t fz) → (W.setCells b o xs).heap[b]? = some (.cells (lay cs o xs) t fz)
  | [], _, _, _, h => h
  | x :: xs, o, _, _, h => set_cells xs (o + 1) _ (Mem.row_set h o x)
theorem set_cells_far {b : Nat} : ∀ (xs : List Value) (o : Nat) {W : World} {j : Nat}, j ≠ b → (W.setCells b o xs).heap[j]? = W.heap[j]?
  | [], _, _, _, _ => rfl
  | _ :: xs, o, _, _, h => (set_cells_far xs (o + 1) h).trans (Below.heap_setCell _ _ _ _ h)
theorem set_cells_size {b : Nat} : ∀ (xs : List Value) (o : Nat) {W : World}, (W.setCells b o xs).heap.size = W.heap.size
  | [], _, _ => rfl
  | _ :: xs, o, _ => (set_cells_size xs (o + 1)).trans (by simp [World.setCell])
theorem Only.setCells {F : Nat → Prop} {x : World} {b : Nat} (hb : F b ∨ x.heap.size ≤ b) : ∀ (xs : List Value) (o : Nat) {y : World}, Only F x y → Only F x (y.setCells b o xs)
  | [], _, _, h => h
  | u :: xs, o, _, h => Only.setCells hb xs (o + 1) (h.setCell (p := ⟨b, o, none⟩) hb u)
end Go.Proofs.YtpghckiochjogaaGreatDoor.Mem

/- Layer 9: slices.Delete of one pair. -/
namespace Go.Proofs.YtpghckiochjogaaGreatDoor.TabE
open Go Go.RowKit Go.Proofs.YtpghckiochjogaaGreatDoor.Mem Go.Proofs.YtpghckiochjogaaGreatDoor.Tab
abbrev zeros : List Value := [.string ⟨#[]⟩, (.pointer none)]
theorem run_clear_one {w : World} (ty : TypeId) {g o c : Nat} {cs : Array Value} (hb : w.heap[g]? = some (.cells cs 165 (0, 0))) (ho : o + 2 ≤ cs.size) :
    (Builtin.clear_ #[179] ty #[.slice (some ⟨g, o, none⟩) 1 c]).run Tryz.prog w = .ok (.tuple #[]) (w.setCells g o zeros) := by
  have hst := run_storeCells_cells (P := Tryz.prog) g o zeros 0 w (fun j hj => by
    have : j < 2 := hj
    rw [Mem.row_cell hb, Nat.add_zero, Array.getElem?_eq_getElem (by omega)]; rfl) (fun j _ => Mem.row_free hb _) (by intro v hv; simp at hv; rcases hv with rfl | rfl <;> rfl)
  simp only [Nat.add_zero] at hst
  have hz : (Builtin.zeroCells (Value.agg #[.string ⟨#[]⟩, (.pointer none)]).cells 1).toList = zeros := by kernel_rfl
  simp [Builtin.clear_, run_underlying Tryz.underlying179, hz, hst]
theorem cellsP_take (l : Pairs V) (k : Nat) : cellsP (l.take k) = (cellsP l).take (k * 2) := by
  rcases Nat.lt_or_ge k l.length with h | h
  · conv => rhs; rw [← List.take_append_drop k l]
    rw [cellsP_app, List.take_left']
    rw [cellsP_len, List.length_take]; omega
  · rw [List.take_of_length_le h, List.take_of_length_le (by rw [cellsP_len]; omega)]
theorem cellsP_drop (l : Pairs V) (k : Nat) : cellsP (l.drop k) = (cellsP l).drop (k * 2) := by
  rcases Nat.lt_or_ge k l.length with h | h
  · conv => rhs; rw [← List.take_append_drop k l]
    rw [cellsP_app, List.drop_left']
    rw [cellsP_len, List.length_take]; omega
  · rw [List.drop_of_length_le h, List.drop_of_length_le (by rw [cellsP_len]; omega)]; rfl
theorem row_erased {w : World} {g cap i m : Nat} {l : Pairs V} (h : OwnP w (.slice (some ⟨g, 0, none⟩) (i + 1 + m) cap) l) (hl : l.length = i + 1 + m) :
    OwnP ((w.setCells g (i * 2) (cellsP (l.drop (i + 1)))).setCells g ((i + m) * 2) zeros) (.slice (some ⟨g, 0, none⟩) (i + m) cap) (l.eraseIdx i) ∧ ∃ cs, (w.setCells g (i * 2) (cellsP (l.drop (i + 1)))).heap[g]? = some (.cells cs 165 (0, 0)) ∧ (i + m) * 2 + 2 ≤ cs.size := by
  have hel : (l.eraseIdx i).length = i + m := by rw [List.length_eraseIdx, if_pos (by omega)]; omega
  have hdl : (cellsP (l.drop (i + 1))).length = m * 2 := by rw [cellsP_len, List.length_drop]; omega
  rcases h.2 with ⟨e, _⟩ | ⟨g', cap', cur, e, h2, h3, h4, h5, h6, h7⟩
  · cases e
  injection e with e e1 e2
  injection e with e
  injection e with e
  subst e; subst e2
  rw [hl] at h4 h7
  have hb1 := Mem.set_cells (cellsP (l.drop (i + 1))) (i * 2) cur h3
  have hb2 := Mem.set_cells zeros ((i + m) * 2) _ hb1
  refine ⟨⟨by rw [cellsP_len], .inr ⟨g, cap, _, by rw [hel], h2, hb2, by rw [hel]; omega, h5, by rw [lay_size, lay_size]; exact h6, ?_⟩⟩, _, hb1, by rw [lay_size]; omega⟩
  rw [hel]
  refine List.ext_getElem? fun j => ?_
  rw [List.getElem?_take]
  rw [List.eraseIdx_eq_take_drop_succ, cellsP_app, cellsP_take]
  by_cases hj : j < (i + m) * 2
  · rw [if_pos hj, Array.getElem?_toList, lay_out zeros _ _ j (.inl hj)]
    have hl2 : ((cellsP l).take (i * 2)).length = i * 2 := by rw [List.length_take, cellsP_len]; omega
    by_cases hj2 : j < i * 2
    · rw [lay_out _ _ _ j (.inl hj2), List.getElem?_append_left (by omega), List.getElem?_take, if_pos hj2, ← h7, List.getElem?_take, if_pos (by omega), Array.getElem?_toList]
    · rw [lay_in _ _ _ j (by rw [hdl]; omega) (by omega) (by rw [hdl]; omega), List.getElem?_append_right (by omega), hl2]
  · rw [if_neg hj]
    symm
    rw [List.getElem?_eq_none_iff, List.length_append, List.length_take, cellsP_len, hdl]
    omega
theorem Only.two {F : Nat → Prop} {w : World} {g : Nat} (hF : F g) (o1 o2 : Nat) (xs ys : List Value) (d : Nat) : Only F w (((w.drewN d).setCells g o1 xs).setCells g o2 ys) := Only.setCells (.inl hF) ys o2 (Only.setCells (.inl hF) xs o1 (Only.drewN (Only.refl F w) d))
def ErasedPost (w : World) (g cap i m : Nat) (l : Pairs V) (e : Ending) (w' : World) : Prop :=
  e = .returned (.slice (some ⟨g, 0, none⟩) (i + m) cap) ∧ ∃ d, w' = ((w.drewN d).setCells g (i * 2) (cellsP (l.drop (i + 1)))).setCells g ((i + m) * 2) zeros
set_option maxRecDepth 100000 in
set_option maxHeartbeats 1000000 in
theorem erase_any {w : World} {g cap i m : Nat} {l : Pairs V} (h : OwnP w (.slice (some ⟨g, 0, none⟩) (i + 1 + m) cap) l) (hl : l.length = i + 1 + m) (hb : i + 1 + m ≤ 1000000000) :
    Calls Tryz.prog 117 #[.slice (some ⟨g, 0, none⟩) (i + 1 + m) cap, .int .i64 i, .int .i64 ((i : Int) + 1)] w (ErasedPost w g cap i m l) := by
  obtain ⟨i0, hi, hz0, hz1, hz2⟩ := info_parts infoPair
  have her := row_erased h hl
  have hdl : (cellsP (l.drop (i + 1))).length = m * 2 := by rw [cellsP_len, List.length_drop]; omega
  rcases h.2 with ⟨e, _⟩ | ⟨g', cap', cur, e, h2, h3, h4, h5, h6, h7⟩
  · cases e
  injection e with e e1 e2
  injection e with e
  injection e with e
  subst e; subst e2
  rw [hl] at h4 h7
  unfold maxLen at h5
  obtain ⟨A, hA, hnews⟩ : ∃ A : Addr, (if cap = i + 1 then some (⟨g, 0, none⟩ : Addr) else some ⟨g, (i + 1) * 2, none⟩) = some A ∧ Hid (∀ j u, (cellsP (l.drop (i + 1)))[j]? = some u → w.drew.cell? (A.add j) = some u) := by
    by_cases hc : cap = i + 1
    · refine ⟨⟨g, 0, none⟩, by simp [hc], fun j u hu => ?_⟩
      have h0 : (cellsP (l.drop (i + 1))).length = 0 := by rw [hdl]; omega
      rw [List.length_eq_zero_iff.1 h0] at hu
      simp at hu
    · refine ⟨⟨g, (i + 1) * 2, none⟩, by simp [hc], fun j u hu => ?_⟩
      rw [Addr.add_lit]
      show w.cell? _ = _
      rw [Mem.row_cell h3]
      have hj : j < m * 2 := by have := (List.getElem?_eq_some_iff.1 hu).1; rwa [hdl] at this
      rw [cellsP_drop, List.getElem?_drop, ← h7, List.getElem?_take, if_pos (by omega), Array.getElem?_toList] at hu
      exact hu
  have s1 : Hid ((cellsP (l.drop (i + 1))).length = m * 2) := hdl
  have s2 : Hid (∀ u ∈ cellsP (l.drop (i + 1)), u.oneCell' = true) := one_cellsP _
  have s3 : Hid (∀ j, j < (cellsP (l.drop (i + 1))).length → (w.drew.cell? ⟨g, 0 + i * 2 + j, none⟩).isSome = true ∧ w.drew.frozen? ⟨g, 0 + i * 2 + j, none⟩ = false) := by
    intro j hj
    rw [hdl] at hj
    refine ⟨?_, Mem.row_free (W := w.drew) h3 _⟩
    show (w.cell? _).isSome = true
    rw [Mem.row_cell h3, Array.getElem?_eq_getElem (by omega)]; rfl
  have s4 : Hid (cap ≠ i + m) := by intro e; omega
  have hcl := fun ty => run_clear_one (w := w.drew.setCells g (i * 2) (cellsP (l.drop (i + 1)))) ty (g := g) (o := (i + m) * 2) (c := cap - (i + m)) (cs := lay cur (i * 2) (cellsP (l.drop (i + 1)))) (Mem.set_cells (W := w.drew) _ _ _ h3) (by rw [lay_size]; omega)
  have hic : i ≤ cap := by omega
  have hi1 : i + 1 ≤ i + 1 + m := by omega
  have hlen2 : i + 1 + m - (i + 1) = m := by omega
  have hlen3 : i + 1 + m - (i + m) = 1 := by omega
  have hwr : IntKind.i64.wrap ((i : Int) + 1) = (i : Int) + 1 := by rw [IntKind.wrap_i64]; omega
  have hne : ((i : Int) == (i : Int) + 1) = false := by simp; omega
  have hp0 : (0 : Int) ≤ (i : Int) + 1 := by omega
  have hp3 : (i : Int) + 1 ≤ (i : Int) + 1 + m := by omega
  have hp4 : (i : Int) + m ≤ (i : Int) + 1 + m := by omega
  have hp5 : (0 : Int) ≤ (i : Int) + m := by omega
  have hp6 : (0 : Int) ≤ (i : Int) + 1 + m := by omega
  have hp7 : ((i : Int) + m).toNat = i + m := by omega
  have hp8 : ((i : Int) + 1 + m).toNat = i + 1 + m := by omega
  have hp9 : (i : Int) + 1 + m ≤ cap := by omega
  have hp2 : ((i : Int) + 1).toNat = i + 1 := by omega
  clear h her hl h3 h7 hdl e1
  go_enter Tryz.func117, Tryz.ntmps117
  go_wp2_with fail
  go_region_law (refine step_append_room rfl (.tmp 22) (.tmp 25) 179 rfl 165 i0 2 Tryz.underlying179 hi hz1 g 0 i cap (by simp [Act.eval, Act.put]) A m (cap - (i + 1)) (cellsP (l.drop (i + 1))) (by simp [Act.eval, Act.put]) s1.out hnews.out s2.out (by omega) s3.out ?_)
  all_goals go_wp2_with fail
  go_ret
  exact ⟨rfl, 1, rfl⟩
end Go.Proofs.YtpghckiochjogaaGreatDoor.TabE

