/- KWalkShardUpdates: WalkShardUpdates, one behind the other. -/
import Derived.Test.YtkchlibkfafgdaaPart9
import Derived.Test.YtkchlibkfafgdaaPart10
import Derived.StillTailTactics
import Derived.BigQuiet
/- ShardUpdates answers true for every seed, list of calls and item. Conditions: the numbers are of their kinds. -/
namespace Go.Proofs.Ytkchlibkfafgdaa.ShardUpdates
set_option maxRecDepth 100000
open Go Go.RowKit Go.Proofs.Ytkchlibkfafgdaa.Mem Go.Proofs.Ytkchlibkfafgdaa.App Go.Proofs.Ytkchlibkfafgdaa.Ops Go.Proofs.Ytkchlibkfafgdaa.Shard

theorem update_code (s : St) (it : Shard.Item) : (s.update it).1 = 0 ∨ (s.update it).1 = 1 ∨ (s.update it).1 = 6 := by
  unfold St.update
  split
  · exact .inr (.inr rfl)
  · split
    · exact .inl rfl
    · exact .inr (.inl rfl)

set_option maxHeartbeats 4000000 in
theorem walk (W : World) (seed : Int) (x : Option Addr) (n0 c : Nat) (l : List Shard.Op) (it : Shard.Item) (a : Option Addr) (c2 : Nat) (hseed : 0 ≤ seed ∧ seed ≤ 18446744073709551615) (hl : n0 = l.length ∧ n0 ≤ maxLen ∧ (∀ a ∈ l, OpOk W a) ∧ Lies W 15 encO x l) (hit : ItemOk it ∧ SrcB W (.slice a it.val.length c2) it.val) :
    Calls Try.prog 8 #[.int .u64 seed, .slice x n0 c, .agg (it.arr (.slice a it.val.length c2))] W fun e W' => e = .returned (.bool true) ∧ Below W.heap.size W W' := by
  obtain ⟨rfl, hml, hok, hlies⟩ := hl
  unfold maxLen at hml
  obtain ⟨hio, his⟩ := hit
  have hil1 := hio.key
  have hil2 := hio.val
  unfold maxLen at hil1 hil2
  have HIS := Lib.hid his
  clear his hio
  have HL := Lib.hid (And.intro hok hlies)
  have hb0 : Below W.heap.size W (W.alloc (.cells (it.arr (.slice a it.val.length c2)) 31)) := Mem.al (Below.refl _ _) _
  have n0 := Mem.new_block W (.cells (it.arr (.slice a it.val.length c2)) 31)
  have hB0 : W.heap.size < (W.alloc (.cells (it.arr (.slice a it.val.length c2)) 31)).heap.size := by simp
  obtain ⟨w0, hw0⟩ : ∃ w0, W.alloc (.cells (it.arr (.slice a it.val.length c2)) 31) = w0 := ⟨_, rfl⟩
  rw [hw0] at hb0 n0 hB0
  have H0 := Lib.hid (And.intro hb0 (And.intro n0 hB0))
  clear hb0 n0 hB0
  unfold Item.arr at hw0 ⊢
  go_enter Try.func8, Try.ntmps8
  go_wp2_with fail
  refine (awake_any w0).mono ?_
  rintro e w1 ⟨rfl, hb1⟩
  have hb01 : Below W.heap.size W w1 := Mem.tr H0.out.1 hb1
  have n1 := (hb1.block _ H0.out.2.2).trans H0.out.2.1
  have hB1 : W.heap.size < w1.heap.size := Nat.lt_of_lt_of_le H0.out.2.2 hb1.size
  have hfew := few_any (c := c) (hlies.same hb01) (by unfold maxLen; exact hml) hok
  have HF : Hid (fewB l = true → l.length ≤ 80 ∧ ∀ o ∈ l, o.it.key.size ≤ 300 ∧ o.it.val.length ≤ 3000) := Lib.hid (by unfold fewB; exact of_decide_eq_true)
  generalize fewB l = q at *
  have H1 := Lib.hid (And.intro hb01 (And.intro n1 hB1))
  clear hok hlies hb1 hb01 n1 hB1 hw0
  go_wp2_with fail
  refine hfew.mono ?_
  rintro e w2 ⟨rfl, rfl⟩
  clear hfew
  have hnew := new_run H1.out.1 seed 2000 3 hseed.1 (by omega) (by omega)
  go_wp2_with fail
  refine hnew.mono ?_
  rintro e w3 ⟨b, col, rfl, r3, hlow, hb3⟩
  have n3 := (hb3.block _ H1.out.2.2).trans H1.out.2.1
  have hB3 : W.heap.size < w3.heap.size := Nat.lt_of_lt_of_le H1.out.2.2 hb3.size
  have hc3 : col W.heap.size = none := Classical.byContradiction fun e => by have := hlow _ e; have := H1.out.2.2; omega
  have cel := fun j => Mem.row_cell n3 j
  have q0 := cel 0
  have q1 := cel 1
  simp only [Item.arr, List.getElem?_toArray, List.getElem?_cons_zero, List.getElem?_cons_succ] at q0 q1
  have HR := Lib.hid (And.intro r3 (And.intro n3 (And.intro hB3 hc3)))
  clear cel hnew r3 hlow hb3 n3 hB3 hc3
  cases q with
  | false =>
    go_wp2_with fail
    go_ret
    exact ⟨rfl, HR.out.1.below⟩
  | true =>
    obtain ⟨h80, hsz⟩ := HF.out rfl
    by_cases hk3 : 300 < it.key.size
    · have hk3' : (300 : Int) < it.key.size := by omega
      clear hml h80 hk3
      go_wp2_with fail
      go_ret
      exact ⟨rfl, HR.out.1.below⟩
    have hk3' : (it.key.size : Int) ≤ 300 := by omega
    by_cases hv3 : 3000 < it.val.length
    · have hv3' : (3000 : Int) < it.val.length := by omega
      clear hml h80 hk3 hv3
      go_wp2_with fail
      go_ret
      exact ⟨rfl, HR.out.1.below⟩
    have hv3' : (it.val.length : Int) ≤ 3000 := by omega
    have hl80 : (l.length : Int) ≤ 80 := by omega
    have HSZ := Lib.hid (And.intro hsz (And.intro h80 (And.intro hk3 hv3)))
    clear hml h80 hsz hk3 hv3
    go_wp2_with fail
    clear q0 q1
    go_loopg [10] l.length (fun gh i wr => ∃ (m : Nat), i = .int .i64 m ∧ gh + m = l.length ∧ Hid (∃ col s, Run W wr m b col seed s ∧ wr.heap[W.heap.size]? = some (.cells (it.arr (.slice a it.val.length c2)) 31 (0, 0)) ∧ W.heap.size < wr.heap.size ∧ col W.heap.size = none))
    case atStart => exact ⟨0, rfl, by omega, Lib.hid ⟨col, _, HR.out⟩⟩
    case round =>
      obtain ⟨m, rfl, hg, HS⟩ := hrel
      have HG := Lib.hid hg
      by_cases hm : m < l.length
      · obtain ⟨colr, s, r, hbox, hBl, hcB⟩ := HS.out
        obtain ⟨o, ho⟩ : ∃ o, l[m]? = some o := ⟨_, List.getElem?_eq_getElem hm⟩
        have hop := op_at HL.out.2 HL.out.1 r.below ho
        obtain ⟨Bx, off, rfl, hBx, hc⟩ := hop.at_
        obtain ⟨va, vc, hv⟩ := hop.shape
        have hsrc := hop.src r.below
        have hap := hop.apart (fun k hk => (r.low k hk).1)
        have hz := HSZ.out.1 o (List.mem_of_getElem? ho)
        rw [hv] at hsrc hap
        have c1 := hc 1 _ rfl
        have c2 := hc 2 _ rfl
        have c3 := hc 3 _ rfl
        have c4 := hc 4 _ rfl
        have c5 := hc 5 _ rfl
        have c6 := hc 6 _ rfl
        have c7 := hc 7 _ rfl
        have c8 := hc 8 _ rfl
        have c9 := hc 9 _ rfl
        have c10 := hc 10 _ rfl
        have c11 := hc 11 _ rfl
        have c12 := hc 12 _ rfl
        have c13 := hc 13 _ rfl
        have c14 := hc 14 _ rfl
        rw [hv] at c2
        have hmi : (m : Int) < l.length := by omega
        have hst := store_run (r.step (Below.drew (Below.refl _ wr))) (by have := HSZ.out.2.1; omega) o.it va vc o.env hz.1 hz.2 (hsrc.below (Below.drew (Below.refl _ wr))) hap
        unfold Item.arr Env.arr at hst
        have HO := Lib.hid (And.intro hbox (And.intro hBl hcB))
        clear hc hBx hop hsrc hap hz r ho hbox hBl hcB hv
        go_wp2_with fail
        refine wp_region_still_tail 11 (by kernel_rfl) (by kernel_rfl) ?_
        simp only [List.take_succ_cons, List.take_zero, List.drop_succ_cons, List.drop_zero]
        repeat still_step
        refine wpStill_nil ?_
        change wpList _ _ _ _ _ wr.drew
        clear c1 c2 c3 c4 c5 c6 c7 c8 c9 c10 c11 c12 c13 c14
        go_wp2_with fail
        refine hst.mono ?_
        rintro e w4 ⟨fresh, hf, rfl, col4, r4, f4⟩
        obtain ⟨o1, o2, o3⟩ := f4.own (k := W.heap.size) HO.out.2.1 HO.out.2.2
        have H4 := Lib.hid (show ∃ col s, Run W w4 (m + 1) b col seed s ∧ w4.heap[W.heap.size]? = some (.cells (it.arr (.slice a it.val.length c2)) 31 (0, 0)) ∧ W.heap.size < w4.heap.size ∧ col W.heap.size = none from ⟨_, _, r4, o1.trans HO.out.1, o3, o2⟩)
        clear hst hf r4 f4 o1 o2 o3
        go_wp2_with fail
        go_roundg (l.length - (m + 1))
        case measure => have := HG.out; omega
        case rel => exact ⟨m + 1, by go_num, by have := HG.out; omega, H4⟩
      · have hml : (l.length : Int) ≤ m := by omega
        have hme : m = l.length := by omega
        obtain ⟨colr, s, r, hbox, hBl, hcB⟩ := HS.out
        rw [hme] at r
        have hus : Calls Try.prog 19 #[.pointer (some ⟨b, 0, none⟩)] wr fun e w' => e = .returned (.int .i64 s.slab.used) ∧ wr = w' := used_any r.at_
        have hall := all_run r (by omega) 1000
        have htk : s.items.take (1000 : Int).toNat = s.items := List.take_of_length_le (by have := r.ilen; have : (1000 : Int).toNat = 1000 := rfl; omega)
        rw [htk] at hall
        have H4 := Lib.hid r
        have HO := Lib.hid (And.intro hbox (And.intro hBl hcB))
        clear hbox hBl hcB htk r hme hm HS hg HG
        go_wp2_with fail
        refine hus.mono ?_
        rintro e w4 ⟨rfl, rfl⟩
        clear hus
        go_wp2_with fail
        refine hall.mono ?_
        rintro e w5 ⟨v5, rfl, hit, hb5⟩
        obtain ⟨ia, ic, hv5⟩ := hit.shape
        subst hv5
        have r5 := H4.out.step hb5
        have n5 := (hb5.block _ HO.out.2.1).trans HO.out.1
        have hB5 := Nat.lt_of_lt_of_le HO.out.2.1 hb5.size
        have hsep := Sep.start (base := wr.heap.size) (fun k hk => H4.out.none hk) w5
        have hup := update_run r5 (by have := HSZ.out.2.1; omega) it a c2 (by have := HSZ.out.2.2.1; omega) (by have := HSZ.out.2.2.2; omega) (HIS.out.below r5.below) (Apart.low (fun k hk => (r5.low k hk).1) (fun hx g e => src_low HIS.out g hx e))
        obtain ⟨u1, u2, u3⟩ := update_items H4.out.inv it
        have u4 := update_code s it
        obtain ⟨ev, hev⟩ : ∃ ev, (s.update it).1 = ev := ⟨_, rfl⟩
        obtain ⟨t, ht⟩ : ∃ t, (s.update it).2 = t := ⟨_, rfl⟩
        rw [hev, ht] at hup
        rw [ht] at u1 u2
        rw [hev] at u4
        rw [hev, ht] at u3
        have cel := fun j => Mem.row_cell n5 j
        have q0 := cel 0
        have q1 := cel 1
        have q2 := cel 2
        have q3 := cel 3
        have q4 := cel 4
        have q5 := cel 5
        have q6 := cel 6
        have q7 := cel 7
        have q8 := cel 8
        have q9 := cel 9
        simp only [Item.arr, List.getElem?_toArray, List.getElem?_cons_zero, List.getElem?_cons_succ] at q0 q1 q2 q3 q4 q5 q6 q7 q8 q9
        have H5 := Lib.hid (And.intro hit (And.intro hsep (And.intro n5 (And.intro hB5 (And.intro u1 (And.intro u2 (And.intro u3 u4)))))))
        unfold Item.arr at hup
        clear cel hall hit hb5 r5 n5 hB5 hsep u1 u2 u3 u4 hev ht
        go_wp2_with fail
        refine hup.mono ?_
        rintro e w6 ⟨rfl, col6, r6, f6⟩
        obtain ⟨o1, o2, o3⟩ := f6.own (k := W.heap.size) H5.out.2.2.2.1 HO.out.2.2
        have hsep6 := H5.out.2.1.turn f6
        have hall2 := all_run r6 (by have := HSZ.out.2.1; omega) 1000
        have htk2 : t.items.take (1000 : Int).toNat = t.items := List.take_of_length_le (by have := r6.ilen; have : (1000 : Int).toNat = 1000 := rfl; have := HSZ.out.2.1; omega)
        rw [htk2] at hall2
        have H6 := Lib.hid (And.intro r6 (And.intro (o1.trans H5.out.2.2.1) (And.intro o3 (And.intro hsep6 f6))))
        clear hup r6 o1 o2 o3 hsep6 f6 htk2 q0 q1 q2 q3 q4 q5 q6 q7 q8 q9
        go_wp2_with fail
        refine hall2.mono ?_
        rintro e w7 ⟨v7, rfl, hit7, hb7⟩
        obtain ⟨ja, jc, hv7⟩ := hit7.shape
        rw [H5.out.2.2.2.2.2.1] at hv7
        subst hv7
        have hwas : ItemsAt wr.heap.size s.items (.slice ia s.items.length ic) w7 := (H6.out.2.2.2.1.below hb7).items H5.out.1
        have r7 := H6.out.1.step hb7
        have hus2 : Calls Try.prog 19 #[.pointer (some ⟨b, 0, none⟩)] w7 fun e w' => e = .returned (.int .i64 t.slab.used) ∧ w7 = w' := used_any r7.at_
        rw [H5.out.2.2.2.2.1] at hus2
        have hlt2 : s.items.length ≤ 80 := by have := HSZ.out.2.1; have := H4.out.ilen; omega
        have H7 := Lib.hid (And.intro hit7 (And.intro hwas (And.intro ((hb7.block _ H6.out.2.2.1).trans H6.out.2.1) (And.intro (Nat.lt_of_lt_of_le H6.out.2.2.1 hb7.size) r7.below))))
        clear hall2 hit7 hb7 hwas r7
        go_wp2_with fail
        refine hus2.mono ?_
        rintro e w8 ⟨rfl, rfl⟩
        clear hus2
        go_wp2_with fail
        go_loopg [15, 16, 17] s.items.length (fun gh i _ _ wq => ∃ (q : Nat), i = .int .i64 q ∧ gh + q = s.items.length ∧ Hid (Below w7.heap.size w7 wq))
        case atStart => exact ⟨0, rfl, by omega, Lib.hid (Below.refl _ _)⟩
        case round =>
          obtain ⟨q, rfl, hg, HS⟩ := hrel
          have HG := Lib.hid hg
          clear hg
          by_cases hq : q < s.items.length
          · obtain ⟨p, hp⟩ : ∃ p, s.items[q]? = some p := ⟨_, List.getElem?_eq_getElem hq⟩
            obtain ⟨pn, hpk⟩ := H5.out.2.2.2.2.2.2.1 q p hp
            obtain ⟨g, cap, va, vc, hvs, -, hlg, hpo, hc⟩ := (H7.out.2.1.below HS.out).get hp
            injection hvs with hvs1 hvs2 hvs3
            subst hvs1 hvs3
            have hsp : SrcB wr (.slice va p.val.length vc) p.val := SrcB.of_row hpo
            have d0 : wr.cell? ⟨g, q * 10, none⟩ = some (.string p.key) := hc 0 _ rfl
            have d1 := hc 1 _ rfl
            have d2 := hc 2 _ rfl
            have d3 := hc 3 _ rfl
            have d4 := hc 4 _ rfl
            have d5 := hc 5 _ rfl
            have d6 := hc 6 _ rfl
            have d7 := hc 7 _ rfl
            have d8 := hc 8 _ rfl
            have d9 := hc 9 _ rfl
            have hqi : (q : Int) < s.items.length := by omega
            have nr := (HS.out.block _ H7.out.2.2.2.1).trans H7.out.2.2.1
            have hBr := Nat.lt_of_lt_of_le H7.out.2.2.2.1 HS.out.size
            have cel := fun (o : Obj) (j : Nat) => Mem.row_cell (((Mem.al (Below.refl _ wr) o).block _ hBr).trans nr) j
            have q0 := fun o => cel o 0
            have q1 := fun o => cel o 1
            have q2 := fun o => cel o 2
            have q3 := fun o => cel o 3
            have q4 := fun o => cel o 4
            have q5 := fun o => cel o 5
            have q6 := fun o => cel o 6
            have q7 := fun o => cel o 7
            have q8 := fun o => cel o 8
            have q9 := fun o => cel o 9
            simp only [Item.arr, List.getElem?_toArray, List.getElem?_cons_zero, List.getElem?_cons_succ] at q0 q1 q2 q3 q4 q5 q6 q7 q8 q9
            have HP := Lib.hid (And.intro hsp (And.intro nr (And.intro hBr (And.intro hlg d1))))
            clear cel hc hp hvs2 hpo hsp nr hBr hlg
            by_cases hke : p.key = it.key
            · have hpk1 := hpk hke
              clear hpk
              rw [hke] at d0
              rcases H5.out.2.2.2.2.2.2.2 with rfl | rfl | rfl
              · have hln : p.val.length = it.val.length := hpk1.1 rfl
                rw [if_pos ⟨rfl, hke⟩] at pn
                clear hpk1
                obtain ⟨g8, cap8, vb, vbc, hvs8, -, hl8, hpo8, hc8⟩ := (H7.out.1.below HS.out).get pn
                injection hvs8 with hvs1 hvs2 hvs3
                subst hvs1 hvs3
                have hsp8 : SrcB wr (.slice vb it.val.length vbc) it.val := SrcB.of_row hpo8
                have k0 : wr.cell? ⟨g8, q * 10, none⟩ = some (.string it.key) := hc8 0 _ rfl
                have k1 := hc8 1 _ rfl
                have k2 := hc8 2 _ rfl
                have k3 := hc8 3 _ rfl
                have k4 := hc8 4 _ rfl
                have k5 := hc8 5 _ rfl
                have k6 := hc8 6 _ rfl
                have k7 := hc8 7 _ rfl
                have k8 := hc8 8 _ rfl
                have k9 := hc8 9 _ rfl
                have al8 := fun (o : Obj) (j : Nat) => World.cell?_of_block (a := ⟨g8, q * 10 + j, none⟩) ((Mem.al (Below.refl _ wr) o).block g8 hl8)
                have e0 := fun o => (al8 o 0).trans k0
                have e1 := fun o => (al8 o 1).trans k1
                have e2 := fun o => (al8 o 2).trans k2
                have e3 := fun o => (al8 o 3).trans k3
                have e4 := fun o => (al8 o 4).trans k4
                have e5 := fun o => (al8 o 5).trans k5
                have e6 := fun o => (al8 o 6).trans k6
                have e7 := fun o => (al8 o 7).trans k7
                have e8 := fun o => (al8 o 8).trans k8
                have e9 := fun o => (al8 o 9).trans k9
                simp only [Nat.add_zero] at e0
                have hsm := fun o => same_any (w := (wr.alloc o).drew) it it (hsp8.below (Below.drew (Mem.al (Below.refl _ wr) o))) (SrcB.below (v := (.slice a it.val.length c2)) (HIS.out.below (Mem.tr H7.out.2.2.2.2 HS.out)) (Below.drew (Mem.al (Below.refl _ wr) o)))
                have hdd : decide (it = it) = true := decide_eq_true rfl
                rw [hdd] at hsm
                unfold Item.arr at hsm
                have HK := Lib.hid (And.intro hl8 (And.intro k0 hke))
                clear hc8 pn hpo8 hvs2 hke hdd hsp8 al8 k0 k1 k2 k3 k4 k5 k6 k7 k8 k9
                go_wp2_with fail
                obtain ⟨ob, hob⟩ : ∃ ob : Obj, .cells #[.string it.key, .slice a it.val.length c2, .int .u32 it.flags, .int .i64 it.exp, .int .u64 it.cas, .int .i64 it.sec, .int .u64 it.seq, .bool it.stale, .bool it.won, .bool it.seen] 31 = ob := ⟨_, rfl⟩
                have nb := Mem.new_block wr ob
                obtain ⟨wa, hwa⟩ : ∃ wa, wr.alloc ob = wa := ⟨_, rfl⟩
                rw [hob, hwa]
                rw [hwa, ← hob] at nb
                have cel := fun j => Mem.row_cell nb j
                have t0 := cel 0
                have t1 := cel 1
                have t2 := cel 2
                have t3 := cel 3
                have t4 := cel 4
                have t5 := cel 5
                have t6 := cel 6
                have t7 := cel 7
                have t8 := cel 8
                have t9 := cel 9
                simp only [List.getElem?_toArray, List.getElem?_cons_zero, List.getElem?_cons_succ] at t0 t1 t2 t3 t4 t5 t6 t7 t8 t9
                replace e0 := e0 ob
                replace e1 := e1 ob
                replace e2 := e2 ob
                replace e3 := e3 ob
                replace e4 := e4 ob
                replace e5 := e5 ob
                replace e6 := e6 ob
                replace e7 := e7 ob
                replace e8 := e8 ob
                replace e9 := e9 ob
                replace hsm := hsm ob
                rw [hwa] at e0 e1 e2 e3 e4 e5 e6 e7 e8 e9 hsm
                have HW := Lib.hid (show Below wr.heap.size wr wa by rw [← hwa]; exact Mem.al (Below.refl _ wr) _)
                clear cel nb hwa hob q0 q1 q2 q3 q4 q5 q6 q7 q8 q9 d0 d1 d2 d3 d4 d5 d6 d7 d8 d9
                refine wp_region_still_tail 5 (by kernel_rfl) (by kernel_rfl) ?_
                simp only [List.take_succ_cons, List.take_zero, List.drop_succ_cons, List.drop_zero]
                repeat still_step
                refine wpStill_nil ?_
                change wpList _ _ _ _ _ wa.drew
                clear e0 e1 e2 e3 e4 e5 e6 e7 e8 e9 t0 t1 t2 t3 t4 t5 t6 t7 t8 t9
                go_wp2_with fail
                refine hsm.mono ?_
                rintro e wS ⟨rfl, hbS⟩
                have hbr : Below wr.heap.size wr wS := Mem.tr (Below.drew HW.out) hbS
                have x0 := (World.cell?_of_block (a := ⟨g8, q * 10, none⟩) (hbr.block g8 HK.out.1)).trans HK.out.2.1
                have x1 := (World.cell?_of_block (a := ⟨g, q * 10 + 1, none⟩) (hbr.block g HP.out.2.2.2.1)).trans HP.out.2.2.2.2
                have cel := fun (j : Nat) => Mem.row_cell ((hbr.block _ HP.out.2.2.1).trans HP.out.2.1) j
                have y0 := cel 0
                have y1 := cel 1
                simp only [Item.arr, List.getElem?_toArray, List.getElem?_cons_zero, List.getElem?_cons_succ] at y0 y1
                rw [hln] at x1
                have HB := Lib.hid hbr
                clear cel hsm hbS hbr hln
                go_wp2_with fail
                go_quiet (fail)
                clear x0 x1 y0 y1
                go_wp2_with fail
                go_roundg (s.items.length - (q + 1))
                case measure => have := HG.out; omega
                case rel => exact ⟨q + 1, by go_num, by have := HG.out; omega, Lib.hid (Mem.tr HS.out (Mem.dn HB.out _))⟩
              · have hln : ¬ p.val.length = it.val.length := fun e => absurd (hpk1.2 e) (by decide)
                rw [if_neg (fun e => absurd e.1 (by decide))] at pn
                clear hpk1
                obtain ⟨g8, cap8, vb, vbc, hvs8, -, hl8, hpo8, hc8⟩ := (H7.out.1.below HS.out).get pn
                injection hvs8 with hvs1 hvs2 hvs3
                subst hvs1 hvs3
                have hsp8 : SrcB wr (.slice vb p.val.length vbc) p.val := SrcB.of_row hpo8
                have k0 : wr.cell? ⟨g8, q * 10, none⟩ = some (.string p.key) := hc8 0 _ rfl
                have k1 := hc8 1 _ rfl
                have k2 := hc8 2 _ rfl
                have k3 := hc8 3 _ rfl
                have k4 := hc8 4 _ rfl
                have k5 := hc8 5 _ rfl
                have k6 := hc8 6 _ rfl
                have k7 := hc8 7 _ rfl
                have k8 := hc8 8 _ rfl
                have k9 := hc8 9 _ rfl
                have al8 := fun (o : Obj) (j : Nat) => World.cell?_of_block (a := ⟨g8, q * 10 + j, none⟩) ((Mem.al (Below.refl _ wr) o).block g8 hl8)
                have e0 := fun o => (al8 o 0).trans k0
                have e1 := fun o => (al8 o 1).trans k1
                have e2 := fun o => (al8 o 2).trans k2
                have e3 := fun o => (al8 o 3).trans k3
                have e4 := fun o => (al8 o 4).trans k4
                have e5 := fun o => (al8 o 5).trans k5
                have e6 := fun o => (al8 o 6).trans k6
                have e7 := fun o => (al8 o 7).trans k7
                have e8 := fun o => (al8 o 8).trans k8
                have e9 := fun o => (al8 o 9).trans k9
                simp only [Nat.add_zero] at e0
                have hsm := fun o => same_any (w := (wr.alloc o).drew) p p (hsp8.below (Below.drew (Mem.al (Below.refl _ wr) o))) (SrcB.below (v := (.slice va p.val.length vc)) HP.out.1 (Below.drew (Mem.al (Below.refl _ wr) o)))
                have hdd : decide (p = p) = true := decide_eq_true rfl
                rw [hdd] at hsm
                unfold Item.arr at hsm
                rw [hke] at hsm e0
                have HK := Lib.hid (And.intro hl8 (And.intro k0 hke))
                clear hc8 pn hpo8 hvs2 hke hdd hsp8 al8 k0 k1 k2 k3 k4 k5 k6 k7 k8 k9
                go_wp2_with fail
                obtain ⟨ob, hob⟩ : ∃ ob : Obj, .cells #[.string it.key, .slice va p.val.length vc, .int .u32 p.flags, .int .i64 p.exp, .int .u64 p.cas, .int .i64 p.sec, .int .u64 p.seq, .bool p.stale, .bool p.won, .bool p.seen] 31 = ob := ⟨_, rfl⟩
                have nb := Mem.new_block wr ob
                obtain ⟨wa, hwa⟩ : ∃ wa, wr.alloc ob = wa := ⟨_, rfl⟩
                rw [hob, hwa]
                rw [hwa, ← hob] at nb
                have cel := fun j => Mem.row_cell nb j
                have t0 := cel 0
                have t1 := cel 1
                have t2 := cel 2
                have t3 := cel 3
                have t4 := cel 4
                have t5 := cel 5
                have t6 := cel 6
                have t7 := cel 7
                have t8 := cel 8
                have t9 := cel 9
                simp only [List.getElem?_toArray, List.getElem?_cons_zero, List.getElem?_cons_succ] at t0 t1 t2 t3 t4 t5 t6 t7 t8 t9
                replace e0 := e0 ob
                replace e1 := e1 ob
                replace e2 := e2 ob
                replace e3 := e3 ob
                replace e4 := e4 ob
                replace e5 := e5 ob
                replace e6 := e6 ob
                replace e7 := e7 ob
                replace e8 := e8 ob
                replace e9 := e9 ob
                replace hsm := hsm ob
                rw [hwa] at e0 e1 e2 e3 e4 e5 e6 e7 e8 e9 hsm
                have HW := Lib.hid (show Below wr.heap.size wr wa by rw [← hwa]; exact Mem.al (Below.refl _ wr) _)
                clear cel nb hwa hob q0 q1 q2 q3 q4 q5 q6 q7 q8 q9 d0 d1 d2 d3 d4 d5 d6 d7 d8 d9
                refine wp_region_still_tail 5 (by kernel_rfl) (by kernel_rfl) ?_
                simp only [List.take_succ_cons, List.take_zero, List.drop_succ_cons, List.drop_zero]
                repeat still_step
                refine wpStill_nil ?_
                change wpList _ _ _ _ _ wa.drew
                clear e0 e1 e2 e3 e4 e5 e6 e7 e8 e9 t0 t1 t2 t3 t4 t5 t6 t7 t8 t9
                go_wp2_with fail
                refine hsm.mono ?_
                rintro e wS ⟨rfl, hbS⟩
                have hbr : Below wr.heap.size wr wS := Mem.tr (Below.drew HW.out) hbS
                have x0 := (World.cell?_of_block (a := ⟨g8, q * 10, none⟩) (hbr.block g8 HK.out.1)).trans HK.out.2.1
                have x1 := (World.cell?_of_block (a := ⟨g, q * 10 + 1, none⟩) (hbr.block g HP.out.2.2.2.1)).trans HP.out.2.2.2.2
                have cel := fun (j : Nat) => Mem.row_cell ((hbr.block _ HP.out.2.2.1).trans HP.out.2.1) j
                have y0 := cel 0
                have y1 := cel 1
                simp only [Item.arr, List.getElem?_toArray, List.getElem?_cons_zero, List.getElem?_cons_succ] at y0 y1
                rw [HK.out.2.2] at x0
                have hln2 : ((p.val.length : Int) == it.val.length) = false := by simp; omega
                have HB := Lib.hid hbr
                clear cel hsm hbS hbr hln
                go_wp2_with fail
                go_quiet (fail)
                clear x0 x1 y0 y1 hln2
                go_wp2_with fail
                go_roundg (s.items.length - (q + 1))
                case measure => have := HG.out; omega
                case rel => exact ⟨q + 1, by go_num, by have := HG.out; omega, Lib.hid (Mem.tr HS.out (Mem.dn HB.out _))⟩
              · have hln : ¬ p.val.length = it.val.length := fun e => absurd (hpk1.2 e) (by decide)
                rw [if_neg (fun e => absurd e.1 (by decide))] at pn
                clear hpk1
                obtain ⟨g8, cap8, vb, vbc, hvs8, -, hl8, hpo8, hc8⟩ := (H7.out.1.below HS.out).get pn
                injection hvs8 with hvs1 hvs2 hvs3
                subst hvs1 hvs3
                have hsp8 : SrcB wr (.slice vb p.val.length vbc) p.val := SrcB.of_row hpo8
                have k0 : wr.cell? ⟨g8, q * 10, none⟩ = some (.string p.key) := hc8 0 _ rfl
                have k1 := hc8 1 _ rfl
                have k2 := hc8 2 _ rfl
                have k3 := hc8 3 _ rfl
                have k4 := hc8 4 _ rfl
                have k5 := hc8 5 _ rfl
                have k6 := hc8 6 _ rfl
                have k7 := hc8 7 _ rfl
                have k8 := hc8 8 _ rfl
                have k9 := hc8 9 _ rfl
                have al8 := fun (o : Obj) (j : Nat) => World.cell?_of_block (a := ⟨g8, q * 10 + j, none⟩) ((Mem.al (Below.refl _ wr) o).block g8 hl8)
                have e0 := fun o => (al8 o 0).trans k0
                have e1 := fun o => (al8 o 1).trans k1
                have e2 := fun o => (al8 o 2).trans k2
                have e3 := fun o => (al8 o 3).trans k3
                have e4 := fun o => (al8 o 4).trans k4
                have e5 := fun o => (al8 o 5).trans k5
                have e6 := fun o => (al8 o 6).trans k6
                have e7 := fun o => (al8 o 7).trans k7
                have e8 := fun o => (al8 o 8).trans k8
                have e9 := fun o => (al8 o 9).trans k9
                simp only [Nat.add_zero] at e0
                have hsm := fun o => same_any (w := (wr.alloc o).drew) p p (hsp8.below (Below.drew (Mem.al (Below.refl _ wr) o))) (SrcB.below (v := (.slice va p.val.length vc)) HP.out.1 (Below.drew (Mem.al (Below.refl _ wr) o)))
                have hdd : decide (p = p) = true := decide_eq_true rfl
                rw [hdd] at hsm
                unfold Item.arr at hsm
                rw [hke] at hsm e0
                have HK := Lib.hid (And.intro hl8 (And.intro k0 hke))
                clear hc8 pn hpo8 hvs2 hke hdd hsp8 al8 k0 k1 k2 k3 k4 k5 k6 k7 k8 k9
                go_wp2_with fail
                obtain ⟨ob, hob⟩ : ∃ ob : Obj, .cells #[.string it.key, .slice va p.val.length vc, .int .u32 p.flags, .int .i64 p.exp, .int .u64 p.cas, .int .i64 p.sec, .int .u64 p.seq, .bool p.stale, .bool p.won, .bool p.seen] 31 = ob := ⟨_, rfl⟩
                have nb := Mem.new_block wr ob
                obtain ⟨wa, hwa⟩ : ∃ wa, wr.alloc ob = wa := ⟨_, rfl⟩
                rw [hob, hwa]
                rw [hwa, ← hob] at nb
                have cel := fun j => Mem.row_cell nb j
                have t0 := cel 0
                have t1 := cel 1
                have t2 := cel 2
                have t3 := cel 3
                have t4 := cel 4
                have t5 := cel 5
                have t6 := cel 6
                have t7 := cel 7
                have t8 := cel 8
                have t9 := cel 9
                simp only [List.getElem?_toArray, List.getElem?_cons_zero, List.getElem?_cons_succ] at t0 t1 t2 t3 t4 t5 t6 t7 t8 t9
                replace e0 := e0 ob
                replace e1 := e1 ob
                replace e2 := e2 ob
                replace e3 := e3 ob
                replace e4 := e4 ob
                replace e5 := e5 ob
                replace e6 := e6 ob
                replace e7 := e7 ob
                replace e8 := e8 ob
                replace e9 := e9 ob
                replace hsm := hsm ob
                rw [hwa] at e0 e1 e2 e3 e4 e5 e6 e7 e8 e9 hsm
                have HW := Lib.hid (show Below wr.heap.size wr wa by rw [← hwa]; exact Mem.al (Below.refl _ wr) _)
                clear cel nb hwa hob q0 q1 q2 q3 q4 q5 q6 q7 q8 q9 d0 d1 d2 d3 d4 d5 d6 d7 d8 d9
                refine wp_region_still_tail 5 (by kernel_rfl) (by kernel_rfl) ?_
                simp only [List.take_succ_cons, List.take_zero, List.drop_succ_cons, List.drop_zero]
                repeat still_step
                refine wpStill_nil ?_
                change wpList _ _ _ _ _ wa.drew
                clear e0 e1 e2 e3 e4 e5 e6 e7 e8 e9 t0 t1 t2 t3 t4 t5 t6 t7 t8 t9
                go_wp2_with fail
                refine hsm.mono ?_
                rintro e wS ⟨rfl, hbS⟩
                have hbr : Below wr.heap.size wr wS := Mem.tr (Below.drew HW.out) hbS
                have x0 := (World.cell?_of_block (a := ⟨g8, q * 10, none⟩) (hbr.block g8 HK.out.1)).trans HK.out.2.1
                have x1 := (World.cell?_of_block (a := ⟨g, q * 10 + 1, none⟩) (hbr.block g HP.out.2.2.2.1)).trans HP.out.2.2.2.2
                have cel := fun (j : Nat) => Mem.row_cell ((hbr.block _ HP.out.2.2.1).trans HP.out.2.1) j
                have y0 := cel 0
                have y1 := cel 1
                simp only [Item.arr, List.getElem?_toArray, List.getElem?_cons_zero, List.getElem?_cons_succ] at y0 y1
                rw [HK.out.2.2] at x0
                have hln2 : ((p.val.length : Int) == it.val.length) = false := by simp; omega
                have HB := Lib.hid hbr
                clear cel hsm hbS hbr hln
                go_wp2_with fail
                go_quiet (fail)
                clear x0 x1 y0 y1 hln2
                go_wp2_with fail
                go_roundg (s.items.length - (q + 1))
                case measure => have := HG.out; omega
                case rel => exact ⟨q + 1, by go_num, by have := HG.out; omega, Lib.hid (Mem.tr HS.out (Mem.dn HB.out _))⟩
            · have hne : (p.key.toList == it.key.toList) = false := str_ne hke
              rw [if_neg (fun e => hke e.2)] at pn
              clear hpk
              rcases H5.out.2.2.2.2.2.2.2 with rfl | rfl | rfl
              · obtain ⟨g8, cap8, vb, vbc, hvs8, -, hl8, hpo8, hc8⟩ := (H7.out.1.below HS.out).get pn
                injection hvs8 with hvs1 hvs2 hvs3
                subst hvs1 hvs3
                have hsp8 : SrcB wr (.slice vb p.val.length vbc) p.val := SrcB.of_row hpo8
                have k0 : wr.cell? ⟨g8, q * 10, none⟩ = some (.string p.key) := hc8 0 _ rfl
                have k1 := hc8 1 _ rfl
                have k2 := hc8 2 _ rfl
                have k3 := hc8 3 _ rfl
                have k4 := hc8 4 _ rfl
                have k5 := hc8 5 _ rfl
                have k6 := hc8 6 _ rfl
                have k7 := hc8 7 _ rfl
                have k8 := hc8 8 _ rfl
                have k9 := hc8 9 _ rfl
                have al8 := fun (o : Obj) (j : Nat) => World.cell?_of_block (a := ⟨g8, q * 10 + j, none⟩) ((Mem.al (Below.refl _ wr) o).block g8 hl8)
                have e0 := fun o => (al8 o 0).trans k0
                have e1 := fun o => (al8 o 1).trans k1
                have e2 := fun o => (al8 o 2).trans k2
                have e3 := fun o => (al8 o 3).trans k3
                have e4 := fun o => (al8 o 4).trans k4
                have e5 := fun o => (al8 o 5).trans k5
                have e6 := fun o => (al8 o 6).trans k6
                have e7 := fun o => (al8 o 7).trans k7
                have e8 := fun o => (al8 o 8).trans k8
                have e9 := fun o => (al8 o 9).trans k9
                simp only [Nat.add_zero] at e0
                have hsm := fun o => same_any (w := (wr.alloc o).drew) p p (hsp8.below (Below.drew (Mem.al (Below.refl _ wr) o))) (SrcB.below (v := (.slice va p.val.length vc)) HP.out.1 (Below.drew (Mem.al (Below.refl _ wr) o)))
                have hdd : decide (p = p) = true := decide_eq_true rfl
                rw [hdd] at hsm
                unfold Item.arr at hsm
                have HK := Lib.hid (And.intro hl8 (And.intro k0 hke))
                clear hc8 pn hpo8 hvs2 hke hdd hsp8 al8 k0 k1 k2 k3 k4 k5 k6 k7 k8 k9
                go_wp2_with fail
                obtain ⟨ob, hob⟩ : ∃ ob : Obj, .cells #[.string p.key, .slice va p.val.length vc, .int .u32 p.flags, .int .i64 p.exp, .int .u64 p.cas, .int .i64 p.sec, .int .u64 p.seq, .bool p.stale, .bool p.won, .bool p.seen] 31 = ob := ⟨_, rfl⟩
                have nb := Mem.new_block wr ob
                obtain ⟨wa, hwa⟩ : ∃ wa, wr.alloc ob = wa := ⟨_, rfl⟩
                rw [hob, hwa]
                rw [hwa, ← hob] at nb
                have cel := fun j => Mem.row_cell nb j
                have t0 := cel 0
                have t1 := cel 1
                have t2 := cel 2
                have t3 := cel 3
                have t4 := cel 4
                have t5 := cel 5
                have t6 := cel 6
                have t7 := cel 7
                have t8 := cel 8
                have t9 := cel 9
                simp only [List.getElem?_toArray, List.getElem?_cons_zero, List.getElem?_cons_succ] at t0 t1 t2 t3 t4 t5 t6 t7 t8 t9
                replace e0 := e0 ob
                replace e1 := e1 ob
                replace e2 := e2 ob
                replace e3 := e3 ob
                replace e4 := e4 ob
                replace e5 := e5 ob
                replace e6 := e6 ob
                replace e7 := e7 ob
                replace e8 := e8 ob
                replace e9 := e9 ob
                replace hsm := hsm ob
                rw [hwa] at e0 e1 e2 e3 e4 e5 e6 e7 e8 e9 hsm
                have HW := Lib.hid (show Below wr.heap.size wr wa by rw [← hwa]; exact Mem.al (Below.refl _ wr) _)
                clear cel nb hwa hob q0 q1 q2 q3 q4 q5 q6 q7 q8 q9 d0 d1 d2 d3 d4 d5 d6 d7 d8 d9
                refine wp_region_still_tail 5 (by kernel_rfl) (by kernel_rfl) ?_
                simp only [List.take_succ_cons, List.take_zero, List.drop_succ_cons, List.drop_zero]
                repeat still_step
                refine wpStill_nil ?_
                change wpList _ _ _ _ _ wa.drew
                clear e0 e1 e2 e3 e4 e5 e6 e7 e8 e9 t0 t1 t2 t3 t4 t5 t6 t7 t8 t9
                go_wp2_with fail
                refine hsm.mono ?_
                rintro e wS ⟨rfl, hbS⟩
                have hbr : Below wr.heap.size wr wS := Mem.tr (Below.drew HW.out) hbS
                have x0 := (World.cell?_of_block (a := ⟨g8, q * 10, none⟩) (hbr.block g8 HK.out.1)).trans HK.out.2.1
                have x1 := (World.cell?_of_block (a := ⟨g, q * 10 + 1, none⟩) (hbr.block g HP.out.2.2.2.1)).trans HP.out.2.2.2.2
                have cel := fun (j : Nat) => Mem.row_cell ((hbr.block _ HP.out.2.2.1).trans HP.out.2.1) j
                have y0 := cel 0
                have y1 := cel 1
                simp only [Item.arr, List.getElem?_toArray, List.getElem?_cons_zero, List.getElem?_cons_succ] at y0 y1
                have HB := Lib.hid hbr
                clear cel hsm hbS hbr
                go_wp2_with fail
                go_quiet (fail)
                clear x0 x1 y0 y1 hne
                go_wp2_with fail
                go_roundg (s.items.length - (q + 1))
                case measure => have := HG.out; omega
                case rel => exact ⟨q + 1, by go_num, by have := HG.out; omega, Lib.hid (Mem.tr HS.out (Mem.dn HB.out _))⟩
              · obtain ⟨g8, cap8, vb, vbc, hvs8, -, hl8, hpo8, hc8⟩ := (H7.out.1.below HS.out).get pn
                injection hvs8 with hvs1 hvs2 hvs3
                subst hvs1 hvs3
                have hsp8 : SrcB wr (.slice vb p.val.length vbc) p.val := SrcB.of_row hpo8
                have k0 : wr.cell? ⟨g8, q * 10, none⟩ = some (.string p.key) := hc8 0 _ rfl
                have k1 := hc8 1 _ rfl
                have k2 := hc8 2 _ rfl
                have k3 := hc8 3 _ rfl
                have k4 := hc8 4 _ rfl
                have k5 := hc8 5 _ rfl
                have k6 := hc8 6 _ rfl
                have k7 := hc8 7 _ rfl
                have k8 := hc8 8 _ rfl
                have k9 := hc8 9 _ rfl
                have al8 := fun (o : Obj) (j : Nat) => World.cell?_of_block (a := ⟨g8, q * 10 + j, none⟩) ((Mem.al (Below.refl _ wr) o).block g8 hl8)
                have e0 := fun o => (al8 o 0).trans k0
                have e1 := fun o => (al8 o 1).trans k1
                have e2 := fun o => (al8 o 2).trans k2
                have e3 := fun o => (al8 o 3).trans k3
                have e4 := fun o => (al8 o 4).trans k4
                have e5 := fun o => (al8 o 5).trans k5
                have e6 := fun o => (al8 o 6).trans k6
                have e7 := fun o => (al8 o 7).trans k7
                have e8 := fun o => (al8 o 8).trans k8
                have e9 := fun o => (al8 o 9).trans k9
                simp only [Nat.add_zero] at e0
                have hsm := fun o => same_any (w := (wr.alloc o).drew) p p (hsp8.below (Below.drew (Mem.al (Below.refl _ wr) o))) (SrcB.below (v := (.slice va p.val.length vc)) HP.out.1 (Below.drew (Mem.al (Below.refl _ wr) o)))
                have hdd : decide (p = p) = true := decide_eq_true rfl
                rw [hdd] at hsm
                unfold Item.arr at hsm
                have HK := Lib.hid (And.intro hl8 (And.intro k0 hke))
                clear hc8 pn hpo8 hvs2 hke hdd hsp8 al8 k0 k1 k2 k3 k4 k5 k6 k7 k8 k9
                go_wp2_with fail
                obtain ⟨ob, hob⟩ : ∃ ob : Obj, .cells #[.string p.key, .slice va p.val.length vc, .int .u32 p.flags, .int .i64 p.exp, .int .u64 p.cas, .int .i64 p.sec, .int .u64 p.seq, .bool p.stale, .bool p.won, .bool p.seen] 31 = ob := ⟨_, rfl⟩
                have nb := Mem.new_block wr ob
                obtain ⟨wa, hwa⟩ : ∃ wa, wr.alloc ob = wa := ⟨_, rfl⟩
                rw [hob, hwa]
                rw [hwa, ← hob] at nb
                have cel := fun j => Mem.row_cell nb j
                have t0 := cel 0
                have t1 := cel 1
                have t2 := cel 2
                have t3 := cel 3
                have t4 := cel 4
                have t5 := cel 5
                have t6 := cel 6
                have t7 := cel 7
                have t8 := cel 8
                have t9 := cel 9
                simp only [List.getElem?_toArray, List.getElem?_cons_zero, List.getElem?_cons_succ] at t0 t1 t2 t3 t4 t5 t6 t7 t8 t9
                replace e0 := e0 ob
                replace e1 := e1 ob
                replace e2 := e2 ob
                replace e3 := e3 ob
                replace e4 := e4 ob
                replace e5 := e5 ob
                replace e6 := e6 ob
                replace e7 := e7 ob
                replace e8 := e8 ob
                replace e9 := e9 ob
                replace hsm := hsm ob
                rw [hwa] at e0 e1 e2 e3 e4 e5 e6 e7 e8 e9 hsm
                have HW := Lib.hid (show Below wr.heap.size wr wa by rw [← hwa]; exact Mem.al (Below.refl _ wr) _)
                clear cel nb hwa hob q0 q1 q2 q3 q4 q5 q6 q7 q8 q9 d0 d1 d2 d3 d4 d5 d6 d7 d8 d9
                refine wp_region_still_tail 5 (by kernel_rfl) (by kernel_rfl) ?_
                simp only [List.take_succ_cons, List.take_zero, List.drop_succ_cons, List.drop_zero]
                repeat still_step
                refine wpStill_nil ?_
                change wpList _ _ _ _ _ wa.drew
                clear e0 e1 e2 e3 e4 e5 e6 e7 e8 e9 t0 t1 t2 t3 t4 t5 t6 t7 t8 t9
                go_wp2_with fail
                refine hsm.mono ?_
                rintro e wS ⟨rfl, hbS⟩
                have hbr : Below wr.heap.size wr wS := Mem.tr (Below.drew HW.out) hbS
                have x0 := (World.cell?_of_block (a := ⟨g8, q * 10, none⟩) (hbr.block g8 HK.out.1)).trans HK.out.2.1
                have x1 := (World.cell?_of_block (a := ⟨g, q * 10 + 1, none⟩) (hbr.block g HP.out.2.2.2.1)).trans HP.out.2.2.2.2
                have cel := fun (j : Nat) => Mem.row_cell ((hbr.block _ HP.out.2.2.1).trans HP.out.2.1) j
                have y0 := cel 0
                have y1 := cel 1
                simp only [Item.arr, List.getElem?_toArray, List.getElem?_cons_zero, List.getElem?_cons_succ] at y0 y1
                have HB := Lib.hid hbr
                clear cel hsm hbS hbr
                go_wp2_with fail
                go_quiet (fail)
                clear x0 x1 y0 y1 hne
                go_wp2_with fail
                go_roundg (s.items.length - (q + 1))
                case measure => have := HG.out; omega
                case rel => exact ⟨q + 1, by go_num, by have := HG.out; omega, Lib.hid (Mem.tr HS.out (Mem.dn HB.out _))⟩
              · obtain ⟨g8, cap8, vb, vbc, hvs8, -, hl8, hpo8, hc8⟩ := (H7.out.1.below HS.out).get pn
                injection hvs8 with hvs1 hvs2 hvs3
                subst hvs1 hvs3
                have hsp8 : SrcB wr (.slice vb p.val.length vbc) p.val := SrcB.of_row hpo8
                have k0 : wr.cell? ⟨g8, q * 10, none⟩ = some (.string p.key) := hc8 0 _ rfl
                have k1 := hc8 1 _ rfl
                have k2 := hc8 2 _ rfl
                have k3 := hc8 3 _ rfl
                have k4 := hc8 4 _ rfl
                have k5 := hc8 5 _ rfl
                have k6 := hc8 6 _ rfl
                have k7 := hc8 7 _ rfl
                have k8 := hc8 8 _ rfl
                have k9 := hc8 9 _ rfl
                have al8 := fun (o : Obj) (j : Nat) => World.cell?_of_block (a := ⟨g8, q * 10 + j, none⟩) ((Mem.al (Below.refl _ wr) o).block g8 hl8)
                have e0 := fun o => (al8 o 0).trans k0
                have e1 := fun o => (al8 o 1).trans k1
                have e2 := fun o => (al8 o 2).trans k2
                have e3 := fun o => (al8 o 3).trans k3
                have e4 := fun o => (al8 o 4).trans k4
                have e5 := fun o => (al8 o 5).trans k5
                have e6 := fun o => (al8 o 6).trans k6
                have e7 := fun o => (al8 o 7).trans k7
                have e8 := fun o => (al8 o 8).trans k8
                have e9 := fun o => (al8 o 9).trans k9
                simp only [Nat.add_zero] at e0
                have hsm := fun o => same_any (w := (wr.alloc o).drew) p p (hsp8.below (Below.drew (Mem.al (Below.refl _ wr) o))) (SrcB.below (v := (.slice va p.val.length vc)) HP.out.1 (Below.drew (Mem.al (Below.refl _ wr) o)))
                have hdd : decide (p = p) = true := decide_eq_true rfl
                rw [hdd] at hsm
                unfold Item.arr at hsm
                have HK := Lib.hid (And.intro hl8 (And.intro k0 hke))
                clear hc8 pn hpo8 hvs2 hke hdd hsp8 al8 k0 k1 k2 k3 k4 k5 k6 k7 k8 k9
                go_wp2_with fail
                obtain ⟨ob, hob⟩ : ∃ ob : Obj, .cells #[.string p.key, .slice va p.val.length vc, .int .u32 p.flags, .int .i64 p.exp, .int .u64 p.cas, .int .i64 p.sec, .int .u64 p.seq, .bool p.stale, .bool p.won, .bool p.seen] 31 = ob := ⟨_, rfl⟩
                have nb := Mem.new_block wr ob
                obtain ⟨wa, hwa⟩ : ∃ wa, wr.alloc ob = wa := ⟨_, rfl⟩
                rw [hob, hwa]
                rw [hwa, ← hob] at nb
                have cel := fun j => Mem.row_cell nb j
                have t0 := cel 0
                have t1 := cel 1
                have t2 := cel 2
                have t3 := cel 3
                have t4 := cel 4
                have t5 := cel 5
                have t6 := cel 6
                have t7 := cel 7
                have t8 := cel 8
                have t9 := cel 9
                simp only [List.getElem?_toArray, List.getElem?_cons_zero, List.getElem?_cons_succ] at t0 t1 t2 t3 t4 t5 t6 t7 t8 t9
                replace e0 := e0 ob
                replace e1 := e1 ob
                replace e2 := e2 ob
                replace e3 := e3 ob
                replace e4 := e4 ob
                replace e5 := e5 ob
                replace e6 := e6 ob
                replace e7 := e7 ob
                replace e8 := e8 ob
                replace e9 := e9 ob
                replace hsm := hsm ob
                rw [hwa] at e0 e1 e2 e3 e4 e5 e6 e7 e8 e9 hsm
                have HW := Lib.hid (show Below wr.heap.size wr wa by rw [← hwa]; exact Mem.al (Below.refl _ wr) _)
                clear cel nb hwa hob q0 q1 q2 q3 q4 q5 q6 q7 q8 q9 d0 d1 d2 d3 d4 d5 d6 d7 d8 d9
                refine wp_region_still_tail 5 (by kernel_rfl) (by kernel_rfl) ?_
                simp only [List.take_succ_cons, List.take_zero, List.drop_succ_cons, List.drop_zero]
                repeat still_step
                refine wpStill_nil ?_
                change wpList _ _ _ _ _ wa.drew
                clear e0 e1 e2 e3 e4 e5 e6 e7 e8 e9 t0 t1 t2 t3 t4 t5 t6 t7 t8 t9
                go_wp2_with fail
                refine hsm.mono ?_
                rintro e wS ⟨rfl, hbS⟩
                have hbr : Below wr.heap.size wr wS := Mem.tr (Below.drew HW.out) hbS
                have x0 := (World.cell?_of_block (a := ⟨g8, q * 10, none⟩) (hbr.block g8 HK.out.1)).trans HK.out.2.1
                have x1 := (World.cell?_of_block (a := ⟨g, q * 10 + 1, none⟩) (hbr.block g HP.out.2.2.2.1)).trans HP.out.2.2.2.2
                have cel := fun (j : Nat) => Mem.row_cell ((hbr.block _ HP.out.2.2.1).trans HP.out.2.1) j
                have y0 := cel 0
                have y1 := cel 1
                simp only [Item.arr, List.getElem?_toArray, List.getElem?_cons_zero, List.getElem?_cons_succ] at y0 y1
                have HB := Lib.hid hbr
                clear cel hsm hbS hbr
                go_wp2_with fail
                go_quiet (fail)
                clear x0 x1 y0 y1 hne
                go_wp2_with fail
                go_roundg (s.items.length - (q + 1))
                case measure => have := HG.out; omega
                case rel => exact ⟨q + 1, by go_num, by have := HG.out; omega, Lib.hid (Mem.tr HS.out (Mem.dn HB.out _))⟩
          · have hql : (s.items.length : Int) ≤ q := by omega
            clear hq
            rcases H5.out.2.2.2.2.2.2.2 with rfl | rfl | rfl
            · go_wp2_with fail
              go_ret
              exact ⟨rfl, Mem.tr H7.out.2.2.2.2 (HS.out)⟩
            · go_wp2_with fail
              go_ret
              exact ⟨rfl, Mem.tr H7.out.2.2.2.2 (HS.out)⟩
            · go_wp2_with fail
              go_ret
              exact ⟨rfl, Mem.tr H7.out.2.2.2.2 (HS.out)⟩
end Go.Proofs.Ytkchlibkfafgdaa.ShardUpdates

