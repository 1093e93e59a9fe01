/- KWalkShardLooks: WalkShardLooks, one behind the other. -/
import Derived.Test.YtkchlibkfafgdaaPart9
import Derived.StillTailTactics
import Derived.BigQuiet
/- ShardLooks answers true for every seed, list of calls, key and env. Conditions: the numbers are of their kinds. -/
namespace Go.Proofs.Ytkchlibkfafgdaa.ShardLooks
set_option maxRecDepth 100000
open Go Go.RowKit Go.Proofs.Ytkchlibkfafgdaa.Mem Go.Proofs.Ytkchlibkfafgdaa.App Go.Proofs.Ytkchlibkfafgdaa.Ops Go.Proofs.Ytkchlibkfafgdaa.Shard

set_option maxHeartbeats 4000000 in
theorem walk (W : World) (seed : Int) (x : Option Addr) (n0 c : Nat) (l : List Shard.Op) (key : ByteArray) (env : Shard.Env) (hseed : 0 ≤ seed ∧ seed ≤ 18446744073709551615) (hl : n0 = l.length ∧ n0 ≤ maxLen ∧ (∀ a ∈ l, OpOk W a) ∧ Lies W 15 encO x l) (hkey : key.size ≤ maxLen) (_ : EnvOk env) :
    Calls Try.prog 7 #[.int .u64 seed, .slice x n0 c, .string key, .agg env.arr] W fun e W' => e = .returned (.bool true) ∧ Below W.heap.size W W' := by
  obtain ⟨rfl, hml, hok, hlies⟩ := hl
  unfold maxLen at hml hkey
  have HL := Lib.hid (And.intro hok hlies)
  have hb0 : Below W.heap.size W (W.alloc (.cells env.arr 33)) := Mem.al (Below.refl _ _) _
  have n0 := Mem.new_block W (.cells env.arr 33)
  have hB0 : W.heap.size < (W.alloc (.cells env.arr 33)).heap.size := by simp
  obtain ⟨w0, hw0⟩ : ∃ w0, W.alloc (.cells env.arr 33) = w0 := ⟨_, rfl⟩
  rw [hw0] at hb0 n0 hB0
  have H0 := Lib.hid (And.intro hb0 (And.intro n0 hB0))
  clear hb0 n0 hB0
  unfold Env.arr at hw0 ⊢
  go_enter Try.func7, Try.ntmps7
  go_wp2_with fail
  refine (awake_any w0).mono ?_
  rintro e w1 ⟨rfl, hb1⟩
  have hb01 : Below W.heap.size W w1 := Mem.tr H0.out.1 hb1
  have n1 := (hb1.block _ H0.out.2.2).trans H0.out.2.1
  have hB1 : W.heap.size < w1.heap.size := Nat.lt_of_lt_of_le H0.out.2.2 hb1.size
  have hfew := few_any (c := c) (hlies.same hb01) (by unfold maxLen; exact hml) hok
  have HF : Hid (fewB l = true → l.length ≤ 80 ∧ ∀ o ∈ l, o.it.key.size ≤ 300 ∧ o.it.val.length ≤ 3000) := Lib.hid (by unfold fewB; exact of_decide_eq_true)
  generalize fewB l = q at *
  have H1 := Lib.hid (And.intro hb01 (And.intro n1 hB1))
  clear hok hlies hb1 hb01 n1 hB1 hw0
  go_wp2_with fail
  refine hfew.mono ?_
  rintro e w2 ⟨rfl, rfl⟩
  clear hfew
  have hnew := new_run H1.out.1 seed 3000 3 hseed.1 (by omega) (by omega)
  go_wp2_with fail
  refine hnew.mono ?_
  rintro e w3 ⟨b, col, rfl, r3, hlow, hb3⟩
  have n3 := (hb3.block _ H1.out.2.2).trans H1.out.2.1
  have hB3 : W.heap.size < w3.heap.size := Nat.lt_of_lt_of_le H1.out.2.2 hb3.size
  have hc3 : col W.heap.size = none := Classical.byContradiction fun e => by have := hlow _ e; have := H1.out.2.2; omega
  have HR := Lib.hid (And.intro r3 (And.intro n3 (And.intro hB3 hc3)))
  clear hnew r3 hlow hb3 n3 hB3 hc3
  cases q with
  | false =>
    go_wp2_with fail
    go_ret
    exact ⟨rfl, HR.out.1.below⟩
  | true =>
    obtain ⟨h80, hsz⟩ := HF.out rfl
    by_cases hk3 : 300 < key.size
    · have hk3' : (300 : Int) < key.size := by omega
      clear hml h80 hk3
      go_wp2_with fail
      go_ret
      exact ⟨rfl, HR.out.1.below⟩
    have hk3' : (key.size : Int) ≤ 300 := by omega
    have hl80 : (l.length : Int) ≤ 80 := by omega
    have HSZ := Lib.hid (And.intro hsz (And.intro h80 hk3))
    clear hml h80 hsz hk3
    go_wp2_with fail
    go_loopg [12] l.length (fun gh i wr => ∃ (m : Nat), i = .int .i64 m ∧ gh + m = l.length ∧ Hid (∃ col s, Run W wr m b col seed s ∧ wr.heap[W.heap.size]? = some (.cells env.arr 33 (0, 0)) ∧ W.heap.size < wr.heap.size ∧ col W.heap.size = none))
    case atStart => exact ⟨0, rfl, by omega, Lib.hid ⟨col, _, HR.out⟩⟩
    case round =>
      obtain ⟨m, rfl, hg, HS⟩ := hrel
      have HG := Lib.hid hg
      by_cases hm : m < l.length
      · obtain ⟨colr, s, r, hbox, hBl, hcB⟩ := HS.out
        obtain ⟨o, ho⟩ : ∃ o, l[m]? = some o := ⟨_, List.getElem?_eq_getElem hm⟩
        have hop := op_at HL.out.2 HL.out.1 r.below ho
        obtain ⟨Bx, off, rfl, hBx, hc⟩ := hop.at_
        obtain ⟨va, vc, hv⟩ := hop.shape
        have hsrc := hop.src r.below
        have hap := hop.apart (fun k hk => (r.low k hk).1)
        have hz := HSZ.out.1 o (List.mem_of_getElem? ho)
        rw [hv] at hsrc hap
        have c1 := hc 1 _ rfl
        have c2 := hc 2 _ rfl
        have c3 := hc 3 _ rfl
        have c4 := hc 4 _ rfl
        have c5 := hc 5 _ rfl
        have c6 := hc 6 _ rfl
        have c7 := hc 7 _ rfl
        have c8 := hc 8 _ rfl
        have c9 := hc 9 _ rfl
        have c10 := hc 10 _ rfl
        have c11 := hc 11 _ rfl
        have c12 := hc 12 _ rfl
        have c13 := hc 13 _ rfl
        have c14 := hc 14 _ rfl
        rw [hv] at c2
        have hmi : (m : Int) < l.length := by omega
        have hst := store_run (r.step (Below.drew (Below.refl _ wr))) (by have := HSZ.out.2.1; omega) o.it va vc o.env hz.1 hz.2 (hsrc.below (Below.drew (Below.refl _ wr))) hap
        unfold Item.arr Env.arr at hst
        have HO := Lib.hid (And.intro hbox (And.intro hBl hcB))
        clear hc hBx hop hsrc hap hz r ho hbox hBl hcB hv
        go_wp2_with fail
        refine wp_region_still_tail 11 (by kernel_rfl) (by kernel_rfl) ?_
        simp only [List.take_succ_cons, List.take_zero, List.drop_succ_cons, List.drop_zero]
        repeat still_step
        refine wpStill_nil ?_
        change wpList _ _ _ _ _ wr.drew
        clear c1 c2 c3 c4 c5 c6 c7 c8 c9 c10 c11 c12 c13 c14
        go_wp2_with fail
        refine hst.mono ?_
        rintro e w4 ⟨fresh, hf, rfl, col4, r4, f4⟩
        obtain ⟨o1, o2, o3⟩ := f4.own (k := W.heap.size) HO.out.2.1 HO.out.2.2
        have H4 := Lib.hid (show ∃ col s, Run W w4 (m + 1) b col seed s ∧ w4.heap[W.heap.size]? = some (.cells env.arr 33 (0, 0)) ∧ W.heap.size < w4.heap.size ∧ col W.heap.size = none from ⟨_, _, r4, o1.trans HO.out.1, o3, o2⟩)
        clear hst hf r4 f4 o1 o2 o3
        go_wp2_with fail
        go_roundg (l.length - (m + 1))
        case measure => have := HG.out; omega
        case rel => exact ⟨m + 1, by go_num, by have := HG.out; omega, H4⟩
      · have hml : (l.length : Int) ≤ m := by omega
        have hme : m = l.length := by omega
        obtain ⟨colr, s, r, hbox, hBl, hcB⟩ := HS.out
        rw [hme] at r
        have hdr := drops_run r (by omega)
        have HO := Lib.hid (And.intro hbox (And.intro hBl hcB))
        clear hbox hBl hcB r hme hm HS
        go_wp2_with fail
        refine hdr.mono ?_
        rintro e w4 ⟨v4, rfl, ⟨col4, r4, f4⟩, hrow4⟩
        obtain ⟨o1, o2, o3⟩ := f4.own (k := W.heap.size) HO.out.2.1 HO.out.2.2
        obtain ⟨t, ht⟩ : ∃ t : St, ({ s with drops := [] } : St) = t := ⟨_, rfl⟩
        have htd : t.drops = [] := by rw [← ht]
        rw [ht] at r4
        have HO4 := Lib.hid (And.intro (o1.trans HO.out.1) (And.intro o3 (And.intro o2 htd)))
        have hlen : Calls Try.prog 25 #[.pointer (some ⟨b, 0, none⟩)] w4 fun e w' => e = .returned (.int .i64 t.tab.L.length) ∧ w4 = w' := len_any r4.at_
        have hall := all_run r4 (by omega) 1000
        have htk : t.items.take (1000 : Int).toNat = t.items := List.take_of_length_le (by have := r4.ilen; have : (1000 : Int).toNat = 1000 := rfl; omega)
        rw [htk] at hall
        have H4 := Lib.hid r4
        clear hdr f4 hrow4 o1 o2 o3 ht htd htk r4 HO
        go_wp2_with fail
        refine hlen.mono ?_
        rintro e w4' ⟨rfl, rfl⟩
        clear hlen
        go_wp2_with fail
        refine hall.mono ?_
        rintro e w5 ⟨v5, rfl, hit, hb5⟩
        obtain ⟨ia, ic, hv5⟩ := hit.shape
        subst hv5
        have H5 := Lib.hid (And.intro hit hb5)
        have hlt := H4.out.ilen
        have hlt2 : t.items.length ≤ 80 := by have := HSZ.out.2.1; omega
        have hil : t.items.length = t.tab.L.length := items_len t
        rw [← hil]
        clear hall hit hb5 hlt hg HG hil
        go_wp2_with fail
        go_loopg [14, 16, 72] t.items.length (fun gh th _ ix wr => ∃ (q : Nat) (bb : Bool), ix = .int .i64 q ∧ th = .bool bb ∧ gh + q = t.items.length ∧ Hid ((bb = true ↔ ∃ (j : Nat) (a : Shard.Item), j < q ∧ t.items[j]? = some a ∧ a.key = key) ∧ Below w5.heap.size w5 wr))
        case atStart =>
          refine ⟨0, false, rfl, rfl, by omega, Lib.hid ⟨⟨fun e => (by cases e), fun e => ?_⟩, Below.refl _ _⟩⟩
          obtain ⟨j, a, hj, -⟩ := e
          omega
        case round =>
          obtain ⟨q, bb, rfl, rfl, hg, HS⟩ := hrel
          have HG := Lib.hid hg
          clear hg
          by_cases hq : q < t.items.length
          · obtain ⟨a, ha⟩ : ∃ a, t.items[q]? = some a := ⟨_, List.getElem?_eq_getElem hq⟩
            obtain ⟨g, cap, va, vc, hvs, -, -, -, hc⟩ := (H5.out.1.below HS.out.2).get ha
            injection hvs with hvs1 hvs2 hvs3
            subst hvs1 hvs3
            have d0 : wr.cell? ⟨g, q * 10, none⟩ = some (.string a.key) := hc 0 _ rfl
            have d1 := hc 1 _ rfl
            have d2 := hc 2 _ rfl
            have d3 := hc 3 _ rfl
            have d4 := hc 4 _ rfl
            have d5 := hc 5 _ rfl
            have d6 := hc 6 _ rfl
            have d7 := hc 7 _ rfl
            have d8 := hc 8 _ rfl
            have d9 := hc 9 _ rfl
            have hqi : (q : Int) < t.items.length := by omega
            have HA := Lib.hid ha
            clear hc ha hvs2
            cases bb with
            | true =>
              go_wp2_with fail
              go_roundg (t.items.length - (q + 1))
              case measure => have := HG.out; omega
              case rel =>
                refine ⟨q + 1, true, by go_num, rfl, by have := HG.out; omega, Lib.hid ⟨⟨fun _ => ?_, fun _ => rfl⟩, Mem.al HS.out.2 _⟩⟩
                obtain ⟨j, p, hj, hp⟩ := HS.out.1.1 (by trivial)
                exact ⟨j, p, by omega, hp⟩
            | false =>
              by_cases hke : a.key = key
              · have HKE := Lib.hid hke
                rw [hke] at d0
                clear hke
                go_wp2_with fail
                go_roundg (t.items.length - (q + 1))
                case measure => have := HG.out; omega
                case rel => exact ⟨q + 1, true, by go_num, rfl, by have := HG.out; omega, Lib.hid ⟨⟨fun _ => ⟨q, a, by omega, HA.out, HKE.out⟩, fun _ => rfl⟩, Mem.al HS.out.2 _⟩⟩
              · have hne : (a.key.toList == key.toList) = false := str_ne hke
                have HKE := Lib.hid hke
                clear hke
                go_wp2_with fail
                go_roundg (t.items.length - (q + 1))
                case measure => have := HG.out; omega
                case rel =>
                  refine ⟨q + 1, false, by go_num, rfl, by have := HG.out; omega, Lib.hid ⟨⟨fun e => (by cases e), fun e => ?_⟩, Mem.al HS.out.2 _⟩⟩
                  obtain ⟨j, p, hj, hp, hpk⟩ := e
                  by_cases ej : j = q
                  · subst ej; rw [HA.out] at hp; injection hp with hp; subst hp; exact absurd hpk HKE.out
                  · exact HS.out.1.2 ⟨j, p, by omega, hp, hpk⟩
          · have hql : (t.items.length : Int) ≤ q := by omega
            have hqe : q = t.items.length := by have := HG.out; omega
            have hth : bb = true ↔ ∃ a ∈ t.items, a.key = key := by
              refine HS.out.1.trans ⟨?_, ?_⟩
              · rintro ⟨j, a, -, ha, hk⟩; exact ⟨a, List.mem_of_getElem? ha, hk⟩
              · rintro ⟨a, ha, hk⟩
                obtain ⟨j, hj⟩ := List.mem_iff_getElem?.1 ha
                exact ⟨j, a, by have := (List.getElem?_eq_some_iff.1 hj).1; omega, hj, hk⟩
            have hbr := Mem.tr H5.out.2 HS.out.2
            have hboxr := (hbr.block _ HO4.out.2.1).trans HO4.out.1
            have hBr := Nat.lt_of_lt_of_le HO4.out.2.1 hbr.size
            have hlook := look_run (H4.out.step hbr) (by omega) key env (by unfold maxLen; exact hkey)
            have hlaw := look_law H4.out.inv key env HO4.out.2.2.2
            simp only at hlaw
            obtain ⟨y1, hy1⟩ : ∃ y1, t.find key env = y1 := ⟨_, rfl⟩
            obtain ⟨s2, hs2⟩ : ∃ s2 : St, ({ y1.2 with drops := [] } : St) = s2 := ⟨_, rfl⟩
            obtain ⟨y2, hy2⟩ : ∃ y2, s2.find key env = y2 := ⟨_, rfl⟩
            rw [hy1] at hlook hlaw
            rw [hs2, hy2] at hlaw
            have cel := fun j => Mem.row_cell hboxr j
            have q0 := cel 0
            have q1 := cel 1
            have q2 := cel 2
            have q3 := cel 3
            simp only [Env.arr, List.getElem?_toArray, List.getElem?_cons_zero, List.getElem?_cons_succ] at q0 q1 q2 q3
            have HTH := Lib.hid (And.intro hth (And.intro hlaw (And.intro hs2 hy2)))
            have HBR := Lib.hid (And.intro hboxr hBr)
            unfold Env.arr at hlook
            clear cel hth hlaw hs2 hy2 hy1 hboxr hBr hqe hq hbr
            go_wp2_with fail
            refine hlook.mono ?_
            rintro e w6 ⟨⟨col6, r6, f6⟩, hres⟩
            obtain ⟨o1, o2, o3⟩ := f6.own (k := W.heap.size) HBR.out.2 HO4.out.2.2.1
            obtain ⟨it', va', vc', rfl, -⟩ := look_res hres
            obtain ⟨isb, hisb⟩ : ∃ isb, y1.1.isSome = isb := ⟨_, rfl⟩
            rw [hisb]
            have hbx : Below w6.heap.size w6 (w6.alloc (.cells (it'.arr (.slice va' it'.val.length vc')) 31)) := Mem.al (Below.refl _ _) _
            have hdr := drops_run2 (r6.step hbx)
            have H6 := Lib.hid (And.intro (o1.trans HBR.out.1) (And.intro o3 (And.intro o2 (And.intro hisb hbx))))
            unfold Item.arr at hdr
            clear hlook hres o1 o2 o3 hisb r6 f6 q0 q1 q2 q3 hbx
            unfold Item.arr
            go_wp2_with fail
            refine hdr.mono ?_
            rintro e w7 ⟨v7, col7, rfl, r7, f7, hrow7, hv7⟩
            obtain ⟨p1, p2, p3⟩ := f7.own (k := W.heap.size) (by have := H6.out.2.1; simp; omega) H6.out.2.2.1
            have n7 := p1.trans ((H6.out.2.2.2.2.block _ H6.out.2.1).trans H6.out.1)
            obtain ⟨ga, gc, hv7s⟩ := Src.shape (Src.of_row hrow7)
            subst hv7s
            have r7' : Run W w7 (l.length + 1) b col7 seed s2 := by rw [← HTH.out.2.2.1]; exact r7
            have hlook2 := look_run r7' (by omega) key env (by unfold maxLen; exact hkey)
            rw [HTH.out.2.2.2] at hlook2
            have cel := fun j => Mem.row_cell n7 j
            have q0 := cel 0
            have q1 := cel 1
            have q2 := cel 2
            have q3 := cel 3
            simp only [Env.arr, List.getElem?_toArray, List.getElem?_cons_zero, List.getElem?_cons_succ] at q0 q1 q2 q3
            have H7 := Lib.hid (And.intro hrow7 hv7)
            unfold Env.arr at hlook2
            clear hdr p1 p2 p3 n7 cel r7 r7' f7 hrow7 hv7
            go_wp2_with fail
            refine hlook2.mono ?_
            rintro e w8 ⟨⟨col8, r8, f8⟩, hres⟩
            obtain ⟨it2, va2, vc2, rfl, -⟩ := look_res hres
            obtain ⟨is2, his2⟩ : ∃ isb, y2.1.isSome = isb := ⟨_, rfl⟩
            rw [his2]
            have hrow8 : w8.ownsRow W.heap.size 9 1 (.slice ga y1.2.drops.length gc) y1.2.drops.length (cellsS y1.2.drops) := row_keep H7.out.1 fun g e => f8.keep (own_block_lt H7.out.1 g e).2 (H7.out.2 g e)
            have hbx8 : Below w8.heap.size w8 (w8.alloc (.cells (it2.arr (.slice va2 it2.val.length vc2)) 31)) := Mem.al (Below.refl _ _) _
            have r9 := r8.step hbx8
            have hrd := (Same8.ReadsK.of_row hrow8).below hbx8
            have hlen9 := len_any r9.at_
            rw [← items_len] at hlen9
            have HLW := HTH.out.2.1
            have HI6 := H6.out.2.2.2.1
            rw [HI6, his2] at HLW
            have H9 := Lib.hid (And.intro r9 (And.intro hrd HLW))
            unfold Item.arr at hlen9
            clear hlook2 hres hrow8 hbx8 r8 f8 r9 hrd HLW HI6 q0 q1 q2 q3 his2
            unfold Item.arr
            cases isb with
            | true =>
              obtain ⟨g1, g2, g3, g4⟩ := H9.out.2.2.1 rfl
              have hbb : bb = true := HTH.out.1.2 g1
              subst hbb g2
              rw [g3]
              rw [g4] at hlen9
              clear g1 g3 g4
              go_wp2_with fail
              refine hlen9.mono ?_
              rintro e wL ⟨rfl, rfl⟩
              clear hlen9
              go_wp2_with fail
              go_ret
              exact ⟨rfl, H9.out.1.below⟩
            | false =>
              cases bb with
              | true =>
                obtain ⟨g1, g2, g3, g4⟩ := H9.out.2.2.2.1 rfl (HTH.out.1.1 (by trivial))
                subst g1
                have hrd := H9.out.2.1
                rw [g2] at hrd
                rw [g2]
                have hle : ((y2.2.items.length : Int) == (t.items.length : Int) - 1) = true := by simp; omega
                have hbz : Below (w8.alloc (.cells (it2.arr (.slice va2 it2.val.length vc2)) 31)).heap.size (w8.alloc (.cells (it2.arr (.slice va2 it2.val.length vc2)) 31)) ((w8.alloc (.cells (it2.arr (.slice va2 it2.val.length vc2)) 31)).alloc (.cells #[.string key] 9)) := Mem.al (Below.refl _ _) _
                have hrk : Same8.ReadsK ((w8.alloc (.cells (it2.arr (.slice va2 it2.val.length vc2)) 31)).alloc (.cells #[.string key] 9)) (.slice (some ⟨w8.heap.size + 1, 0, none⟩) 1 1) [key] := ⟨_, 1, rfl, Nat.le_refl _, fun i k hi => ⟨w8.heap.size + 1, rfl, by simp, by
                  have h1 : ((w8.alloc (.cells (it2.arr (.slice va2 it2.val.length vc2)) 31)).alloc (.cells #[.string key] 9)).heap[w8.heap.size + 1]? = some (.cells #[.string key] 9 (0, 0)) := Mem.new_block2 w8 _ _
                  rw [Mem.row_cell h1 i]
                  cases i with
                  | zero => simpa using hi
                  | succ i => simp at hi⟩⟩
                have hsm := Same8.same_any (hrd.below hbz) hrk (by simp)
                have hst : decide ([key] = [key]) = true := decide_eq_true rfl
                rw [hst] at hsm
                have hbd : ∀ d, Below (w8.alloc (.cells (it2.arr (.slice va2 it2.val.length vc2)) 31)).heap.size (w8.alloc (.cells (it2.arr (.slice va2 it2.val.length vc2)) 31)) (((w8.alloc (.cells (it2.arr (.slice va2 it2.val.length vc2)) 31)).alloc (.cells #[.string key] 9)).drewN d) := fun d => Mem.dn hbz d
                have hlz := fun d => len_any (H9.out.1.step (hbd d)).at_
                have hdz := fun d => drops_run2 (H9.out.1.step (hbd d))
                rw [← items_len, g4] at *
                unfold Item.arr at hsm hlz hdz
                have HG4 := Lib.hid g4
                clear hlen9 g2 g3 g4 hst hbz hrk hrd hbd
                go_wp2_with fail
                refine hsm.mono ?_
                rintro e wS ⟨rfl, dS, rfl⟩
                have hl2 := hlz dS
                have hd2 := hdz dS
                clear hsm hlz hdz
                go_wp2_with fail
                refine hl2.mono ?_
                rintro e wL ⟨rfl, rfl⟩
                clear hl2
                go_wp2_with fail
                refine hd2.mono ?_
                rintro e w10 ⟨v10, col10, rfl, r10, -, hrow10, -⟩
                obtain ⟨za, zc, hv10⟩ := Src.shape (Src.of_row hrow10)
                subst hv10
                have HB10 := Lib.hid r10.below
                clear hd2 r10 hrow10
                go_wp2_with fail
                go_ret
                exact ⟨rfl, HB10.out⟩
              | false =>
                obtain ⟨g1, g2, g3⟩ := H9.out.2.2.2.2 rfl (fun e => by have := HTH.out.1.2 e; cases this)
                subst g1
                rw [g2]
                rw [g3] at hlen9
                clear g2 g3
                go_wp2_with fail
                refine hlen9.mono ?_
                rintro e wL ⟨rfl, rfl⟩
                clear hlen9
                go_wp2_with fail
                go_ret
                exact ⟨rfl, H9.out.1.below⟩
end Go.Proofs.Ytkchlibkfafgdaa.ShardLooks

