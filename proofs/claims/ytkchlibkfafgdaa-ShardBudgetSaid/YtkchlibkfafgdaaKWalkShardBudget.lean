/- KWalkShardBudget: WalkShardBudget, one behind the other. -/
import Derived.Test.YtkchlibkfafgdaaPart9
import Derived.Test.YtkchlibkfafgdaaPart10
import Derived.StillTailTactics
import Derived.BigQuiet
/- ShardBudget answers true for every seed, budget, bound and list of calls. Conditions: the numbers are of their kinds. -/
namespace Go.Proofs.Ytkchlibkfafgdaa.ShardBudget
set_option maxRecDepth 100000
open Go Go.RowKit Go.Proofs.Ytkchlibkfafgdaa.Mem Go.Proofs.Ytkchlibkfafgdaa.App Go.Proofs.Ytkchlibkfafgdaa.Ops Go.Proofs.Ytkchlibkfafgdaa.Shard

theorem cap_emptied {B : Int} {s : St} (h : Cap B s) : Cap B { s with drops := [] } := ⟨h.budget, h.used⟩
theorem cap_used {B : Int} {s : St} (h : Cap B s) (j : Tiny.St) (o : Slru.St) : Cap B { s with judge := j, order := o } := ⟨h.budget, h.used⟩

set_option maxHeartbeats 8000000 in
theorem walk (W : World) (seed budget protect : Int) (x : Option Addr) (n0 c : Nat) (l : List Shard.Op) (hseed : 0 ≤ seed ∧ seed ≤ 18446744073709551615) (hbud : -9223372036854775808 ≤ budget ∧ budget ≤ 9223372036854775807) (_ : -9223372036854775808 ≤ protect ∧ protect ≤ 9223372036854775807) (hl : n0 = l.length ∧ n0 ≤ maxLen ∧ (∀ a ∈ l, OpOk W a) ∧ Lies W 15 encO x l) :
    Calls Try.prog 4 #[.int .u64 seed, .int .i64 budget, .int .i64 protect, .slice x n0 c] W fun e W' => e = .returned (.bool true) ∧ Below W.heap.size W W' := by
  obtain ⟨rfl, hml, hok, hlies⟩ := hl
  unfold maxLen at hml
  have HL := Lib.hid (And.intro hok hlies)
  go_enter Try.func4, Try.ntmps4
  go_wp2_with fail
  refine (awake_any W).mono ?_
  rintro e w1 ⟨rfl, hb1⟩
  have hfew := few_any (c := c) (hlies.same hb1) (by unfold maxLen; exact hml) hok
  have HF : Hid (fewB l = true → l.length ≤ 80 ∧ ∀ o ∈ l, o.it.key.size ≤ 300 ∧ o.it.val.length ≤ 3000) := Lib.hid (by unfold fewB; exact of_decide_eq_true)
  generalize fewB l = q at *
  have H1 := Lib.hid hb1
  clear hok hlies hb1
  go_wp2_with fail
  refine hfew.mono ?_
  rintro e w2 ⟨rfl, rfl⟩
  clear hfew
  have hnew := new_run H1.out seed budget protect hseed.1 (by omega) hbud
  go_wp2_with fail
  refine hnew.mono ?_
  rintro e w3 ⟨b, col, rfl, r3, -, -⟩
  have HR := Lib.hid r3
  clear hnew r3
  cases q with
  | false =>
    go_wp2_with fail
    go_ret
    exact ⟨rfl, HR.out.below⟩
  | true =>
    obtain ⟨h80, hsz⟩ := HF.out rfl
    by_cases hbn : budget < 0
    · clear hml h80
      go_wp2_with fail
      go_ret
      exact ⟨rfl, HR.out.below⟩
    have hb0 : 0 ≤ budget := by omega
    have hl80 : (l.length : Int) ≤ 80 := by omega
    have HSZ := Lib.hid (And.intro hsz h80)
    clear hml h80 hsz hbn
    go_wp2_with fail
    go_loopg [12, 13, 14, 15, 16, 17, 18, 19, 20, 21, 22, 23] l.length (fun gh i _ _ _ _ _ _ _ _ _ _ _ wr => ∃ (m : Nat), i = .int .i64 m ∧ gh + m = l.length ∧ Hid (∃ col s, Run W wr m b col seed s ∧ Cap budget s))
    case atStart => exact ⟨0, rfl, by omega, Lib.hid ⟨col, _, HR.out, Cap.new seed budget protect⟩⟩
    case round =>
      obtain ⟨m, rfl, hg, HS⟩ := hrel
      have HG := Lib.hid hg
      by_cases hm : m < l.length
      · obtain ⟨colr, s, r, hcap⟩ := HS.out
        obtain ⟨o, ho⟩ : ∃ o, l[m]? = some o := ⟨_, List.getElem?_eq_getElem hm⟩
        have hop := op_at HL.out.2 HL.out.1 r.below ho
        obtain ⟨Bx, off, rfl, hBx, hc⟩ := hop.at_
        obtain ⟨va, vc, hv⟩ := hop.shape
        have hz := HSZ.out.1 o (List.mem_of_getElem? ho)
        have c0 : wr.cell? ⟨Bx, off + m * 15, none⟩ = some (.int .i64 o.kind) := hc 0 _ rfl
        have c1 := hc 1 _ rfl
        have c2 := hc 2 _ rfl
        have c3 := hc 3 _ rfl
        have c4 := hc 4 _ rfl
        have c5 := hc 5 _ rfl
        have c6 := hc 6 _ rfl
        have c7 := hc 7 _ rfl
        have c8 := hc 8 _ rfl
        have c9 := hc 9 _ rfl
        have c10 := hc 10 _ rfl
        have c11 := hc 11 _ rfl
        have c12 := hc 12 _ rfl
        have c13 := hc 13 _ rfl
        have c14 := hc 14 _ rfl
        rw [hv] at c2
        have hmi : (m : Int) < l.length := by omega
        have HOP := Lib.hid (And.intro hop (And.intro hv hz))
        have HR1 := Lib.hid (And.intro r hcap)
        clear hc hBx hop hz r ho hv hcap hg HS
        go_wp2_with fail
        obtain ⟨ob, hob⟩ : ∃ ob : Obj, .cells #[.int .i64 o.kind, .string o.it.key, .slice va o.it.val.length vc, .int .u32 o.it.flags, .int .i64 o.it.exp, .int .u64 o.it.cas, .int .i64 o.it.sec, .int .u64 o.it.seq, .bool o.it.stale, .bool o.it.won, .bool o.it.seen, .int .i64 o.env.now, .int .u64 o.env.seq, .int .i64 o.env.flush, .int .u64 o.env.flushSeq] 35 = ob := ⟨_, rfl⟩
        have nb := Mem.new_block wr ob
        have hba : Below wr.heap.size wr (wr.alloc ob) := Mem.al (Below.refl _ _) _
        have hlt : wr.heap.size < (wr.alloc ob).heap.size := by simp
        have hcn : colr wr.heap.size = none := HR1.out.1.none (Nat.le_refl _)
        have ra := HR1.out.1.step hba
        obtain ⟨wa, hwa⟩ : ∃ wa, wr.alloc ob = wa := ⟨_, rfl⟩
        obtain ⟨B, hB⟩ : ∃ B, wr.heap.size = B := ⟨_, rfl⟩
        rw [hob, hwa, hB]
        rw [hwa, hB] at nb hlt
        rw [hB] at hcn
        rw [hwa] at ra
        have hdr := drops_run ra (by have := HSZ.out.2; omega)
        have HB := Lib.hid (And.intro nb (And.intro hlt hcn))
        have HOB := Lib.hid hob
        clear nb hlt hcn ra hba hwa hob hB c0 c1 c2 c3 c4 c5 c6 c7 c8 c9 c10 c11 c12 c13 c14
        refine hdr.mono ?_
        rintro e w4 ⟨v4, rfl, ⟨col4, r4, f4⟩, hrow4⟩
        obtain ⟨o1, o2, o3⟩ := f4.own (k := B) HB.out.2.1 HB.out.2.2
        obtain ⟨t, ht⟩ : ∃ t : St, ({ s with drops := [] } : St) = t := ⟨_, rfl⟩
        have htd : t.drops = [] := by rw [← ht]
        have htc : Cap budget t := by rw [← ht]; exact cap_emptied HR1.out.2
        rw [ht] at r4
        have nb4 := o1.trans HB.out.1
        rw [← HOB.out] at nb4
        have cel := fun j => Mem.row_cell nb4 j
        have q0 := cel 0
        have q1 := cel 1
        have q2 := cel 2
        have q3 := cel 3
        have q4 := cel 4
        have q5 := cel 5
        have q6 := cel 6
        have q7 := cel 7
        have q8 := cel 8
        have q9 := cel 9
        have q10 := cel 10
        have q11 := cel 11
        have q12 := cel 12
        have q13 := cel 13
        have q14 := cel 14
        simp only [List.getElem?_toArray, List.getElem?_cons_zero, List.getElem?_cons_succ] at q0 q1 q2 q3 q4 q5 q6 q7 q8 q9 q10 q11 q12 q13 q14
        clear cel
        have H4 := Lib.hid (And.intro r4 (And.intro htd (And.intro htc (And.intro nb4 (And.intro o3 o2)))))
        clear hdr r4 f4 hrow4 o1 o2 o3 ht htd htc nb4
        by_cases hk2 : o.kind = 2
        · have hu := use_run H4.out.1 (by have := HSZ.out.2; omega) o.it.key (by unfold maxLen; have := HOP.out.2.2.1; omega)
          rw [hk2] at q0
          have HK := Lib.hid hk2
          clear hk2 q2 q3 q4 q5 q6 q7 q8 q9 q10 q11 q12 q13 q14
          go_wp2_with fail
          refine hu.mono ?_
          rintro e w5 ⟨rfl, col5, r5, f5⟩
          obtain ⟨o1, o2, o3⟩ := f5.own (k := B) H4.out.2.2.2.2.1 H4.out.2.2.2.2.2
          have nb5 := o1.trans H4.out.2.2.2.1
          replace q0 := (Mem.row_cell nb5 0).trans (by rw [HK.out]; rfl : _ = some (.int .i64 2))
          have H5 := Lib.hid (And.intro (r5.more (m := m + 1) (by omega) (by have := HSZ.out.2; omega)) (cap_used H4.out.2.2.1 (t.judge.touch o.it.key.data.toList) (t.order.hit o.it.key).2))
          clear hu r5 f5 o1 o2 o3 nb5 q1
          go_wp2_with fail
          go_roundg (l.length - (m + 1))
          case measure => have := HG.out; omega
          case rel => exact ⟨m + 1, by go_num, by have := HG.out; omega, Lib.hid ⟨_, _, H5.out⟩⟩
        by_cases hk0 : o.kind ≠ 0
        · have hk2' : (o.kind == 2) = false := by simpa using hk2
          have hk0' : (o.kind == 0) = false := by simpa using hk0
          have hk1' : (o.kind != 0) = true := by simpa using hk0
          clear hk2 hk0 q1 q2 q3 q4 q5 q6 q7 q8 q9 q10 q11 q12 q13 q14
          go_wp2_with fail
          go_roundg (l.length - (m + 1))
          case measure => have := HG.out; omega
          case rel => exact ⟨m + 1, by go_num, by have := HG.out; omega, Lib.hid ⟨_, _, H4.out.1.more (by omega) (by have := HSZ.out.2; omega), H4.out.2.2.1⟩⟩
        have hk : o.kind = 0 := Classical.byContradiction hk0
        rw [hk] at q0
        have HK := Lib.hid hk
        clear hk hk0 hk2
        have hsrc := HOP.out.1.ok.src.below H4.out.1.below
        have hap := HOP.out.1.apart (fun k hk => (H4.out.1.low k hk).1)
        rw [HOP.out.2.1] at hsrc hap
        have hst := store_run H4.out.1 (by have := HSZ.out.2; omega) o.it va vc o.env HOP.out.2.2.1 HOP.out.2.2.2 hsrc hap
        unfold Item.arr Env.arr at hst
        clear hsrc hap
        go_wp2_with fail
        refine hst.mono ?_
        rintro e w5 ⟨fresh, hf, rfl, col5, r5, f5⟩
        obtain ⟨o1, o2, o3⟩ := f5.own (k := B) H4.out.2.2.2.2.1 H4.out.2.2.2.2.2
        have nb5 := o1.trans H4.out.2.2.2.1
        have u1 : (t.store fresh o.it o.env).1 = 0 → o.it ∈ (t.store fresh o.it o.env).2.items := store_there H4.out.1.inv
        have u2 : cnt (t.store fresh o.it o.env).2.drops o.it.key ≤ 1 := by
          have h1 := store_cnt (fresh := fresh) (it := o.it) (env := o.env) H4.out.1.inv
          rw [H4.out.2.1] at h1
          exact h1
        have u3 := H4.out.2.2.1.store (fresh := fresh) (it := o.it) (env := o.env) H4.out.1.inv
        obtain ⟨ev, hev⟩ : ∃ ev, (t.store fresh o.it o.env).1 = ev := ⟨_, rfl⟩
        obtain ⟨u, hu⟩ : ∃ u, (t.store fresh o.it o.env).2 = u := ⟨_, rfl⟩
        rw [hu] at u1 u2 u3 r5
        rw [hev] at u1
        rw [hev]
        have hdr := drops_run2 r5
        have hdl : u.drops.length ≤ 162000 := by have h1 := r5.inv.dl; have h2 := nn_max (M := m + 1) (by have := HSZ.out.2; omega); omega
        have H5 := Lib.hid (And.intro nb5 (And.intro o3 (And.intro o2 (And.intro u1 (And.intro u2 u3)))))
        clear hst hf r5 f5 o1 o2 o3 nb5 u1 u2 u3 hev hu q0 q1 q2 q3 q4 q5 q6 q7 q8 q9 q10 q11 q12 q13 q14
        go_wp2_with fail
        refine hdr.mono ?_
        rintro e w6 ⟨v6, col6, rfl, r6, f6, hrow6, hv6⟩
        obtain ⟨ga, gc, hvs6⟩ := Src.shape (Src.of_row hrow6)
        subst hvs6
        obtain ⟨o1, o2, o3⟩ := f6.own (k := B) H5.out.2.1 H5.out.2.2.1
        obtain ⟨z, hz⟩ : ∃ z : St, ({ u with drops := [] } : St) = z := ⟨_, rfl⟩
        have hzi : u.items = z.items := by rw [← hz]; rfl
        have hzc : Cap budget z := by rw [← hz]; exact cap_emptied H5.out.2.2.2.2.2
        rw [hz] at r6
        have H6 := Lib.hid (And.intro r6 (And.intro (Same8.ReadsK.of_row hrow6) (And.intro (o1.trans H5.out.1) (And.intro o3 (And.intro hzi hzc)))))
        clear hdr r6 f6 hrow6 hv6 o1 o2 o3 hz hzi hzc
        go_wp2_with fail
        go_loopg [16, 17] u.drops.length (fun gh f k wq => ∃ (q : Nat) (fb : Bool), f = .bool fb ∧ k = .int .i64 q ∧ gh + q = u.drops.length ∧ Hid (Below w6.heap.size w6 wq))
        case atStart => exact ⟨0, false, rfl, rfl, by omega, Lib.hid (Below.refl _ _)⟩
        case round =>
          obtain ⟨q, fb, rfl, rfl, hg2, HS2⟩ := hrel
          have HG2 := Lib.hid hg2
          clear hg2
          by_cases hq : q < u.drops.length
          · obtain ⟨kk, hkk⟩ : ∃ kk, u.drops[q]? = some kk := ⟨_, List.getElem?_eq_getElem hq⟩
            obtain ⟨aa, cc, e1, -, e3⟩ := H6.out.2.1.below HS2.out
            injection e1 with e1 e2 e4
            subst e1 e4
            obtain ⟨g, rfl, hgl, hd⟩ := e3 q kk hkk
            have q1 := Mem.row_cell ((HS2.out.block _ H6.out.2.2.2.1).trans H6.out.2.2.1) 1
            simp only [List.getElem?_toArray, List.getElem?_cons_zero, List.getElem?_cons_succ] at q1
            have hqi : (q : Int) < u.drops.length := by omega
            clear e2 e3 hkk hgl
            cases fb with
            | true =>
              go_wp2_with fail
              go_quiet (fail)
              clear hd q1
              go_wp2_with fail
              go_roundg (u.drops.length - (q + 1))
              case measure => have := HG2.out; omega
              case rel => exact ⟨q + 1, true, rfl, by go_num, by have := HG2.out; omega, Lib.hid (Mem.dn HS2.out _)⟩
            | false =>
              by_cases hke : kk = o.it.key
              · subst hke
                go_wp2_with fail
                go_quiet (fail)
                clear hd q1
                go_wp2_with fail
                go_roundg (u.drops.length - (q + 1))
                case measure => have := HG2.out; omega
                case rel => exact ⟨q + 1, true, rfl, by go_num, by have := HG2.out; omega, Lib.hid (Mem.dn HS2.out _)⟩
              · have hne : (kk.toList == o.it.key.toList) = false := str_ne hke
                clear hke
                go_wp2_with fail
                go_quiet (fail)
                clear hd q1 hne
                go_wp2_with fail
                go_roundg (u.drops.length - (q + 1))
                case measure => have := HG2.out; omega
                case rel => exact ⟨q + 1, false, rfl, by go_num, by have := HG2.out; omega, Lib.hid (Mem.dn HS2.out _)⟩
          · have hql : (u.drops.length : Int) ≤ q := by omega
            have hall := all_run (H6.out.1.step HS2.out) (by have := HSZ.out.2; omega) 1000
            have htk : z.items.take (1000 : Int).toNat = z.items := List.take_of_length_le (by have := H6.out.1.ilen; have : (1000 : Int).toNat = 1000 := rfl; have := HSZ.out.2; omega)
            rw [htk] at hall
            have hlz : z.items.length ≤ 81 := by have := H6.out.1.ilen; have := HSZ.out.2; omega
            clear htk hq
            go_wp2_with fail
            refine hall.mono ?_
            rintro e w7 ⟨v7, rfl, hit, hb7⟩
            obtain ⟨ia, ic, hv7⟩ := hit.shape
            subst hv7
            have H7 := Lib.hid (And.intro hit (Mem.tr HS2.out hb7))
            clear hall hit hb7 hql HS2 HG2
            go_wp2_with fail
            go_loopg [19, 20, 21] z.items.length (fun gh h k _ wq => ∃ (q : Nat) (hb : Bool), h = .bool hb ∧ k = .int .i64 q ∧ gh + q = z.items.length ∧ Hid ((hb = false → ∀ (j : Nat) (a : Shard.Item), j < q → z.items[j]? = some a → a ≠ o.it) ∧ Below w7.heap.size w7 wq))
            case atStart => exact ⟨0, false, rfl, rfl, by omega, Lib.hid ⟨fun _ j a hj => absurd hj (by omega), Below.refl _ _⟩⟩
            case round =>
              obtain ⟨p3, hb, rfl, rfl, hg3, HS3⟩ := hrel
              have HG3 := Lib.hid hg3
              clear hg3
              have hb6 := Mem.tr H7.out.2 HS3.out.2
              have nb := (hb6.block _ H6.out.2.2.2.1).trans H6.out.2.2.1
              have cel := fun j => Mem.row_cell nb j
              have q0 := cel 0
              have q1 := cel 1
              have q2 := cel 2
              have q3 := cel 3
              have q4 := cel 4
              have q5 := cel 5
              have q6 := cel 6
              have q7 := cel 7
              have q8 := cel 8
              have q9 := cel 9
              have q10 := cel 10
              have q11 := cel 11
              have q12 := cel 12
              have q13 := cel 13
              have q14 := cel 14
              simp only [List.getElem?_toArray, List.getElem?_cons_zero, List.getElem?_cons_succ] at q0 q1 q2 q3 q4 q5 q6 q7 q8 q9 q10 q11 q12 q13 q14
              clear cel
              have HB6 := Lib.hid hb6
              clear hb6 nb
              by_cases hq : p3 < z.items.length
              · obtain ⟨p, hp⟩ : ∃ p, z.items[p3]? = some p := ⟨_, List.getElem?_eq_getElem hq⟩
                obtain ⟨g, cap, vb, vbc, hvs, -, -, hpo, hc⟩ := (H7.out.1.below HS3.out.2).get hp
                injection hvs with hvs1 hvs2 hvs3
                subst hvs1 hvs3
                have e0 : wr.cell? ⟨g, p3 * 10, none⟩ = some (.string p.key) := hc 0 _ rfl
                have e1 := hc 1 _ rfl
                have e2 := hc 2 _ rfl
                have e3 := hc 3 _ rfl
                have e4 := hc 4 _ rfl
                have e5 := hc 5 _ rfl
                have e6 := hc 6 _ rfl
                have e7 := hc 7 _ rfl
                have e8 := hc 8 _ rfl
                have e9 := hc 9 _ rfl
                have hqi : (p3 : Int) < z.items.length := by omega
                have hsm := same_any (w := wr.drew) p o.it (SrcB.below (SrcB.of_row hpo) (Below.drew (Below.refl _ wr))) (SrcB.below (v := .slice va o.it.val.length vc) (HOP.out.2.1 ▸ HOP.out.1.ok.src) (Below.drew (Mem.tr H6.out.1.below HB6.out)))
                obtain ⟨sb, hsb⟩ : ∃ sb, decide (p = o.it) = sb := ⟨_, rfl⟩
                rw [hsb] at hsm
                unfold Item.arr at hsm
                have HP := Lib.hid (And.intro hp hsb)
                clear hc hp hvs2 hpo hsb hq
                go_wp2_with fail
                refine wp_region_still_tail 6 (by kernel_rfl) (by kernel_rfl) ?_
                simp only [List.take_succ_cons, List.take_zero, List.drop_succ_cons, List.drop_zero]
                repeat still_step
                refine wpStill_nil ?_
                change wpList _ _ _ _ _ wr.drew
                clear e0 e1 e2 e3 e4 e5 e6 e7 e8 e9 q0 q1 q2 q3 q4 q5 q6 q7 q8 q9 q10 q11 q12 q13 q14
                go_wp2_with fail
                refine hsm.mono ?_
                rintro e wS ⟨rfl, hbS⟩
                have HBS := Lib.hid (Mem.tr HS3.out.2 (Mem.tr (Below.drew (Below.refl _ wr)) hbS))
                clear hsm hbS
                cases hb with
                | true =>
                  go_wp2_with fail
                  go_roundg (z.items.length - (p3 + 1))
                  case measure => have := HG3.out; omega
                  case rel => exact ⟨p3 + 1, true, rfl, by go_num, by have := HG3.out; omega, Lib.hid ⟨fun e => (by cases e), HBS.out⟩⟩
                | false =>
                  go_wp2_with fail
                  go_roundg (z.items.length - (p3 + 1))
                  case measure => have := HG3.out; omega
                  case rel =>
                    refine ⟨p3 + 1, sb, rfl, by go_num, by have := HG3.out; omega, Lib.hid ⟨fun e j a hj ha => ?_, HBS.out⟩⟩
                    by_cases ej : j = p3
                    · subst ej
                      rw [HP.out.1] at ha
                      injection ha with ha
                      subst ha
                      exact of_decide_eq_false (HP.out.2.trans e)
                    · exact HS3.out.1 (by trivial) j a (by omega) ha
              · have hql : (z.items.length : Int) ≤ p3 := by omega
                have hrz := H6.out.1.step HB6.out
                have hus : Calls Try.prog 19 #[.pointer (some ⟨b, 0, none⟩)] wr fun e w' => e = .returned (.int .i64 z.slab.used) ∧ wr = w' := used_any hrz.at_
                have hu0 : 0 ≤ z.slab.used := hrz.inv.slab.small.u0
                have hu1 : z.slab.used ≤ budget := by have := H6.out.2.2.2.2.2.used; omega
                have hhb : ev = 0 → hb = true := fun e => by
                  have h1 := H5.out.2.2.2.1 e
                  rw [H6.out.2.2.2.2.1] at h1
                  obtain ⟨j, hj⟩ := List.mem_iff_getElem?.1 h1
                  cases hb with
                  | true => rfl
                  | false => exact absurd rfl (HS3.out.1 (by trivial) j _ (by have := (List.getElem?_eq_some_iff.1 hj).1; omega) hj)
                have HRZ := Lib.hid hrz
                clear hrz hq
                by_cases hev : ev = 0
                · have hbt := hhb hev
                  subst hbt hev
                  clear hhb
                  go_wp2_with fail
                  refine hus.mono ?_
                  rintro e wu ⟨rfl, rfl⟩
                  go_wp2_with fail
                  refine hus.mono ?_
                  rintro e wu ⟨rfl, rfl⟩
                  clear hus
                  cases fb with
                  | false =>
                    clear q0 q1 q2 q3 q4 q5 q6 q7 q8 q9 q10 q11 q12 q13 q14
                    go_wp2_with fail
                    go_roundg (l.length - (m + 1))
                    case measure => have := HG.out; omega
                    case rel => exact ⟨m + 1, by go_num, by have := HG.out; omega, Lib.hid ⟨_, _, HRZ.out, H6.out.2.2.2.2.2⟩⟩
                  | true =>
                    have hlv := live_any o.it (.slice va o.it.val.length vc) o.env wr
                    obtain ⟨lv, hlve⟩ : ∃ lv, o.it.live o.env = lv := ⟨_, rfl⟩
                    rw [hlve] at hlv
                    unfold Item.arr Env.arr at hlv
                    clear hlve
                    go_wp2_with fail
                    refine hlv.mono ?_
                    rintro e wL ⟨rfl, hbL⟩
                    have HL6 := Lib.hid (And.intro (Mem.tr HB6.out hbL) (HRZ.out.step hbL))
                    clear hlv hbL hu0 hu1 q0 q1 q2 q3 q4 q5 q6 q7 q8 q9 q10 q11 q12 q13 q14
                    cases lv with
                    | false =>
                      go_wp2_with fail
                      go_roundg (l.length - (m + 1))
                      case measure => have := HG.out; omega
                      case rel => exact ⟨m + 1, by go_num, by have := HG.out; omega, Lib.hid ⟨_, _, HL6.out.2, H6.out.2.2.2.2.2⟩⟩
                    | true =>
                      go_wp2_with fail
                      go_loopg [22, 23] u.drops.length (fun gh n k wq => ∃ (q nn : Nat), n = .int .i64 nn ∧ k = .int .i64 q ∧ gh + q = u.drops.length ∧ Hid (nn = cnt (u.drops.take q) o.it.key ∧ Below wL.heap.size wL wq))
                      case atStart => exact ⟨0, 0, rfl, rfl, by omega, Lib.hid ⟨rfl, Below.refl _ _⟩⟩
                      case round =>
                        obtain ⟨q4, nn, rfl, rfl, hg4, HS4⟩ := hrel
                        have HG4 := Lib.hid hg4
                        clear hg4
                        have hnq : nn ≤ u.drops.length := by rw [HS4.out.1]; unfold cnt; refine Nat.le_trans (List.length_filter_le _ _) ?_; rw [List.length_take]; omega
                        by_cases hq : q4 < u.drops.length
                        · obtain ⟨kk, hkk⟩ : ∃ kk, u.drops[q4]? = some kk := ⟨_, List.getElem?_eq_getElem hq⟩
                          have hb6 := Mem.tr HL6.out.1 HS4.out.2
                          obtain ⟨aa, cc, e1, -, e3⟩ := H6.out.2.1.below hb6
                          injection e1 with e1 e2 e4
                          subst e1 e4
                          obtain ⟨g, rfl, hgl, hd⟩ := e3 q4 kk hkk
                          have q1 := Mem.row_cell ((hb6.block _ H6.out.2.2.2.1).trans H6.out.2.2.1) 1
                          simp only [List.getElem?_toArray, List.getElem?_cons_zero, List.getElem?_cons_succ] at q1
                          have hqi : (q4 : Int) < u.drops.length := by omega
                          have HKK := Lib.hid hkk
                          clear e2 e3 hkk hgl hb6
                          by_cases hke : kk = o.it.key
                          · subst hke
                            go_wp2_with fail
                            go_quiet (fail)
                            clear hd q1
                            go_wp2_with fail
                            go_roundg (u.drops.length - (q4 + 1))
                            case measure => have := HG4.out; omega
                            case rel =>
                              refine ⟨q4 + 1, nn + 1, by go_num, by go_num, by have := HG4.out; omega, Lib.hid ⟨?_, Mem.dn HS4.out.2 _⟩⟩
                              unfold cnt
                              rw [filter_step HKK.out, if_pos (decide_eq_true rfl), HS4.out.1]
                              rfl
                          · have hne : (kk.toList == o.it.key.toList) = false := str_ne hke
                            have HKE := Lib.hid hke
                            clear hke
                            go_wp2_with fail
                            go_quiet (fail)
                            clear hd q1 hne
                            go_wp2_with fail
                            go_roundg (u.drops.length - (q4 + 1))
                            case measure => have := HG4.out; omega
                            case rel =>
                              refine ⟨q4 + 1, nn, rfl, by go_num, by have := HG4.out; omega, Lib.hid ⟨?_, Mem.dn HS4.out.2 _⟩⟩
                              unfold cnt
                              rw [filter_step HKK.out, if_neg (by simp [HKE.out]), HS4.out.1]
                              rfl
                        · have hql4 : (u.drops.length : Int) ≤ q4 := by omega
                          have hn1 : (nn : Int) ≤ 1 := by
                            have h1 := HS4.out.1
                            rw [List.take_of_length_le (by omega)] at h1
                            have := H5.out.2.2.2.2.1
                            omega
                          clear hnq hq
                          go_wp2_with fail
                          go_roundg (l.length - (m + 1))
                          case measure => have := HG.out; omega
                          case rel => exact ⟨m + 1, by go_num, by have := HG.out; omega, Lib.hid ⟨_, _, HL6.out.2.step HS4.out.2, H6.out.2.2.2.2.2⟩⟩
                · have hev1 : (ev == 0) = false := by simpa using hev
                  clear hev hhb q0 q1 q2 q3 q4 q5 q6 q7 q8 q9 q10 q11 q12 q13 q14
                  go_wp2_with fail
                  refine hus.mono ?_
                  rintro e wu ⟨rfl, rfl⟩
                  go_wp2_with fail
                  refine hus.mono ?_
                  rintro e wu ⟨rfl, rfl⟩
                  clear hus
                  go_wp2_with fail
                  go_roundg (l.length - (m + 1))
                  case measure => have := HG.out; omega
                  case rel => exact ⟨m + 1, by go_num, by have := HG.out; omega, Lib.hid ⟨_, _, HRZ.out, H6.out.2.2.2.2.2⟩⟩
      · have hml : (l.length : Int) ≤ m := by omega
        obtain ⟨colr, s, r, -⟩ := HS.out
        have HBE := Lib.hid r.below
        clear r hm HS
        go_wp2_with fail
        go_ret
        exact ⟨rfl, HBE.out⟩
end Go.Proofs.Ytkchlibkfafgdaa.ShardBudget

