/- KWalkShardRemoves: WalkShardRemoves, one behind the other. -/
import Derived.Test.YtkchlibkfafgdaaPart9
import Derived.StillTailTactics
import Derived.BigQuiet
/- ShardRemoves answers true for every seed, list of calls and key. Conditions: the numbers are of their kinds. -/
namespace Go.Proofs.Ytkchlibkfafgdaa.ShardRemoves
set_option maxRecDepth 100000
open Go Go.RowKit Go.Proofs.Ytkchlibkfafgdaa.Mem Go.Proofs.Ytkchlibkfafgdaa.App Go.Proofs.Ytkchlibkfafgdaa.Ops Go.Proofs.Ytkchlibkfafgdaa.Shard

set_option maxHeartbeats 4000000 in
theorem walk (W : World) (seed : Int) (x : Option Addr) (n0 c : Nat) (l : List Shard.Op) (key : ByteArray) (hseed : 0 ≤ seed ∧ seed ≤ 18446744073709551615) (hl : n0 = l.length ∧ n0 ≤ maxLen ∧ (∀ a ∈ l, OpOk W a) ∧ Lies W 15 encO x l) (hkey : key.size ≤ maxLen) :
    Calls Try.prog 5 #[.int .u64 seed, .slice x n0 c, .string key] W fun e W' => e = .returned (.bool true) ∧ Below W.heap.size W W' := by
  obtain ⟨rfl, hml, hok, hlies⟩ := hl
  unfold maxLen at hml hkey
  have HL := Lib.hid (And.intro hok hlies)
  go_enter Try.func5, Try.ntmps5
  go_wp2_with fail
  refine (awake_any W).mono ?_
  rintro e w1 ⟨rfl, hb1⟩
  have hfew := few_any (c := c) (hlies.same hb1) (by unfold maxLen; exact hml) hok
  have HF : Hid (fewB l = true → l.length ≤ 80 ∧ ∀ o ∈ l, o.it.key.size ≤ 300 ∧ o.it.val.length ≤ 3000) := Lib.hid (by unfold fewB; exact of_decide_eq_true)
  generalize fewB l = q at *
  have H1 := Lib.hid hb1
  clear hok hlies hb1
  go_wp2_with fail
  refine hfew.mono ?_
  rintro e w2 ⟨rfl, rfl⟩
  clear hfew
  have hnew := new_run H1.out seed 2000 3 hseed.1 (by omega) (by omega)
  go_wp2_with fail
  refine hnew.mono ?_
  rintro e w3 ⟨b, col, rfl, r3, -, -⟩
  have HR := Lib.hid r3
  clear hnew r3
  cases q with
  | false =>
    go_wp2_with fail
    go_ret
    exact ⟨rfl, HR.out.below⟩
  | true =>
    obtain ⟨h80, hsz⟩ := HF.out rfl
    by_cases hk3 : 300 < key.size
    · have hk3' : (300 : Int) < key.size := by omega
      clear hml h80 hk3
      go_wp2_with fail
      go_ret
      exact ⟨rfl, HR.out.below⟩
    have hk3' : (key.size : Int) ≤ 300 := by omega
    have hl80 : (l.length : Int) ≤ 80 := by omega
    have HSZ := Lib.hid (And.intro hsz (And.intro h80 hk3))
    clear hml h80 hsz hk3
    go_wp2_with fail
    go_loopg [10] l.length (fun gh i wr => ∃ (m : Nat), i = .int .i64 m ∧ gh + m = l.length ∧ Hid (∃ col s, Run W wr m b col seed s))
    case atStart => exact ⟨0, rfl, by omega, Lib.hid ⟨col, _, HR.out⟩⟩
    case round =>
      obtain ⟨m, rfl, hg, HS⟩ := hrel
      have HG := Lib.hid hg
      by_cases hm : m < l.length
      · obtain ⟨colr, s, r⟩ := HS.out
        obtain ⟨o, ho⟩ : ∃ o, l[m]? = some o := ⟨_, List.getElem?_eq_getElem hm⟩
        have hop := op_at HL.out.2 HL.out.1 r.below ho
        obtain ⟨Bx, off, rfl, hBx, hc⟩ := hop.at_
        obtain ⟨va, vc, hv⟩ := hop.shape
        have hsrc := hop.src r.below
        have hap := hop.apart (fun k hk => (r.low k hk).1)
        have hz := HSZ.out.1 o (List.mem_of_getElem? ho)
        rw [hv] at hsrc hap
        have c1 := hc 1 _ rfl
        have c2 := hc 2 _ rfl
        have c3 := hc 3 _ rfl
        have c4 := hc 4 _ rfl
        have c5 := hc 5 _ rfl
        have c6 := hc 6 _ rfl
        have c7 := hc 7 _ rfl
        have c8 := hc 8 _ rfl
        have c9 := hc 9 _ rfl
        have c10 := hc 10 _ rfl
        have c11 := hc 11 _ rfl
        have c12 := hc 12 _ rfl
        have c13 := hc 13 _ rfl
        have c14 := hc 14 _ rfl
        rw [hv] at c2
        have hmi : (m : Int) < l.length := by omega
        have hst := store_run (r.step (Below.drew (Below.refl _ wr))) (by have := HSZ.out.2.1; omega) o.it va vc o.env hz.1 hz.2 (hsrc.below (Below.drew (Below.refl _ wr))) hap
        unfold Item.arr Env.arr at hst
        clear hc hBx hop hsrc hap hz r ho hv
        go_wp2_with fail
        refine wp_region_still_tail 11 (by kernel_rfl) (by kernel_rfl) ?_
        simp only [List.take_succ_cons, List.take_zero, List.drop_succ_cons, List.drop_zero]
        repeat still_step
        refine wpStill_nil ?_
        change wpList _ _ _ _ _ wr.drew
        clear c1 c2 c3 c4 c5 c6 c7 c8 c9 c10 c11 c12 c13 c14
        go_wp2_with fail
        refine hst.mono ?_
        rintro e w4 ⟨fresh, hf, rfl, col4, r4, f4⟩
        have H4 := Lib.hid (show ∃ col s, Run W w4 (m + 1) b col seed s from ⟨_, _, r4⟩)
        clear hst hf r4 f4
        go_wp2_with fail
        go_roundg (l.length - (m + 1))
        case measure => have := HG.out; omega
        case rel => exact ⟨m + 1, by go_num, by have := HG.out; omega, H4⟩
      · have hml : (l.length : Int) ≤ m := by omega
        have hme : m = l.length := by omega
        obtain ⟨colr, s, r⟩ := HS.out
        rw [hme] at r
        have hdr := drops_run r (by omega)
        clear r hme hm HS
        go_wp2_with fail
        refine hdr.mono ?_
        rintro e w4 ⟨v4, rfl, ⟨col4, r4, f4⟩, hrow4⟩
        obtain ⟨t, ht⟩ : ∃ t : St, ({ s with drops := [] } : St) = t := ⟨_, rfl⟩
        have htd : t.drops = [] := by rw [← ht]
        rw [ht] at r4
        have hall := all_run r4 (by omega) 1000
        have htk : t.items.take (1000 : Int).toNat = t.items := List.take_of_length_le (by have := r4.ilen; have : (1000 : Int).toNat = 1000 := rfl; omega)
        rw [htk] at hall
        have H4 := Lib.hid (And.intro r4 htd)
        clear hdr f4 hrow4 ht htd htk r4 hg HG
        go_wp2_with fail
        refine hall.mono ?_
        rintro e w5 ⟨v5, rfl, hit, hb5⟩
        obtain ⟨ia, ic, hv5⟩ := hit.shape
        subst hv5
        have hus : Calls Try.prog 19 #[.pointer (some ⟨b, 0, none⟩)] w5 fun e w' => e = .returned (.int .i64 t.slab.used) ∧ w5 = w' := used_any (H4.out.1.step hb5).at_
        have hrm := remove_run (H4.out.1.step hb5) (by omega) key (by unfold maxLen; exact hkey)
        have hsep := Sep.start (base := w4.heap.size) (fun k hk => H4.out.1.none hk) w5
        obtain ⟨hb, z, e1, e2, e3, e4, e5, e6, e7⟩ := removes_law H4.out.1.inv key
        rw [e1] at hrm
        obtain ⟨t1, ht1⟩ : ∃ t1, (t.remove key).2 = t1 := ⟨_, rfl⟩
        rw [ht1] at hrm e2 e3 e4 e5
        obtain ⟨t2, ht2⟩ : ∃ t2, (t1.remove key).2 = t2 := ⟨_, rfl⟩
        rw [ht2] at e3 e4 e5
        have hu0 := H4.out.1.inv.slab.small.u0
        have hu1 := H4.out.1.inv.usedLe
        have hil2 := H4.out.1.ilen
        have H5 := Lib.hid (And.intro hit hsep)
        have HE := Lib.hid (And.intro e1 (And.intro e2 (And.intro e3 (And.intro e4 (And.intro e5 (And.intro e6 e7))))))
        have HT := Lib.hid (And.intro ht1 ht2)
        have hu2 : t.slab.used ≤ 163840 := by rw [items_len] at hil2; have := HSZ.out.2.1; omega
        have hlt2 : t.items.length ≤ 80 := by have := HSZ.out.2.1; omega
        clear hall hit hb5 hsep e1 e2 e3 e4 e5 e6 e7 ht1 ht2 hu1 hil2
        go_wp2_with fail
        refine hus.mono ?_
        rintro e w5' ⟨rfl, rfl⟩
        clear hus
        go_wp2_with fail
        refine hrm.mono ?_
        rintro e w6 ⟨rfl, col6, r6, f6⟩
        have hsep6 := H5.out.2.turn f6
        have hrm2 := remove_run r6 (by omega) key (by unfold maxLen; exact hkey)
        rw [HE.out.2.1, HT.out.2] at hrm2
        have H6 := Lib.hid hsep6
        clear hrm r6 f6 hsep6
        go_wp2_with fail
        refine hrm2.mono ?_
        rintro e w7 ⟨rfl, col7, r7, f7⟩
        have hsep7 := H6.out.turn f7
        have hall2 := all_run r7 (by omega) 1000
        have htk2 : t2.items.take (1000 : Int).toNat = t2.items := List.take_of_length_le (by have := r7.ilen; have : (1000 : Int).toNat = 1000 := rfl; omega)
        rw [htk2] at hall2
        have H7 := Lib.hid (And.intro hsep7 r7)
        clear hrm2 r7 f7 hsep7 htk2
        go_wp2_with fail
        refine hall2.mono ?_
        rintro e w8 ⟨v8, rfl, hit8, hb8⟩
        obtain ⟨ja, jc, hv8⟩ := hit8.shape
        subst hv8
        have hwas : ItemsAt w4.heap.size t.items (.slice ia t.items.length ic) w8 := (H7.out.1.below hb8).items H5.out.1
        have r8 := H7.out.2.step hb8
        have hn2 : t2.items.length ≤ t.items.length := by rw [HE.out.2.2.1]; exact List.length_filter_le _ _
        have H8 := Lib.hid (And.intro hit8 (And.intro hwas r8))
        clear hall2 hit8 hb8 hwas r8
        go_wp2_with fail
        go_loopg [16, 17, 18, 19, 20] t.items.length (fun gh k by_ i _ _ wr => ∃ (q k' : Nat) (zz : Int), i = .int .i64 q ∧ k = .int .i64 k' ∧ by_ = .int .i64 zz ∧ gh + q = t.items.length ∧ Hid (k' = ((t.items.take q).filter (fun a => decide (a.key ≠ key))).length ∧ ((zz = 0 ∧ ∀ (j : Nat) (a : Shard.Item), j < q → t.items[j]? = some a → a.key ≠ key) ∨ (zz = z ∧ ∃ a ∈ t.items, a.key = key)) ∧ Below w8.heap.size w8 wr))
        case atStart => exact ⟨0, 0, 0, rfl, rfl, rfl, by omega, Lib.hid ⟨rfl, .inl ⟨rfl, fun j a hj => absurd hj (by omega)⟩, Below.refl _ _⟩⟩
        case round =>
          obtain ⟨q, k', zz, rfl, rfl, rfl, hg, HS⟩ := hrel
          have HG := Lib.hid hg
          clear hg
          have hk'le : k' ≤ q := by rw [HS.out.1]; refine Nat.le_trans (List.length_filter_le _ _) ?_; rw [List.length_take]; omega
          by_cases hq : q < t.items.length
          · obtain ⟨a, ha⟩ : ∃ a, t.items[q]? = some a := ⟨_, List.getElem?_eq_getElem hq⟩
            obtain ⟨g, cap, va, vc, hvs, -, -, -, hc⟩ := (H8.out.2.1.below HS.out.2.2).get ha
            injection hvs with hvs1 hvs2 hvs3
            subst hvs1 hvs3
            have d0 : wr.cell? ⟨g, q * 10, none⟩ = some (.string a.key) := hc 0 _ rfl
            have d1 := hc 1 _ rfl
            have d2 := hc 2 _ rfl
            have d3 := hc 3 _ rfl
            have d4 := hc 4 _ rfl
            have d5 := hc 5 _ rfl
            have d6 := hc 6 _ rfl
            have d7 := hc 7 _ rfl
            have d8 := hc 8 _ rfl
            have d9 := hc 9 _ rfl
            have hqi : (q : Int) < t.items.length := by omega
            have HA := Lib.hid ha
            clear hc ha hvs2
            by_cases hke : a.key = key
            · obtain ⟨z1, z6⟩ := HE.out.2.2.2.2.2.2 a (List.mem_of_getElem? HA.out) hke
              have hsz2 : a.size ≤ 2048 := size_class z6
              have hks : a.key.size ≤ 300 := by rw [hke]; have := HSZ.out.2.2; omega
              have hvl : a.val.length ≤ 3000 := by unfold Shard.Item.size at hsz2; omega
              have hs1 := fun w' => size_any a va vc w' (by omega) (by omega)
              have hs2 := fun w' => Slab.class_any a.size w'
              obtain ⟨k1, k2⟩ := Slab.classE_ok z6
              rw [k1, k2] at hs2
              have hs3 := fun w' => Slab.bytes_any (Slab.classN a.size : Nat) w'
              rw [z1] at hs3
              unfold Item.arr at hs1
              have HKE := Lib.hid hke
              have d0' : wr.cell? ⟨g, q * 10, none⟩ = some (.string key) := by rw [d0, hke]
              rw [hke] at hs1
              clear d0 z1 hsz2 hks hvl k1 k2 hke
              go_wp2_with fail
              refine (hs1 _).mono ?_
              rintro e wA ⟨rfl, hbA⟩
              have HBA := Lib.hid hbA
              clear hs1 hbA d0' d1 d2 d3 d4 d5 d6 d7 d8 d9
              go_wp2_with fail
              refine (hs2 _).mono ?_
              rintro e wB ⟨rfl, rfl⟩
              clear hs2
              go_wp2_with fail
              refine (hs3 _).mono ?_
              rintro e wC ⟨rfl, rfl⟩
              clear hs3
              go_wp2_with fail
              go_roundg (t.items.length - (q + 1))
              case measure => have := HG.out; omega
              case rel =>
                refine ⟨q + 1, k', z, by go_num, rfl, rfl, by have := HG.out; omega, Lib.hid ⟨?_, .inr ⟨rfl, a, List.mem_of_getElem? HA.out, HKE.out⟩, Mem.tr HS.out.2.2 HBA.out⟩⟩
                rw [filter_step HA.out, if_neg (by simp [HKE.out])]
                exact HS.out.1
            · have hN : t2.items[k']? = some a := by
                rw [HE.out.2.2.1, HS.out.1]
                exact filter_at _ _ _ HA.out (decide_eq_true hke)
              obtain ⟨g8, cap8, va8, vc8, hvs8, -, -, -, hc8⟩ := (H8.out.1.below HS.out.2.2).get hN
              injection hvs8 with hvs1 hvs2 hvs3
              subst hvs1 hvs3
              have e0 : wr.cell? ⟨g8, k' * 10, none⟩ = some (.string a.key) := hc8 0 _ rfl
              have hkl : k' < t2.items.length := (List.getElem?_eq_some_iff.1 hN).1
              have hkli : (k' : Int) < t2.items.length := by omega
              have hne : (a.key.toList == key.toList) = false := str_ne hke
              have HKE := Lib.hid hke
              clear hc8 hN hvs2 hke d1 d2 d3 d4 d5 d6 d7 d8 d9
              go_wp2_with fail
              go_quiet (fail)
              clear d0 e0 hne
              go_wp2_with fail
              go_roundg (t.items.length - (q + 1))
              case measure => have := HG.out; omega
              case rel =>
                refine ⟨q + 1, k' + 1, zz, by go_num, by go_num, rfl, by have := HG.out; omega, Lib.hid ⟨?_, ?_, Mem.tr HS.out.2.2 (Mem.dn (Below.refl _ _) _)⟩⟩
                · rw [filter_step HA.out, if_pos (decide_eq_true HKE.out), HS.out.1]
                · rcases HS.out.2.1 with ⟨h1, h2⟩ | h1
                  · refine .inl ⟨h1, fun j p hj hp => ?_⟩
                    by_cases ej : j = q
                    · subst ej; rw [HA.out] at hp; injection hp with hp; subst hp; exact HKE.out
                    · exact h2 j p (by omega) hp
                  · exact .inr h1
          · have hql : (t.items.length : Int) ≤ q := by omega
            have hqe : q = t.items.length := by have := HG.out; omega
            have hkN : k' = t2.items.length := by rw [HS.out.1, hqe, List.take_of_length_le (Nat.le_refl _), HE.out.2.2.1]
            have hzz : zz = z := by
              rcases HS.out.2.1 with ⟨h1, h2⟩ | ⟨h1, -⟩
              · rcases HE.out.2.2.2.2.2.1 with ⟨-, h3, -⟩ | ⟨-, -, -, p, hp, hpk⟩
                · rw [h1, h3]
                · obtain ⟨j, hj⟩ := List.mem_iff_getElem?.1 hp
                  exact absurd hpk (h2 j p (by rw [hqe]; exact (List.getElem?_eq_some_iff.1 hj).1) hj)
              · exact h1
            subst hzz hkN
            have hrz := H8.out.2.2.step HS.out.2.2
            have hus2 : Calls Try.prog 19 #[.pointer (some ⟨b, 0, none⟩)] wr fun e w' => e = .returned (.int .i64 t2.slab.used) ∧ wr = w' := used_any hrz.at_
            rw [HE.out.2.2.2.1] at hus2
            have hdr2 := drops_run2 hrz
            rw [HE.out.2.2.2.2.1, H4.out.2] at hdr2
            have hz3 : 0 ≤ zz ∧ zz ≤ 2048 ∧ hb = decide (0 < zz) := by
              rcases HE.out.2.2.2.2.2.1 with ⟨h1, h2, -⟩ | ⟨h1, h2, h3, -⟩
              · subst h1 h2; exact ⟨by omega, by omega, by decide⟩
              · subst h1; exact ⟨by omega, h3, (decide_eq_true h2).symm⟩
            obtain ⟨z0, z1, hbz⟩ := hz3
            have HQ := Lib.hid hqe
            clear hqe hq hk'le hrz hn2
            cases hb with
            | true =>
              have hpz : 0 < zz := of_decide_eq_true hbz.symm
              clear hbz
              go_wp2_with fail
              refine hus2.mono ?_
              rintro e wU ⟨rfl, rfl⟩
              clear hus2
              go_wp2_with fail
              refine hdr2.mono ?_
              rintro e wD ⟨vD, colD, rfl, rD, -, hrowD, -⟩
              obtain ⟨za, zc, hvD⟩ := Src.shape (Src.of_row hrowD)
              subst hvD
              have HBD := Lib.hid rD.below
              clear hdr2 rD hrowD
              go_wp2_with fail
              go_ret
              exact ⟨rfl, HBD.out⟩
            | false =>
              have hpz : zz = 0 := by have := of_decide_eq_false hbz.symm; omega
              subst hpz
              clear hbz z0 z1
              go_wp2_with fail
              refine hus2.mono ?_
              rintro e wU ⟨rfl, rfl⟩
              clear hus2
              go_wp2_with fail
              refine hdr2.mono ?_
              rintro e wD ⟨vD, colD, rfl, rD, -, hrowD, -⟩
              obtain ⟨za, zc, hvD⟩ := Src.shape (Src.of_row hrowD)
              subst hvD
              have HBD := Lib.hid rD.below
              clear hdr2 rD hrowD
              go_wp2_with fail
              go_ret
              exact ⟨rfl, HBD.out⟩
end Go.Proofs.Ytkchlibkfafgdaa.ShardRemoves

