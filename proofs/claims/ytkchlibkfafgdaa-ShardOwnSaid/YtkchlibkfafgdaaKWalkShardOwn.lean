/- KWalkShardOwn: WalkShardOwn, one behind the other. -/
import Derived.Test.YtkchlibkfafgdaaPart11
import Derived.StillTailTactics
import Derived.BigQuiet
/- ShardOwn answers true for every key, value and byte. Conditions: the numbers are of their kinds. -/
namespace Go.Proofs.Ytkchlibkfafgdaa.ShardOwn
set_option maxRecDepth 100000
open Go Go.RowKit Go.Proofs.Ytkchlibkfafgdaa.Mem Go.Proofs.Ytkchlibkfafgdaa.App Go.Proofs.Ytkchlibkfafgdaa.Ops Go.Proofs.Ytkchlibkfafgdaa.Shard

set_option maxHeartbeats 4000000 in
theorem walk (W : World) (key : ByteArray) (xs : List UInt8) (a : Option Addr) (c : Nat) (cb : Int) (hkey : key.size ≤ maxLen) (hv : xs.length ≤ maxLen ∧ SrcB W (.slice a xs.length c) xs) (hcb : 0 ≤ cb ∧ cb ≤ 255) :
    Calls Try.prog 6 #[.string key, .slice a xs.length c, .int .u8 cb] W fun e W' => e = .returned (.bool true) ∧ Below W.heap.size W W' := by
  obtain ⟨hvl, hsrc⟩ := hv
  unfold maxLen at hkey hvl
  obtain ⟨u, rfl⟩ : ∃ u : UInt8, cb = (u.toNat : Nat) := ⟨UInt8.ofNat cb.toNat, by rw [UInt8.toNat_ofNat']; omega⟩
  have HV := Lib.hid hsrc
  clear hsrc hcb
  go_enter Try.func6, Try.ntmps6
  go_wp2_with fail
  refine (awake_any W).mono ?_
  rintro e w1 ⟨rfl, hb1⟩
  have hnew := new_run hb1 1 100000 3 (by omega) (by omega) (by omega)
  clear hb1
  go_wp2_with fail
  refine hnew.mono ?_
  rintro e w3 ⟨b, col, rfl, r3, -, -⟩
  have HR := Lib.hid r3
  clear hnew r3
  by_cases hk3 : 250 < key.size
  · have hk3' : (250 : Int) < key.size := by omega
    clear hvl hk3 hkey
    go_wp2_with fail
    go_ret
    exact ⟨rfl, HR.out.below⟩
  have hk3' : (key.size : Int) ≤ 250 := by omega
  by_cases hv3 : 1000 < xs.length
  · have hv3' : (1000 : Int) < xs.length := by omega
    clear hvl hkey hk3 hv3
    go_wp2_with fail
    go_ret
    exact ⟨rfl, HR.out.below⟩
  have hv3' : (xs.length : Int) ≤ 1000 := by omega
  have HSZ := Lib.hid (And.intro hk3 hv3)
  clear hvl hkey hk3 hv3
  go_wp2_with (at_builtin; refine wpList_append_B _ _ _ xs rfl rfl rfl rfl (HV.out.below HR.out.below) (by have := HSZ.out.2; omega) ?_; intro v4 w4 hown4 hb4; obtain ⟨oa, oc, hv4⟩ := Src.shape (Src.of_row hown4); subst hv4; have H4 := Lib.hid (And.intro hown4 hb4); clear hown4 hb4)
  obtain ⟨eb, heb⟩ : ∃ eb : Obj, .cells #[.int .i64 1, .int .u64 0, .int .i64 0, .int .u64 0] 33 = eb := ⟨_, rfl⟩
  obtain ⟨wa, hwa⟩ : ∃ wa, w4.alloc eb = wa := ⟨_, rfl⟩
  obtain ⟨B, hB⟩ : ∃ B, w4.heap.size = B := ⟨_, rfl⟩
  have nb : wa.heap[B]? = some eb := by rw [← hwa, ← hB]; exact Mem.new_block w4 eb
  have hlB : B < wa.heap.size := by rw [← hwa, ← hB]; simp
  have hba : Below w4.heap.size w4 wa := by rw [← hwa]; exact Mem.al (Below.refl _ _) _
  have r4 := HR.out.step H4.out.2
  have ra := r4.step hba
  have hcB : col B = none := HR.out.none (by rw [← hB]; exact H4.out.2.size)
  have hcv : ∀ g, (Value.slice oa xs.length oc).ownBlock = some g → col g = none := fun g e => HR.out.none (own_block_lt H4.out.1 g e).1
  have hvB : ∀ g, (Value.slice oa xs.length oc).ownBlock = some g → g ≠ B := fun g e => by have := (own_block_lt H4.out.1 g e).2; omega
  have hrowa : OwnB wa w3.heap.size (.slice oa xs.length oc) xs := row_keep H4.out.1 fun g e => hba.block g (own_block_lt H4.out.1 g e).2
  have hst := store_run ra (by omega) (itemV key xs) oa oc env1 (by show key.size ≤ 300; have := HSZ.out.1; omega) (by show xs.length ≤ 3000; have := HSZ.out.2; omega) (SrcB.of_row hrowa) (fun _ g e => hcv g e)
  unfold Item.arr Env.arr itemV env1 at hst
  simp only at hst
  rw [heb, hwa, hB]
  have HA := Lib.hid (And.intro nb (And.intro hlB (And.intro hcB (And.intro hcv (And.intro hvB hrowa)))))
  have HEB := Lib.hid heb
  clear nb hlB hba r4 ra hcB hcv hvB hrowa hwa hB heb
  refine hst.mono ?_
  rintro e w5 ⟨fresh, hf, rfl, col5, r5, f5⟩
  obtain ⟨k0, x, k1, k2, k3, k4⟩ := own_law fresh key xs (by have := HSZ.out.1; omega) (by have := HSZ.out.2; omega)
  unfold itemV env1 at k0
  rw [k0]
  obtain ⟨t, ht⟩ : ∃ t, ((St.new 1 100000 3).store fresh (itemV key xs) env1).2 = t := ⟨_, rfl⟩
  rw [ht] at k1 k2 k3 k4
  have ht' := ht
  unfold itemV env1 at ht'
  rw [ht'] at r5
  obtain ⟨o1, o2, o3⟩ := f5.own (k := B) HA.out.2.1 HA.out.2.2.1
  have hrow5 : OwnB w5 w3.heap.size (.slice oa xs.length oc) xs := row_keep HA.out.2.2.2.2.2 fun g e => f5.keep (own_block_lt HA.out.2.2.2.2.2 g e).2 (HA.out.2.2.2.1 g e)
  have hcv5 : ∀ g, (Value.slice oa xs.length oc).ownBlock = some g → col5 g = none := fun g e => (f5.own (own_block_lt HA.out.2.2.2.2.2 g e).2 (HA.out.2.2.2.1 g e)).2.1
  have H5 := Lib.hid (And.intro r5 (And.intro (o1.trans HA.out.1) (And.intro o3 (And.intro o2 (And.intro hcv5 (And.intro HA.out.2.2.2.2.1 (And.intro hrow5 HR.out.below)))))))
  have HK := Lib.hid (And.intro k1 (And.intro k2 (And.intro k3 k4)))
  clear hst hf r5 f5 k0 k1 k2 k3 k4 ht ht' o1 o2 o3 hrow5 hcv5
  go_wp2_with fail
  go_loopg [12] xs.length (fun gh i wq => ∃ (q : Nat), i = .int .i64 q ∧ gh + q = xs.length ∧ Hid (Over w5 w3.heap.size (.slice oa xs.length oc) xs.length wq))
  case atStart => exact ⟨0, rfl, by omega, Lib.hid (Over.start H5.out.2.2.2.2.2.2.1)⟩
  case round =>
    obtain ⟨q, rfl, hg, HS⟩ := hrel
    have HG := Lib.hid hg
    clear hg
    by_cases hq : q < xs.length
    · obtain ⟨g, cap, e1, ⟨oz, hoz⟩, hfz, hov⟩ := HS.out.round hq u
      injection e1 with e1 e2 e3
      subst e1 e3
      have hqi : (q : Int) < xs.length := by omega
      have HO := Lib.hid hov
      clear e2 hov
      go_wp2_with fail
      go_roundg (xs.length - (q + 1))
      case measure => have := HG.out; omega
      case rel => exact ⟨q + 1, by go_num, by have := HG.out; omega, HO⟩
    · have hql : (xs.length : Int) ≤ q := by omega
      have hlow : ∀ g, (Value.slice oa xs.length oc).ownBlock = some g → W.heap.size ≤ g := fun g e => by have := (own_block_lt H5.out.2.2.2.2.2.2.1 g e).1; have := H5.out.2.2.2.2.2.2.2.size; omega
      have rr := H5.out.1.aside HS.out.2 (fun g e => ⟨H5.out.2.2.2.2.1 g e, hlow g e⟩)
      have nbr : wr.heap[B]? = some eb := (HS.out.2.same B H5.out.2.2.1 (fun e => H5.out.2.2.2.2.2.1 B e rfl)).trans H5.out.2.1
      have hlr := Nat.lt_of_lt_of_le H5.out.2.2.1 HS.out.2.size
      have hlook := look_run2 rr (by omega) key env1 (by unfold maxLen; have := HSZ.out.1; omega) (x := x) (by rw [HK.out.1])
      rw [HK.out.1, HK.out.2.1] at hlook
      change Calls _ _ _ _ (fun e w' => ∃ v col', e = .returned (.tuple #[.agg #[.string key, v, .int .u32 0, .int .i64 0, .int .u64 0, .int .i64 0, .int .u64 0, .bool false, .bool false, .bool false], .bool true]) ∧ Run W w' (0 + 1 + 1) b col' 1 t.tick ∧ Fr col5 col' wr w' ∧ OwnB w' wr.heap.size v xs ∧ ∀ g, v.ownBlock = some g → col' g = none) at hlook
      rw [← HEB.out] at nbr
      have cel := fun j => Mem.row_cell nbr j
      have q0 := cel 0
      have q1 := cel 1
      have q2 := cel 2
      have q3 := cel 3
      simp only [List.getElem?_toArray, List.getElem?_cons_zero, List.getElem?_cons_succ] at q0 q1 q2 q3
      have HRr := Lib.hid (And.intro rr (And.intro nbr hlr))
      unfold Env.arr env1 at hlook
      simp only at hlook
      clear cel rr nbr hlr hlow hq HS HG
      go_wp2_with fail
      refine hlook.mono ?_
      rintro e w6 ⟨va, col6, rfl, r6, f6, hrowA, hcA⟩
      obtain ⟨pa, pc, hva⟩ := Src.shape (Src.of_row hrowA)
      subst hva
      obtain ⟨o1, o2, o3⟩ := f6.own (k := B) HRr.out.2.2 H5.out.2.2.2.1
      obtain ⟨ob, hob⟩ : ∃ ob : Obj, .cells #[.string key, .slice pa xs.length pc, .int .u32 0, .int .i64 0, .int .u64 0, .int .i64 0, .int .u64 0, .bool false, .bool false, .bool false] 31 = ob := ⟨_, rfl⟩
      have hb2 : Below w6.heap.size w6 (w6.alloc ob) := Mem.al (Below.refl _ _) _
      have hcx := conv_any ((SrcB.of_row hrowA).below hb2)
      have hcv := conv_any (HV.out.below (Mem.tr r6.below hb2))
      rw [← hob] at hcx hcv
      have H6 := Lib.hid (And.intro r6 (And.intro (o1.trans HRr.out.2.1) (And.intro o3 (And.intro o2 (And.intro hrowA (And.intro hcA hb2))))))
      have HOB := Lib.hid hob
      clear hlook r6 f6 hrowA hcA o1 o2 o3 hb2 hob q0 q1 q2 q3 hql
      go_wp2_with fail
      obtain ⟨wb, hwb⟩ : ∃ wb, w6.alloc ob = wb := ⟨_, rfl⟩
      obtain ⟨B2, hB2⟩ : ∃ B2, w6.heap.size = B2 := ⟨_, rfl⟩
      have nb2 : wb.heap[B2]? = some ob := by rw [← hwb, ← hB2]; exact Mem.new_block w6 ob
      have lB2 : B2 < wb.heap.size := by rw [← hwb, ← hB2]; simp
      have hbb : Below w6.heap.size w6 wb := by rw [← hwb]; exact Mem.al (Below.refl _ _) _
      have rowb : OwnB wb wr.heap.size (.slice pa xs.length pc) xs := row_keep H6.out.2.2.2.2.1 fun g e => hbb.block g (own_block_lt H6.out.2.2.2.2.1 g e).2
      have hne2 : ∀ g, (Value.slice pa xs.length pc).ownBlock = some g → g ≠ B2 ∧ g ≠ B ∧ W.heap.size ≤ g := fun g e => by have h1 := own_block_lt H6.out.2.2.2.2.1 g e; have h2 := HRr.out.2.2; have h3 := HRr.out.1.below.size; omega
      rw [HOB.out, hwb, hB2]
      rw [← HOB.out] at nb2
      have HB := Lib.hid (And.intro (H6.out.1.step hbb) (And.intro ((hbb.block B H6.out.2.2.1).trans H6.out.2.1) (And.intro (Nat.lt_of_lt_of_le H6.out.2.2.1 hbb.size) (And.intro nb2 (And.intro lB2 (And.intro rowb hne2))))))
      clear hcx hcv nb2 lB2 hbb rowb hne2 hwb hB2
      go_loopg [16] xs.length (fun gh i wq => ∃ (q : Nat), i = .int .i64 q ∧ gh + q = xs.length ∧ Hid (Over wb wr.heap.size (.slice pa xs.length pc) xs.length wq))
      case atStart => exact ⟨0, rfl, by omega, Lib.hid (Over.start HB.out.2.2.2.2.2.1)⟩
      case round =>
        obtain ⟨q2, rfl, hg, HS⟩ := hrel
        have HG := Lib.hid hg
        clear hg
        have nx := (HS.out.2.same B2 HB.out.2.2.2.2.1 (fun e => (HB.out.2.2.2.2.2.2 B2 e).1 rfl)).trans HB.out.2.2.2.1
        have z1 := Mem.row_cell nx 1
        simp only [List.getElem?_toArray, List.getElem?_cons_zero, List.getElem?_cons_succ] at z1
        clear nx
        by_cases hq : q2 < xs.length
        · obtain ⟨g, cap, e1, ⟨oz, hoz⟩, hfz, hov⟩ := HS.out.round hq u
          injection e1 with e1 e2 e3
          subst e1 e3
          have hqi : (q2 : Int) < xs.length := by omega
          have HO := Lib.hid hov
          clear e2 hov
          go_wp2_with fail
          go_roundg (xs.length - (q2 + 1))
          case measure => have := HG.out; omega
          case rel => exact ⟨q2 + 1, by go_num, by have := HG.out; omega, HO⟩
        · have hql : (xs.length : Int) ≤ q2 := by omega
          have rq := HB.out.1.aside HS.out.2 (fun g e => ⟨H6.out.2.2.2.2.2.1 g e, (HB.out.2.2.2.2.2.2 g e).2.2⟩)
          have nbE := (HS.out.2.same B HB.out.2.2.1 (fun e => (HB.out.2.2.2.2.2.2 B e).2.1 rfl)).trans HB.out.2.1
          have lBE := Nat.lt_of_lt_of_le HB.out.2.2.1 HS.out.2.size
          have hall := all_run rq (by omega) 5
          rw [HK.out.2.2.1] at hall
          have hall : Calls Try.prog 17 #[.pointer (some ⟨b, 0, none⟩), .int .i64 5] wr (AllPost wr [itemV key xs]) := hall
          have HQ := Lib.hid (And.intro rq (And.intro nbE lBE))
          clear rq nbE lBE hq HS HG
          go_wp2_with fail
          refine hall.mono ?_
          rintro e w7 ⟨v7, rfl, hit, hb7⟩
          obtain ⟨g, cap, vl, vlc, hvs, hgb, hgl, hrowl, hc⟩ := hit.get (i := 0) (it := itemV key xs) rfl
          have hvs : v7 = .slice (some ⟨g, 0, none⟩) 1 cap := hvs
          subst hvs
          have hrowl : OwnB w7 wr.heap.size (.slice vl xs.length vlc) xs := hrowl
          have d1 : w7.cell? ⟨g, 1, none⟩ = some (.slice vl xs.length vlc) := hc 1 _ rfl
          have hcx := fun d => conv_any ((SrcB.of_row hrowl).below (Mem.dn (Below.refl _ w7) d))
          have hcv := fun d => conv_any (HV.out.below (Mem.dn (Mem.tr HQ.out.1.below hb7) d))
          have hng := items_apart hit hrowl
          have H7 := Lib.hid (And.intro hrowl (And.intro hb7 (And.intro d1 (And.intro hgl hng))))
          clear hall hit hgb hgl hng hrowl hc hb7 hql z1
          go_wp2_with fail
          go_quiet (fail)
          clear hcx hcv d1
          have hne7 : ∀ g', (Value.slice vl xs.length vlc).ownBlock = some g' → g' ≠ B ∧ wr.heap.size ≤ g' := fun g' e => by have h1 := own_block_lt H7.out.1 g' e; have h2 := HQ.out.2.2; omega
          have H7b := Lib.hid hne7
          clear hne7
          go_wp2_with fail
          go_loopg [18] xs.length (fun gh i wq => ∃ (q : Nat), i = .int .i64 q ∧ gh + q = xs.length ∧ Hid (Over w7 wr.heap.size (.slice vl xs.length vlc) xs.length wq))
          case atStart => exact ⟨0, rfl, by omega, Lib.hid (Over.dn H7.out.1 _)⟩
          case round =>
            obtain ⟨q3, rfl, hg, HS⟩ := hrel
            have HG := Lib.hid hg
            clear hg
            have d1 := (World.cell?_of_block (a := ⟨g, 1, none⟩) (HS.out.2.same g H7.out.2.2.2.1 (fun e => H7.out.2.2.2.2 g e rfl))).trans H7.out.2.2.1
            by_cases hq : q3 < xs.length
            · obtain ⟨gg, cap2, e1, ⟨oz, hoz⟩, hfz, hov⟩ := HS.out.round hq u
              injection e1 with e1 e2 e3
              subst e1 e3
              have hqi : (q3 : Int) < xs.length := by omega
              have HO := Lib.hid hov
              clear e2 hov
              go_wp2_with fail
              go_roundg (xs.length - (q3 + 1))
              case measure => have := HG.out; omega
              case rel => exact ⟨q3 + 1, by go_num, by have := HG.out; omega, HO⟩
            · have hql : (xs.length : Int) ≤ q3 := by omega
              have r7 := HQ.out.1.step H7.out.2.1
              have rz := r7.aside HS.out.2 (fun g' e => ⟨HQ.out.1.none (H7b.out g' e).2, by have h1 := (H7b.out g' e).2; have h2 := HQ.out.1.below.size; omega⟩)
              have nbZ := (HS.out.2.same B (Nat.lt_of_lt_of_le HQ.out.2.2 H7.out.2.1.size) (fun e => (H7b.out B e).1 rfl)).trans ((H7.out.2.1.block B HQ.out.2.2).trans HQ.out.2.1)
              have hlook := look_run2 rz (by omega) key env1 (by unfold maxLen; have := HSZ.out.1; omega) (x := x) HK.out.2.2.2
              rw [show (t.tick.ent x).it = itemV key xs from HK.out.2.1] at hlook
              obtain ⟨tt, htt⟩ : ∃ tt, (t.tick.find key env1).2 = tt := ⟨_, rfl⟩
              rw [htt] at hlook
              change Calls _ _ _ _ (fun e w' => ∃ v col', e = .returned (.tuple #[.agg #[.string key, v, .int .u32 0, .int .i64 0, .int .u64 0, .int .i64 0, .int .u64 0, .bool false, .bool false, .bool false], .bool true]) ∧ Run W w' (0 + 1 + 1 + 1) b col' 1 tt ∧ Fr col6 col' wr w' ∧ OwnB w' wr.heap.size v xs ∧ ∀ g, v.ownBlock = some g → col' g = none) at hlook
              have cel := fun j => Mem.row_cell nbZ j
              have q0 := cel 0
              have q1 := cel 1
              have q2 := cel 2
              have q3 := cel 3
              simp only [List.getElem?_toArray, List.getElem?_cons_zero, List.getElem?_cons_succ] at q0 q1 q2 q3
              unfold Env.arr env1 at hlook
              simp only at hlook
              clear cel rz r7 nbZ hq HS HG htt
              go_wp2_with fail
              refine hlook.mono ?_
              rintro e w8 ⟨va8, col8, rfl, r8, -, hrow8, -⟩
              obtain ⟨p8, c8, hva⟩ := Src.shape (Src.of_row hrow8)
              subst hva
              have hb8 : Below w8.heap.size w8 (w8.alloc (.cells #[.string key, .slice p8 xs.length c8, .int .u32 0, .int .i64 0, .int .u64 0, .int .i64 0, .int .u64 0, .bool false, .bool false, .bool false] 31)) := Mem.al (Below.refl _ _) _
              have hcx := conv_any ((SrcB.of_row hrow8).below hb8)
              have hcv := conv_any (HV.out.below (Mem.tr r8.below hb8))
              have H8 := Lib.hid (Mem.tr r8.below hb8)
              clear hlook r8 hrow8 hb8 hql d1 q0 q1 q2 q3
              go_wp2_with fail
              go_ret
              exact ⟨rfl, H8.out⟩
end Go.Proofs.Ytkchlibkfafgdaa.ShardOwn

