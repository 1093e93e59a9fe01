/- KWalkShardKeeps: WalkShardKeeps, one behind the other. -/
import Derived.Test.YtkchlibkfafgdaaPart8
import Derived.StillTailTactics
import Derived.BigQuiet
/- ShardKeeps answers true for every seed, bound, list of calls and second. Conditions: the numbers are of their kinds. -/
namespace Go.Proofs.Ytkchlibkfafgdaa.ShardKeeps
set_option maxRecDepth 100000
open Go Go.RowKit Go.Proofs.Ytkchlibkfafgdaa.Mem Go.Proofs.Ytkchlibkfafgdaa.App Go.Proofs.Ytkchlibkfafgdaa.Ops Go.Proofs.Ytkchlibkfafgdaa.Shard

/-- The item that is stored of a call. -/
def ever (it : Shard.Item) : Shard.Item := { it with exp := 0 }
/-- The keys that were stored. -/
def Kept (l : List Shard.Op) (m : Nat) (k : ByteArray) : Prop := ∃ (j : Nat) (o : Shard.Op), j < m ∧ l[j]? = some o ∧ o.it.key = k ∧ o.it.size ≤ 2048
theorem class_size (z : Int) : Slab.classN z < 6 ↔ z ≤ 2048 := by
  constructor
  · exact size_class
  · intro h
    unfold Slab.classN
    repeat' split
    all_goals omega
theorem kept_step {l : List Shard.Op} {m : Nat} {o : Shard.Op} (h : l[m]? = some o) (hs : o.it.size ≤ 2048) (k : ByteArray) : Kept l (m + 1) k ↔ (Kept l m k ∨ k = o.it.key) := by
  constructor
  · rintro ⟨j, p, hj, hp, hk, hz⟩
    by_cases e : j = m
    · subst e; rw [h] at hp; injection hp with hp; subst hp; exact .inr hk.symm
    · exact .inl ⟨j, p, by omega, hp, hk, hz⟩
  · rintro (⟨j, p, hj, hp, hk, hz⟩ | rfl)
    · exact ⟨j, p, by omega, hp, hk, hz⟩
    · exact ⟨m, o, by omega, h, rfl, hs⟩
theorem kept_same {l : List Shard.Op} {m : Nat} {o : Shard.Op} (h : l[m]? = some o) (hs : ¬ o.it.size ≤ 2048) (k : ByteArray) : Kept l (m + 1) k ↔ Kept l m k := by
  constructor
  · rintro ⟨j, p, hj, hp, hk, hz⟩
    by_cases e : j = m
    · subst e; rw [h] at hp; injection hp with hp; subst hp; exact absurd hz hs
    · exact ⟨j, p, by omega, hp, hk, hz⟩
  · rintro ⟨j, p, hj, hp, hk, hz⟩
    exact ⟨j, p, by omega, hp, hk, hz⟩
theorem keeps_iff {i : Nat} {K K' : ByteArray → Prop} {B : Int} {s : St} (h : Keeps i K B s) (hk : ∀ k, K k ↔ K' k) : Keeps i K' B s := ⟨h.budget, h.len, h.exp, h.drops, fun k => (h.keys k).trans (hk k)⟩
theorem keeps_more {i j : Nat} {K : ByteArray → Prop} {B : Int} {s : St} (h : Keeps i K B s) (hj : i ≤ j) : Keeps j K B s := ⟨h.budget, Nat.le_trans h.len hj, h.exp, h.drops, h.keys⟩
set_option maxHeartbeats 4000000 in
theorem walk (W : World) (seed protect : Int) (x : Option Addr) (n0 c : Nat) (l : List Shard.Op) (now : Int) (hseed : 0 ≤ seed ∧ seed ≤ 18446744073709551615) (_ : -9223372036854775808 ≤ protect ∧ protect ≤ 9223372036854775807) (hl : n0 = l.length ∧ n0 ≤ maxLen ∧ (∀ a ∈ l, OpOk W a) ∧ Lies W 15 encO x l) (hnow : -9223372036854775808 ≤ now ∧ now ≤ 9223372036854775807) :
    Calls Try.prog 3 #[.int .u64 seed, .int .i64 protect, .slice x n0 c, .int .i64 now] W fun e W' => e = .returned (.bool true) ∧ Below W.heap.size W W' := by
  obtain ⟨rfl, hml, hok, hlies⟩ := hl
  unfold maxLen at hml
  have HL := Lib.hid (And.intro hok hlies)
  go_enter Try.func3, Try.ntmps3
  go_wp2_with fail
  refine (awake_any W).mono ?_
  rintro e w1 ⟨rfl, hb1⟩
  have hfew := few_any (c := c) (hlies.same hb1) (by unfold maxLen; exact hml) hok
  have HF : Hid (fewB l = true → l.length ≤ 80 ∧ ∀ o ∈ l, o.it.key.size ≤ 300 ∧ o.it.val.length ≤ 3000) := Lib.hid (by unfold fewB; exact of_decide_eq_true)
  generalize fewB l = q at *
  have HB1 := Lib.hid hb1
  clear hok hlies hb1
  go_wp2_with fail
  refine hfew.mono ?_
  rintro e w2 ⟨rfl, rfl⟩
  clear hfew
  obtain ⟨B, hB⟩ : ∃ B, IntKind.i64.wrap (2048 * (l.length : Int)) = B := ⟨_, rfl⟩
  have hwr := i64_range (2048 * (l.length : Int))
  rw [hB] at hwr
  have hnew := new_run HB1.out seed B protect hseed.1 (by omega) hwr
  have HBB := Lib.hid hB
  clear hwr
  go_wp2_with fail
  clear hB
  refine hnew.mono ?_
  rintro e w3 ⟨b, col, rfl, r3, -, -⟩
  have HR := Lib.hid r3
  clear hnew r3
  cases q with
  | false =>
    go_wp2_with fail
    go_ret
    exact ⟨rfl, HR.out.below⟩
  | true =>
    obtain ⟨h80, hsz⟩ := HF.out rfl
    by_cases h60 : 60 < l.length
    · have h60' : (60 : Int) < l.length := by omega
      clear hml h80 h60
      go_wp2_with fail
      go_ret
      exact ⟨rfl, HR.out.below⟩
    have h60' : (l.length : Int) ≤ 60 := by omega
    by_cases hn1 : now < 1
    · clear hml h80 h60
      go_wp2_with fail
      go_ret
      exact ⟨rfl, HR.out.below⟩
    have hn1' : 1 ≤ now := by omega
    have hBl : B = 2048 * (l.length : Int) := by rw [← HBB.out]; exact i64_same (by omega) (by omega)
    have HSZ := Lib.hid (And.intro hsz (And.intro h60 hBl))
    clear hml h80 h60 hsz hn1 hBl
    go_wp2_with fail
    go_loopg [12, 13, 14, 15] l.length (fun gh i _ _ _ wr => ∃ (m : Nat), i = .int .i64 m ∧ gh + m = l.length ∧ Hid (∃ col s, Run W wr m b col seed s ∧ Keeps m (Kept l m) B s))
    case atStart =>
      refine ⟨0, rfl, by omega, Lib.hid ⟨col, _, HR.out, ⟨rfl, Nat.le_refl _, fun p hp => (by cases hp), rfl, fun k => ⟨fun h => (by cases h), fun h => ?_⟩⟩⟩⟩
      obtain ⟨j, o, hj, -⟩ := h
      omega
    case round =>
      obtain ⟨m, rfl, hg, HS⟩ := hrel
      have HG := Lib.hid hg
      by_cases hm : m < l.length
      · obtain ⟨colr, s, r, hk⟩ := HS.out
        obtain ⟨o, ho⟩ : ∃ o, l[m]? = some o := ⟨_, List.getElem?_eq_getElem hm⟩
        have hop := op_at HL.out.2 HL.out.1 r.below ho
        obtain ⟨Bx, off, rfl, hBx, hc⟩ := hop.at_
        obtain ⟨va, vc, hv⟩ := hop.shape
        have hsrc := hop.src r.below
        have hap := hop.apart (fun k hk => (r.low k hk).1)
        have hz := HSZ.out.1 o (List.mem_of_getElem? ho)
        rw [hv] at hsrc hap
        have c1 := hc 1 _ rfl
        have c2 := hc 2 _ rfl
        have c3 := hc 3 _ rfl
        have c4 := hc 4 _ rfl
        have c5 := hc 5 _ rfl
        have c6 := hc 6 _ rfl
        have c7 := hc 7 _ rfl
        have c8 := hc 8 _ rfl
        have c9 := hc 9 _ rfl
        have c10 := hc 10 _ rfl
        rw [hv] at c2
        have hmi : (m : Int) < l.length := by omega
        have hst := fun w' (hb : Below wr.heap.size wr w') => store_run (r.step hb) (by omega) (ever o.it) va vc ⟨now, 0, 0, 0⟩ hz.1 hz.2 (hsrc.below hb) hap
        have hsz10 := fun w' => rsize_any (ever o.it) va vc w' (by have := hz.1; show o.it.key.size ≤ _; omega) (by have := hz.2; show o.it.val.length ≤ _; omega)
        have HO := Lib.hid (And.intro ho (And.intro r hk))
        clear hc hBx hop hsrc hap hz r hk ho
        have hbx : Below wr.heap.size wr (wr.alloc (.cells ((ever o.it).arr (.slice va o.it.val.length vc)) 31)) := Mem.al (Below.refl _ _) _
        have hst2 := hst _ hbx
        have nb := Mem.new_block wr (.cells ((ever o.it).arr (.slice va o.it.val.length vc)) 31)
        have HBX := Lib.hid (And.intro hbx nb)
        clear hst hbx nb
        go_wp2_with fail
        refine hst2.mono ?_
        rintro e w4 ⟨fresh, hf, rfl, col4, r4, f4⟩
        obtain ⟨ho, r, hk⟩ := HO.out
        have n4 := (f4.keep (by simp) (r.none (Nat.le_refl _))).trans HBX.out.2
        have hsz4 := hsz10 w4
        have hks := hk.store r.inv (env := ⟨now, 0, 0, 0⟩) (it := ever o.it) rfl rfl (by have := HSZ.out.2.2; omega) hf
        have hsame : (ever o.it).size = o.it.size := rfl
        clear hst2 hsz10 HBX
        have cel := fun j => Mem.row_cell n4 j
        have i0 := cel 0
        have i1 := cel 1
        have i2 := cel 2
        have i3 := cel 3
        have i4 := cel 4
        have i5 := cel 5
        have i6 := cel 6
        have i7 := cel 7
        have i8 := cel 8
        have i9 := cel 9
        simp only [ever, Item.arr, List.getElem?_toArray, List.getElem?_cons_zero, List.getElem?_cons_succ] at i0 i1 i2 i3 i4 i5 i6 i7 i8 i9
        clear cel n4
        rw [hsame] at hsz4
        rcases hks with ⟨h6, e6⟩ | ⟨h6, e6, hk6⟩
        · rw [e6] at r4 ⊢
          simp only at r4 ⊢
          have hlong : ¬ o.it.size ≤ 2048 := fun e => by have := (class_size o.it.size).2 e; rw [hsame] at h6; omega
          have hlong2 : 2048 < o.it.size := by omega
          have H4 := Lib.hid (And.intro r4 (keeps_iff (keeps_more hk (Nat.le_succ m)) (fun k => (kept_same ho hlong k).symm)))
          clear e6 h6 hlong hf ho r hk r4 f4
          go_wp2_with fail
          refine hsz4.mono ?_
          rintro e w5 ⟨rfl, hb5⟩
          have H5 := Lib.hid hb5
          clear hsz4 hb5 i0 i1 i2 i3 i4 i5 i6 i7 i8 i9 c1 c2 c3 c4 c5 c6 c7 c8 c9 c10
          go_wp2_with fail
          go_roundg (l.length - (m + 1))
          case measure => have := HG.out; omega
          case rel => exact ⟨m + 1, by go_num, by have := HG.out; omega, Lib.hid ⟨_, _, H4.out.1.step H5.out, H4.out.2⟩⟩
        · obtain ⟨t, ht⟩ : ∃ t, (s.store fresh (ever o.it) ⟨now, 0, 0, 0⟩).2 = t := ⟨_, rfl⟩
          rw [ht] at r4 hk6
          rw [e6]
          have hshort : o.it.size ≤ 2048 := (class_size _).1 h6
          have hlong2 : ¬ (2048 < o.it.size) := by omega
          have H4 := Lib.hid (And.intro r4 (keeps_iff hk6 (fun k => (kept_step ho hshort k).symm)))
          clear e6 h6 hf ho r hk r4 f4 hk6 ht
          go_wp2_with fail
          refine hsz4.mono ?_
          rintro e w5 ⟨rfl, hb5⟩
          have H5 := Lib.hid hb5
          clear hsz4 hb5 i0 i1 i2 i3 i4 i5 i6 i7 i8 i9 c1 c2 c3 c4 c5 c6 c7 c8 c9 c10
          go_wp2_with fail
          go_roundg (l.length - (m + 1))
          case measure => have := HG.out; omega
          case rel => exact ⟨m + 1, by go_num, by have := HG.out; omega, Lib.hid ⟨_, _, H4.out.1.step H5.out, H4.out.2⟩⟩
      · have hml : (l.length : Int) ≤ m := by omega
        have hme : m = l.length := by omega
        obtain ⟨colr, s, r, hk⟩ := HS.out
        rw [hme] at hk r
        have hdr := drops_run r (by omega)
        rw [hk.drops] at hdr
        have HK := Lib.hid hk
        clear hk r hme hm
        go_wp2_with fail
        refine hdr.mono ?_
        rintro e w4 ⟨v4, rfl, ⟨col4, r4, -⟩, hrow4⟩
        obtain ⟨za, zc, hv4⟩ := Src.shape (Src.of_row hrow4)
        subst hv4
        have hk4 : Keeps l.length (Kept l l.length) B ({ s with drops := [] } : St) := ⟨HK.out.budget, HK.out.len, HK.out.exp, rfl, HK.out.keys⟩
        have H4 := Lib.hid (And.intro r4 hk4)
        clear hdr r4 hrow4 hk4 hg HG HS
        go_wp2_with fail
        go_loopg [17, 18, 19, 20, 21] l.length (fun gh i _ _ _ _ wr => ∃ (q : Nat), i = .int .i64 q ∧ gh + q = l.length ∧ Hid (∃ col s, Run W wr (l.length + q + 1) b col seed s ∧ Keeps l.length (Kept l l.length) B s))
        case atStart => exact ⟨0, rfl, by omega, Lib.hid ⟨_, _, H4.out.1.more (by omega) (by omega), H4.out.2⟩⟩
        case round =>
          obtain ⟨q, rfl, hg, HS⟩ := hrel
          have HG := Lib.hid hg
          by_cases hq : q < l.length
          · obtain ⟨colr, s, r, hk⟩ := HS.out
            obtain ⟨o, ho⟩ : ∃ o, l[q]? = some o := ⟨_, List.getElem?_eq_getElem hq⟩
            have hop := op_at HL.out.2 HL.out.1 r.below ho
            obtain ⟨Bx, off, rfl, hBx, hc⟩ := hop.at_
            have c1 := hc 1 _ rfl
            have hz := HSZ.out.1 o (List.mem_of_getElem? ho)
            have hqi : (q : Int) < l.length := by omega
            have hlook := look_run r (by omega) o.it.key ⟨now, 0, 0, 0⟩ (by have := hz.1; unfold maxLen; omega)
            have hfd := hk.find r.inv (env := ⟨now, 0, 0, 0⟩) rfl o.it.key
            have hfo := hk.found r.inv o.it.key
            rw [hfd] at hlook
            obtain ⟨y, hy⟩ : ∃ y, Tab.get s.tab.L o.it.key = y := ⟨_, rfl⟩
            rw [hy] at hlook hfo
            unfold Env.arr at hlook
            have HO := Lib.hid (And.intro ho (And.intro hk hfo))
            clear hc hBx hop hz hk ho hfd hfo r hy
            go_wp2_with fail
            refine hlook.mono ?_
            rintro e w5 ⟨⟨col5, r5, -⟩, hres⟩
            have hk5 : Keeps l.length (Kept l l.length) B s.tick := ⟨HO.out.2.1.budget, HO.out.2.1.len, HO.out.2.1.exp, HO.out.2.1.drops, HO.out.2.1.keys⟩
            have H5 := Lib.hid (And.intro r5 hk5)
            clear hlook r5 hk5
            obtain ⟨it', va', vc', rfl, -⟩ := look_res hres
            obtain ⟨isb, hisb⟩ : ∃ isb, y.isSome = isb := ⟨_, rfl⟩
            rw [hisb]
            have HI : Hid (isb = true ↔ Kept l l.length o.it.key) := Lib.hid (by rw [← hisb]; exact HO.out.2.2)
            unfold Item.arr
            clear hres hisb c1 HS hg
            go_wp2_with fail
            go_loopg [20, 21] l.length (fun gh st k wr => ∃ (q2 : Nat) (bb : Bool), k = .int .i64 q2 ∧ st = .bool bb ∧ gh + q2 = l.length ∧ Hid ((bb = true ↔ Kept l q2 o.it.key) ∧ Below w5.heap.size w5 wr))
            case atStart =>
              refine ⟨0, false, rfl, rfl, by omega, Lib.hid ⟨⟨fun e => (by cases e), fun e => ?_⟩, ?_⟩⟩
              · obtain ⟨j, p, hj, -⟩ := e
                omega
              · exact Mem.al (Below.refl _ _) _
            case round =>
              obtain ⟨q2, bb, rfl, rfl, hg2, HS2⟩ := hrel
              have HG2 := Lib.hid hg2
              clear hg2
              have HBW := Lib.hid (Below.trans H5.out.1.below (HS2.out.2.mono H5.out.1.below.size))
              by_cases hq2 : q2 < l.length
              · obtain ⟨o2, ho2⟩ : ∃ o2, l[q2]? = some o2 := ⟨_, List.getElem?_eq_getElem hq2⟩
                obtain ⟨hBl, hc2⟩ := op_cell HL.out.2 HBW.out ho2
                have c1 := (op_cell HL.out.2 HBW.out HO.out.1).2 1 _ rfl
                have d1 := hc2 1 _ rfl
                have d2 := hc2 2 _ rfl
                have d3 := hc2 3 _ rfl
                have d4 := hc2 4 _ rfl
                have d5 := hc2 5 _ rfl
                have d6 := hc2 6 _ rfl
                have d7 := hc2 7 _ rfl
                have d8 := hc2 8 _ rfl
                have d9 := hc2 9 _ rfl
                have d10 := hc2 10 _ rfl
                obtain ⟨va2, vc2, hv2⟩ := (HL.out.1 o2 (List.mem_of_getElem? ho2)).src.shape
                rw [hv2] at d2
                have hz2 := HSZ.out.1 o2 (List.mem_of_getElem? ho2)
                have hq2i : (q2 : Int) < l.length := by omega
                have HO2 := Lib.hid ho2
                clear hc2 ho2 hv2
                cases bb with
                | true =>
                  go_wp2_with fail
                  go_quiet (fail)
                  clear d1 d2 d3 d4 d5 d6 d7 d8 d9 d10 c1 hBl
                  go_wp2_with fail
                  go_roundg (l.length - (q2 + 1))
                  case measure => have := HG2.out; omega
                  case rel =>
                    refine ⟨q2 + 1, true, by go_num, rfl, by have := HG2.out; omega, Lib.hid ⟨⟨fun _ => ?_, fun _ => rfl⟩, Mem.tr HS2.out.2 (Mem.dn (Below.refl _ _) _)⟩⟩
                    obtain ⟨j, p, hj, hp⟩ := HS2.out.1.1 (by trivial)
                    exact ⟨j, p, by omega, hp⟩
                | false =>
                  by_cases hke : o2.it.key = o.it.key
                  · have hkc := HO2.out
                    rw [← hke] at c1
                    have hszc := fun w' => rsize_any o2.it va2 vc2 w' (by have := hz2.1; omega) (by have := hz2.2; omega)
                    unfold Item.arr at hszc
                    have HKE := Lib.hid hke
                    clear hke hkc
                    go_wp2_with fail
                    go_region_held3 (fun W' : World => W'.cell? ⟨Bx, off + q2 * 15 + 1, none⟩ = some (.string o2.it.key) ∧ W'.cell? ⟨Bx, off + q2 * 15 + 2, none⟩ = some (.slice va2 o2.it.val.length vc2) ∧ W'.cell? ⟨Bx, off + q2 * 15 + 3, none⟩ = some (.int .u32 o2.it.flags) ∧ W'.cell? ⟨Bx, off + q2 * 15 + 4, none⟩ = some (.int .i64 o2.it.exp) ∧ W'.cell? ⟨Bx, off + q2 * 15 + 5, none⟩ = some (.int .u64 o2.it.cas) ∧ W'.cell? ⟨Bx, off + q2 * 15 + 6, none⟩ = some (.int .i64 o2.it.sec) ∧ W'.cell? ⟨Bx, off + q2 * 15 + 7, none⟩ = some (.int .u64 o2.it.seq) ∧ W'.cell? ⟨Bx, off + q2 * 15 + 8, none⟩ = some (.bool o2.it.stale) ∧ W'.cell? ⟨Bx, off + q2 * 15 + 9, none⟩ = some (.bool o2.it.won) ∧ W'.cell? ⟨Bx, off + q2 * 15 + 10, none⟩ = some (.bool o2.it.seen) ∧ W'.cell? ⟨Bx, off + q * 15 + 1, none⟩ = some (.string o2.it.key))
                      (first
                        | exact ⟨d1, d2, d3, d4, d5, d6, d7, d8, d9, d10, c1⟩
                        | exact ⟨(World.cell?_of_block (a := ⟨Bx, off + q2 * 15 + 1, none⟩) (hbS.block Bx hBl)).trans d1, (World.cell?_of_block (a := ⟨Bx, off + q2 * 15 + 2, none⟩) (hbS.block Bx hBl)).trans d2, (World.cell?_of_block (a := ⟨Bx, off + q2 * 15 + 3, none⟩) (hbS.block Bx hBl)).trans d3, (World.cell?_of_block (a := ⟨Bx, off + q2 * 15 + 4, none⟩) (hbS.block Bx hBl)).trans d4, (World.cell?_of_block (a := ⟨Bx, off + q2 * 15 + 5, none⟩) (hbS.block Bx hBl)).trans d5, (World.cell?_of_block (a := ⟨Bx, off + q2 * 15 + 6, none⟩) (hbS.block Bx hBl)).trans d6, (World.cell?_of_block (a := ⟨Bx, off + q2 * 15 + 7, none⟩) (hbS.block Bx hBl)).trans d7, (World.cell?_of_block (a := ⟨Bx, off + q2 * 15 + 8, none⟩) (hbS.block Bx hBl)).trans d8, (World.cell?_of_block (a := ⟨Bx, off + q2 * 15 + 9, none⟩) (hbS.block Bx hBl)).trans d9, (World.cell?_of_block (a := ⟨Bx, off + q2 * 15 + 10, none⟩) (hbS.block Bx hBl)).trans d10, (World.cell?_of_block (a := ⟨Bx, off + q * 15 + 1, none⟩) (hbS.block Bx hBl)).trans c1⟩)
                      (first
                        | (go_at_call 13; refine (hszc _).mono ?_; rintro en wS ⟨rfl, hbS⟩))
                    have H9 := Lib.hid hbS
                    clear hbS d1 d2 d3 d4 d5 d6 d7 d8 d9 d10 c1 hBl hszc
                    go_wp2_with fail
                    go_roundg (l.length - (q2 + 1))
                    case measure => have := HG2.out; omega
                    case rel =>
                      refine ⟨q2 + 1, decide (o2.it.size ≤ 2048), by go_num, rfl, by have := HG2.out; omega, Lib.hid ⟨⟨fun e => ⟨q2, o2, by omega, HO2.out, HKE.out, of_decide_eq_true e⟩, fun e => ?_⟩, Mem.tr HS2.out.2 (Mem.tr (Below.drew (Below.refl _ _)) H9.out)⟩⟩
                      obtain ⟨j, p, hj, hp, hpk⟩ := e
                      by_cases ej : j = q2
                      · subst ej; rw [HO2.out] at hp; injection hp with hp; subst hp; exact decide_eq_true hpk.2
                      · exact absurd (HS2.out.1.2 ⟨j, p, by omega, hp, hpk⟩) (by simp)
                  · have hne : (o2.it.key.toList == o.it.key.toList) = false := str_ne hke
                    have HKE := Lib.hid hke
                    clear hke
                    go_wp2_with fail
                    go_quiet (fail)
                    clear d1 d2 d3 d4 d5 d6 d7 d8 d9 d10 c1 hBl hne
                    go_wp2_with fail
                    go_roundg (l.length - (q2 + 1))
                    case measure => have := HG2.out; omega
                    case rel =>
                      refine ⟨q2 + 1, false, by go_num, rfl, by have := HG2.out; omega, Lib.hid ⟨⟨fun e => (by cases e), fun e => ?_⟩, Mem.tr HS2.out.2 (Mem.dn (Below.refl _ _) _)⟩⟩
                      obtain ⟨j, p, hj, hp, hpk⟩ := e
                      by_cases ej : j = q2
                      · subst ej; rw [HO2.out] at hp; injection hp with hp; subst hp; exact absurd hpk.1 HKE.out
                      · exact HS2.out.1.2 ⟨j, p, by omega, hp, hpk⟩
              · have hq2l : (l.length : Int) ≤ q2 := by omega
                have hq2e : q2 = l.length := by have := HG2.out; omega
                have hbb : bb = isb := by
                  have h1 := HS2.out.1
                  rw [hq2e] at h1
                  exact Bool.eq_iff_iff.2 (h1.trans HI.out.symm)
                subst hbb
                have H6 := Lib.hid (And.intro (H5.out.1.step HS2.out.2) H5.out.2)
                clear hq2e hq2
                go_wp2_with fail
                go_roundg (l.length - (q + 1))
                case measure => have := HG.out; omega
                case rel => exact ⟨q + 1, by go_num, by have := HG.out; omega, Lib.hid ⟨_, _, H6.out.1, H6.out.2⟩⟩
          · have hql : (l.length : Int) ≤ q := by omega
            obtain ⟨colr, s, r, hk⟩ := HS.out
            have HRB := Lib.hid r.below
            clear r hk HS hg
            go_wp2_with fail
            go_ret
            exact ⟨rfl, HRB.out⟩
end Go.Proofs.Ytkchlibkfafgdaa.ShardKeeps

