/- KWalkRouteNumbers: WalkRouteNumbers, one behind the other. -/
import Derived.Test.YtpghckiochjogaaGreatDoorPart37
import Derived.StillTailTactics
import Derived.BigQuiet
/- RouteNumbers answers true for every seed, number of shards, budget and list of commands. Conditions: the numbers are of their kinds. -/
namespace Go.Proofs.YtpghckiochjogaaGreatDoor.RouteNumbers
set_option maxRecDepth 100000
open Go Go.RowKit Go.Proofs.YtpghckiochjogaaGreatDoor.Mem Go.Proofs.YtpghckiochjogaaGreatDoor.App Go.Proofs.YtpghckiochjogaaGreatDoor.Ops Go.Proofs.YtpghckiochjogaaGreatDoor.Shard Go.Proofs.YtpghckiochjogaaGreatDoor.Exec Go.Proofs.YtpghckiochjogaaGreatDoor.Route
set_option maxHeartbeats 4000000 in
theorem walk (W : World) (hp : Pows W) (he : Errs W) (seed shards budget : Int) (x : Option Addr) (n0 c : Nat) (l : List Route.Op) (hseed : isU seed) (_hsh : isI shards) (hbud : isI budget) (hl : n0 = l.length ∧ n0 ≤ maxLen ∧ (∀ a ∈ l, Route.OpOk W a) ∧ Lies W 11 Route.encO x l) :
    Calls Tryz.prog 3 #[.int .u64 seed, .int .i64 shards, .int .i64 budget, .slice x n0 c] W fun e W' => e = .returned (.bool true) ∧ Below W.heap.size W W' := by
  obtain ⟨rfl, hml, hok, hlies⟩ := hl
  have HW := Lib.hid (And.intro hp he)
  have HL0 := Lib.hid (And.intro hok (And.intro hlies (And.intro hml hseed)))
  unfold isU at hseed
  have hs2 : 0 ≤ seed ∧ seed < 18446744073709551616 := by omega
  have HS2 := Lib.hid hs2
  clear hml hok hlies hp he hseed hs2
  go_enter Tryz.func3, Tryz.ntmps3
  go_wp2_with fail
  refine (awake_any W HW.out.1 HW.out.2).mono ?_
  rintro e w1 ⟨rfl, hb1⟩
  have hfew := few_any (c := c) (HL0.out.2.1.same hb1) HL0.out.2.2.1 HL0.out.1
  obtain ⟨q, hq⟩ : ∃ q, fewB l = q := ⟨_, rfl⟩
  rw [hq] at hfew
  have HQ := Lib.hid hq
  have H1 := Lib.hid hb1
  clear hb1 hq
  go_wp2_with fail
  refine hfew.mono ?_
  rintro e w2 ⟨rfl, hb2⟩
  have hnw := new_any (Mem.tr H1.out hb2) seed shards budget 3 HS2.out (by unfold isI at hbud; omega)
  have H2 := Lib.hid (Mem.tr H1.out hb2)
  clear hfew hb2
  go_wp2_with fail
  refine hnw.mono ?_
  rintro e w3 ⟨hb3, ⟨hno, rfl⟩ | ⟨hyes, sb, rfl, hsb, hS⟩⟩
  · have H3 := Lib.hid (Mem.tr H2.out hb3)
    clear hnw hno hb3
    cases q
    all_goals (go_wp2_with fail; go_ret; exact ⟨rfl, H3.out⟩)
  have H3 := Lib.hid (Mem.tr H2.out hb3)
  have HY := Lib.hid hyes
  have HS := Lib.hid hS
  clear hnw hb3 hyes hS hsb
  cases q with
  | false =>
    go_wp2_with fail
    go_ret
    exact ⟨rfl, H3.out⟩
  | true =>
    go_wp2_with fail
    have HLN := Lib.hid (few_of HQ.out)
    have hlen : (l.length : Int) ≤ 80 := by have := HLN.out.1; omega
    go_loopg [13, 14, 15] l.length (fun g lv i _ wr => ∃ (m : Nat) (la : Int) (r : RS), lv = .int .u64 la ∧ i = .int .i64 m ∧ g + m = l.length ∧ Hid (SM W wr (2 * m) sb r [] ∧ r.seq = m ∧ 0 ≤ la ∧ la ≤ m))
    case atStart => exact ⟨0, 0, _, rfl, rfl, by omega, Lib.hid ⟨HS.out, rfl, Int.le_refl _, Int.le_refl _⟩⟩
    case round =>
      obtain ⟨m, la, r, rfl, rfl, hg, hs⟩ := hrel
      have HG := Lib.hid hg
      clear hg
      by_cases hm : m < l.length
      · obtain ⟨o, ho⟩ : ∃ o, l[m]? = some o := ⟨_, List.getElem?_eq_getElem hm⟩
        have hmem := List.mem_of_getElem? ho
        obtain ⟨B, off, va, vc, rfl, hv, hS⟩ := op_cells HL0.out.2.1 ho (HL0.out.1 o hmem)
        have hS0 := hS _ hs.out.1.low
        have hSd := hS _ (Below.drew hs.out.1.low)
        have hdB : Calls Tryz.prog 11 #[.pointer (some ⟨sb, 0, none⟩), .agg #[.int .i64 o.cmd.op, .string o.cmd.key, .slice va o.cmd.val.length vc, .int .u32 o.cmd.flags, .int .i64 o.cmd.exp, .int .u64 o.cmd.cas, .int .u64 o.cmd.delta, .int .u64 o.cmd.initial, .bool o.cmd.makes, .bool o.cmd.sets], .int .i64 o.now] wr.drew (fun e w6 => ∃ (x : Res) (dl : List ByteArray) (r' : RS) (ra : Option Addr) (rn rk : Nat) (da : Option Addr) (dn dk : Nat), Hid (r.Step o.cmd o.now x dl r') ∧ e = .returned (.agg #[.int .i64 0, .int .i64 o.cmd.op, .string o.cmd.key, .slice va o.cmd.val.length vc, .int .u32 o.cmd.flags, .int .i64 o.cmd.exp, .int .u64 o.cmd.cas, .int .u64 o.cmd.delta, .int .u64 o.cmd.initial, .bool o.cmd.makes, .bool o.cmd.sets, .int .i64 o.now, .int .u64 m, .int .i64 r.flush, .int .u64 r.flushSeq, .int .i64 x.status, .slice ra rn rk, .int .u32 x.flags, .int .u64 x.cas, .int .i64 x.ttl, .int .u64 x.number, .bool x.stale, .bool x.won, .bool x.lost, .slice da dn dk]) ∧ Hid (SM W w6 (2 * m + 2) sb r' [])) := (do_op (hs.out.1.below (Below.drew (Below.refl _ _))) (by have := HLN.out.1; omega) HW.out.1 HW.out.2 (HL0.out.1 o hmem) (HLN.out.2 o hmem).1 hv o.now).mono fun e w6 ⟨x, dl, r', ra, rn, rk, da, dn, dk, ys, hst, he, hL, _⟩ => ⟨x, dl, r', ra, rn, rk, da, dn, dk, Lib.hid hst, by rw [he, ← hs.out.2.1]; rfl, Lib.hid hL.bare⟩
        have hA0 := (hs.out.1.alloc (.cells #[.int .i64 0, .int .i64 0, .string ⟨#[]⟩, .slice none 0 0, .int .u32 0, .int .i64 0, .int .u64 0, .int .u64 0, .int .u64 0, .bool false, .bool false, .int .i64 0, .int .u64 0, .int .i64 0, .int .u64 0, .int .i64 0, .slice none 0 0, .int .u32 0, .int .u64 0, .int .i64 0, .int .u64 0, .bool false, .bool false, .bool false, .slice none 0 0] 40)).below (Below.drew (Below.refl _ _))
        have hdA : Calls Tryz.prog 11 #[.pointer (some ⟨sb, 0, none⟩), .agg #[.int .i64 o.cmd.op, .string o.cmd.key, .slice va o.cmd.val.length vc, .int .u32 o.cmd.flags, .int .i64 o.cmd.exp, .int .u64 o.cmd.cas, .int .u64 o.cmd.delta, .int .u64 o.cmd.initial, .bool o.cmd.makes, .bool o.cmd.sets], .int .i64 o.now] (wr.alloc (.cells #[.int .i64 0, .int .i64 0, .string ⟨#[]⟩, .slice none 0 0, .int .u32 0, .int .i64 0, .int .u64 0, .int .u64 0, .int .u64 0, .bool false, .bool false, .int .i64 0, .int .u64 0, .int .i64 0, .int .u64 0, .int .i64 0, .slice none 0 0, .int .u32 0, .int .u64 0, .int .i64 0, .int .u64 0, .bool false, .bool false, .bool false, .slice none 0 0] 40)).drew (fun e w6 => ∃ (x : Res) (dl : List ByteArray) (r' : RS) (ra : Option Addr) (rn rk : Nat) (da : Option Addr) (dn dk : Nat), Hid (r.Step o.cmd o.now x dl r') ∧ e = .returned (.agg #[.int .i64 0, .int .i64 o.cmd.op, .string o.cmd.key, .slice va o.cmd.val.length vc, .int .u32 o.cmd.flags, .int .i64 o.cmd.exp, .int .u64 o.cmd.cas, .int .u64 o.cmd.delta, .int .u64 o.cmd.initial, .bool o.cmd.makes, .bool o.cmd.sets, .int .i64 o.now, .int .u64 m, .int .i64 r.flush, .int .u64 r.flushSeq, .int .i64 x.status, .slice ra rn rk, .int .u32 x.flags, .int .u64 x.cas, .int .i64 x.ttl, .int .u64 x.number, .bool x.stale, .bool x.won, .bool x.lost, .slice da dn dk]) ∧ Hid (SM W w6 (2 * m + 2) sb r' [(wr.heap.size, .cells #[.int .i64 0, .int .i64 0, .string ⟨#[]⟩, .slice none 0 0, .int .u32 0, .int .i64 0, .int .u64 0, .int .u64 0, .int .u64 0, .bool false, .bool false, .int .i64 0, .int .u64 0, .int .i64 0, .int .u64 0, .int .i64 0, .slice none 0 0, .int .u32 0, .int .u64 0, .int .i64 0, .int .u64 0, .bool false, .bool false, .bool false, .slice none 0 0] 40)])) := (do_op hA0 (by have := HLN.out.1; omega) HW.out.1 HW.out.2 (HL0.out.1 o hmem) (HLN.out.2 o hmem).1 hv o.now).mono fun e w6 ⟨x, dl, r', ra, rn, rk, da, dn, dk, ys, hst, he, hL, _⟩ => ⟨x, dl, r', ra, rn, rk, da, dn, dk, Lib.hid hst, by rw [he, ← hs.out.2.1]; rfl, Lib.hid (hL.sub fun p hp => List.mem_append_left _ hp)⟩
        have HDB := Lib.hid hdB
        have HDA := Lib.hid hdA
        have HA0 := Lib.hid hA0
        have hmi : (m : Int) < l.length := by omega
        unfold CmdAt at hS hS0 hSd
        have HO := Lib.hid hS
        obtain ⟨c0, c1, c2, c3, c4, c5, c6, c7, c8, c9, c10⟩ := hS0
        clear ho hv hmem hS hdB hdA hA0
        go_upto_region 10 with (fail)
        go_cut [15] from 54 to 66 (fun p wx => ∃ (d : Nat) (x : Res) (dl : List ByteArray) (r' : RS) (ra : Option Addr) (rn rk : Nat) (da : Option Addr) (dn dk : Nat), p = .pointer (some ⟨d, 0, none⟩) ∧ Hid (SM W wx (2 * m + 2) sb r' [(d, .cells #[.int .i64 0, .int .i64 o.cmd.op, .string o.cmd.key, .slice va o.cmd.val.length vc, .int .u32 o.cmd.flags, .int .i64 o.cmd.exp, .int .u64 o.cmd.cas, .int .u64 o.cmd.delta, .int .u64 o.cmd.initial, .bool o.cmd.makes, .bool o.cmd.sets, .int .i64 o.now, .int .u64 m, .int .i64 r.flush, .int .u64 r.flushSeq, .int .i64 x.status, .slice ra rn rk, .int .u32 x.flags, .int .u64 x.cas, .int .i64 x.ttl, .int .u64 x.number, .bool x.stale, .bool x.won, .bool x.lost, .slice da dn dk] 40)] ∧ Hid (r.Step o.cmd o.now x dl r')))
        case first =>
          refine wp_region_held_drew (S := (fun W' : World => W'.cell? ⟨B, off + m * 11, none⟩ = some (.int .i64 o.cmd.op) ∧ W'.cell? ⟨B, off + m * 11 + 1, none⟩ = some (.string o.cmd.key) ∧ W'.cell? ⟨B, off + m * 11 + 2, none⟩ = some (.slice va o.cmd.val.length vc) ∧ W'.cell? ⟨B, off + m * 11 + 3, none⟩ = some (.int .u32 o.cmd.flags) ∧ W'.cell? ⟨B, off + m * 11 + 4, none⟩ = some (.int .i64 o.cmd.exp) ∧ W'.cell? ⟨B, off + m * 11 + 5, none⟩ = some (.int .u64 o.cmd.cas) ∧ W'.cell? ⟨B, off + m * 11 + 6, none⟩ = some (.int .u64 o.cmd.delta) ∧ W'.cell? ⟨B, off + m * 11 + 7, none⟩ = some (.int .u64 o.cmd.initial) ∧ W'.cell? ⟨B, off + m * 11 + 8, none⟩ = some (.bool o.cmd.makes) ∧ W'.cell? ⟨B, off + m * 11 + 9, none⟩ = some (.bool o.cmd.sets) ∧ W'.cell? ⟨B, off + m * 11 + 10, none⟩ = some (.int .i64 o.now))) (by kernel_rfl) (by with_reducible exact hSd) (fun hHeld => ?_)
          refine wpAnyH_take (i := 0) (v := ?_) rfl (by kernel_rfl) (by kernel_rfl) (by kernel_rfl) (fun _ _ _ h => h) (Or.inl ⟨by rfl, ?_⟩) (by assumption) ?_
          rotate_left 1
          · (intro ww hSw; (try dsimp only at hSw); go_simp; (try with_reducible rfl))
          try simp only [Act.put, List.setIfInBounds_toArray, List.set_cons_zero, List.set_cons_succ, List.getElem_toArray, List.getElem_cons_zero]
          refine wpAnyH_take (i := 1) (v := ?_) rfl (by kernel_rfl) (by kernel_rfl) (by kernel_rfl) (fun _ _ _ h => h) (Or.inl ⟨by rfl, ?_⟩) (by assumption) ?_
          rotate_left 1
          · (intro ww hSw; (try dsimp only at hSw); go_simp; (try with_reducible rfl))
          try simp only [Act.put, List.setIfInBounds_toArray, List.set_cons_zero, List.set_cons_succ, List.getElem_toArray, List.getElem_cons_succ, List.getElem_cons_zero]
          refine wpAnyH_take (i := 2) (v := ?_) rfl (by kernel_rfl) (by kernel_rfl) (by kernel_rfl) (fun _ _ _ h => h) (Or.inl ⟨by rfl, ?_⟩) (by assumption) ?_
          rotate_left 1
          · (intro ww hSw; (try dsimp only at hSw); go_simp; (try with_reducible rfl))
          try simp only [Act.put, List.setIfInBounds_toArray, List.set_cons_zero, List.set_cons_succ, List.getElem_toArray, List.getElem_cons_succ, List.getElem_cons_zero]
          refine wpAnyH_take (i := 3) (v := ?_) rfl (by kernel_rfl) (by kernel_rfl) (by kernel_rfl) (fun _ _ _ h => h) (Or.inl ⟨by rfl, ?_⟩) (by assumption) ?_
          rotate_left 1
          · (intro ww hSw; (try dsimp only at hSw); go_simp; (try with_reducible rfl))
          try simp only [Act.put, List.setIfInBounds_toArray, List.set_cons_zero, List.set_cons_succ, List.getElem_toArray, List.getElem_cons_succ, List.getElem_cons_zero]
          refine wpAnyH_take (i := 4) (v := ?_) rfl (by kernel_rfl) (by kernel_rfl) (by kernel_rfl) (fun _ _ _ h => h) (Or.inl ⟨by rfl, ?_⟩) (by assumption) ?_
          rotate_left 1
          · (intro ww hSw; (try dsimp only at hSw); go_simp; (try with_reducible rfl))
          try simp only [Act.put, List.setIfInBounds_toArray, List.set_cons_zero, List.set_cons_succ, List.getElem_toArray, List.getElem_cons_succ, List.getElem_cons_zero]
          refine wpAnyH_take (i := 5) (v := ?_) rfl (by kernel_rfl) (by kernel_rfl) (by kernel_rfl) (fun _ _ _ h => h) (Or.inl ⟨by rfl, ?_⟩) (by assumption) ?_
          rotate_left 1
          · (intro ww hSw; (try dsimp only at hSw); go_simp; (try with_reducible rfl))
          try simp only [Act.put, List.setIfInBounds_toArray, List.set_cons_zero, List.set_cons_succ, List.getElem_toArray, List.getElem_cons_succ, List.getElem_cons_zero]
          refine wpAnyH_take (i := 6) (v := ?_) rfl (by kernel_rfl) (by kernel_rfl) (by kernel_rfl) (fun _ _ _ h => h) (Or.inl ⟨by rfl, ?_⟩) (by assumption) ?_
          rotate_left 1
          · (intro ww hSw; (try dsimp only at hSw); go_simp; (try with_reducible rfl))
          try simp only [Act.put, List.setIfInBounds_toArray, List.set_cons_zero, List.set_cons_succ, List.getElem_toArray, List.getElem_cons_succ, List.getElem_cons_zero]
          refine wpAnyH_take (i := 7) (v := ?_) rfl (by kernel_rfl) (by kernel_rfl) (by kernel_rfl) (fun _ _ _ h => h) (Or.inl ⟨by rfl, ?_⟩) (by assumption) ?_
          rotate_left 1
          · (intro ww hSw; (try dsimp only at hSw); go_simp; (try with_reducible rfl))
          try simp only [Act.put, List.setIfInBounds_toArray, List.set_cons_zero, List.set_cons_succ, List.getElem_toArray, List.getElem_cons_succ, List.getElem_cons_zero]
          refine wpAnyH_take (i := 8) (v := ?_) rfl (by kernel_rfl) (by kernel_rfl) (by kernel_rfl) (fun _ _ _ h => h) (Or.inl ⟨by rfl, ?_⟩) (by assumption) ?_
          rotate_left 1
          · (intro ww hSw; (try dsimp only at hSw); go_simp; (try with_reducible rfl))
          try simp only [Act.put, List.setIfInBounds_toArray, List.set_cons_zero, List.set_cons_succ, List.getElem_toArray, List.getElem_cons_succ, List.getElem_cons_zero]
          refine wpAnyH_take (i := 9) (v := ?_) rfl (by kernel_rfl) (by kernel_rfl) (by kernel_rfl) (fun _ _ _ h => h) (Or.inl ⟨by rfl, ?_⟩) (by assumption) ?_
          rotate_left 1
          · (intro ww hSw; (try dsimp only at hSw); go_simp; (try with_reducible rfl))
          try simp only [Act.put, List.setIfInBounds_toArray, List.set_cons_zero, List.set_cons_succ, List.getElem_toArray, List.getElem_cons_succ, List.getElem_cons_zero]
          refine wpAnyH_take (i := 10) (v := ?_) rfl (by kernel_rfl) (by kernel_rfl) (by kernel_rfl) (fun _ _ _ h => h) (Or.inl ⟨by rfl, ?_⟩) (by assumption) ?_
          rotate_left 1
          · (intro ww hSw; (try dsimp only at hSw); go_simp; (try with_reducible rfl))
          try simp only [Act.put, List.setIfInBounds_toArray, List.set_cons_zero, List.set_cons_succ, List.getElem_toArray, List.getElem_cons_succ, List.getElem_cons_zero]
          refine wpAnyH_ready (rs := [11, 12]) (by kernel_rfl) (by simp) ?_
          refine AllReadyH.cons rfl (fun K hK => ?_) (AllReadyH.cons rfl (fun K hK => ?_) AllReadyH.nil)
          · skip
            rw [if_pos (by rfl)]
            go_simp
            go_at_call 11; refine HDB.out.mono ?_; rintro en w6 ⟨x, dl, r', ra, rn, rk, da, dn, dk, hst, rfl, H6⟩
            go_wp2_with fail
            refine hK.out _ _ (by exact HO.out _ H6.out.low) (fun hHeld => ?_)
            clear hK K
            try simp only [Act.put, List.setIfInBounds_toArray, List.set_cons_zero, List.set_cons_succ, List.getElem_toArray, List.getElem_cons_succ, List.getElem_cons_zero]
            refine wpAnyH_ready (rs := [12]) (by kernel_rfl) (by simp) ?_
            refine AllReadyH.cons rfl (fun K hK => ?_) AllReadyH.nil
            go_simp
            refine hK.out _ _ (by exact HO.out _ (H6.out.bare.alloc _).low) (fun hHeld => ?_)
            clear hK K
            try simp only [Act.put, List.setIfInBounds_toArray, List.set_cons_zero, List.set_cons_succ, List.getElem_toArray, List.getElem_cons_succ, List.getElem_cons_zero]
            refine wpAnyH_ready (rs := [13]) (by kernel_rfl) (by simp) ?_
            refine AllReadyH.cons rfl (fun K hK => ?_) AllReadyH.nil
            rw [if_pos (by rfl)]
            refine wp_store_row 40 _ _ rfl w6.heap.size #[.int .i64 0, .int .i64 o.cmd.op, .string o.cmd.key, .slice va o.cmd.val.length vc, .int .u32 o.cmd.flags, .int .i64 o.cmd.exp, .int .u64 o.cmd.cas, .int .u64 o.cmd.delta, .int .u64 o.cmd.initial, .bool o.cmd.makes, .bool o.cmd.sets, .int .i64 o.now, .int .u64 m, .int .i64 r.flush, .int .u64 r.flushSeq, .int .i64 x.status, .slice ra rn rk, .int .u32 x.flags, .int .u64 x.cas, .int .i64 x.ttl, .int .u64 x.number, .bool x.stale, .bool x.won, .bool x.lost, .slice da dn dk] rfl rfl 40 #[.int .i64 0, .int .i64 0, .string ⟨#[]⟩, .slice none 0 0, .int .u32 0, .int .i64 0, .int .u64 0, .int .u64 0, .int .u64 0, .bool false, .bool false, .int .i64 0, .int .u64 0, .int .i64 0, .int .u64 0, .int .i64 0, .slice none 0 0, .int .u32 0, .int .u64 0, .int .i64 0, .int .u64 0, .bool false, .bool false, .bool false, .slice none 0 0] (Mem.new_block w6 _) done_sz rfl (done_one o.cmd va o.cmd.val.length vc ⟨o.now, m, r.flush, r.flushSeq⟩ x ra rn rk da dn dk) ?_
            refine hK.out _ _ (by exact HO.out _ (H6.out.bare.fresh _ _ _).low) (fun hHeld => ?_)
            clear hK K
            try simp only [Act.put, List.getElem_toArray, List.getElem_cons_succ, List.getElem_cons_zero]
            refine wpAnyH_done (by kernel_rfl) ?_ _
            go_wp2_with fail
            go_meet
            exact ⟨w6.heap.size, x, dl, r', ra, rn, rk, da, dn, dk, rfl, Lib.hid ⟨H6.out.bare.fresh _ _ _, hst⟩⟩
          · skip
            go_simp
            refine hK.out _ _ (by exact HO.out _ HA0.out.low) (fun hHeld => ?_)
            clear hK K
            try simp only [Act.put, List.setIfInBounds_toArray, List.set_cons_zero, List.set_cons_succ, List.getElem_toArray, List.getElem_cons_succ, List.getElem_cons_zero]
            refine wpAnyH_ready (rs := [11]) (by kernel_rfl) (by simp) ?_
            refine AllReadyH.cons rfl (fun K hK => ?_) AllReadyH.nil
            rw [if_pos (by rfl)]
            go_simp
            go_at_call 11; refine HDA.out.mono ?_; rintro en w6 ⟨x, dl, r', ra, rn, rk, da, dn, dk, hst, rfl, H6⟩
            go_wp2_with fail
            refine hK.out _ _ (by exact HO.out _ H6.out.low) (fun hHeld => ?_)
            clear hK K
            try simp only [Act.put, List.setIfInBounds_toArray, List.set_cons_zero, List.set_cons_succ, List.getElem_toArray, List.getElem_cons_succ, List.getElem_cons_zero]
            refine wpAnyH_ready (rs := [13]) (by kernel_rfl) (by simp) ?_
            refine AllReadyH.cons rfl (fun K hK => ?_) AllReadyH.nil
            rw [if_pos (by rfl)]
            refine wp_store_row 40 _ _ rfl wr.heap.size #[.int .i64 0, .int .i64 o.cmd.op, .string o.cmd.key, .slice va o.cmd.val.length vc, .int .u32 o.cmd.flags, .int .i64 o.cmd.exp, .int .u64 o.cmd.cas, .int .u64 o.cmd.delta, .int .u64 o.cmd.initial, .bool o.cmd.makes, .bool o.cmd.sets, .int .i64 o.now, .int .u64 m, .int .i64 r.flush, .int .u64 r.flushSeq, .int .i64 x.status, .slice ra rn rk, .int .u32 x.flags, .int .u64 x.cas, .int .i64 x.ttl, .int .u64 x.number, .bool x.stale, .bool x.won, .bool x.lost, .slice da dn dk] rfl rfl 40 #[.int .i64 0, .int .i64 0, .string ⟨#[]⟩, .slice none 0 0, .int .u32 0, .int .i64 0, .int .u64 0, .int .u64 0, .int .u64 0, .bool false, .bool false, .int .i64 0, .int .u64 0, .int .i64 0, .int .u64 0, .int .i64 0, .slice none 0 0, .int .u32 0, .int .u64 0, .int .i64 0, .int .u64 0, .bool false, .bool false, .bool false, .slice none 0 0] (H6.out.row (List.mem_cons_self ..)) done_sz rfl (done_one o.cmd va o.cmd.val.length vc ⟨o.now, m, r.flush, r.flushSeq⟩ x ra rn rk da dn dk) ?_
            refine hK.out _ _ (by exact HO.out _ (H6.out.setRow _).low) (fun hHeld => ?_)
            clear hK K
            try simp only [Act.put, List.getElem_toArray, List.getElem_cons_succ, List.getElem_cons_zero]
            refine wpAnyH_done (by kernel_rfl) ?_ _
            go_wp2_with fail
            go_meet
            exact ⟨wr.heap.size, x, dl, r', ra, rn, rk, da, dn, dk, rfl, Lib.hid ⟨H6.out.setRow _, hst⟩⟩
        case rest =>
          obtain ⟨d, x, dl, r', ra, rn, rk, da, dn, dk, rfl, H6⟩ := hcut
          have hrow := H6.out.1.row (List.mem_cons_self ..)
          have d0 : wc.cell? ⟨d, 0, none⟩ = some (.int .i64 0) := Mem.row_cell hrow 0
          have d12 : wc.cell? ⟨d, 12, none⟩ = some (.int .u64 m) := Mem.row_cell hrow 12
          have d15 : wc.cell? ⟨d, 15, none⟩ = some (.int .i64 x.status) := Mem.row_cell hrow 15
          have d18 : wc.cell? ⟨d, 18, none⟩ = some (.int .u64 x.cas) := Mem.row_cell hrow 18
          have hcas : x.status = 2 ∨ x.status = 7 → x.cas = m + 1 := fun h => (H6.out.2.out.cas h).trans (by rw [hs.out.2.1]; exact wrap_succ (by omega) (by have := HLN.out.1; omega))
          have hseq : r'.seq = (m : Int) + 1 := H6.out.2.out.seq.trans (by rw [hs.out.2.1]; exact wrap_succ (by omega) (by have := HLN.out.1; omega))
          have HC := Lib.hid (And.intro hcas hseq)
          have hw : IntKind.u64.wrap ((m : Int) + 1) = m + 1 := wrap_succ (by omega) (by omega)
          have hwm : IntKind.u64.wrap (m : Int) = m := wrap_id (by omega) (by omega)
          have hla := hs.out.2.2.2
          have hlt : decide ((m : Int) + 1 ≤ la) = false := decide_eq_false (by omega)
          have HLA := Lib.hid hla
          clear hrow hcas hseq hla hSd c0 c1 c2 c3 c4 c5 c6 c7 c8 c9 c10
          by_cases h2 : x.status = 2
          · have e18 := HC.out.1 (.inl h2)
            rw [h2] at d15
            rw [e18] at d18
            clear h2 e18
            go_wp2_with fail
            go_roundg (l.length - (m + 1))
            case measure => have := HG.out; omega
            case rel => exact ⟨m + 1, (m : Int) + 1, r', by go_num, by go_num, by have := HG.out; omega, Lib.hid ⟨H6.out.1.bare, by have := HC.out.2; omega, by omega, by omega⟩⟩
          · have e2 : (x.status == 2) = false := by simpa using h2
            by_cases h7 : x.status = 7
            · have e18 := HC.out.1 (.inr h7)
              rw [h7] at d15
              rw [e18] at d18
              clear h7 e18 h2 e2
              go_wp2_with fail
              go_roundg (l.length - (m + 1))
              case measure => have := HG.out; omega
              case rel => exact ⟨m + 1, (m : Int) + 1, r', by go_num, by go_num, by have := HG.out; omega, Lib.hid ⟨H6.out.1.bare, by have := HC.out.2; omega, by omega, by omega⟩⟩
            · have e7 : (x.status == 7) = false := by simpa using h7
              clear h2 h7
              go_wp2_with fail
              go_roundg (l.length - (m + 1))
              case measure => have := HG.out; omega
              case rel => exact ⟨m + 1, la, r', by go_num, by go_num, by have := HG.out; omega, Lib.hid ⟨H6.out.1.bare, by have := HC.out.2; omega, hs.out.2.2.1, by have := HLA.out; omega⟩⟩
      · have hml : (l.length : Int) ≤ m := by omega
        have H9 := Lib.hid hs.out.1.low
        go_wp2_with fail
        go_ret
        exact ⟨rfl, H9.out⟩
end Go.Proofs.YtpghckiochjogaaGreatDoor.RouteNumbers

