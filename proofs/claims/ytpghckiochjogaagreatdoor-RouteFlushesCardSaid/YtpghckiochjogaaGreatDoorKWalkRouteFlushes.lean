/- KWalkRouteFlushes: WalkRouteFlushes, one behind the other. -/
import Derived.Test.YtpghckiochjogaaGreatDoorPart37
import Derived.StillTailTactics
import Derived.BigQuiet
/- RouteFlushes answers true for every seed, number of shards, list of commands and two keys. Conditions: the numbers are of their kinds. -/
namespace Go.Proofs.YtpghckiochjogaaGreatDoor.RouteFlushes
set_option maxRecDepth 100000
open Go Go.RowKit Go.Proofs.YtpghckiochjogaaGreatDoor.Mem Go.Proofs.YtpghckiochjogaaGreatDoor.App Go.Proofs.YtpghckiochjogaaGreatDoor.Ops Go.Proofs.YtpghckiochjogaaGreatDoor.Shard Go.Proofs.YtpghckiochjogaaGreatDoor.Exec Go.Proofs.YtpghckiochjogaaGreatDoor.Route
set_option maxHeartbeats 4000000 in
theorem walk (W : World) (hp : Pows W) (he : Errs W) (seed shards : Int) (x : Option Addr) (n0 c : Nat) (l : List Route.Op) (key more : ByteArray) (hseed : isU seed) (_hsh : isI shards) (hl : n0 = l.length ∧ n0 ≤ maxLen ∧ (∀ a ∈ l, Route.OpOk W a) ∧ Lies W 11 Route.encO x l) (hkey : key.size ≤ maxLen) (hmore : more.size ≤ maxLen) :
    Calls Tryz.prog 4 #[.int .u64 seed, .int .i64 shards, .slice x n0 c, .string key, .string more] W fun e W' => e = .returned (.bool true) ∧ Below W.heap.size W W' := by
  obtain ⟨rfl, hml, hok, hlies⟩ := hl
  have HW := Lib.hid (And.intro hp he)
  have HL0 := Lib.hid (And.intro hok (And.intro hlies (And.intro hml hseed)))
  unfold isU at hseed
  unfold maxLen at hkey hmore
  have hs2 : 0 ≤ seed ∧ seed < 18446744073709551616 := by omega
  have HS2 := Lib.hid hs2
  clear hml hok hlies hp he hseed hs2
  go_enter Tryz.func4, Tryz.ntmps4
  go_wp2_with fail
  refine (awake_any W HW.out.1 HW.out.2).mono ?_
  rintro e w1 ⟨rfl, hb1⟩
  have hfew := few_any (c := c) (HL0.out.2.1.same hb1) HL0.out.2.2.1 HL0.out.1
  obtain ⟨q, hq⟩ : ∃ q, fewB l = q := ⟨_, rfl⟩
  rw [hq] at hfew
  have HQ := Lib.hid hq
  have H1 := Lib.hid hb1
  clear hb1 hq
  go_wp2_with fail
  refine hfew.mono ?_
  rintro e w2 ⟨rfl, hb2⟩
  have hnw := new_any (Mem.tr H1.out hb2) seed shards 100000 3 HS2.out (by decide)
  have H2 := Lib.hid (Mem.tr H1.out hb2)
  clear hfew hb2
  go_wp2_with fail
  refine hnw.mono ?_
  rintro e w3 ⟨hb3, ⟨hno, rfl⟩ | ⟨hyes, sb, rfl, hsb, hS⟩⟩
  · have H3 := Lib.hid (Mem.tr H2.out hb3)
    clear hnw hno hb3
    cases q
    all_goals (go_wp2_with fail; go_ret; exact ⟨rfl, H3.out⟩)
  have H3 := Lib.hid (Mem.tr H2.out hb3)
  have HS := Lib.hid hS
  clear hnw hb3 hyes hS hsb
  cases q with
  | false =>
    go_wp2_with fail
    go_ret
    exact ⟨rfl, H3.out⟩
  | true =>
    by_cases hg : 250 < key.size
    · have hgi : (250 : Int) < key.size := by omega
      clear hg
      go_wp2_with fail
      go_ret
      exact ⟨rfl, H3.out⟩
    have hgi : (key.size : Int) ≤ 250 := by omega
    by_cases hg2 : 250 < more.size
    · have hgj : (250 : Int) < more.size := by omega
      clear hg2 hg
      go_wp2_with fail
      go_ret
      exact ⟨rfl, H3.out⟩
    have hgj : (more.size : Int) ≤ 250 := by omega
    have HK := Lib.hid (show key.size ≤ 250 ∧ more.size ≤ 250 by omega)
    clear hg hg2 hkey hmore
    go_wp2_with fail
    have HLN := Lib.hid (few_of HQ.out)
    have hlen : (l.length : Int) ≤ 80 := by have := HLN.out.1; omega
    go_loopg [15, 16] l.length (fun g nv i wr => ∃ (m : Nat) (nw : Int) (r : RS), nv = .int .i64 nw ∧ i = .int .i64 m ∧ g + m = l.length ∧ Hid (SM W wr (2 * m) sb r [] ∧ (0 ≤ r.seq ∧ r.seq ≤ m) ∧ 1 ≤ nw ∧ r.flush = 0 ∧ r.All fun it => it.sec ≤ nw ∧ it.seq < r.seq))
    case atStart => exact ⟨0, 1, _, rfl, rfl, by omega, Lib.hid ⟨HS.out, ⟨Int.le_refl _, Int.le_refl _⟩, by decide, rfl, RS.New.all _ _ _ _ _⟩⟩
    case round =>
      obtain ⟨m, nw, r, rfl, rfl, hg, hs⟩ := hrel
      have HG := Lib.hid hg
      clear hg
      by_cases hm : m < l.length
      · obtain ⟨o, ho⟩ : ∃ o, l[m]? = some o := ⟨_, List.getElem?_eq_getElem hm⟩
        have hmem := List.mem_of_getElem? ho
        obtain ⟨B, off, va, vc, rfl, hv, hS⟩ := op_cells HL0.out.2.1 ho (HL0.out.1 o hmem)
        have hS0 := hS _ hs.out.1.low
        have HM := Lib.hid (And.intro hmem hv)
        have hmi : (m : Int) < l.length := by omega
        unfold CmdAt at hS0
        obtain ⟨c0, c1, c2, c3, c4, c5, c6, c7, c8, c9, c10⟩ := hS0
        clear ho hv hmem hS
        have hcase : ∃ nw' : Int, nw ≤ nw' ∧ ((nw < o.now ∧ o.now = nw') ∨ (¬ nw < o.now ∧ nw = nw')) := by
          by_cases h : nw < o.now
          · exact ⟨o.now, by omega, .inl ⟨h, rfl⟩⟩
          · exact ⟨nw, by omega, .inr ⟨h, rfl⟩⟩
        obtain ⟨nw', hle, ⟨hgt, hnw⟩ | ⟨hgt, hnw⟩⟩ := hcase
        · have HLE := Lib.hid hle
          clear hle
          go_upto_region 12 with (fail)
          clear hnw hgt
          by_cases h13 : o.cmd.op = 13
          · have e13 : (o.cmd.op != 13) = false := by rw [h13]; rfl
            rw [h13] at c0
            clear h13 e13
            go_wp2_with fail
            go_roundg (l.length - (m + 1))
            case measure => have := HG.out; omega
            case rel =>
              have hh := hs.out
              exact ⟨m + 1, nw', r, rfl, by go_num, by have := HG.out; omega, Lib.hid ⟨hh.1.more (by omega) (by have := HLN.out.1; omega), by omega, by have := HLE.out; omega, hh.2.2.2.1, fun s hs1 p hp => by have h1 := hh.2.2.2.2 s hs1 p hp; have := HLE.out; omega⟩⟩
          · have e13 : (o.cmd.op == 13) = false := by simpa using h13
            have hdo := do_op hs.out.1 (by have := HLN.out.1; omega) HW.out.1 HW.out.2 (HL0.out.1 o HM.out.1) (HLN.out.2 o HM.out.1).1 HM.out.2 nw'
            have H13 := Lib.hid h13
            clear h13
            go_wp2_with fail
            refine hdo.mono ?_
            rintro en w6 ⟨xr, dl, r', ra, rn, rk, da, dn, dk, ys, hst, rfl, hL, -⟩
            have H6 := Lib.hid (And.intro hL.bare hst)
            clear hst hL hdo
            go_wp2_with fail
            go_roundg (l.length - (m + 1))
            case measure => have := HG.out; omega
            case rel =>
              have hh := hs.out
              have hq : r'.seq = r.seq + 1 := H6.out.2.seq.trans (wrap_succ hh.2.1.1 (by have := HLN.out.1; omega))
              exact ⟨m + 1, nw', r', rfl, by go_num, by have := HG.out; omega, Lib.hid ⟨H6.out.1, by omega, by have := HLE.out; omega, (H6.out.2.flush H13.out).1.trans hh.2.2.2.1, hh.2.2.2.2.step hh.1.ok H6.out.2 (fun it h => by have := HLE.out; omega) (fun it h1 h2 => by omega) (fun it it' h h1 h2 => by omega)⟩⟩
        · subst hnw
          have HLE := Lib.hid hle
          have hgt' : o.now ≤ nw := by omega
          clear hle hgt
          go_upto_region 12 with (fail)
          clear hgt'
          by_cases h13 : o.cmd.op = 13
          · have e13 : (o.cmd.op != 13) = false := by rw [h13]; rfl
            rw [h13] at c0
            clear h13 e13
            go_wp2_with fail
            go_roundg (l.length - (m + 1))
            case measure => have := HG.out; omega
            case rel =>
              have hh := hs.out
              exact ⟨m + 1, nw, r, rfl, by go_num, by have := HG.out; omega, Lib.hid ⟨hh.1.more (by omega) (by have := HLN.out.1; omega), by omega, by have := HLE.out; omega, hh.2.2.2.1, fun s hs1 p hp => by have h1 := hh.2.2.2.2 s hs1 p hp; have := HLE.out; omega⟩⟩
          · have e13 : (o.cmd.op == 13) = false := by simpa using h13
            have hdo := do_op hs.out.1 (by have := HLN.out.1; omega) HW.out.1 HW.out.2 (HL0.out.1 o HM.out.1) (HLN.out.2 o HM.out.1).1 HM.out.2 nw
            have H13 := Lib.hid h13
            clear h13
            go_wp2_with fail
            refine hdo.mono ?_
            rintro en w6 ⟨xr, dl, r', ra, rn, rk, da, dn, dk, ys, hst, rfl, hL, -⟩
            have H6 := Lib.hid (And.intro hL.bare hst)
            clear hst hL hdo
            go_wp2_with fail
            go_roundg (l.length - (m + 1))
            case measure => have := HG.out; omega
            case rel =>
              have hh := hs.out
              have hq : r'.seq = r.seq + 1 := H6.out.2.seq.trans (wrap_succ hh.2.1.1 (by have := HLN.out.1; omega))
              exact ⟨m + 1, nw, r', rfl, by go_num, by have := HG.out; omega, Lib.hid ⟨H6.out.1, by omega, by have := HLE.out; omega, (H6.out.2.flush H13.out).1.trans hh.2.2.2.1, hh.2.2.2.2.step hh.1.ok H6.out.2 (fun it h => by have := HLE.out; omega) (fun it h1 h2 => by omega) (fun it it' h h1 h2 => by omega)⟩⟩
      · have hml : (l.length : Int) ≤ m := by omega
        have e9 : m = l.length := by have := HG.out; omega
        subst e9
        have HS0 := Lib.hid hs.out.1
        have HR := Lib.hid hs.out.2
        go_upto_region 14 with (fail)
        have hdo := calls_args (args' := #[.pointer (some ⟨sb, 0, none⟩), .agg #[.int .i64 13, .string ⟨#[]⟩, .slice none 0 0, .int .u32 0, .int .i64 0, .int .u64 0, .int .u64 0, .int .u64 0, .bool false, .bool false], .int .i64 nw]) (do_nil HS0.out (by have := HLN.out.1; omega) HW.out.1 HW.out.2 (cmd 13 (⟨#[]⟩ : ByteArray)) nw rfl (by decide) isU0 isU0) rfl
        go_wp2_with fail
        refine hdo.mono ?_
        rintro en wD ⟨x1, dl1, r1, ra1, rn1, rk1, da1, dn1, dk1, ys1, hst, he1, hL, -⟩
        replace he1 : en = .returned (.agg #[.int .i64 0, .int .i64 13, .string ⟨#[]⟩, .slice none 0 0, .int .u32 0, .int .i64 0, .int .u64 0, .int .u64 0, .int .u64 0, .bool false, .bool false, .int .i64 nw, .int .u64 r.seq, .int .i64 r.flush, .int .u64 r.flushSeq, .int .i64 x1.status, .slice ra1 rn1 rk1, .int .u32 x1.flags, .int .u64 x1.cas, .int .i64 x1.ttl, .int .u64 x1.number, .bool x1.stale, .bool x1.won, .bool x1.lost, .slice da1 dn1 dk1]) := he1
        subst he1
        have hA := hL.bare.fresh #[.int .i64 0, .int .i64 0, .string ⟨#[]⟩, .slice none 0 0, .int .u32 0, .int .i64 0, .int .u64 0, .int .u64 0, .int .u64 0, .bool false, .bool false, .int .i64 0, .int .u64 0, .int .i64 0, .int .u64 0, .int .i64 0, .slice none 0 0, .int .u32 0, .int .u64 0, .int .i64 0, .int .u64 0, .bool false, .bool false, .bool false, .slice none 0 0] #[.int .i64 0, .int .i64 13, .string ⟨#[]⟩, .slice none 0 0, .int .u32 0, .int .i64 0, .int .u64 0, .int .u64 0, .int .u64 0, .bool false, .bool false, .int .i64 nw, .int .u64 r.seq, .int .i64 r.flush, .int .u64 r.flushSeq, .int .i64 x1.status, .slice ra1 rn1 rk1, .int .u32 x1.flags, .int .u64 x1.cas, .int .i64 x1.ttl, .int .u64 x1.number, .bool x1.stale, .bool x1.won, .bool x1.lost, .slice da1 dn1 dk1] 40
        have HT1 := Lib.hid (And.intro hst hL.ok)
        clear hdo hst hL
        go_upto_region 15 with (first
          | (refine wpList_store_row rfl 40 _ _ rfl wD.heap.size #[.int .i64 0, .int .i64 13, .string ⟨#[]⟩, .slice none 0 0, .int .u32 0, .int .i64 0, .int .u64 0, .int .u64 0, .int .u64 0, .bool false, .bool false, .int .i64 nw, .int .u64 r.seq, .int .i64 r.flush, .int .u64 r.flushSeq, .int .i64 x1.status, .slice ra1 rn1 rk1, .int .u32 x1.flags, .int .u64 x1.cas, .int .i64 x1.ttl, .int .u64 x1.number, .bool x1.stale, .bool x1.won, .bool x1.lost, .slice da1 dn1 dk1] rfl rfl 40 #[.int .i64 0, .int .i64 0, .string ⟨#[]⟩, .slice none 0 0, .int .u32 0, .int .i64 0, .int .u64 0, .int .u64 0, .int .u64 0, .bool false, .bool false, .int .i64 0, .int .u64 0, .int .i64 0, .int .u64 0, .int .i64 0, .slice none 0 0, .int .u32 0, .int .u64 0, .int .i64 0, .int .u64 0, .bool false, .bool false, .bool false, .slice none 0 0] (Mem.new_block wD _) done_sz rfl (done_one (cmd 13 (⟨#[]⟩ : ByteArray)) none 0 0 (r.env nw) x1 ra1 rn1 rk1 da1 dn1 dk1) ?_)
          | fail)
        obtain ⟨w1, hw1⟩ : ∃ w1, (wD.alloc (.cells #[.int .i64 0, .int .i64 0, .string ⟨#[]⟩, .slice none 0 0, .int .u32 0, .int .i64 0, .int .u64 0, .int .u64 0, .int .u64 0, .bool false, .bool false, .int .i64 0, .int .u64 0, .int .i64 0, .int .u64 0, .int .i64 0, .slice none 0 0, .int .u32 0, .int .u64 0, .int .i64 0, .int .u64 0, .bool false, .bool false, .bool false, .slice none 0 0] 40)).setRow wD.heap.size #[.int .i64 0, .int .i64 13, .string ⟨#[]⟩, .slice none 0 0, .int .u32 0, .int .i64 0, .int .u64 0, .int .u64 0, .int .u64 0, .bool false, .bool false, .int .i64 nw, .int .u64 r.seq, .int .i64 r.flush, .int .u64 r.flushSeq, .int .i64 x1.status, .slice ra1 rn1 rk1, .int .u32 x1.flags, .int .u64 x1.cas, .int .i64 x1.ttl, .int .u64 x1.number, .bool x1.stale, .bool x1.won, .bool x1.lost, .slice da1 dn1 dk1] = w1 := ⟨_, rfl⟩
        obtain ⟨p1, hp1⟩ : ∃ p1, wD.heap.size = p1 := ⟨_, rfl⟩
        rw [hw1, hp1] at hA
        rw [hw1, hp1]
        have HS1 := Lib.hid hA
        clear hw1 hp1 hA
        have hdo := calls_args (args' := #[.pointer (some ⟨sb, 0, none⟩), .agg #[.int .i64 0, .string key, .slice none 0 0, .int .u32 0, .int .i64 0, .int .u64 0, .int .u64 0, .int .u64 0, .bool false, .bool false], .int .i64 nw]) (do_nil HS1.out (by have := HLN.out.1; omega) HW.out.1 HW.out.2 (cmd 0 key) nw rfl (show key.size ≤ 2000000 by have := HK.out.1; omega) isU0 isU0) rfl
        go_wp2_with fail
        refine hdo.mono ?_
        rintro en wD ⟨x2, dl2, r2, ra2, rn2, rk2, da2, dn2, dk2, ys2, hst, he1, hL, -⟩
        replace he1 : en = .returned (.agg #[.int .i64 0, .int .i64 0, .string key, .slice none 0 0, .int .u32 0, .int .i64 0, .int .u64 0, .int .u64 0, .int .u64 0, .bool false, .bool false, .int .i64 nw, .int .u64 r1.seq, .int .i64 r1.flush, .int .u64 r1.flushSeq, .int .i64 x2.status, .slice ra2 rn2 rk2, .int .u32 x2.flags, .int .u64 x2.cas, .int .i64 x2.ttl, .int .u64 x2.number, .bool x2.stale, .bool x2.won, .bool x2.lost, .slice da2 dn2 dk2]) := he1
        subst he1
        have hA := (hL.sub (xs' := [(p1, _)]) fun p hp => List.mem_append_left _ hp).fresh #[.int .i64 0, .int .i64 0, .string ⟨#[]⟩, .slice none 0 0, .int .u32 0, .int .i64 0, .int .u64 0, .int .u64 0, .int .u64 0, .bool false, .bool false, .int .i64 0, .int .u64 0, .int .i64 0, .int .u64 0, .int .i64 0, .slice none 0 0, .int .u32 0, .int .u64 0, .int .i64 0, .int .u64 0, .bool false, .bool false, .bool false, .slice none 0 0] #[.int .i64 0, .int .i64 0, .string key, .slice none 0 0, .int .u32 0, .int .i64 0, .int .u64 0, .int .u64 0, .int .u64 0, .bool false, .bool false, .int .i64 nw, .int .u64 r1.seq, .int .i64 r1.flush, .int .u64 r1.flushSeq, .int .i64 x2.status, .slice ra2 rn2 rk2, .int .u32 x2.flags, .int .u64 x2.cas, .int .i64 x2.ttl, .int .u64 x2.number, .bool x2.stale, .bool x2.won, .bool x2.lost, .slice da2 dn2 dk2] 40
        have HT2 := Lib.hid (And.intro hst hL.ok)
        clear hdo hst hL
        go_upto_region 16 with (first
          | (refine wpList_store_row rfl 40 _ _ rfl wD.heap.size #[.int .i64 0, .int .i64 0, .string key, .slice none 0 0, .int .u32 0, .int .i64 0, .int .u64 0, .int .u64 0, .int .u64 0, .bool false, .bool false, .int .i64 nw, .int .u64 r1.seq, .int .i64 r1.flush, .int .u64 r1.flushSeq, .int .i64 x2.status, .slice ra2 rn2 rk2, .int .u32 x2.flags, .int .u64 x2.cas, .int .i64 x2.ttl, .int .u64 x2.number, .bool x2.stale, .bool x2.won, .bool x2.lost, .slice da2 dn2 dk2] rfl rfl 40 #[.int .i64 0, .int .i64 0, .string ⟨#[]⟩, .slice none 0 0, .int .u32 0, .int .i64 0, .int .u64 0, .int .u64 0, .int .u64 0, .bool false, .bool false, .int .i64 0, .int .u64 0, .int .i64 0, .int .u64 0, .int .i64 0, .slice none 0 0, .int .u32 0, .int .u64 0, .int .i64 0, .int .u64 0, .bool false, .bool false, .bool false, .slice none 0 0] (Mem.new_block wD _) done_sz rfl (done_one (cmd 0 key) none 0 0 (r1.env nw) x2 ra2 rn2 rk2 da2 dn2 dk2) ?_)
          | fail)
        obtain ⟨w2, hw2⟩ : ∃ w2, (wD.alloc (.cells #[.int .i64 0, .int .i64 0, .string ⟨#[]⟩, .slice none 0 0, .int .u32 0, .int .i64 0, .int .u64 0, .int .u64 0, .int .u64 0, .bool false, .bool false, .int .i64 0, .int .u64 0, .int .i64 0, .int .u64 0, .int .i64 0, .slice none 0 0, .int .u32 0, .int .u64 0, .int .i64 0, .int .u64 0, .bool false, .bool false, .bool false, .slice none 0 0] 40)).setRow wD.heap.size #[.int .i64 0, .int .i64 0, .string key, .slice none 0 0, .int .u32 0, .int .i64 0, .int .u64 0, .int .u64 0, .int .u64 0, .bool false, .bool false, .int .i64 nw, .int .u64 r1.seq, .int .i64 r1.flush, .int .u64 r1.flushSeq, .int .i64 x2.status, .slice ra2 rn2 rk2, .int .u32 x2.flags, .int .u64 x2.cas, .int .i64 x2.ttl, .int .u64 x2.number, .bool x2.stale, .bool x2.won, .bool x2.lost, .slice da2 dn2 dk2] = w2 := ⟨_, rfl⟩
        obtain ⟨p2, hp2⟩ : ∃ p2, wD.heap.size = p2 := ⟨_, rfl⟩
        rw [hw2, hp2] at hA
        rw [hw2, hp2]
        have HS2 := Lib.hid hA
        clear hw2 hp2 hA
        have hdo := calls_args (args' := #[.pointer (some ⟨sb, 0, none⟩), .agg #[.int .i64 3, .string more, .slice none 0 0, .int .u32 0, .int .i64 0, .int .u64 0, .int .u64 0, .int .u64 0, .bool false, .bool false], .int .i64 nw]) (do_nil HS2.out (by have := HLN.out.1; omega) HW.out.1 HW.out.2 (cmd 3 more) nw rfl (show more.size ≤ 2000000 by have := HK.out.2; omega) isU0 isU0) rfl
        go_wp2_with fail
        refine hdo.mono ?_
        rintro en wD ⟨x3, dl3, r3, ra3, rn3, rk3, da3, dn3, dk3, ys3, hst, he1, hL, -⟩
        replace he1 : en = .returned (.agg #[.int .i64 0, .int .i64 3, .string more, .slice none 0 0, .int .u32 0, .int .i64 0, .int .u64 0, .int .u64 0, .int .u64 0, .bool false, .bool false, .int .i64 nw, .int .u64 r2.seq, .int .i64 r2.flush, .int .u64 r2.flushSeq, .int .i64 x3.status, .slice ra3 rn3 rk3, .int .u32 x3.flags, .int .u64 x3.cas, .int .i64 x3.ttl, .int .u64 x3.number, .bool x3.stale, .bool x3.won, .bool x3.lost, .slice da3 dn3 dk3]) := he1
        subst he1
        have hA := (hL.sub (xs' := [(p2, _), (p1, _)]) fun p hp => List.mem_append_left _ hp).fresh #[.int .i64 0, .int .i64 0, .string ⟨#[]⟩, .slice none 0 0, .int .u32 0, .int .i64 0, .int .u64 0, .int .u64 0, .int .u64 0, .bool false, .bool false, .int .i64 0, .int .u64 0, .int .i64 0, .int .u64 0, .int .i64 0, .slice none 0 0, .int .u32 0, .int .u64 0, .int .i64 0, .int .u64 0, .bool false, .bool false, .bool false, .slice none 0 0] #[.int .i64 0, .int .i64 3, .string more, .slice none 0 0, .int .u32 0, .int .i64 0, .int .u64 0, .int .u64 0, .int .u64 0, .bool false, .bool false, .int .i64 nw, .int .u64 r2.seq, .int .i64 r2.flush, .int .u64 r2.flushSeq, .int .i64 x3.status, .slice ra3 rn3 rk3, .int .u32 x3.flags, .int .u64 x3.cas, .int .i64 x3.ttl, .int .u64 x3.number, .bool x3.stale, .bool x3.won, .bool x3.lost, .slice da3 dn3 dk3] 40
        have HT3 := Lib.hid (And.intro hst hL.ok)
        clear hdo hst hL
        go_upto_region 17 with (first
          | (refine wpList_store_row rfl 40 _ _ rfl wD.heap.size #[.int .i64 0, .int .i64 3, .string more, .slice none 0 0, .int .u32 0, .int .i64 0, .int .u64 0, .int .u64 0, .int .u64 0, .bool false, .bool false, .int .i64 nw, .int .u64 r2.seq, .int .i64 r2.flush, .int .u64 r2.flushSeq, .int .i64 x3.status, .slice ra3 rn3 rk3, .int .u32 x3.flags, .int .u64 x3.cas, .int .i64 x3.ttl, .int .u64 x3.number, .bool x3.stale, .bool x3.won, .bool x3.lost, .slice da3 dn3 dk3] rfl rfl 40 #[.int .i64 0, .int .i64 0, .string ⟨#[]⟩, .slice none 0 0, .int .u32 0, .int .i64 0, .int .u64 0, .int .u64 0, .int .u64 0, .bool false, .bool false, .int .i64 0, .int .u64 0, .int .i64 0, .int .u64 0, .int .i64 0, .slice none 0 0, .int .u32 0, .int .u64 0, .int .i64 0, .int .u64 0, .bool false, .bool false, .bool false, .slice none 0 0] (Mem.new_block wD _) done_sz rfl (done_one (cmd 3 more) none 0 0 (r2.env nw) x3 ra3 rn3 rk3 da3 dn3 dk3) ?_)
          | fail)
        obtain ⟨w3, hw3⟩ : ∃ w3, (wD.alloc (.cells #[.int .i64 0, .int .i64 0, .string ⟨#[]⟩, .slice none 0 0, .int .u32 0, .int .i64 0, .int .u64 0, .int .u64 0, .int .u64 0, .bool false, .bool false, .int .i64 0, .int .u64 0, .int .i64 0, .int .u64 0, .int .i64 0, .slice none 0 0, .int .u32 0, .int .u64 0, .int .i64 0, .int .u64 0, .bool false, .bool false, .bool false, .slice none 0 0] 40)).setRow wD.heap.size #[.int .i64 0, .int .i64 3, .string more, .slice none 0 0, .int .u32 0, .int .i64 0, .int .u64 0, .int .u64 0, .int .u64 0, .bool false, .bool false, .int .i64 nw, .int .u64 r2.seq, .int .i64 r2.flush, .int .u64 r2.flushSeq, .int .i64 x3.status, .slice ra3 rn3 rk3, .int .u32 x3.flags, .int .u64 x3.cas, .int .i64 x3.ttl, .int .u64 x3.number, .bool x3.stale, .bool x3.won, .bool x3.lost, .slice da3 dn3 dk3] = w3 := ⟨_, rfl⟩
        obtain ⟨p3, hp3⟩ : ∃ p3, wD.heap.size = p3 := ⟨_, rfl⟩
        rw [hw3, hp3] at hA
        rw [hw3, hp3]
        have HS3 := Lib.hid hA
        clear hw3 hp3 hA
        have hdo := calls_args (args' := #[.pointer (some ⟨sb, 0, none⟩), .agg #[.int .i64 0, .string more, .slice none 0 0, .int .u32 0, .int .i64 0, .int .u64 0, .int .u64 0, .int .u64 0, .bool false, .bool false], .int .i64 nw]) (do_nil HS3.out (by have := HLN.out.1; omega) HW.out.1 HW.out.2 (cmd 0 more) nw rfl (show more.size ≤ 2000000 by have := HK.out.2; omega) isU0 isU0) rfl
        go_wp2_with fail
        refine hdo.mono ?_
        rintro en wD ⟨x4, dl4, r4, ra4, rn4, rk4, da4, dn4, dk4, ys4, hst, he1, hL, -⟩
        replace he1 : en = .returned (.agg #[.int .i64 0, .int .i64 0, .string more, .slice none 0 0, .int .u32 0, .int .i64 0, .int .u64 0, .int .u64 0, .int .u64 0, .bool false, .bool false, .int .i64 nw, .int .u64 r3.seq, .int .i64 r3.flush, .int .u64 r3.flushSeq, .int .i64 x4.status, .slice ra4 rn4 rk4, .int .u32 x4.flags, .int .u64 x4.cas, .int .i64 x4.ttl, .int .u64 x4.number, .bool x4.stale, .bool x4.won, .bool x4.lost, .slice da4 dn4 dk4]) := he1
        subst he1
        have hA := (hL.sub (xs' := [(p3, _), (p2, _), (p1, _)]) fun p hp => List.mem_append_left _ hp).fresh #[.int .i64 0, .int .i64 0, .string ⟨#[]⟩, .slice none 0 0, .int .u32 0, .int .i64 0, .int .u64 0, .int .u64 0, .int .u64 0, .bool false, .bool false, .int .i64 0, .int .u64 0, .int .i64 0, .int .u64 0, .int .i64 0, .slice none 0 0, .int .u32 0, .int .u64 0, .int .i64 0, .int .u64 0, .bool false, .bool false, .bool false, .slice none 0 0] #[.int .i64 0, .int .i64 0, .string more, .slice none 0 0, .int .u32 0, .int .i64 0, .int .u64 0, .int .u64 0, .int .u64 0, .bool false, .bool false, .int .i64 nw, .int .u64 r3.seq, .int .i64 r3.flush, .int .u64 r3.flushSeq, .int .i64 x4.status, .slice ra4 rn4 rk4, .int .u32 x4.flags, .int .u64 x4.cas, .int .i64 x4.ttl, .int .u64 x4.number, .bool x4.stale, .bool x4.won, .bool x4.lost, .slice da4 dn4 dk4] 40
        have HT4 := Lib.hid (And.intro hst hL.ok)
        clear hdo hst hL
        go_upto_region 18 with (first
          | (refine wpList_store_row rfl 40 _ _ rfl wD.heap.size #[.int .i64 0, .int .i64 0, .string more, .slice none 0 0, .int .u32 0, .int .i64 0, .int .u64 0, .int .u64 0, .int .u64 0, .bool false, .bool false, .int .i64 nw, .int .u64 r3.seq, .int .i64 r3.flush, .int .u64 r3.flushSeq, .int .i64 x4.status, .slice ra4 rn4 rk4, .int .u32 x4.flags, .int .u64 x4.cas, .int .i64 x4.ttl, .int .u64 x4.number, .bool x4.stale, .bool x4.won, .bool x4.lost, .slice da4 dn4 dk4] rfl rfl 40 #[.int .i64 0, .int .i64 0, .string ⟨#[]⟩, .slice none 0 0, .int .u32 0, .int .i64 0, .int .u64 0, .int .u64 0, .int .u64 0, .bool false, .bool false, .int .i64 0, .int .u64 0, .int .i64 0, .int .u64 0, .int .i64 0, .slice none 0 0, .int .u32 0, .int .u64 0, .int .i64 0, .int .u64 0, .bool false, .bool false, .bool false, .slice none 0 0] (Mem.new_block wD _) done_sz rfl (done_one (cmd 0 more) none 0 0 (r3.env nw) x4 ra4 rn4 rk4 da4 dn4 dk4) ?_)
          | fail)
        obtain ⟨w4, hw4⟩ : ∃ w4, (wD.alloc (.cells #[.int .i64 0, .int .i64 0, .string ⟨#[]⟩, .slice none 0 0, .int .u32 0, .int .i64 0, .int .u64 0, .int .u64 0, .int .u64 0, .bool false, .bool false, .int .i64 0, .int .u64 0, .int .i64 0, .int .u64 0, .int .i64 0, .slice none 0 0, .int .u32 0, .int .u64 0, .int .i64 0, .int .u64 0, .bool false, .bool false, .bool false, .slice none 0 0] 40)).setRow wD.heap.size #[.int .i64 0, .int .i64 0, .string more, .slice none 0 0, .int .u32 0, .int .i64 0, .int .u64 0, .int .u64 0, .int .u64 0, .bool false, .bool false, .int .i64 nw, .int .u64 r3.seq, .int .i64 r3.flush, .int .u64 r3.flushSeq, .int .i64 x4.status, .slice ra4 rn4 rk4, .int .u32 x4.flags, .int .u64 x4.cas, .int .i64 x4.ttl, .int .u64 x4.number, .bool x4.stale, .bool x4.won, .bool x4.lost, .slice da4 dn4 dk4] = w4 := ⟨_, rfl⟩
        obtain ⟨p4, hp4⟩ : ∃ p4, wD.heap.size = p4 := ⟨_, rfl⟩
        rw [hw4, hp4] at hA
        rw [hw4, hp4]
        have HS4 := Lib.hid hA
        clear hw4 hp4 hA
        have hfl := HT1.out.1.flushes
        have hr := HR.out
        have q1 : r1.flush = nw := by rw [hfl.2.1]; omega
        have s1 : r1.seq = r.seq + 1 := HT1.out.1.seq.trans (wrap_succ hr.1.1 (by have := HLN.out.1; omega))
        have s2 : r2.seq = r.seq + 2 := HT2.out.1.seq.trans ((wrap_succ (by omega) (by have := HLN.out.1; omega)).trans (by omega))
        have hms : x2.status = 1 := HT2.out.1.miss HT1.out.2 (hfl.2.2.2 _ fun s hs1 p hp => by
          have h1 := hr.2.2.2 s hs1 p hp
          rw [q1, hfl.2.2.1]
          omega) (by omega) (by omega)
        have f2 := HT2.out.1.flush (show (0 : Int) ≠ 13 by decide)
        have f3 := HT3.out.1.flush (show (3 : Int) ≠ 13 by decide)
        have hhit : x3.status = 2 → x4.status = 0 := fun h => HT3.out.1.hit HT4.out.1 HT2.out.2 HT3.out.2 (show more.size ≤ 2000000 by have := HK.out.2; omega) h (live_new (.inr (by
          show elder nw r2.seq r3.flush r3.flushSeq = false
          rw [f3.1, f3.2, f2.1, f2.2, q1, hfl.2.2.1, s2]
          unfold elder
          simp
          omega)))
        have ha := HS4.out.row (List.mem_cons_of_mem _ (List.mem_cons_of_mem _ (List.mem_cons_of_mem _ (List.mem_cons_self ..))))
        have hb := HS4.out.row (List.mem_cons_of_mem _ (List.mem_cons_of_mem _ (List.mem_cons_self ..)))
        have hc := HS4.out.row (List.mem_cons_of_mem _ (List.mem_cons_self ..))
        have hd := HS4.out.row (List.mem_cons_self ..)
        have a15 : w4.cell? ⟨p1, 15, none⟩ = some (.int .i64 x1.status) := Mem.row_cell ha 15
        have b15 : w4.cell? ⟨p2, 15, none⟩ = some (.int .i64 x2.status) := Mem.row_cell hb 15
        have c15 : w4.cell? ⟨p3, 15, none⟩ = some (.int .i64 x3.status) := Mem.row_cell hc 15
        have d15 : w4.cell? ⟨p4, 15, none⟩ = some (.int .i64 x4.status) := Mem.row_cell hd 15
        rw [hfl.1] at a15
        rw [hms] at b15
        clear ha hb hc hd hfl hr q1 s1 s2 hms f2 f3
        by_cases h2 : x3.status = 2
        · rw [hhit h2] at d15
          rw [h2] at c15
          clear hhit h2
          go_wp2_with fail
          go_ret
          exact ⟨rfl, HS4.out.low⟩
        · have e2 : (x3.status == 2) = false := by simpa using h2
          clear hhit
          go_wp2_with fail
          go_ret
          exact ⟨rfl, HS4.out.low⟩
end Go.Proofs.YtpghckiochjogaaGreatDoor.RouteFlushes

