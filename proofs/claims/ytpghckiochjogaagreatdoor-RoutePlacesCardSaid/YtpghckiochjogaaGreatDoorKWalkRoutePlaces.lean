/- KWalkRoutePlaces: WalkRoutePlaces, one behind the other. -/
import Derived.Test.YtpghckiochjogaaGreatDoorPart37
import Derived.StillTailTactics
import Derived.BigQuiet
/- RoutePlaces answers true for every seed, number of shards, list of commands and key. Conditions: the numbers are of their kinds. -/
namespace Go.Proofs.YtpghckiochjogaaGreatDoor.RoutePlaces
set_option maxRecDepth 100000
open Go Go.RowKit Go.Proofs.YtpghckiochjogaaGreatDoor.Mem Go.Proofs.YtpghckiochjogaaGreatDoor.App Go.Proofs.YtpghckiochjogaaGreatDoor.Ops Go.Proofs.YtpghckiochjogaaGreatDoor.Shard Go.Proofs.YtpghckiochjogaaGreatDoor.Exec Go.Proofs.YtpghckiochjogaaGreatDoor.Route
theorem place_range {r : RS} (k : ByteArray) (h : 1 ≤ r.ss.length ∧ r.ss.length ≤ 8) (hs : 0 ≤ r.seed ∧ r.seed < 18446744073709551616) : 0 ≤ r.place k ∧ r.place k < r.ss.length := by
  obtain ⟨i, h1, h2⟩ := place_lt (r := r) k h.1 h.2 hs
  omega
set_option maxHeartbeats 4000000 in
theorem walk (W : World) (hp : Pows W) (he : Errs W) (seed shards : Int) (x : Option Addr) (n0 c : Nat) (l : List Route.Op) (key : ByteArray) (hseed : isU seed) (hsh : isI shards) (hl : n0 = l.length ∧ n0 ≤ maxLen ∧ (∀ a ∈ l, Route.OpOk W a) ∧ Lies W 11 Route.encO x l) (hkey : key.size ≤ maxLen) :
    Calls Tryz.prog 5 #[.int .u64 seed, .int .i64 shards, .slice x n0 c, .string key] W fun e W' => e = .returned (.bool true) ∧ Below W.heap.size W W' := by
  obtain ⟨rfl, hml, hok, hlies⟩ := hl
  have HW := Lib.hid (And.intro hp he)
  have HL0 := Lib.hid (And.intro hok (And.intro hlies (And.intro hml hseed)))
  have HKM := Lib.hid hkey
  unfold isU at hseed
  unfold isI at hsh
  unfold maxLen at hkey
  have hs2 : 0 ≤ seed ∧ seed < 18446744073709551616 := by omega
  have HS2 := Lib.hid hs2
  clear hml hok hlies hp he hseed hs2
  go_enter Tryz.func5, Tryz.ntmps5
  go_wp2_with fail
  refine (awake_any W HW.out.1 HW.out.2).mono ?_
  rintro e w1 ⟨rfl, hb1⟩
  have hfew := few_any (c := c) (HL0.out.2.1.same hb1) HL0.out.2.2.1 HL0.out.1
  obtain ⟨q, hq⟩ : ∃ q, fewB l = q := ⟨_, rfl⟩
  rw [hq] at hfew
  have HQ := Lib.hid hq
  have H1 := Lib.hid hb1
  clear hb1 hq
  go_wp2_with fail
  refine hfew.mono ?_
  rintro e w2 ⟨rfl, hb2⟩
  have hnw := new_any (Mem.tr H1.out hb2) seed shards 1000 3 HS2.out (by decide)
  have H2 := Lib.hid (Mem.tr H1.out hb2)
  clear hfew hb2
  go_wp2_with fail
  refine hnw.mono ?_
  rintro e w3 ⟨hb3, ⟨hno, rfl⟩ | ⟨hyes, sb, rfl, hsb, hS⟩⟩
  · have H3 := Lib.hid (Mem.tr H2.out hb3)
    clear hnw hno hb3
    cases q
    all_goals (go_wp2_with fail; go_ret; exact ⟨rfl, H3.out⟩)
  have H3 := Lib.hid (Mem.tr H2.out hb3)
  have HY := Lib.hid hyes
  have HS := Lib.hid hS
  clear hnw hb3 hyes hS hsb
  cases q with
  | false =>
    go_wp2_with fail
    go_ret
    exact ⟨rfl, H3.out⟩
  | true =>
    by_cases hg : 300 < key.size
    · have hgi : (300 : Int) < key.size := by omega
      clear hg
      go_wp2_with fail
      go_ret
      exact ⟨rfl, H3.out⟩
    have hgi : (key.size : Int) ≤ 300 := by omega
    clear hg hkey
    have hln : (RS.new seed shards.toNat 1000 3).ss.length = shards.toNat := RS.new_len ..
    have hpl := place_law HS.out key HKM.out
    have hpr := place_range key HS.out.len (r := RS.new seed shards.toNat 1000 3) HS2.out
    obtain ⟨p, hpp⟩ : ∃ p, (RS.new seed shards.toNat 1000 3).place key = p := ⟨_, rfl⟩
    rw [hpp] at hpl hpr
    rw [hln] at hpr
    have HP := Lib.hid (And.intro hpr (And.intro hpp hln))
    clear hpr hpp hln
    go_wp2_with fail
    refine hpl.mono ?_
    rintro e w4 ⟨rfl, hb4⟩
    have HS4 := Lib.hid (HS.out.below hb4)
    clear hpl hb4
    go_wp2_with fail
    have HLN := Lib.hid (few_of HQ.out)
    have hlen : (l.length : Int) ≤ 80 := by have := HLN.out.1; omega
    go_loopg [14] l.length (fun g i wr => ∃ (m : Nat) (r : RS), i = .int .i64 m ∧ g + m = l.length ∧ Hid (SM W wr (2 * m) sb r [] ∧ r.place key = p))
    case atStart => exact ⟨0, _, rfl, by omega, Lib.hid ⟨HS4.out, HP.out.2.1⟩⟩
    case round =>
      obtain ⟨m, r, rfl, hg, hs⟩ := hrel
      have HG := Lib.hid hg
      clear hg
      by_cases hm : m < l.length
      · obtain ⟨o, ho⟩ : ∃ o, l[m]? = some o := ⟨_, List.getElem?_eq_getElem hm⟩
        have hmem := List.mem_of_getElem? ho
        obtain ⟨B, off, va, vc, rfl, hv, hS⟩ := op_cells HL0.out.2.1 ho (HL0.out.1 o hmem)
        have hS0 := hS _ hs.out.1.low
        have hSd := hS _ (Below.drew hs.out.1.low)
        have hdo := do_op (hs.out.1.below (Below.drew (Below.refl _ _))) (by have := HLN.out.1; omega) HW.out.1 HW.out.2 (HL0.out.1 o hmem) (HLN.out.2 o hmem).1 hv o.now
        have hmi : (m : Int) < l.length := by omega
        unfold CmdAt at hS hS0 hSd
        have HO := Lib.hid hS
        obtain ⟨c0, c1, c2, c3, c4, c5, c6, c7, c8, c9, c10⟩ := hS0
        clear ho hv hmem hS
        go_upto_region 10 with (fail)
        go_region_held3 (fun W' : World => W'.cell? ⟨B, off + m * 11, none⟩ = some (.int .i64 o.cmd.op) ∧ W'.cell? ⟨B, off + m * 11 + 1, none⟩ = some (.string o.cmd.key) ∧ W'.cell? ⟨B, off + m * 11 + 2, none⟩ = some (.slice va o.cmd.val.length vc) ∧ W'.cell? ⟨B, off + m * 11 + 3, none⟩ = some (.int .u32 o.cmd.flags) ∧ W'.cell? ⟨B, off + m * 11 + 4, none⟩ = some (.int .i64 o.cmd.exp) ∧ W'.cell? ⟨B, off + m * 11 + 5, none⟩ = some (.int .u64 o.cmd.cas) ∧ W'.cell? ⟨B, off + m * 11 + 6, none⟩ = some (.int .u64 o.cmd.delta) ∧ W'.cell? ⟨B, off + m * 11 + 7, none⟩ = some (.int .u64 o.cmd.initial) ∧ W'.cell? ⟨B, off + m * 11 + 8, none⟩ = some (.bool o.cmd.makes) ∧ W'.cell? ⟨B, off + m * 11 + 9, none⟩ = some (.bool o.cmd.sets) ∧ W'.cell? ⟨B, off + m * 11 + 10, none⟩ = some (.int .i64 o.now)) (first
          | with_reducible exact HO.out _ H6.out.1.low
          | with_reducible exact hSd) (first
          | (go_at_call 11; refine hdo.mono ?_; rintro en w6 ⟨xr, dl, r', ra, rn, rk, da, dn, dk, ys, hst, rfl, hL, -⟩; have H6 := Lib.hid (And.intro hL.bare hst); clear hst hL))
        all_goals (go_wp2_with fail)
        go_roundg (l.length - (m + 1))
        case measure => have := HG.out; omega
        case rel => exact ⟨m + 1, r', by go_num, by have := HG.out; omega, Lib.hid ⟨H6.out.1, by rw [H6.out.2.place]; exact hs.out.2⟩⟩
      · have hml : (l.length : Int) ≤ m := by omega
        have e9 : m = l.length := by have := HG.out; omega
        subst e9
        have hpl := place_law hs.out.1 key HKM.out
        rw [hs.out.2] at hpl
        have hy := HY.out
        have hr := HP.out.1
        have p1 : decide ((0 : Int) ≤ p) = true := decide_eq_true hr.1
        have p2 : decide (p < shards) = true := decide_eq_true (by omega)
        have h4 : (decide ((1 : Int) < shards) = true) ∨ (decide ((1 : Int) < shards) = false ∧ (p == 0) = true) := by
          by_cases h : 1 < shards
          · exact .inl (decide_eq_true h)
          · exact .inr ⟨decide_eq_false h, by have : p = 0 := by omega
                                              rw [this]; rfl⟩
        clear hy hr
        rcases h4 with p3 | ⟨p3, p4⟩
        all_goals
          go_wp2_with fail
          refine hpl.mono ?_
          rintro e w5 ⟨rfl, hb5⟩
          have H5 := Lib.hid (Mem.tr hs.out.1.low hb5)
          clear hb5
          go_wp2_with fail
          go_ret
          exact ⟨rfl, H5.out⟩
end Go.Proofs.YtpghckiochjogaaGreatDoor.RoutePlaces

