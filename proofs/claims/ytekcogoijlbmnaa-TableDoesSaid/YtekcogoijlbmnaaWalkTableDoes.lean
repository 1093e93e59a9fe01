/- TableDoes answers true for every seed and list of calls. Conditions: the numbers are of their kinds. -/
import Derived.Test.YtekcogoijlbmnaaTabL5
import Derived.Test.YtekcogoijlbmnaaTabRef3
import Derived.StillTailTactics
import Derived.Deep.CutRange
import Derived.Deep.CutBlock
import Derived.Deep.RegionHeld3
namespace Go.Proofs.Ytekcogoijlbmnaa.TableDoes
open Go Go.RowKit Go.Proofs.Ytekcogoijlbmnaa.Mem Go.Proofs.Ytekcogoijlbmnaa.Ops Go.Proofs.Ytekcogoijlbmnaa.Tab Go.Proofs.Ytekcogoijlbmnaa.TabI Go.Proofs.Ytekcogoijlbmnaa.TabL Go.Proofs.Ytekcogoijlbmnaa.RefTab

theorem left_le {w : World} {b : Nat} {F : Nat → Prop} {seed : Int} {s : St V} (h : At w b F seed s) : s.left ≤ s.buckets := by
  obtain ⟨c, ea, eb, nb, gv, hat, ha, hE, hcN, hcl, hks⟩ := h
  have := ha.le
  omega
/-- The table and the document's own one beside each other. -/
structure Both (W w : World) (n b : Nat) (F : Nat → Prop) (seed : Int) (s : St V) (rb : Nat) (G : Nat → Prop) : Prop where
  run : Run W w n b F seed s
  ref : RAt w rb G s
  rlow : ∀ k, G k → W.heap.size ≤ k
  apart : ∀ k, F k → ¬ G k
section
variable {W w w1 w2 w' : World} {n m b rb : Nat} {F F1 G G2 : Nat → Prop} {seed : Int} {s s1 : St V}
theorem Both.step (h : Both W w n b F seed s rb G) (hb : Below w.heap.size w w') : Both W w' n b F seed s rb G := ⟨h.run.step hb, h.ref.below hb, h.rlow, h.apart⟩
theorem Both.mono (h : Both W w n b F seed s rb G) (hm : n ≤ m) (hm2 : m ≤ 1000000000) : Both W w m b F seed s rb G := ⟨h.run.mono hm hm2, h.ref, h.rlow, h.apart⟩
theorem Both.first (h : Both W w n b F seed s rb G) (_ : Run W w1 m b F1 seed s1) (ho : Only F w w1) (hg : Grows w F F1) : RAt w1 rb G s ∧ ∀ k, F1 k → ¬ G k :=
  ⟨h.ref.only ho (fun k hk e => h.apart k e hk), fun k hk e => (hg k hk).elim (fun e1 => h.apart k e1 e) (fun e1 => by have := h.ref.lt k e; omega)⟩
theorem Both.two (h : Both W w n b F seed s rb G) (hr : Run W w1 m b F1 seed s1) (ho : Only F w w1) (hg : Grows w F F1) (ha2 : RAt w2 rb G2 s1) (ho2 : Only G w1 w2) (hg2 : Grows w1 G G2) : Both W w2 m b F1 seed s1 rb G2 := by
  obtain ⟨q2, q3⟩ := h.first hr ho hg
  exact ⟨hr.only ho2 q3 h.rlow, ha2, fun k hk => (hg2 k hk).elim (h.rlow k) (fun e => Nat.le_trans hr.below.size e), fun k hk e => (hg2 k e).elim (fun e1 => q3 k hk e1) (fun e1 => by have := hr.lt k hk; omega)⟩
end

set_option maxRecDepth 100000 in
set_option maxHeartbeats 4000000 in
theorem walk (W : World) (seed : Int) (x : Option Addr) (n0 c : Nat) (l : List TabL.Op) (hs : 0 ≤ seed ∧ seed ≤ 18446744073709551615) (hl : n0 = l.length ∧ n0 ≤ maxLen ∧ (∀ a ∈ l, OpOk a) ∧ Lies W 3 encO x l) :
    Calls Try.prog 6 #[.int .u64 seed, .slice x n0 c] W fun e W' => e = .returned (.bool true) ∧ Below W.heap.size W W' := by
  obtain ⟨rfl, hml, hok, hlies⟩ := hl
  have HL := Lib.hid (And.intro hlies hok)
  clear hok
  go_enter Try.func6, Try.ntmps6
  go_wp2_with fail
  refine (awake_any W).mono ?_
  rintro e w1 ⟨rfl, hb1⟩
  have hlies1 : Lies w1 3 encO x l := hlies.same hb1
  have hshort := short_any (c := c) hlies1 hml
  clear hlies1 hlies hml
  have HS : Hid (shortB l = true → l.length ≤ 300) := Lib.hid (by unfold shortB; intro h; simp at h; exact h.1)
  generalize shortB l = q at *
  go_wp2_with fail
  refine hshort.mono ?_
  rintro e w2 ⟨rfl, rfl⟩
  go_wp2_with fail
  refine (new_run hb1 seed hs.1 (by omega)).mono ?_
  rintro e w2 ⟨b, F, rfl, r2, -, -⟩
  clear hshort hb1
  have HR2 := Lib.hid r2
  clear r2
  cases q with
  | false =>
    go_wp2_with fail
    go_ret
    exact ⟨rfl, HR2.out.below⟩
  | true =>
  have hl300 := HS.out rfl
  go_wp2_with fail
  refine (RefTab.new_any w2).mono ?_
  rintro e w3 ⟨rb, G, rfl, hr3, hG, hb3⟩
  have HB := Lib.hid (Both.mk (HR2.out.step hb3) hr3 (fun k hk => Nat.le_trans HR2.out.below.size (hG k hk)) (fun k hk e => by have := HR2.out.lt k hk; have := hG k e; omega))
  clear hr3 hG hb3 HR2
  go_wp2_with fail
  go_loopg [9] l.length (fun g i wr => ∃ (m : Nat) (F G : Nat → Prop) (s : St V), i = .int .i64 m ∧ g + m = l.length ∧ Hid (Both W wr m b F seed s rb G))
  case atStart => exact ⟨0, F, G, _, rfl, by omega, HB⟩
  case round =>
    obtain ⟨m, F1, G1, s, rfl, hg, HM⟩ := hrel
    have HG := Lib.hid hg
    clear hg HB
    by_cases hm : m < l.length
    · obtain ⟨o, hoo⟩ : ∃ o, l[m]? = some o := ⟨_, List.getElem?_eq_getElem hm⟩
      obtain ⟨B, off, rfl, hB, hc⟩ := HL.out.1 m o hoo
      have c0 : wr.cell? ⟨B, off + m * 3, none⟩ = some (.int .i64 o.kind) := (World.cell?_of_block (HM.out.run.below.block B hB)).trans (hc 0 _ rfl)
      have c1 : wr.cell? ⟨B, off + m * 3 + 1, none⟩ = some (.string o.key) := (World.cell?_of_block (HM.out.run.below.block B hB)).trans (hc 1 _ rfl)
      have c2 : wr.cell? ⟨B, off + m * 3 + 2, none⟩ = some (.int .i64 o.v) := (World.cell?_of_block (HM.out.run.below.block B hB)).trans (hc 2 _ rfl)
      have HLC : Hid (∀ w', Below W.heap.size W w' → w'.cell? ⟨B, off + m * 3 + 1, none⟩ = some (.string o.key) ∧ w'.cell? ⟨B, off + m * 3 + 2, none⟩ = some (.int .i64 o.v)) := Lib.hid (fun w' hb => ⟨(World.cell?_of_block (hb.block B hB)).trans (hc 1 _ rfl), (World.cell?_of_block (hb.block B hB)).trans (hc 2 _ rfl)⟩)
      have hmi : (m : Int) < l.length := by omega
      have hok := HL.out.2 o (List.mem_of_getElem? hoo)
      have hkk := hok.key
      have hsl : s.L.length ≤ 300 := by have := HM.out.run.sm.len; omega
      have hbk : s.buckets ≤ 1000 := by have := HM.out.run.sm.bk; omega
      have hlf : s.left ≤ 1000 := by have := left_le HM.out.run.at_; omega
      have hrise := HM.out.run.at_.rise
      clear hc hB hoo hok
      go_upto_block 2 with fail
      go_cut [10, 11, 12, 13, 14] from 47 to 119 (fun v10 _ _ _ _ wx => v10 = .bool true ∧ Hid (∃ F G s, Both W wx (m + 1) b F seed s rb G))
      case first =>
        by_cases hk0 : o.kind = 0
        · have hkb : (o.kind == 0) = true := by simpa using hk0
          have hc1 := put_run (HM.out.run.step (Below.drew (Below.refl _ wr))) (by omega) o.key o.v hkk
          have hc2 : ∀ w3, RAt w3 rb G1 s → Calls Try.prog 20 #[.pointer (some ⟨rb, 0, none⟩), .string o.key, .int .i64 o.v] w3 (RPost w3 rb G1 (s.put o.key o.v) (.tuple #[])) := fun w3 h => RefTab.put_any h hrise (by omega) (by omega) (by omega) o.key o.v
          have HC2 := Lib.hid hc2
          unfold RunPost at hc1
          clear hk0 hc2
          go_wp2_with fail
          refine wp_region_still_tail 11 (by kernel_rfl) (by kernel_rfl) ?_
          simp only [List.take_succ_cons, List.take_zero, List.drop_succ_cons, List.drop_zero]
          repeat still_step
          refine wpStill_nil ?_
          change wpList _ _ _ _ _ wr.drew
          go_wp2_with fail
          refine hc1.mono ?_
          rintro e w3 ⟨F3, rfl, r3, o3, g3⟩
          have HBt := Lib.hid (HM.out.step (Below.drew (Below.refl _ wr)))
          have hq := HBt.out.first r3 o3 g3
          have hc2 := HC2.out w3.drew (hq.1.below (Below.drew (Below.refl _ w3)))
          have H3 := Lib.hid (And.intro r3 (And.intro o3 g3))
          obtain ⟨d1, d2⟩ := HLC.out w3 r3.below
          unfold RPost at hc2
          clear hc1 r3 o3 g3 hq HC2 c0 c1 c2
          go_wp2_with fail
          refine wp_region_still_tail 11 (by kernel_rfl) (by kernel_rfl) ?_
          simp only [List.take_succ_cons, List.take_zero, List.drop_succ_cons, List.drop_zero]
          repeat still_step
          refine wpStill_nil ?_
          change wpList _ _ _ _ _ w3.drew
          go_wp2_with fail
          refine hc2.mono ?_
          rintro e w4 ⟨G4, rfl, r4, o4, g4⟩
          have H4 := Lib.hid (HBt.out.two H3.out.1 H3.out.2.1 H3.out.2.2 r4 (((Only.refl G1 w3).drew).trans o4 (Grows.refl _ _)) g4)
          clear hc2 r4 o4 g4
          go_wp2_with fail
          go_meet
          exact ⟨rfl, Lib.hid ⟨_, _, _, H4.out⟩⟩
        have hkb0 : (o.kind == 0) = false := by simpa using hk0
        clear hk0
        by_cases hk1 : o.kind = 1
        · have hkb : (o.kind == 1) = true := by simpa using hk1
          have hc1 := get_run HM.out.run o.key hkk
          have hc2 : ∀ w3, RAt w3 rb G1 s → Calls Try.prog 21 #[.pointer (some ⟨rb, 0, none⟩), .string o.key] w3 (RPost w3 rb G1 s.tick (getV s.L o.key)) := fun w3 h => RefTab.get_any h hrise (by omega) (by omega) o.key
          rw [getV_eq] at hc1 hc2
          obtain ⟨gz, hgz⟩ : ∃ z, gv s.L o.key = z := ⟨_, rfl⟩
          obtain ⟨bz, hbz⟩ : ∃ z, gb s.L o.key = z := ⟨_, rfl⟩
          rw [hgz, hbz] at hc1 hc2
          have HC2 := Lib.hid hc2
          have hq1 : (gz == gz) = true := by simp
          have hq2 : (bz == bz) = true := by simp
          unfold RunPost at hc1
          clear hk1 hc2 hgz hbz
          go_wp2_with fail
          refine hc1.mono ?_
          rintro e w3 ⟨F3, rfl, r3, o3, g3⟩
          have hq := HM.out.first r3 o3 g3
          have hc2 := HC2.out w3 hq.1
          have H3 := Lib.hid (And.intro r3 (And.intro o3 g3))
          obtain ⟨d1, d2⟩ := HLC.out w3 r3.below
          unfold RPost at hc2
          clear hc1 r3 o3 g3 hq HC2 c0 c1 c2
          go_wp2_with fail
          refine hc2.mono ?_
          rintro e w4 ⟨G4, rfl, r4, o4, g4⟩
          have H4 := Lib.hid ((HM.out.two H3.out.1 H3.out.2.1 H3.out.2.2 r4 o4 g4).mono (show m ≤ m + 1 by omega) (by omega))
          clear hc2 r4 o4 g4
          go_wp2_with fail
          go_meet
          exact ⟨rfl, Lib.hid ⟨_, _, _, H4.out⟩⟩
        have hkb1 : (o.kind == 1) = false := by simpa using hk1
        clear hk1
        by_cases hk2 : o.kind = 2
        · have hkb : (o.kind == 2) = true := by simpa using hk2
          have HB0 := Lib.hid (HM.out.step (Below.drew (Below.refl _ wr)))
          have hc1 := delete_run HB0.out.run o.key hkk
          have hc2 : ∀ w3, RAt w3 rb G1 s → Calls Try.prog 22 #[.pointer (some ⟨rb, 0, none⟩), .string o.key] w3 (RPost w3 rb G1 (s.del o.key) (.bool (Tab.get s.L o.key).isSome)) := fun w3 h => RefTab.del_any h hrise (by omega) (by omega) o.key
          obtain ⟨bz, hbz⟩ : ∃ z, (Tab.get s.L o.key).isSome = z := ⟨_, rfl⟩
          rw [hbz] at hc1 hc2
          have HC2 := Lib.hid hc2
          have hqq : (bz == bz) = true := by simp
          unfold RunPost at hc1
          unfold RPost at HC2
          clear hk2 hc2 hbz c0 c2
          go_wp2_with fail
          go_region_held3 (fun W' : World => W'.cell? ⟨B, off + m * 3 + 1, none⟩ = some (.string o.key))
            (first | exact c1 | exact (HLC.out _ r3.below).1 | exact (HLC.out _ H4.out.run.below).1)
            (first
              | (go_at_call 13; refine hc1.mono ?_; rintro e w3 ⟨F3, rfl, r3, o3, g3⟩)
              | (go_at_call 22; refine (HC2.out _ (HB0.out.first r3 o3 g3).1).mono ?_; rintro e w4 ⟨G4, rfl, r4, o4, g4⟩; have H4 := Lib.hid (HB0.out.two r3 o3 g3 r4 o4 g4)))
          clear hc1 r3 o3 g3 r4 o4 g4
          go_wp2_with fail
          go_meet
          exact ⟨rfl, Lib.hid ⟨_, _, _, H4.out.mono (show m ≤ m + 1 by omega) (by omega)⟩⟩
        have hkb2 : (o.kind == 2) = false := by simpa using hk2
        clear hk2
        go_wp2_with fail
        go_meet
        exact ⟨rfl, Lib.hid ⟨_, _, _, HM.out.mono (show m ≤ m + 1 by omega) (by omega)⟩⟩
      case rest =>
        obtain ⟨rfl, HC⟩ := hcut
        obtain ⟨F2, G2, s2, h2⟩ := HC.out
        clear HC c0 c1 c2 HM HLC hkk hsl hbk hlf hrise
        have hsl : s2.L.length ≤ 301 := by have := h2.run.sm.len; omega
        have h1 := len_any (h2.run.at_)
        obtain ⟨v2, hrw⟩ := h2.ref
        have H2 := Lib.hid (And.intro h2 hrw)
        obtain ⟨a, c', hv, hc, -⟩ := row_shape hrw.row
        subst hv
        have e0 : wc.cell? ⟨rb, 0, none⟩ = some (.slice a s2.L.length c') := Mem.row_cell hrw.blk 0
        have e1 : wc.cell? ⟨rb, 1, none⟩ = some (.int .i64 (s2.buckets : Nat)) := Mem.row_cell hrw.blk 1
        have e2 : wc.cell? ⟨rb, 2, none⟩ = some (.int .i64 (s2.left : Nat)) := Mem.row_cell hrw.blk 2
        have k1 := fun d => len_any ((H2.out.1.step (Mem.dn (Below.refl _ wc) d)).run.at_)
        have k2 := fun d => buckets_any ((H2.out.1.step (Mem.dn (Below.refl _ wc) d)).run.at_)
        have k3 := fun d => left_any ((H2.out.1.step (Mem.dn (Below.refl _ wc) d)).run.at_)
        have q1 : ((s2.L.length : Int) != s2.L.length) = false := by simp
        have q2 : ((s2.buckets : Int) != s2.buckets) = false := by simp
        have q3 : ((s2.left : Int) != s2.left) = false := by simp
        clear h1 h2 hrw
        go_wp2_with fail
        go_quiet (first | (go_at_call 16; exact Qt.left (k1 _)) | (go_at_call 18; exact Qt.left (k2 _)) | (go_at_call 17; exact Qt.left (k3 _)))
        have HF := Lib.hid (H2.out.1.step (Mem.dn (Below.refl _ wc) nq))
        clear k1 k2 k3
        go_wp2_with fail
        go_roundg (l.length - (m + 1))
        case measure => have := HG.out; omega
        case rel => exact ⟨m + 1, F2, G2, s2, by go_num, by have := HG.out; omega, HF⟩
    · have hml : (l.length : Int) ≤ m := by omega
      clear hm
      have hmb : m ≤ 300 := by have := HG.out; omega
      have h2 := HM.out
      have hsl : s.L.length ≤ 300 := by have := h2.run.sm.len; omega
      obtain ⟨v2, hrw⟩ := h2.ref
      have H2 := Lib.hid (And.intro h2 hrw)
      have hread := ReadsP.of_row hrw.row
      obtain ⟨a, c', hv, hc, -⟩ := row_shape hrw.row
      subst hv
      have e0 : wr.cell? ⟨rb, 0, none⟩ = some (.slice a s.L.length c') := Mem.row_cell hrw.blk 0
      have hall := all' (h2.run.step (Below.drew (Below.refl _ wr))) 1000
      rw [allN_all (by show _ ≤ 1000; omega)] at hall
      have hrbl := hrw.lt rb hrw.gb
      have HR := Lib.hid (And.intro hread hrbl)
      clear h2 hrw hread HM HG hrbl
      go_wp2_with fail
      go_region_held3 (fun W' : World => W'.cell? ⟨rb, 0, none⟩ = some (.slice a s.L.length c'))
        (first | exact e0 | exact (H4.out.2.cell (p := ⟨rb, 0, none⟩) HR.out.2).trans e0 | exact (((Mem.dn H4.out.2 d5)).cell (p := ⟨rb, 0, none⟩) HR.out.2).trans e0)
        (first
          | (go_at_call 14; refine hall.mono ?_; rintro e w4 ⟨a4, c4, rfl, hc4, H4'⟩; have H4 := Lib.hid (And.intro H4'.out.1 (Mem.tr (Below.drew (Below.refl _ wr)) H4'.out.2.2)))
          | (go_at_call 15; refine (same_any H4.out.1 (HR.out.1.below H4.out.2) (by omega)).mono ?_; rintro e w5 ⟨rfl, d5, rfl⟩))
      clear hall
      go_wp2_with fail
      go_ret
      exact ⟨rfl, Mem.dn' (Mem.tr H2.out.1.run.below H4.out.2) d5⟩
end Go.Proofs.Ytekcogoijlbmnaa.TableDoes
