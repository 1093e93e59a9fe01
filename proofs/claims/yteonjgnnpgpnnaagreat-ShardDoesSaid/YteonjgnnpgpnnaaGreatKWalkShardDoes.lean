/- KWalkShardDoes: WalkShardDoes, one behind the other. -/
import Derived.Test.YteonjgnnpgpnnaaGreatPart13
import Derived.Test.YteonjgnnpgpnnaaGreatPart8
import Derived.StillTailTactics
import Derived.Deep.QuietTactic
import Derived.BigQuiet
/- ShardDoes answers true for every seed, budget, bound and list of calls. Conditions: the numbers are of their kinds. -/
namespace Go.Proofs.YteonjgnnpgpnnaaGreat.ShardDoes
set_option maxRecDepth 100000
open Go Go.RowKit Go.Proofs.YteonjgnnpgpnnaaGreat.Mem Go.Proofs.YteonjgnnpgpnnaaGreat.App Go.Proofs.YteonjgnnpgpnnaaGreat.Ops Go.Proofs.YteonjgnnpgpnnaaGreat.Shard Go.Proofs.YteonjgnnpgpnnaaGreat.RefSh Go.Proofs.YteonjgnnpgpnnaaGreat.Same8

theorem items_at2 {W w : World} {N b : Nat} {col : Col} {s : St} (h : RAt W w N b col s) {base : Nat} {va vL : Value} (hit : ItemsAt base s.items va w) (hl : s.items.length ≤ 1000) (hv : w.cell? ⟨b, 0, none⟩ = some vL) :
    Calls Tryz.prog 9 #[va, vL] w fun e w' => e = .returned (.bool true) ∧ Below w.heap.size w w' := by
  obtain ⟨vL2, h1, -, h2⟩ := RefSh.items_any h hit hl
  have e : vL = vL2 := Option.some.inj (hv.symm.trans h1)
  subst e
  exact h2
theorem both_drops {W w : World} {M b rb : Nat} {col rcol : Col} {seed : Int} {s : St} (hB : Both W w M M b rb col rcol seed s s) (hM : M + 1 ≤ 400) :
    Calls Tryz.prog 15 #[.pointer (some ⟨b, 0, none⟩)] w fun e w' => ∃ v1, e = .returned v1 ∧
      Calls Tryz.prog 16 #[.pointer (some ⟨rb, 0, none⟩)] w' fun e w2 => ∃ v2, e = .returned v2 ∧ Below W.heap.size W w2 ∧ ReadsK w2 v1 s.drops ∧ ReadsK w2 v2 s.drops := by
  refine (drops_col hB.run.at_).mono ?_
  rintro e w' ⟨v1, rfl, ht, hrow, hcol⟩
  have hrt : RunTurn W w M b col seed { s with drops := [] } w' := RunTurn.of ht (Nat.le_refl _) (by omega) hB.run.inv.emptied
  obtain ⟨c3, hB3, f3⟩ := hB.shard hrt
  refine ⟨v1, rfl, (RefSh.drops_any hB3.ref).mono ?_⟩
  rintro e w2 ⟨v2, rfl, ht2, hrow2⟩
  obtain ⟨r4, hr4, f4⟩ := ht2
  obtain ⟨_, _, _, _, _, hp⟩ := hr4
  exact ⟨v2, rfl, hp.below, reads_same hrow rfl fun g e => f4.keep (own_block_lt hrow g e).2 (hB.sep g (hcol g e)), ReadsK.of_row hrow2⟩
/-- What a walk reads of the document's shard. -/
theorem both_reads {W w : World} {M b rb : Nat} {col rcol : Col} {seed : Int} {s : St} (hB : Both W w M M b rb col rcol seed s s) (hM : M ≤ 400) : ∃ a c mb, w.cell? ⟨rb, 0, none⟩ = some (.slice a s.items.length c) ∧ w.cell? ⟨rb, 1, none⟩ = some (.pointer (some ⟨mb, 0, none⟩)) ∧ rb < w.heap.size ∧
    ∀ d, Calls Tryz.prog 12 #[.pointer (some ⟨mb, 0, none⟩)] (w.drewN d) fun e w' => e = .returned (.int .i64 s.slab.used) ∧ w.drewN d = w' := by
  obtain ⟨ad, vL, vd, vv, rfl, h⟩ := hB.ref
  obtain ⟨a, c, hv, hc, -⟩ := h.shape
  have hn := nn_max hM
  refine ⟨a, c, ad.mb, ?_, Mem.row_cell h.self 1, (h.lt _ _ h.csb).2, fun d => (h.step (Mem.dn (Below.refl _ w) d)).used hB.run.inv.slab (by omega)⟩
  rw [items_len, ← hv]
  exact Mem.row_cell h.self 0
set_option maxHeartbeats 8000000 in
theorem walk (W : World) (seed budget protect : Int) (x : Option Addr) (n0 c : Nat) (l : List Shard.Op) (hseed : 0 ≤ seed ∧ seed ≤ 18446744073709551615) (hbud : -9223372036854775808 ≤ budget ∧ budget ≤ 9223372036854775807) (_ : -9223372036854775808 ≤ protect ∧ protect ≤ 9223372036854775807) (hl : n0 = l.length ∧ n0 ≤ maxLen ∧ (∀ a ∈ l, OpOk W a) ∧ Lies W 15 encO x l) :
    Calls Tryz.prog 3 #[.int .u64 seed, .int .i64 budget, .int .i64 protect, .slice x n0 c] W fun e W' => e = .returned (.bool true) ∧ Below W.heap.size W W' := by
  obtain ⟨rfl, hml, hok, hlies⟩ := hl
  unfold maxLen at hml
  have HL := Lib.hid (And.intro hok hlies)
  go_enter Tryz.func3, Tryz.ntmps3
  go_wp2_with fail
  refine (awake_any W).mono ?_
  rintro e w1 ⟨rfl, hb1⟩
  have hfew := few_any (c := c) (hlies.same hb1) (by unfold maxLen; exact hml) hok
  have HF : Hid (fewB l = true → l.length ≤ 80 ∧ ∀ o ∈ l, o.it.key.size ≤ 300 ∧ o.it.val.length ≤ 3000) := Lib.hid (by unfold fewB; exact of_decide_eq_true)
  generalize fewB l = q at *
  have H1 := Lib.hid hb1
  clear hok hlies hb1
  go_wp2_with fail
  refine hfew.mono ?_
  rintro e w2 ⟨rfl, rfl⟩
  clear hfew
  have hnew := new_run H1.out seed budget protect hseed.1 (by omega) hbud
  go_wp2_with fail
  refine hnew.mono ?_
  rintro e w3 ⟨b, col, rfl, r3, -, -⟩
  have HR := Lib.hid r3
  clear hnew r3
  cases q with
  | false =>
    go_wp2_with fail
    go_ret
    exact ⟨rfl, HR.out.below⟩
  | true =>
    obtain ⟨h80, hsz⟩ := HF.out rfl
    have hl80 : (l.length : Int) ≤ 80 := by omega
    have HSZ := Lib.hid (And.intro hsz h80)
    have hrnew := RefSh.new_any HR.out.below seed budget protect
    clear hml h80 hsz
    go_wp2_with fail
    refine hrnew.mono ?_
    rintro e w4 ⟨rb, rcol, rfl, r4, hlow, hb4⟩
    have hboth : Both W w4 0 0 b rb col rcol seed (St.new seed budget protect) (St.new seed budget protect) := ⟨HR.out.step hb4, r4, fun k hk => Classical.byContradiction fun e => by have := (HR.out.low k hk).2; have := hlow k e; omega⟩
    have HB := Lib.hid hboth
    clear hrnew r4 hlow hb4 hboth
    go_wp2_with fail
    go_loopg [13, 14, 15] l.length (fun gh i _ _ wr => ∃ (m : Nat), i = .int .i64 m ∧ gh + m = l.length ∧ Hid (∃ col rcol s, Both W wr m m b rb col rcol seed s s))
    case atStart => exact ⟨0, rfl, by omega, Lib.hid ⟨col, rcol, _, HB.out⟩⟩
    case round =>
      obtain ⟨m, rfl, hg, HS⟩ := hrel
      have HG := Lib.hid hg
      by_cases hm : m < l.length
      · obtain ⟨colr, rcolr, s, hB⟩ := HS.out
        obtain ⟨o, ho⟩ : ∃ o, l[m]? = some o := ⟨_, List.getElem?_eq_getElem hm⟩
        have hop := op_at HL.out.2 HL.out.1 hB.run.below ho
        obtain ⟨Bx, off, rfl, hBx, hc⟩ := hop.at_
        obtain ⟨va, vc, hv⟩ := hop.shape
        have hsrc := hop.src hB.run.below
        have hz := HSZ.out.1 o (List.mem_of_getElem? ho)
        have hlw := fun g (hx : o.it.val ≠ []) e => hop.ok.low g hx e
        rw [hv] at hsrc hlw
        have c0 : wr.cell? ⟨Bx, off + m * 15, none⟩ = some (.int .i64 o.kind) := hc 0 _ rfl
        have c1 := hc 1 _ rfl
        have c2 := hc 2 _ rfl
        have c3 := hc 3 _ rfl
        have c4 := hc 4 _ rfl
        have c5 := hc 5 _ rfl
        have c6 := hc 6 _ rfl
        have c7 := hc 7 _ rfl
        have c8 := hc 8 _ rfl
        have c9 := hc 9 _ rfl
        have c10 := hc 10 _ rfl
        have c11 := hc 11 _ rfl
        have c12 := hc 12 _ rfl
        have c13 := hc 13 _ rfl
        have c14 := hc 14 _ rfl
        rw [hv] at c2
        have hmi : (m : Int) < l.length := by omega
        have hm80 : m < 80 := by have := HSZ.out.2; omega
        have hdo := do_any hB (by omega) o.kind o.it va vc o.env hsrc (fun hx g e => hlw g hx e) hz.1 hz.2
        unfold oarr at hdo
        clear hc hBx hop hsrc hz hlw ho hv hB hg hm
        go_wp2_with fail
        refine hdo.mono ?_
        rintro e w5 ⟨rfl, col5, rcol5, s5, hB5⟩
        obtain ⟨ra, rc, mb, e0, e1, hrl, hus⟩ := both_reads hB5 (by omega)
        have hall := all_run (hB5.run.step (Below.drew (Below.refl _ w5))) (by omega) 1000
        have hil := hB5.run.ilen
        have htk : s5.items.take (1000 : Int).toNat = s5.items := List.take_of_length_le (by have : (1000 : Int).toNat = 1000 := rfl; omega)
        rw [htk] at hall
        have H5 := Lib.hid (And.intro hB5 (And.intro hrl hil))
        clear hdo hB5 hil htk hrl hus c0 c1 c2 c3 c4 c5 c6 c7 c8 c9 c10 c11 c12 c13 c14 e1
        go_wp2_with fail
        go_region_held3 (fun W' : World => W'.cell? ⟨rb, 0, none⟩ = some (.slice ra s5.items.length rc))
          (first | exact e0 | exact (World.cell?_of_block (H6.out.2.block rb H5.out.2.1)).trans e0 | exact (World.cell?_of_block (H7.out.block rb H5.out.2.1)).trans e0)
          (first
            | (go_at_call 10; refine hall.mono ?_; rintro en w6 ⟨v6, rfl, hit, hb6⟩; have H6 := Lib.hid (And.intro hit (Mem.tr (Below.drew (Below.refl _ w5)) hb6)); clear hit hb6)
            | (go_at_call 9; refine (items_at2 (H5.out.1.ref.step H6.out.2) H6.out.1 (by have := H5.out.2.2; omega) ((World.cell?_of_block (H6.out.2.block rb H5.out.2.1)).trans e0)).mono ?_; rintro en w7 ⟨rfl, hb7⟩; have H7 := Lib.hid (Mem.tr H6.out.2 hb7); clear hb7))
        have hB7 := H5.out.1.step H7.out
        obtain ⟨ra7, rc7, mb7, f0, f1, hrl7, hus7⟩ := both_reads hB7 (by omega)
        have k1 := fun d => used_any ((hB7.step (Mem.dn (Below.refl _ w7) d)).run.at_)
        have k3 := fun d => len_any ((hB7.step (Mem.dn (Below.refl _ w7) d)).run.at_)
        have q1 : ((s5.slab.used : Int) != s5.slab.used) = false := by simp
        have q2 : ((s5.tab.L.length : Int) != s5.items.length) = false := by rw [items_len]; simp
        have H8 := Lib.hid hB7
        clear hall e0 hB7 hrl7
        go_wp2_with fail
        go_quiet (first | (go_at_call 11; exact Qt.left (k1 _)) | (go_at_call 12; exact Qt.left (hus7 _)) | (go_at_call 13; exact Qt.left (k3 _)))
        have HFn := Lib.hid (H8.out.step (Mem.dn (Below.refl _ w7) nq))
        clear k1 k3 hus7 f0 f1 q1 q2
        go_wp2_with fail
        go_roundg (l.length - (m + 1))
        case measure => have := HG.out; omega
        case rel => exact ⟨m + 1, by go_num, by have := HG.out; omega, Lib.hid ⟨_, _, _, HFn.out⟩⟩
      · have hml : (l.length : Int) ≤ m := by omega
        have hm80 : m ≤ 80 := by have := HSZ.out.2; omega
        obtain ⟨colr, rcolr, s, hB⟩ := HS.out
        have hdr := both_drops hB (by omega)
        have hdl : s.drops.length ≤ 1000000000000 := by have := hB.run.inv.dl; have := nn_max (M := m) (by omega); omega
        clear hm hB HS hg HG
        go_wp2_with fail
        refine hdr.mono ?_
        rintro e w5 ⟨v1, rfl, h2⟩
        clear hdr
        go_wp2_with fail
        refine h2.mono ?_
        rintro e w6 ⟨v2, rfl, hb6, s1, s2⟩
        have hsm := Same8.same_any s1 s2 hdl
        have hde : decide (s.drops = s.drops) = true := by simp
        rw [hde] at hsm
        have H6 := Lib.hid hb6
        clear h2 hb6 s1 s2 hde hdl
        go_wp2_with fail
        refine hsm.mono ?_
        rintro e w7 ⟨rfl, d, hw7⟩
        have H7 : Hid (Below W.heap.size W w7) := Lib.hid (by rw [hw7]; exact Mem.dn' H6.out d)
        clear hsm hw7
        go_wp2_with fail
        go_ret
        exact ⟨rfl, H7.out⟩
end Go.Proofs.YteonjgnnpgpnnaaGreat.ShardDoes

