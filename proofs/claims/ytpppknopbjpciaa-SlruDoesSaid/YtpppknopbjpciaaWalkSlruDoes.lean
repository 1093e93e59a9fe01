/- SlruDoes answers true for every most and list of calls. Conditions: the numbers are ints. -/
import Derived.Test.YtpppknopbjpciaaSlruRef5
import Derived.Deep.CutRange
import Derived.Deep.CutBlock
import Derived.Deep.RegionHeld3
namespace Go.Proofs.Ytpppknopbjpciaa.RefSlru
open Go Go.RowKit Go.Proofs.Ytpppknopbjpciaa.Slru Go.Proofs.Ytpppknopbjpciaa.Mem Go.Proofs.Ytpppknopbjpciaa.Ops

/-- The list and the document's own one beside each other. -/
structure Both (W w : World) (N b : Nat) (F : Nat → Prop) (s : St) (rb : Nat) (G : Nat → Prop) : Prop where
  run : Run W w N b F s
  ref : RAt w rb G s
  rlow : ∀ k, G k → W.heap.size ≤ k
  apart : ∀ k, F k → ¬ G k
section
variable {W w w1 w2 w' : World} {N M b rb : Nat} {F F1 G G2 : Nat → Prop} {s s1 : St}
theorem Both.step (h : Both W w N b F s rb G) (hb : Below w.heap.size w w') : Both W w' N b F s rb G := ⟨h.run.step hb, h.ref.below hb, h.rlow, h.apart⟩
theorem Both.mono (h : Both W w N b F s rb G) (hm : N ≤ M) : Both W w M b F s rb G := ⟨h.run.mono hm, h.ref, h.rlow, h.apart⟩
theorem Both.first (h : Both W w N b F s rb G) (ha : At w1 b F1 s1) (ho : Only F w w1) (hg : Grows w F F1) (hM : s1.all.length ≤ M) : Run W w1 M b F1 s1 ∧ RAt w1 rb G s ∧ ∀ k, F1 k → ¬ G k :=
  ⟨h.run.post ha ho hg hM, h.ref.only ho (fun k hk e => h.apart k e hk), fun k hk e => (hg k hk).elim (fun e1 => h.apart k e1 e) (fun e1 => by have := h.ref.lt k e; omega)⟩
theorem Both.two (h : Both W w N b F s rb G) (ha : At w1 b F1 s1) (ho : Only F w w1) (hg : Grows w F F1) (hM : s1.all.length ≤ M) (ha2 : RAt w2 rb G2 s1) (ho2 : Only G w1 w2) (hg2 : Grows w1 G G2) : Both W w2 M b F1 s1 rb G2 := by
  obtain ⟨q1, q2, q3⟩ := h.first ha ho hg hM
  exact ⟨⟨q1.at_.only ho2 q3, q1.low, Below.trans q1.below (ho2.below q1.below.size h.rlow), hM⟩, ha2, fun k hk => (hg2 k hk).elim (h.rlow k) (fun e => Nat.le_trans q1.below.size e), fun k hk e => (hg2 k e).elim (fun e1 => q3 k hk e1) (fun e1 => by have := q1.lt k hk; omega)⟩
end
end Go.Proofs.Ytpppknopbjpciaa.RefSlru
namespace Go.Proofs.Ytpppknopbjpciaa.SlruDoes
open Go Go.RowKit Go.Proofs.Ytpppknopbjpciaa.Slru Go.Proofs.Ytpppknopbjpciaa.RefSlru Go.Proofs.Ytpppknopbjpciaa.Mem Go.Proofs.Ytpppknopbjpciaa.Ops

set_option maxRecDepth 20000 in
set_option maxHeartbeats 4000000 in
theorem walk (W : World) (most : Int) (x : Option Addr) (n0 c : Nat) (l : List Slru.Op) (_ : -9223372036854775808 ≤ most ∧ most ≤ 9223372036854775807) (hl : n0 = l.length ∧ n0 ≤ maxLen ∧ (∀ a ∈ l, OpOk a) ∧ Lies W 2 encO x l) :
    Calls Try.prog 4 #[.int .i64 most, .slice x n0 c] W fun e W' => e = .returned (.bool true) ∧ Below W.heap.size W W' := by
  obtain ⟨rfl, hml, -, hlies⟩ := hl
  have HL := Lib.hid hlies
  go_enter Try.func4, Try.ntmps4
  go_wp2_with fail
  refine (awake_any W).mono ?_
  rintro e w1 ⟨rfl, hb1⟩
  have hlies1 : Lies w1 2 encO x l := fun i a hi => by
    obtain ⟨B, off, e, hB, hc⟩ := hlies i a hi
    exact ⟨B, off, e, Nat.lt_of_lt_of_le hB hb1.size, fun j u hj => (World.cell?_of_block (hb1.block B hB)).trans (hc j u hj)⟩
  have hshort := short_any (c := c) hlies1 hml
  clear hlies1 hlies hml
  have HS : Hid (shortB l = true → l.length ≤ 200) := Lib.hid (by unfold shortB; intro h; simp at h; exact h.1)
  generalize shortB l = q at *
  go_wp2_with fail
  refine hshort.mono ?_
  rintro e w2 ⟨rfl, rfl⟩
  go_wp2_with fail
  refine (new_run hb1 most).mono ?_
  rintro e w2 ⟨b, F, rfl, r2⟩
  clear hshort hb1
  cases q with
  | false =>
    go_wp2_with fail
    go_ret
    exact ⟨rfl, r2.below⟩
  | true =>
    have hl200 := HS.out rfl
    have h3 : Both W (w2.alloc (rlistObj most (.slice none 0 0) (.slice none 0 0))) 0 b F (new most) w2.heap.size (fun k => k = w2.heap.size) :=
      ⟨r2.step (Mem.al (Below.refl _ _) _), ⟨_, _, Mem.new_block w2 _, World.ownsRow_nil _ _ _ _, .inl ⟨rfl, rfl⟩, rfl, fun g e => (by cases e), fun g e => (by cases e), fun g e => (by cases e), fun e => (by cases e), fun k hk => (by subst hk; simp)⟩, fun k hk => (by subst hk; exact r2.below.size), fun k hk e => by have := r2.lt k hk; omega⟩
    unfold rlistObj at h3
    clear r2
    go_wp2_with fail
    generalize w2.heap.size = rb at *
    generalize w2.alloc (.cells #[.int .i64 most, .slice none 0 0, .slice none 0 0] 38) = w3 at *
    go_loopg [9] l.length (fun g i wr => ∃ (m : Nat) (F G : Nat → Prop) (s : St), i = .int .i64 m ∧ g + m = l.length ∧ Hid (Both W wr m b F s rb G))
    case atStart => exact ⟨0, F, _, new most, rfl, by omega, Lib.hid h3⟩
    case round =>
      obtain ⟨m, F1, G1, s, rfl, hg, HM⟩ := hrel
      have HG := Lib.hid hg
      clear hg h3
      by_cases hm : m < l.length
      · obtain ⟨o, ho⟩ : ∃ o, l[m]? = some o := ⟨_, List.getElem?_eq_getElem hm⟩
        obtain ⟨B, off, rfl, hB, hc⟩ := HL.out m o ho
        have c0 : wr.cell? ⟨B, off + m * 2, none⟩ = some (.int .i64 o.kind) := (World.cell?_of_block (HM.out.run.below.block B hB)).trans (hc 0 _ rfl)
        have c1 : wr.cell? ⟨B, off + m * 2 + 1, none⟩ = some (.string o.key) := (World.cell?_of_block (HM.out.run.below.block B hB)).trans (hc 1 _ rfl)
        have hmi : (m : Int) < l.length := by omega
        have hsl : s.all.length ≤ 200 := by have := HM.out.run.len; omega
        clear hc hB ho
        go_upto_block 2 with fail
        go_cut [11, 12, 13, 14, 15] from 40 to 133 (fun v11 _ _ _ _ wx => ∃ F G s, v11 = .bool true ∧ Both W wx (m + 1) b F s rb G)
        case first =>
          by_cases hk0 : o.kind = 0
          · have hkb : (o.kind == 0) = true := by simpa using hk0
            clear hk0
            have hc1 := Slru.add_any HM.out.run.at_ o.key (by omega)
            have hc2 : ∀ w3, RAt w3 rb G1 s → Calls Try.prog 16 #[.pointer (some ⟨rb, 0, none⟩), .string o.key] w3 (RTurn w3 rb G1 (s.add o.key)) := fun w3 h => RefSlru.add_any h o.key (by omega)
            unfold TurnPost at hc1
            unfold RTurn at hc2
            have hlen := add_len s o.key
            have hs1 : s.all.length ≤ m := HM.out.run.len
            obtain ⟨⟨q, s1⟩, hy⟩ : ∃ y, s.add o.key = y := ⟨_, rfl⟩
            rw [hy] at hc1 hc2 hlen
            have hqq : (q == q) = true := by simp
            clear hy
            go_wp2_with (first
              | (go_at_call 12; refine hc1.mono ?_; rintro e w4 ⟨F4, rfl, h4, o4, g4⟩)
              | (go_at_call 16; refine (hc2 _ (HM.out.first h4 o4 g4 (Nat.le_refl _)).2.1).mono ?_; rintro e w5 ⟨G5, rfl, h5, o5, g5⟩))
            go_meet
            exact ⟨F4, G5, s1, rfl, HM.out.two h4 o4 g4 (Nat.le_trans hlen (by omega)) h5 o5 g5⟩
          have hkb0 : (o.kind == 0) = false := by simpa using hk0
          clear hk0
          by_cases hk1 : o.kind = 1
          · have hkb : (o.kind == 1) = true := by simpa using hk1
            clear hk1
            have hc1 := Slru.hit_any HM.out.run.at_ o.key (by omega)
            have hc2 : ∀ w3, RAt w3 rb G1 s → Calls Try.prog 17 #[.pointer (some ⟨rb, 0, none⟩), .string o.key] w3 (RTurn w3 rb G1 (s.hit o.key)) := fun w3 h => RefSlru.hit_any h o.key (by omega)
            unfold TurnPost at hc1
            unfold RTurn at hc2
            have hlen := hit_len s o.key
            have hs1 : s.all.length ≤ m := HM.out.run.len
            obtain ⟨⟨q, s1⟩, hy⟩ : ∃ y, s.hit o.key = y := ⟨_, rfl⟩
            rw [hy] at hc1 hc2 hlen
            have hqq : (q == q) = true := by simp
            clear hy
            go_wp2_with (first
              | (go_at_call 11; refine hc1.mono ?_; rintro e w4 ⟨F4, rfl, h4, o4, g4⟩)
              | (go_at_call 17; refine (hc2 _ (HM.out.first h4 o4 g4 (Nat.le_refl _)).2.1).mono ?_; rintro e w5 ⟨G5, rfl, h5, o5, g5⟩))
            go_meet
            exact ⟨F4, G5, s1, rfl, HM.out.two h4 o4 g4 (Nat.le_trans hlen (by omega)) h5 o5 g5⟩
          have hkb1 : (o.kind == 1) = false := by simpa using hk1
          clear hk1
          by_cases hk2 : o.kind = 2
          · have hkb : (o.kind == 2) = true := by simpa using hk2
            clear hk2
            have hc1 := Slru.remove_any HM.out.run.at_ o.key (by omega)
            have hc2 : ∀ w3, RAt w3 rb G1 s → Calls Try.prog 19 #[.pointer (some ⟨rb, 0, none⟩), .string o.key] w3 (RTurn w3 rb G1 (s.remove o.key)) := fun w3 h =>
              (RefSlru.remove_any h o.key (by omega)).mono fun e w' ⟨G', vt, vs, he, h1, h2, h3, _⟩ => ⟨G', he, ⟨vt, vs, h1⟩, h2, h3⟩
            unfold TurnPost at hc1
            unfold RTurn at hc2
            have hlen := remove_len s o.key
            have hs1 : s.all.length ≤ m := HM.out.run.len
            obtain ⟨⟨q, s1⟩, hy⟩ : ∃ y, s.remove o.key = y := ⟨_, rfl⟩
            rw [hy] at hc1 hc2 hlen
            have hqq : (q == q) = true := by simp
            clear hy
            go_wp2_with (first
              | (go_at_call 18; refine hc1.mono ?_; rintro e w4 ⟨F4, rfl, h4, o4, g4⟩)
              | (go_at_call 19; refine (hc2 _ (HM.out.first h4 o4 g4 (Nat.le_refl _)).2.1).mono ?_; rintro e w5 ⟨G5, rfl, h5, o5, g5⟩))
            go_meet
            exact ⟨F4, G5, s1, rfl, HM.out.two h4 o4 g4 (Nat.le_trans hlen (by omega)) h5 o5 g5⟩
          have hkb2 : (o.kind == 2) = false := by simpa using hk2
          clear hk2
          by_cases hk3 : o.kind = 3
          · have hkb : (o.kind == 3) = true := by simpa using hk3
            clear hk3
            have hc1 := Slru.victim_any HM.out.run.at_ o.key
            have hc2 : ∀ w3, RAt w3 rb G1 s → Calls Try.prog 21 #[.pointer (some ⟨rb, 0, none⟩), .string o.key] w3 fun e w' => e = .returned (.tuple #[.string (vic s o.key).1, .bool (vic s o.key).2]) ∧ Below w3.heap.size w3 w' := fun w3 h => RefSlru.victim_any h o.key (by omega)
            obtain ⟨⟨vk, vb⟩, hy⟩ : ∃ y, vic s o.key = y := ⟨_, rfl⟩
            rw [hy] at hc1 hc2
            have hse := str_eq vk
            have hqq : (vb == vb) = true := by simp
            clear hy
            go_wp2_with (first
              | (go_at_call 20; refine hc1.mono ?_; rintro e w4 ⟨rfl, hb4⟩)
              | (go_at_call 21; refine (hc2 _ (HM.out.step hb4).ref).mono ?_; rintro e w5 ⟨rfl, hb5⟩))
            go_meet
            exact ⟨F1, G1, s, rfl, ((HM.out.step hb4).step hb5).mono (by omega)⟩
          have hkb3 : (o.kind == 3) = false := by simpa using hk3
          clear hk3
          go_wp2_with fail
          go_meet
          exact ⟨F1, G1, s, rfl, HM.out.mono (by omega)⟩
        case rest =>
          obtain ⟨F2, G2, s2, rfl, h2⟩ := hcut
          clear c0 c1 HM hsl
          have hsl : s2.all.length ≤ 200 := by have := h2.run.len; omega
          have h1000 : allN s2 1000 = s2.all := by unfold allN; exact List.take_of_length_le (by simp; omega)
          have ha := all_law h2.run.at_ 1000 (by omega)
          rw [h1000] at ha
          have H2 := Lib.hid h2
          clear h2 h1000
          go_wp2_with fail
          refine ha.mono ?_
          rintro e w4 ⟨va, rfl, rowa, hb4⟩
          have H4 := Lib.hid (And.intro (H2.out.step hb4) (ReadsK.of_row rowa))
          have hall2 := RefSlru.all_any H4.out.1.ref (by omega)
          clear ha rowa hb4
          obtain ⟨ya, yc, hva, -, -⟩ := H4.out.2
          subst hva
          go_wp2_with fail
          refine hall2.mono ?_
          rintro e w5 ⟨vb, rfl, rowb, hb5⟩
          have hsame := same_any (H4.out.2.below hb5) (ReadsK.of_row rowb) (by omega)
          rw [show decide (s2.all = s2.all) = true from by simp] at hsame
          have H5 := Lib.hid (H4.out.1.step hb5)
          obtain ⟨yb, ybc, hvb, -, -⟩ := ReadsK.of_row rowb
          subst hvb
          clear hall2 rowb hb5
          go_wp2_with fail
          refine hsame.mono ?_
          rintro e w6 ⟨rfl, d6, rfl⟩
          have h6 := H5.out.step (Mem.dn (Below.refl _ _) d6)
          generalize w5.drewN d6 = w6 at *
          have h6' := h6
          obtain ⟨run6, ⟨vt, vs, ref6⟩, -, -⟩ := h6'
          obtain ⟨ys, ysc, hvs, -⟩ := ref6.rs.shape
          subst hvs
          have cs := Mem.row_cell ref6.blk 2
          simp only [List.getElem?_toArray, List.getElem?_cons_zero, List.getElem?_cons_succ] at cs
          have H6 := Lib.hid (And.intro h6 ref6)
          have hlenc := len_any (H6.out.1.step (Below.drew (Below.refl _ _))).run.at_ (by omega)
          have hallc : ∀ w', Below w6.heap.size w6 w' → Calls Try.prog 22 #[.pointer (some ⟨rb, 0, none⟩)] w' (AllPost w' s2.all) := fun w' hb => RefSlru.all_any (H6.out.1.step hb).ref (by omega)
          have hproc : ∀ w', Below w6.heap.size w6 w' → Calls Try.prog 23 #[.pointer (some ⟨b, 0, none⟩)] w' fun e w'' => e = .returned (.int .i64 s2.safe.length) ∧ w' = w'' := fun w' hb => protected_any (H6.out.1.step hb).run.at_
          have hcsb : ∀ w', Below w6.heap.size w6 w' → w'.cell? ⟨rb, 2, none⟩ = some (.slice ys s2.safe.length ysc) := fun w' hb => Mem.row_cell (H6.out.2.below hb).blk 2
          have hd := Below.drew (Below.refl w6.heap.size w6)
          have hn1 : ((s2.all.length : Int) != s2.all.length) = false := by simp
          have hn2 : ((s2.safe.length : Int) != s2.safe.length) = false := by simp
          clear h6 run6 ref6 hsame H4 H5
          go_wp2_with fail
          go_region_held3 (fun W' : World => W'.cell? ⟨rb, 2, none⟩ = some (.slice ys s2.safe.length ysc))
            (first | exact cs | exact hcsb _ (Mem.dn (Below.refl _ _) (1 + d7)) | exact hcsb _ (Mem.tr (Mem.dn (Below.refl _ _) (1 + d7)) hb8))
            (first
              | (go_at_call 15; refine hlenc.mono ?_; rintro e w7 ⟨rfl, d7, rfl⟩)
              | (go_at_call 22; refine (hallc _ (Mem.dn (Below.refl _ _) (1 + d7))).mono ?_; rintro e w8 ⟨v8, rfl, row8, hb8⟩; obtain ⟨y8, y8c, rfl, -, -⟩ := ReadsK.of_row row8)
              | (go_at_call 23; refine (hproc _ (Mem.tr (Mem.dn (Below.refl _ _) (1 + d7)) hb8)).mono ?_; rintro e w9 ⟨rfl, rfl⟩))
          have HF := Lib.hid (H6.out.1.step (Mem.tr (Mem.dn (Below.refl _ _) (1 + d7)) hb8))
          clear row8 hb8 hlenc hallc hproc hcsb cs hd
          go_wp2_with fail
          go_roundg (l.length - (m + 1))
          case measure => have := HG.out; omega
          case rel => exact ⟨m + 1, F2, G2, s2, by go_num, by have := HG.out; omega, HF⟩
      · have hml : (l.length : Int) ≤ m := by omega
        go_wp2_with fail
        go_ret
        exact ⟨rfl, HM.out.run.below⟩
end Go.Proofs.Ytpppknopbjpciaa.SlruDoes
