/- SlruOnce answers true for every most and list of calls. Conditions: the numbers are ints. -/
import Derived.Test.YtpppknopbjpciaaSlru11
namespace Go.Proofs.Ytpppknopbjpciaa.SlruOnce
open Go Go.RowKit Go.Proofs.Ytpppknopbjpciaa.Slru Go.Proofs.Ytpppknopbjpciaa.Mem Go.Proofs.Ytpppknopbjpciaa.Ops

/-- No more are protected than may be. -/
def Few (s : St) : Prop := (s.safe.length : Int) ≤ max s.most 0
theorem few_step (s : St) (o : Slru.Op) (h : Few s) : Few (Slru.step s o) ∧ (Slru.step s o).most = s.most := by
  unfold Slru.step
  split
  · unfold St.add; split
    · exact ⟨h, rfl⟩
    · exact ⟨h, rfl⟩
  · split
    · unfold St.hit; split
      · unfold St.moved; split
        · rename_i hm
          refine ⟨?_, rfl⟩
          unfold Few at h ⊢
          have h1 := without_len s.safe o.key
          simp only [List.length_drop, List.length_append, List.length_cons, List.length_nil] at hm ⊢
          omega
        · rename_i hm
          exact ⟨by unfold Few; simp only; omega, rfl⟩
      · exact ⟨h, rfl⟩
    · split
      · unfold St.remove; split
        · refine ⟨?_, rfl⟩
          unfold Few at h ⊢
          have h1 := without_len s.safe o.key
          simp only; omega
        · exact ⟨h, rfl⟩
      · exact ⟨h, rfl⟩
theorem few_fold (l : List Slru.Op) (s : St) (h : Few s) : Few (l.foldl Slru.step s) ∧ (l.foldl Slru.step s).most = s.most := by
  induction l generalizing s with
  | nil => exact ⟨h, rfl⟩
  | cons o l ih =>
    have h1 := few_step s o h
    have h2 := ih _ h1.1
    exact ⟨h2.1, h2.2.trans h1.2⟩
theorem few_play (most : Int) (l : List Slru.Op) : ((play most l).safe.length : Int) ≤ max most 0 := by
  have h := few_fold l (new most) (by unfold Few; simp [new]; omega)
  have h1 := h.1
  unfold Few at h1
  rw [h.2] at h1
  exact h1

set_option maxRecDepth 20000 in
set_option maxHeartbeats 2000000 in
theorem walk (W : World) (most : Int) (x : Option Addr) (n0 c : Nat) (l : List Slru.Op) (_ : -9223372036854775808 ≤ most ∧ most ≤ 9223372036854775807) (hl : n0 = l.length ∧ n0 ≤ maxLen ∧ (∀ a ∈ l, OpOk a) ∧ Lies W 2 encO x l) :
    Calls Try.prog 5 #[.int .i64 most, .slice x n0 c] W fun e W' => e = .returned (.bool true) ∧ Below W.heap.size W W' := by
  obtain ⟨rfl, hml, -, hlies⟩ := hl
  go_enter Try.func5, Try.ntmps5
  go_wp2_with fail
  refine (awake_any W).mono ?_
  rintro e w1 ⟨rfl, hb1⟩
  have hlies1 : Lies w1 2 encO x l := fun i a hi => by
    obtain ⟨B, off, e, hB, hc⟩ := hlies i a hi
    exact ⟨B, off, e, Nat.lt_of_lt_of_le hB hb1.size, fun j u hj => (World.cell?_of_block (hb1.block B hB)).trans (hc j u hj)⟩
  have hshort := short_any (c := c) hlies1 hml
  have hplay := played_any (c := c) most hlies1 hml
  clear hlies1 hlies
  have HS : Hid (shortB l = true → l.length ≤ 200) := Lib.hid (by unfold shortB; intro h; simp at h; exact h.1)
  generalize shortB l = q at *
  go_wp2_with fail
  refine hshort.mono ?_
  rintro e w2 ⟨rfl, rfl⟩
  go_wp2_with fail
  refine hplay.mono ?_
  rintro e w2 ⟨b, F, rfl, r2⟩
  have hb2 : Below W.heap.size W w2 := hb1.trans (r2.below.mono hb1.size)
  clear hshort hplay
  cases q with
  | false =>
    clear hml
    go_wp2_with fail
    go_ret
    exact ⟨rfl, hb2⟩
  | true =>
    have hl200 := HS.out rfl
    have hfew := few_play most l
    have hsl : (play most l).all.length ≤ 200 := Nat.le_trans r2.len hl200
    have hnd := r2.at_.nodup
    generalize play most l = s at *
    have h1000 : allN s 1000 = s.all := by unfold allN; exact List.take_of_length_le (by simp; omega)
    have ha1 := all_law r2.at_ 1000 (by omega)
    rw [h1000] at ha1
    have HR := Lib.hid (And.intro r2 (And.intro hb2 (And.intro hnd hfew)))
    clear r2 hb2 hnd hml hb1 hfew
    go_wp2_with fail
    refine ha1.mono ?_
    rintro e w3 ⟨va, rfl, rowa, hb3⟩
    have hra := ReadsK.of_row rowa
    obtain ⟨ya, yc, rfl, hac, hrd⟩ := hra
    have HRD := Lib.hid hrd
    have HB := Lib.hid hb3
    clear rowa ha1 hrd hb3
    go_wp2_with fail
    go_loopg [9, 10] s.all.length (fun g i _ wr => ∃ (m : Nat), i = .int .i64 m ∧ g + m = s.all.length ∧ ∃ d, wr = w3.drewN d)
    case atStart => exact ⟨0, rfl, by omega, 0, rfl⟩
    case round =>
      obtain ⟨m, rfl, hg, d, rfl⟩ := hrel
      have HG := Lib.hid hg
      clear hg
      by_cases hm : m < s.all.length
      · obtain ⟨km, hkm⟩ : ∃ k, s.all[m]? = some k := ⟨_, List.getElem?_eq_getElem hm⟩
        obtain ⟨ga, rfl, hga, c0⟩ := HRD.out m km hkm
        have hmi : (m : Int) < s.all.length := by omega
        have HK := Lib.hid hkm
        have HC := Lib.hid c0
        clear hkm c0 hga
        go_wp2_with fail
        go_loopg [10] m (fun g i wr => ∃ (j : Nat), i = .int .i64 j ∧ g + j = m ∧ ∃ d, wr = w3.drewN d)
        case atStart => exact ⟨0, rfl, by omega, d, rfl⟩
        case round =>
          obtain ⟨j, rfl, hgj, d2, rfl⟩ := hrel
          have HJ := Lib.hid hgj
          clear hgj
          by_cases hj : j < m
          · obtain ⟨kj, hkj⟩ : ∃ k, s.all[j]? = some k := ⟨_, List.getElem?_eq_getElem (by omega)⟩
            obtain ⟨gb, e, hgb, c1⟩ := HRD.out j kj hkj
            have e2 : gb = ga := by
              injection e with e
              injection e with e
              exact e.symm
            clear e
            subst e2
            have hji : (j : Int) < m := by omega
            have hji2 : (j : Int) < s.all.length := by omega
            have c0 := HC.out
            have hne : km ≠ kj := fun e => by
              have h1 := HK.out
              rw [e] at h1
              have := (List.getElem?_inj hm HR.out.2.2.1).1 (h1.trans hkj.symm)
              omega
            have hse := str_ne hne
            clear hkj hgb hne
            go_wp2_with fail
            go_quiet (fail)
            go_wp2_with fail
            go_roundg (m - (j + 1))
            case measure => have := HJ.out; omega
            case rel => exact ⟨j + 1, by go_num, by have := HJ.out; omega, _, rfl⟩
          · have hjm : (m : Int) ≤ j := by omega
            go_wp2_with fail
            go_roundg (s.all.length - (m + 1))
            case measure => have := HG.out; omega
            case rel => exact ⟨m + 1, by go_num, by have := HG.out; omega, _, rfl⟩
      · have hml : (s.all.length : Int) ≤ m := by omega
        have hbd : Below w2.heap.size w2 (w3.drewN d) := Mem.dn HB.out d
        have hlen := len_any (HR.out.1.step hbd).at_ (by omega)
        have hpro : ∀ d2, Calls Try.prog 23 #[.pointer (some ⟨b, 0, none⟩)] (w3.drewN d2) fun e w' => e = .returned (.int .i64 s.safe.length) ∧ w3.drewN d2 = w' := fun d2 => protected_any (HR.out.1.step (Mem.dn HB.out d2)).at_
        have hee : ((s.all.length : Int) == s.all.length) = true := by simp
        have hle : (s.safe.length : Int) ≤ s.all.length := by unfold St.all; rw [List.length_append]; omega
        have hfew := HR.out.2.2.2
        have hend : ∀ d, Below W.heap.size W (w3.drewN d) := fun d => HR.out.2.1.trans ((Mem.dn HB.out d).mono HR.out.2.1.size)
        have HE := Lib.hid hend
        clear hend hbd
        by_cases hmo : (s.safe.length : Int) ≤ most
        · clear hfew
          go_wp2_with (first | (refine hlen.mono ?_; rintro e w8 ⟨rfl, d8, rfl⟩) | (refine (hpro _).mono ?_; rintro e w8 ⟨rfl, rfl⟩))
          go_ret
          exact ⟨rfl, HE.out _⟩
        · have hm0 : most < 0 := by omega
          have hs0 : (s.safe.length : Int) = 0 := by omega
          have hm1 : most < (s.safe.length : Int) := by omega
          clear hfew hmo
          go_wp2_with (first | (refine hlen.mono ?_; rintro e w8 ⟨rfl, d8, rfl⟩) | (refine (hpro _).mono ?_; rintro e w8 ⟨rfl, rfl⟩))
          go_ret
          exact ⟨rfl, HE.out _⟩
end Go.Proofs.Ytpppknopbjpciaa.SlruOnce
