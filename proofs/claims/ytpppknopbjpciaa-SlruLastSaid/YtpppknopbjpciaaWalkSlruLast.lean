/- SlruLast answers true for every most, list of calls and key. Conditions: the numbers are ints. -/
import Derived.Test.YtpppknopbjpciaaSlru11
namespace Go.Proofs.Ytpppknopbjpciaa.SlruLast
open Go Go.RowKit Go.Proofs.Ytpppknopbjpciaa.Slru Go.Proofs.Ytpppknopbjpciaa.Mem Go.Proofs.Ytpppknopbjpciaa.Ops

theorem play_most (l : List Slru.Op) (s : St) : (l.foldl Slru.step s).most = s.most := by
  induction l generalizing s with
  | nil => rfl
  | cons o l ih =>
    rw [List.foldl_cons, ih]
    unfold Slru.step
    split
    · unfold St.add; split <;> rfl
    · split
      · unfold St.hit; split
        · unfold St.moved; split <;> rfl
        · rfl
      · split
        · unfold St.remove; split <;> rfl
        · rfl
theorem add_in (s : St) (k : ByteArray) : k ∈ (s.add k).2.all := by
  unfold St.add; split
  · assumption
  · simp [St.all]
theorem add_last (s : St) (k : ByteArray) (h : (s.add k).1 = 0) : 1 ≤ (s.add k).2.trial.length ∧ (s.add k).2.all[(s.add k).2.trial.length - 1]? = some k := by
  unfold St.add at h ⊢
  split
  · rename_i e; rw [if_pos e] at h; cases h
  · simp [St.all]
theorem hit_zero {s : St} {k : ByteArray} (h : k ∈ s.all) : (s.hit k).1 = 0 := by unfold St.hit; rw [if_pos h]
theorem without_eq {l : List ByteArray} {k : ByteArray} (hn : l.Nodup) (h : k ∈ l) : (without l k).length + 1 = l.length := by
  obtain ⟨a, b, rfl⟩ := List.append_of_mem h
  rw [without_split hn]; simp; omega
theorem hit_all {s : St} {k : ByteArray} (hn : s.all.Nodup) (h : k ∈ s.all) : (s.hit k).2.all.length = s.all.length := by
  unfold St.hit; rw [if_pos h]
  have h1 := without_eq hn h
  unfold St.all at h1
  rw [without_app, List.length_append] at h1
  unfold St.moved
  split
  · simp only [St.all, List.length_append, List.length_take, List.length_drop, List.length_cons, List.length_nil] at h1 ⊢; omega
  · simp only [St.all, List.length_append, List.length_cons, List.length_nil] at h1 ⊢; omega
theorem hit_last {s : St} {k : ByteArray} (h : k ∈ s.all) (hm : 1 ≤ s.most) : 1 ≤ (s.hit k).2.all.length ∧ (s.hit k).2.all[(s.hit k).2.all.length - 1]? = some k := by
  have hl : ∃ t, (s.hit k).2.all = t ++ [k] := by
    unfold St.hit; rw [if_pos h]
    unfold St.moved
    split
    · rename_i hx
      simp only [List.length_append, List.length_cons, List.length_nil] at hx
      refine ⟨(without s.trial k ++ (without s.safe k ++ [k]).take 1) ++ (without s.safe k).drop 1, ?_⟩
      simp only [St.all]
      rw [List.drop_append_of_le_length (by omega)]
      simp
    · exact ⟨without s.trial k ++ without s.safe k, by simp [St.all]⟩
  obtain ⟨t, e⟩ := hl
  rw [e]; simp

set_option maxRecDepth 20000 in
set_option maxHeartbeats 2000000 in
theorem walk (W : World) (most : Int) (x : Option Addr) (n0 c : Nat) (l : List Slru.Op) (key : ByteArray) (_ : -9223372036854775808 ≤ most ∧ most ≤ 9223372036854775807) (hl : n0 = l.length ∧ n0 ≤ maxLen ∧ (∀ a ∈ l, OpOk a) ∧ Lies W 2 encO x l) (_ : key.size ≤ maxLen) :
    Calls Try.prog 6 #[.int .i64 most, .slice x n0 c, .string key] W fun e W' => e = .returned (.bool true) ∧ Below W.heap.size W W' := by
  obtain ⟨rfl, hml, -, hlies⟩ := hl
  go_enter Try.func6, Try.ntmps6
  go_wp2_with fail
  refine (awake_any W).mono ?_
  rintro e w1 ⟨rfl, hb1⟩
  have hlies1 : Lies w1 2 encO x l := fun i a hi => by
    obtain ⟨B, off, e, hB, hc⟩ := hlies i a hi
    exact ⟨B, off, e, Nat.lt_of_lt_of_le hB hb1.size, fun j u hj => (World.cell?_of_block (hb1.block B hB)).trans (hc j u hj)⟩
  have hshort := short_any (c := c) hlies1 hml
  have hplay := played_any (c := c) most hlies1 hml
  clear hlies1 hlies
  have HS : Hid (shortB l = true → l.length ≤ 200) := Lib.hid (by unfold shortB; intro h; simp at h; exact h.1)
  generalize shortB l = q at *
  go_wp2_with fail
  refine hshort.mono ?_
  rintro e w2 ⟨rfl, rfl⟩
  go_wp2_with fail
  refine hplay.mono ?_
  rintro e w2 ⟨b, F, rfl, r2⟩
  have hb2 : Below W.heap.size W w2 := hb1.trans (r2.below.mono hb1.size)
  clear hshort hplay
  cases q with
  | false =>
    clear hml
    go_wp2_with fail
    go_ret
    exact ⟨rfl, hb2⟩
  | true =>
    have hl200 := HS.out rfl
    by_cases hk : (300 : Int) < key.size
    · clear hml
      go_wp2_with fail
      go_ret
      exact ⟨rfl, hb2⟩
    have hsm : (play most l).most = most := play_most l (new most)
    have hsl : (play most l).all.length ≤ 200 := Nat.le_trans r2.len hl200
    generalize play most l = s at *
    have hend : ∀ w', Below w2.heap.size w2 w' → Below W.heap.size W w' := fun w' h => hb2.trans (h.mono hb2.size)
    have HE := Lib.hid hend
    -- Add
    have h1 := add_run (r2.mono hl200) key (by omega)
    have hin := add_in s key
    have hlast := add_last s key
    have hs1l : (s.add key).2.all.length ≤ 201 := by have := add_len s key; omega
    have hm1 : (s.add key).2.most = most := by rw [← hsm]; unfold St.add; split <;> rfl
    obtain ⟨e1, s1, hy⟩ : ∃ e1 s1, s.add key = (e1, s1) := ⟨_, _, rfl⟩
    rw [hy] at h1 hin hlast hs1l hm1
    simp only at hin hlast hs1l hm1
    have hq1 : ∃ q : Bool, (e1 == 0) = q := ⟨_, rfl⟩
    obtain ⟨q1, hq1⟩ := hq1
    have HK := Lib.hid (And.intro hin (And.intro hlast (And.intro hs1l hm1)))
    have hbw : W.heap.size ≤ w2.heap.size := hb2.size
    have HB2 := Lib.hid hb2
    have hB1 : W.heap.size ≤ w1.heap.size := hb1.size
    have HB1 := Lib.hid hb1
    clear hin hlast hs1l hm1 hy hsl hsm hml hb2 r2 hend hb1 HB2 HE
    go_wp2_with fail
    refine h1.mono ?_
    rintro e w3 ⟨rfl, F3, r3⟩
    simp only at r3
    have h1000 : allN s1 1000 = s1.all := by unfold allN; exact List.take_of_length_le (by have := HK.out.2.2.1; simp; omega)
    have ha := all_law r3.at_ 1000 (by have := HK.out.2.2.1; omega)
    rw [h1000] at ha
    go_wp2_with fail
    refine ha.mono ?_
    rintro e w4 ⟨va, rfl, rowa, hb4⟩
    have r4 := r3.step hb4
    have hra := ReadsK.of_row rowa
    obtain ⟨ya, yc, rfl, hac, hrd⟩ := hra
    have hpro := protected_any r4.at_
    have hsum : s1.all.length = s1.trial.length + s1.safe.length := by unfold St.all; rw [List.length_append]
    have hw : IntKind.i64.wrap ((s1.all.length : Int) - s1.safe.length) = (s1.trial.length : Int) := by rw [IntKind.wrap_i64]; have := HK.out.2.2.1; omega
    have H4 := Lib.hid (And.intro r4 hrd)
    clear rowa ha hb4 r4 hrd h1000 h1 r3 hsum
    go_wp2_with fail
    refine hpro.mono ?_
    rintro e w5 ⟨rfl, rfl⟩
    have h2 := hit_run H4.out.1 key (by omega)
    have hz := hit_zero HK.out.1
    have hal := hit_all H4.out.1.at_.nodup HK.out.1
    have hla := fun h => hit_last HK.out.1 (s := s1) h
    have hyc : (s1.all.length : Int) ≤ yc := by omega
    cases q1 with
    | false =>
      have hq1b : (e1 == 0) = false := hq1
      clear hw
      go_wp2_with fail
      refine h2.mono ?_
      rintro e w6 ⟨rfl, F6, r6⟩
      rw [hz]
      obtain ⟨s2, hs2⟩ : ∃ s2, (s1.hit key).2 = s2 := ⟨_, rfl⟩
      rw [hs2] at r6 hal hla
      have hs2l : s2.all.length ≤ 201 := by rw [hal]; exact HK.out.2.2.1
      have h1000 : allN s2 1000 = s2.all := by unfold allN; exact List.take_of_length_le (by simp; omega)
      have ha := all_law r6.at_ 1000 (by omega)
      rw [h1000] at ha
      have H6 := Lib.hid r6
      clear r6 h2 hs2 h1000 hz
      go_wp2_with fail
      refine ha.mono ?_
      rintro e w7 ⟨vb, rfl, rowb, hb7⟩
      have r7 := H6.out.step hb7
      have hrb := ReadsK.of_row rowb
      obtain ⟨yb, ybc, rfl, hbc, hrdb⟩ := hrb
      have hend : Below W.heap.size W w7 := HB1.out.trans (r7.below.mono HB1.out.size)
      have HEND := Lib.hid hend
      clear rowb hb7 ha r7 hend
      rw [hal] at hbc
      have hee : ((s1.all.length : Int) == s1.all.length) = true := by simp
      by_cases hm1 : most < 1
      · rw [hal]
        go_wp2_with fail
        go_ret
        exact ⟨rfl, HEND.out⟩
      · obtain ⟨h8, h9⟩ := hla (by rw [HK.out.2.2.2]; omega)
        rw [hal] at h8 h9
        rw [hal]
        obtain ⟨L, hL⟩ : ∃ L, s1.all.length = L + 1 := ⟨s1.all.length - 1, by omega⟩
        rw [hL] at h9 hbc
        rw [hL]
        rw [hL] at hee
        obtain ⟨gb, rfl, -, cb⟩ := hrdb _ _ h9
        have hLs : L + 1 - 1 = L := by omega
        rw [hLs] at cb
        have hw3 : IntKind.i64.wrap (((L + 1 : Nat) : Int) - 1) = L := by rw [IntKind.wrap_i64]; omega
        have hL0 : (0 : Int) ≤ L := by omega
        have hL1 : (L : Int) < ((L + 1 : Nat) : Int) := by omega
        have hse := str_eq key
        clear h9 hrdb hbc hLs h8
        go_wp2_with fail
        go_ret
        exact ⟨rfl, HEND.out⟩
    | true =>
      have hq1b : (e1 == 0) = true := hq1
      obtain ⟨h8, h9⟩ := HK.out.2.1 (by simpa using hq1)
      obtain ⟨N, hN⟩ : ∃ N, s1.trial.length = N := ⟨_, rfl⟩
      rw [hN] at h9 hw h8
      obtain ⟨T, hT⟩ : ∃ T, N - 1 = T := ⟨_, rfl⟩
      rw [hT] at h9
      obtain ⟨ga, rfl, -, ca⟩ := H4.out.2 _ _ h9
      have hTl := (List.getElem?_eq_some_iff.1 h9).1
      have hT1 : ¬ (N : Int) < 1 := by omega
      have hw2 : IntKind.i64.wrap ((N : Int) - 1) = T := by rw [IntKind.wrap_i64]; have := HK.out.2.2.1; omega
      have hT0 : (0 : Int) ≤ T := by omega
      have hT2 : (T : Int) < s1.all.length := by omega
      have hse := str_eq key
      clear h9 h8 hN hT hq1 hTl
      go_wp2_with fail
      refine h2.mono ?_
      rintro e w6 ⟨rfl, F6, r6⟩
      rw [hz]
      obtain ⟨s2, hs2⟩ : ∃ s2, (s1.hit key).2 = s2 := ⟨_, rfl⟩
      rw [hs2] at r6 hal hla
      have hs2l : s2.all.length ≤ 201 := by rw [hal]; exact HK.out.2.2.1
      have h1000 : allN s2 1000 = s2.all := by unfold allN; exact List.take_of_length_le (by simp; omega)
      have ha := all_law r6.at_ 1000 (by omega)
      rw [h1000] at ha
      have H6 := Lib.hid r6
      clear r6 h2 hs2 h1000 hz
      go_wp2_with fail
      refine ha.mono ?_
      rintro e w7 ⟨vb, rfl, rowb, hb7⟩
      have r7 := H6.out.step hb7
      have hrb := ReadsK.of_row rowb
      obtain ⟨yb, ybc, rfl, hbc, hrdb⟩ := hrb
      have hend : Below W.heap.size W w7 := HB1.out.trans (r7.below.mono HB1.out.size)
      have HEND := Lib.hid hend
      clear rowb hb7 ha r7 hend
      rw [hal] at hbc
      have hee : ((s1.all.length : Int) == s1.all.length) = true := by simp
      by_cases hm1 : most < 1
      · rw [hal]
        go_wp2_with fail
        go_ret
        exact ⟨rfl, HEND.out⟩
      · obtain ⟨h8, h9⟩ := hla (by rw [HK.out.2.2.2]; omega)
        rw [hal] at h8 h9
        rw [hal]
        obtain ⟨L, hL⟩ : ∃ L, s1.all.length = L + 1 := ⟨s1.all.length - 1, by omega⟩
        rw [hL] at h9 hbc
        rw [hL]
        rw [hL] at hee
        obtain ⟨gb, rfl, -, cb⟩ := hrdb _ _ h9
        have hLs : L + 1 - 1 = L := by omega
        rw [hLs] at cb
        have hw3 : IntKind.i64.wrap (((L + 1 : Nat) : Int) - 1) = L := by rw [IntKind.wrap_i64]; omega
        have hL0 : (0 : Int) ≤ L := by omega
        have hL1 : (L : Int) < ((L + 1 : Nat) : Int) := by omega
        have hse := str_eq key
        clear h9 hrdb hbc hLs h8
        go_wp2_with fail
        go_ret
        exact ⟨rfl, HEND.out⟩
end Go.Proofs.Ytpppknopbjpciaa.SlruLast
