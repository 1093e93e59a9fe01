/- SlruLeaves answers true for every most, list of calls and key. Conditions: the numbers are ints. -/
import Derived.Test.YtpppknopbjpciaaSlru11
import Derived.Deep.AppendLies
namespace Go.Proofs.Ytpppknopbjpciaa.SlruLeaves
open Go Go.RowKit Go.Proofs.Ytpppknopbjpciaa.Slru Go.Proofs.Ytpppknopbjpciaa.Mem Go.Proofs.Ytpppknopbjpciaa.Ops

theorem remove_all (s : St) (k : ByteArray) : (s.remove k).2.all = without s.all k := by
  unfold St.remove; split
  · simp only [St.all]; rw [without_app]
  · rename_i h; exact (without_none h).symm
theorem remove_twice (s : St) (k : ByteArray) : ((s.remove k).2.remove k) = (6, (s.remove k).2) := by
  have h : k ∉ (s.remove k).2.all := by rw [remove_all]; exact fun e => (without_mem.1 e).2 rfl
  generalize (s.remove k).2 = t at *
  unfold St.remove; rw [if_neg h]
theorem remove_err (s : St) (k : ByteArray) : ((s.remove k).1 == 0) = decide (k ∈ s.all) := by
  unfold St.remove
  by_cases h : k ∈ s.all
  · rw [if_pos h]; simp [h]
  · rw [if_neg h]; simp [h]
theorem add_free {s : St} {k : ByteArray} (h : k ∉ s.all) : (s.add k).1 = 0 := by unfold St.add; rw [if_neg h]
theorem had_iff {l : List ByteArray} (k : ByteArray) : decide (((without l k).length : Int) < l.length) = decide (k ∈ l) := by
  by_cases h : k ∈ l
  · have := without_lt h
    simp [h]; omega
  · rw [without_none h]; simp [h]

theorem row_same {w w' : World} {base : Nat} {e : TypeId} {size n : Nat} {v : Value} {xs : List Value} (h : w.ownsRow base e size v n xs) (hs : ∀ g, base ≤ g → g < w.heap.size → w'.heap[g]? = w.heap[g]?) : w'.ownsRow base e size v n xs := by
  refine ⟨h.1, ?_⟩
  rcases h.2 with h1 | ⟨g, cap, cur, e1, h2, e2, h3⟩
  · exact .inl h1
  · exact .inr ⟨g, cap, cur, e1, h2, (hs g h2 (Array.getElem?_eq_some_iff.1 e2).1).trans e2, h3⟩
theorem own_lt {w : World} {base : Nat} {e : TypeId} {size n : Nat} {v : Value} {xs : List Value} (h : w.ownsRow base e size v n xs) : ∀ g, v.ownBlock = some g → base ≤ g ∧ g < w.heap.size := fun g e => by
  rcases h.2 with ⟨e1, _⟩ | ⟨g', cap, cur, e1, h2, e2, _⟩
  · rw [e1] at e; cases e
  · rw [e1] at e
    have : g' = g := by simpa [Value.ownBlock] using e
    subst this
    exact ⟨h2, (Array.getElem?_eq_some_iff.1 e2).1⟩
set_option maxRecDepth 20000 in
set_option maxHeartbeats 2000000 in
theorem walk (W : World) (most : Int) (x : Option Addr) (n0 c : Nat) (l : List Slru.Op) (key : ByteArray) (_ : -9223372036854775808 ≤ most ∧ most ≤ 9223372036854775807) (hl : n0 = l.length ∧ n0 ≤ maxLen ∧ (∀ a ∈ l, OpOk a) ∧ Lies W 2 encO x l) (_ : key.size ≤ maxLen) :
    Calls Try.prog 7 #[.int .i64 most, .slice x n0 c, .string key] W fun e W' => e = .returned (.bool true) ∧ Below W.heap.size W W' := by
  obtain ⟨rfl, hml, -, hlies⟩ := hl
  obtain ⟨i0, hi, hz0, hz1, hz2⟩ := info_parts infoStr
  go_enter Try.func7, Try.ntmps7
  go_wp2_with fail
  refine (awake_any W).mono ?_
  rintro e w1 ⟨rfl, hb1⟩
  have hlies1 : Lies w1 2 encO x l := fun i a hi => by
    obtain ⟨B, off, e, hB, hc⟩ := hlies i a hi
    exact ⟨B, off, e, Nat.lt_of_lt_of_le hB hb1.size, fun j u hj => (World.cell?_of_block (hb1.block B hB)).trans (hc j u hj)⟩
  have hshort := short_any (c := c) hlies1 hml
  have hplay := played_any (c := c) most hlies1 hml
  clear hlies1 hlies
  have HS : Hid (shortB l = true → l.length ≤ 200) := Lib.hid (by unfold shortB; intro h; simp at h; exact h.1)
  generalize shortB l = q at *
  go_wp2_with fail
  refine hshort.mono ?_
  rintro e w2 ⟨rfl, rfl⟩
  go_wp2_with fail
  refine hplay.mono ?_
  rintro e w2 ⟨b, F, rfl, r2⟩
  have hb2 : Below W.heap.size W w2 := hb1.trans (r2.below.mono hb1.size)
  clear hshort hplay
  cases q with
  | false =>
    clear hml
    go_wp2_with fail
    go_ret
    exact ⟨rfl, hb2⟩
  | true =>
    have hl200 := HS.out rfl
    by_cases hk : (300 : Int) < key.size
    · clear hml
      go_wp2_with fail
      go_ret
      exact ⟨rfl, hb2⟩
    have hsl : (play most l).all.length ≤ 200 := Nat.le_trans r2.len hl200
    generalize play most l = s at *
    have r2 := r2.mono hl200
    have HB1 := Lib.hid hb1
    have h1000 : allN s 1000 = s.all := by unfold allN; exact List.take_of_length_le (by simp; omega)
    have ha := all_law r2.at_ 1000 (by omega)
    rw [h1000] at ha
    have HR := Lib.hid r2
    clear r2 hb2 hb1 hml h1000
    go_wp2_with fail
    refine ha.mono ?_
    rintro e w3 ⟨va, rfl, rowa, hb3⟩
    have r3 := HR.out.step hb3
    have hFl := HR.out.lt
    -- Remove, Remove
    have h1 := remove_any r3.at_ key (by omega)
    have hE := remove_err s key
    have hA := remove_all s key
    have hT := remove_twice s key
    have hH := had_iff (l := s.all) key
    obtain ⟨e1, s1, hy⟩ : ∃ e1 s1, s.remove key = (e1, s1) := ⟨_, _, rfl⟩
    unfold TurnPost at h1
    rw [hy] at h1 hE hA hT
    simp only at hE hA hT h1
    obtain ⟨q, hq⟩ : ∃ q, decide (key ∈ s.all) = q := ⟨_, rfl⟩
    rw [hq] at hE hH
    have hlw : (without s.all key).length ≤ 200 := Nat.le_trans (without_len _ _) hsl
    clear hy hq ha
    have H3 := Lib.hid (And.intro rowa (And.intro r3 (And.intro hFl hb3)))
    clear rowa r3 hFl hb3
    go_wp2_with fail
    refine h1.mono ?_
    rintro e w4 ⟨F4, rfl, h4, o4, g4⟩
    have r4 : Run w1 w4 200 b F4 s1 := H3.out.2.1.post h4 o4 g4 (by rw [hA]; exact hlw)
    have hz3 : w2.heap.size ≤ w3.heap.size := H3.out.2.2.2.size
    have row4 := row_same H3.out.1 fun g hg hl => o4.same g hl (fun e => by have := H3.out.2.2.1 g e; omega)
    have h2 := remove_any r4.at_ key (by rw [hA]; omega)
    unfold TurnPost at h2
    rw [hT] at h2
    simp only at h2
    have hF4 : ∀ k, F4 k → k < w2.heap.size ∨ w3.heap.size ≤ k := fun k hk => (g4 k hk).elim (fun e => .inl (H3.out.2.2.1 k e)) .inr
    have hz4 : w3.heap.size ≤ w4.heap.size := o4.size
    have hlt3 : ∀ g, va.ownBlock = some g → g < w3.heap.size := fun g e => by
      rcases H3.out.1.2 with ⟨e1, _⟩ | ⟨g', cap, cur, e1, _, e2, _⟩
      · rw [e1] at e; cases e
      · rw [e1] at e
        have : g' = g := by simpa [Value.ownBlock] using e
        subst this
        exact (Array.getElem?_eq_some_iff.1 e2).1
    have H4 := Lib.hid (And.intro row4 (And.intro r4 (And.intro hF4 hlt3)))
    clear h1 h4 o4 g4 row4 r4 hF4 hlt3 hT
    go_wp2_with fail
    refine h2.mono ?_
    rintro e w5 ⟨F5, rfl, h5, o5, g5⟩
    have r5 : Run w1 w5 200 b F5 s1 := H4.out.2.1.post h5 o5 g5 (by rw [hA]; exact hlw)
    have hra : ReadsK w5 va s.all := by
      obtain ⟨a, c', e, hc, hr⟩ := ReadsK.of_row H4.out.1
      refine ⟨a, c', e, hc, fun i k hi => ?_⟩
      obtain ⟨g, e2, hg, hcell⟩ := hr i k hi
      have hgl : g < w3.heap.size := H4.out.2.2.2 g (by rw [e, e2]; rfl)
      have hgb : w2.heap.size ≤ g := by
        rcases H4.out.1.2 with ⟨e1, _⟩ | ⟨g', cap, cur, e1, hb, _, _⟩
        · rw [e, e2] at e1; injection e1 with e1; cases e1
        · rw [e, e2] at e1
          injection e1 with e1
          injection e1 with e1
          injection e1 with e1
          omega
      exact ⟨g, e2, Nat.lt_of_lt_of_le hg o5.size, (World.cell?_of_block (o5.same g hg (fun e => by have := H4.out.2.2.1 g e; omega))).trans hcell⟩
    obtain ⟨ya, yc, rfl, hac, hrd⟩ := hra
    have HRD := Lib.hid hrd
    have HR5 := Lib.hid r5
    clear h2 h5 o5 g5 r5 hrd H4
    go_wp2_with fail
    go_loopg [13, 14] s.all.length (fun g vw i wr => ∃ (m : Nat), i = .int .i64 m ∧ g + m = s.all.length ∧ Hid (Below w5.heap.size w5 wr ∧ wr.ownsRow w5.heap.size 9 1 vw (without (s.all.take m) key).length (cellsK (without (s.all.take m) key))))
    case atStart => exact ⟨0, rfl, by omega, Lib.hid ⟨Below.refl _ _, World.ownsRow_nil _ _ _ _⟩⟩
    case round =>
      obtain ⟨m, rfl, hg, HB⟩ := hrel
      have HG := Lib.hid hg
      clear hg
      obtain ⟨yw, yx, hvw⟩ : ∃ a c, u13 = .slice a (without (s.all.take m) key).length c := by
        rcases HB.out.2.2 with ⟨e1, e2⟩ | ⟨g, cap, cur, e1, _⟩
        · exact ⟨none, 0, by rw [e1, e2]⟩
        · exact ⟨_, _, e1⟩
      subst hvw
      have hwm : (without (s.all.take m) key).length ≤ 200 := by
        have h1 := without_len (s.all.take m) key
        have h2 : (s.all.take m).length ≤ s.all.length := by rw [List.length_take]; omega
        omega
      by_cases hm : m < s.all.length
      · obtain ⟨km, hkm⟩ : ∃ k, s.all[m]? = some k := ⟨_, List.getElem?_eq_getElem hm⟩
        obtain ⟨ga, rfl, hga, c0⟩ := HRD.out m km hkm
        have hmi : (m : Int) < s.all.length := by omega
        have c0 : wr.cell? ⟨ga, m, none⟩ = some (.string km) := (World.cell?_of_block (HB.out.1.block ga hga)).trans c0
        have htk : s.all.take (m + 1) = s.all.take m ++ [km] := by rw [List.take_add_one, hkm]; rfl
        clear hkm hga
        by_cases hkk : km = key
        · have hnx : without (s.all.take (m + 1)) key = without (s.all.take m) key := by
            rw [htk, without_app, show without [km] key = [] from by unfold without; simp [hkk], List.append_nil]
          have hse := str_eq key
          have HN := Lib.hid hnx
          clear htk hnx
          subst hkk
          go_wp2_with fail
          go_roundg (s.all.length - (m + 1))
          case measure => have := HG.out; omega
          case rel => exact ⟨m + 1, by go_num, by have := HG.out; omega, Lib.hid (by rw [HN.out]; exact HB.out)⟩
        · have hnx : without (s.all.take (m + 1)) key = without (s.all.take m) key ++ [km] := by
            rw [htk, without_app, show without [km] key = [km] from by unfold without; simp [hkk]]
          have hse := str_ne hkk
          have HN := Lib.hid hnx
          have HO := Lib.hid (HB.out.2.alloc (.cells #[.string km] 9))
          have hzw : w5.heap.size ≤ wr.heap.size := HB.out.1.size
          clear htk hnx hkk
          go_wp2_with (at_builtin; refine wpList_append_lies _ rfl _ _ _ rfl w5.heap.size 9 i0 _ 1 16 Try.underlying31 hi hz0 hz1 hz2 rfl (by decide) _ (without (s.all.take m) key).length (cellsK (without (s.all.take m) key)) rfl HO.out ⟨wr.heap.size, 0, none⟩ 1 1 [.string km] rfl rfl (World.news_of_block (Mem.new_block wr _)) (by simp [Value.oneCell']) (by decide) (by unfold maxLen; omega) (by omega) (by simp; omega) (wr.heap.size + 1) (by simp) ?_; intro gg cap w6 hown hgrow hat hlt)
          go_roundg (s.all.length - (m + 1))
          case measure => have := HG.out; omega
          case rel =>
            refine ⟨m + 1, by go_num, by have := HG.out; omega, Lib.hid ⟨?_, ?_⟩⟩
            · exact (HB.out.1.alloc hzw _).grown hgrow (by simp; omega) (fun g e => (own_lt HB.out.2 g e).1)
            · rw [HN.out, List.length_append, cellsK, List.map_append]; exact hown
      · have hml : (s.all.length : Int) ≤ m := by omega
        have hB := HB.out
        rw [List.take_of_length_le (by omega), ← hA] at hB
        rw [List.take_of_length_le (by omega), ← hA]
        rw [← hA] at hlw hH
        have hz : w5.heap.size ≤ wr.heap.size := hB.1.size
        have hrw := ReadsK.of_row hB.2
        have r6 := HR5.out.step hB.1
        have h1000 : allN s1 1000 = s1.all := by unfold allN; exact List.take_of_length_le (by simp; omega)
        have ha := all_law r6.at_ 1000 (by omega)
        rw [h1000] at ha
        have hko : key ∉ s1.all := by rw [hA]; exact fun e => (without_mem.1 e).2 rfl
        have H6 := Lib.hid (And.intro hrw (And.intro r6 hko))
        clear hB hrw r6 h1000 hko hwm hA HRD HB
        go_wp2_with fail
        refine ha.mono ?_
        rintro e w7 ⟨vb, rfl, rowb, hb7⟩
        have hrb := ReadsK.of_row rowb
        have hs2 := same_any hrb (H6.out.1.below hb7) (by omega)
        rw [show decide (s1.all = s1.all) = true from by simp] at hs2
        have r7 := H6.out.2.1.step hb7
        have H7 := Lib.hid r7
        obtain ⟨yb, ybc, rfl, -, -⟩ := hrb
        clear rowb ha hb7 r7
        go_wp2_with fail
        refine hs2.mono ?_
        rintro e w8 ⟨rfl, d8, rfl⟩
        have hadd := add_run (H7.out.step (Mem.dn (Below.refl _ _) d8)) key (by omega)
        rw [show s1.add key = (0, (s1.add key).2) from by rw [← add_free H6.out.2.2]] at hadd
        have hqq : (q == q) = true := by simp
        cases q with
        | true =>
          have h8 : s1.all.length < s.all.length := by simpa using hH
          have h9 : (s1.all.length : Int) < s.all.length := by omega
          clear hH
          go_wp2_with fail
          refine hadd.mono ?_
          rintro e w9 ⟨rfl, F9, r9⟩
          go_wp2_with fail
          go_ret
          exact ⟨rfl, HB1.out.trans (r9.below.mono HB1.out.size)⟩
        | false =>
          have h8 : ¬ s1.all.length < s.all.length := by simpa using hH
          have h9 : (s.all.length : Int) ≤ s1.all.length := by omega
          clear hH
          go_wp2_with fail
          refine hadd.mono ?_
          rintro e w9 ⟨rfl, F9, r9⟩
          go_wp2_with fail
          go_ret
          exact ⟨rfl, HB1.out.trans (r9.below.mono HB1.out.size)⟩
end Go.Proofs.Ytpppknopbjpciaa.SlruLeaves
