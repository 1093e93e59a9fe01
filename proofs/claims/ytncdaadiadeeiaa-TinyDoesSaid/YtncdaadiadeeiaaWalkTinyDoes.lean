/- TinyDoes answers true for every seed, list of calls and text. Conditions: the numbers are of their types. -/
import Derived.Test.YtncdaadiadeeiaaTinyRef
namespace Go.Proofs.Ytncdaadiadeeiaa.TinyDoes
open Go Go.RowKit Go.Proofs.Ytncdaadiadeeiaa.Tiny Go.Proofs.Ytncdaadiadeeiaa.TinyRef Go.Proofs.Ytncdaadiadeeiaa.Mem Go.Proofs.Ytncdaadiadeeiaa.Ops

/-- A judge, and the document's own one, that have seen the same. -/
structure Both (W w : World) (b fb cb rb fr : Nat) (F : Nat → Prop) (sb sg : Nat) (j : St) (rl : List Nat) : Prop where
  run : Run W w b fb cb j
  ref : RJ w rb fr F sb sg j rl
  lo : ∀ x, All rb F sb sg x → W.heap.size ≤ x ∧ x ≠ b ∧ x ≠ fb ∧ x ≠ cb
section
variable {W w w' : World} {b fb cb rb fr : Nat} {F : Nat → Prop} {sb sg : Nat} {j : St} {rl : List Nat}
theorem Both.drew (h : Both W w b fb cb rb fr F sb sg j rl) : Both W w.drew b fb cb rb fr F sb sg j rl :=
  ⟨⟨h.run.blk, h.run.low, ⟨h.run.f.at_, h.run.f.low, h.run.f.below.drew, h.run.f.ok⟩, ⟨h.run.c.at_, h.run.c.low, h.run.c.below.drew, h.run.c.ok⟩, h.run.ne, h.run.nf, h.run.nc⟩, h.ref.same (fun _ _ => rfl) (Nat.le_refl _), h.lo⟩
theorem Both.step (h : Both W w b fb cb rb fr F sb sg j rl) (hb : Below w.heap.size w w') : Both W w' b fb cb rb fr F sb sg j rl := ⟨h.run.step hb, h.ref.below hb, h.lo⟩
/-- Both are touched, one behind the other. -/
theorem Both.one {j' : St} {w1 : World} (h : Both W w b fb cb rb fr F sb sg j rl) (r1 : Run W w1 b fb cb j') (o1 : Only (fun k => k = fb ∨ k = cb) w w1) : RJ w1 rb fr F sb sg j rl :=
  h.ref.only o1 (fun x hx e => by have := (h.lo x hx).2; rcases e with rfl | rfl; exact this.2.1 rfl; exact this.2.2 rfl)
theorem Both.two {F' : Nat → Prop} {j' : St} {rl' : List Nat} {w1 w2 : World} (h : Both W w b fb cb rb fr F sb sg j rl) (r1 : Run W w1 b fb cb j') (r2 : RJ w2 rb fr F' sb sg j' rl') (o2 : Only (All rb F sb sg) w1 w2) (g2 : Grows w1 F F') : Both W w2 b fb cb rb fr F' sb sg j' rl' :=
  ⟨r1.other o2 (fun x hx => ⟨⟨fun e => (h.lo x hx).2.1 e.symm, fun e => (h.lo x hx).2.2.1 e.symm, fun e => (h.lo x hx).2.2.2 e.symm⟩, (h.lo x hx).1⟩), r2, fun x hx => by
    rcases hx with rfl | hx | rfl | rfl
    · exact h.lo _ (.inl rfl)
    · rcases g2 x hx with e | e
      · exact h.lo x (.inr (.inl e))
      · have h1 := r1.lt
        have h2 := r1.below.size
        exact ⟨by omega, by omega, by omega, by omega⟩
    · exact h.lo _ (.inr (.inr (.inl rfl)))
    · exact h.lo _ (.inr (.inr (.inr rfl)))⟩
end

set_option maxRecDepth 20000 in
set_option maxHeartbeats 8000000 in
theorem walk (W : World) (seed : Int) (x : Option Addr) (n c : Nat) (l : List Sketch.Op) (s : ByteArray) (hseed : 0 ≤ seed ∧ seed ≤ 18446744073709551615) (hl : n = l.length ∧ n ≤ maxLen ∧ (∀ a ∈ l, Sketch.OpOk a) ∧ Lies W 3 Sketch.encO x l) (hs : s.size ≤ maxLen) :
    Calls Try.prog 17 #[.int .u64 seed, .slice x n c, .string s] W fun e W' => e = .returned (.bool true) ∧ Below W.heap.size W W' := by
  obtain ⟨rfl, hn, hok, hlies⟩ := hl
  have HL := Lib.hid (And.intro hlies (And.intro hok hs))
  unfold maxLen at hs hn
  clear hlies hok
  go_enter Try.func17, Try.ntmps17
  go_wp2_with fail
  refine (awake_any _).mono ?_
  rintro e w1 ⟨rfl, hb1⟩
  go_wp2_with fail
  refine (Sketch.short_any c hn HL.out.2.1 (HL.out.1.same hb1)).mono ?_
  rintro e w2 ⟨⟨q, rfl, hq⟩, rfl⟩
  go_wp2_with fail
  refine (new_run hseed hb1).mono ?_
  rintro e w2 ⟨b, fb, cb, rfl, r0, -, -⟩
  clear hb1
  have H0 := Lib.hid r0
  have HQ := Lib.hid hq
  clear r0 hq
  cases q
  · go_wp2_with fail
    go_ret
    exact ⟨rfl, H0.out.below⟩
  by_cases hs3 : 300 < s.size
  · have hsi : (300 : Int) < s.size := by omega
    go_wp2_with fail
    go_ret
    exact ⟨rfl, H0.out.below⟩
  have hsi : (s.size : Int) ≤ 300 := by omega
  have hsh : Sketch.Shorts l := HQ.out.1 rfl
  obtain ⟨h60, hops⟩ := hsh
  have HO := Lib.hid hops
  clear hops
  go_wp2_with fail
  refine (TinyRef.new_gives _ _).mono ?_
  rintro e w3 ⟨rb, fr, F, sb, sg, rfl, hA, hlo, hb3⟩
  have H1 := Lib.hid (show Both W w3 b fb cb rb fr F sb sg (new seed) [] from ⟨H0.out.step hb3, hA, fun x hx => by have := hlo x hx; have := H0.out.below.size; have := H0.out.lt; omega⟩)
  clear hA hlo hb3 H0
  go_wp2_with fail
  go_loopg [9, 11] l.length (fun gk p i wr => ∃ (m b fb cb : Nat) (F : Nat → Prop) (k : St) (rl : List Nat), p = .pointer (some ⟨b, 0, none⟩) ∧ i = .int .i64 m ∧ gk + m = l.length ∧ Hid (Both W wr b fb cb rb fr F sb sg k rl))
  case atStart => exact ⟨0, b, fb, cb, F, new seed, [], rfl, rfl, by omega, H1⟩
  case round =>
    obtain ⟨m, b, fb, cb, F, k, rl, rfl, rfl, hg, HR⟩ := hrel
    clear H1
    by_cases hm : m < l.length
    case neg =>
      have hml : (l.length : Int) ≤ m := by omega
      go_wp2_with fail
      go_ret
      exact ⟨rfl, HR.out.run.below⟩
    obtain ⟨o, ho⟩ : ∃ o, l[m]? = some o := ⟨_, List.getElem?_eq_getElem hm⟩
    obtain ⟨B, off, rfl, hB, hc⟩ := HL.out.1 m o ho
    obtain ⟨hos, hot⟩ := HO.out o (List.mem_of_getElem? ho)
    obtain ⟨t0, t1⟩ := (HL.out.2.1 o (List.mem_of_getElem? ho)).times
    have hsz : o.s.size ≤ maxLen := by unfold maxLen; omega
    have hss : s.size ≤ maxLen := by unfold maxLen; omega
    have HG := Lib.hid hg
    have hmi : (m : Int) < l.length := by omega
    have hmi0 : (0 : Int) ≤ m := by omega
    have hot' : o.times ≤ 100 := hot
    have HC : ∀ w, Below W.heap.size W w → w.cell? ⟨B, off + m * 3, none⟩ = some (.int .i64 o.kind) ∧ w.cell? ⟨B, off + m * 3 + 1, none⟩ = some (.int .i64 o.times) ∧ w.cell? ⟨B, off + m * 3 + 2, none⟩ = some (.string o.s) := fun w hb =>
      ⟨(World.cell?_of_block (hb.block B hB)).trans (hc 0 _ rfl), (World.cell?_of_block (hb.block B hB)).trans (hc 1 _ rfl), (World.cell?_of_block (hb.block B hB)).trans (hc 2 _ rfl)⟩
    have HC := Lib.hid HC
    clear hg hc ho hB
    obtain ⟨cz, ct, cs⟩ := HC.out wr HR.out.run.below
    by_cases hk2 : o.kind = 2
    · have hkb : (o.kind == 2) = true := by simpa using hk2
      have hkb0 : (o.kind == 0) = false := by rw [hk2]; rfl
      clear cs ct hk2
      go_wp2_with fail
      refine (copy_run HR.out.run).mono ?_
      rintro e w4 ⟨b2, f2, c2, rfl, hR4, hC4, hl4, hb4⟩
      have H4 := Lib.hid (And.intro (HR.out.step hb4) (And.intro (show Both W w4 b2 f2 c2 rb fr F sb sg k rl from ⟨hC4, HR.out.ref.below hb4, fun x hx => ⟨(HR.out.lo x hx).1, by have := HR.out.ref.lt x hx; omega, by have := HR.out.ref.lt x hx; omega, by have := HR.out.ref.lt x hx; omega⟩⟩) (show (fb < b2 ∧ fb < f2 ∧ fb < c2) ∧ (cb < b2 ∧ cb < f2 ∧ cb < c2) by have := HR.out.run.lt; omega)))
      clear hR4 hC4 hl4 hb4 cz
      go_wp2_with fail
      refine (touch_run H4.out.1.run ⟨#[99, 111, 112, 105, 101, 100]⟩ (by decide)).mono ?_
      rintro e w5 ⟨rfl, hR5, ho5⟩
      have H5 := Lib.hid (And.intro hR5 (show Both W w5 b2 f2 c2 rb fr F sb sg k rl from ⟨H4.out.2.1.run.other ho5 (fun x e => by
          have := H4.out.2.2
          rcases e with rfl | rfl
          · exact ⟨by omega, hR5.f.low⟩
          · exact ⟨by omega, hR5.c.low⟩), H4.out.1.one hR5 ho5, H4.out.2.1.lo⟩))
      clear hR5 ho5
      go_wp2_with fail
      refine (touch_run H5.out.1 ⟨#[99, 111, 112, 105, 101, 100]⟩ (by decide)).mono ?_
      rintro e w6 ⟨rfl, hR6, ho6⟩
      have H6 := Lib.hid (show Both W w6 b2 f2 c2 rb fr F sb sg k rl from ⟨H5.out.2.run.other ho6 (fun x e => by
          have := H4.out.2.2
          rcases e with rfl | rfl
          · exact ⟨by omega, hR6.f.low⟩
          · exact ⟨by omega, hR6.c.low⟩), H5.out.2.ref.only ho6 (fun x hx e => by have := (HR.out.lo x hx).2; rcases e with rfl | rfl; exact this.2.1 rfl; exact this.2.2 rfl), H5.out.2.lo⟩)
      clear hR6 ho6
      go_wp2_with fail
      go_loopg [13] 1 (fun gk i wr => ∃ (j : Nat), i = .int .i64 j ∧ gk + j = 1 ∧ Hid (Both W wr b2 f2 c2 rb fr F sb sg k rl))
      case atStart => exact ⟨0, rfl, by omega, H6⟩
      case round =>
        obtain ⟨j, rfl, hgj, HR1⟩ := hrel
        clear H6
        obtain ⟨cz, ct, -⟩ := HC.out wr HR1.out.run.below
        by_cases hjt : (j : Int) < o.times
        · go_wp2_with fail
          clear cz ct
          have cs := (HC.out wr HR1.out.run.below).2.2
          have hb0 : Below wr.heap.size wr wr := Below.refl _ _
          have hw1 : ∀ (t : ByteArray), t.size ≤ maxLen → ∀ W', Below wr.heap.size wr W' → Calls Try.prog 41 #[.pointer (some ⟨b2, 0, none⟩), .string t] W' fun e w' => e = .returned (.int .i64 (k.worth t.data.toList : Nat)) ∧ Below W'.heap.size W' w' := fun t ht W' hb => (worth_run (HR1.out.step hb).run t ht).mono fun _ _ h => ⟨h.1, h.2.2⟩
          have hw2 : ∀ (t : ByteArray), t.size ≤ maxLen → ∀ W', Below wr.heap.size wr W' → Calls Try.prog 46 #[.pointer (some ⟨rb, 0, none⟩), .string t] W' fun e w' => e = .returned (.int .i64 (k.worth t.data.toList : Nat)) ∧ ∃ n, w' = W'.drewN n := fun t ht W' hb => worth_any (HR1.out.step hb).ref t ht
          have ha1 : ∀ W', Below wr.heap.size wr W' → Calls Try.prog 42 #[.pointer (some ⟨b2, 0, none⟩), .string s, .string o.s] W' fun e w' => e = .returned (.bool (k.admit s.data.toList o.s.data.toList)) ∧ Below W'.heap.size W' w' := fun W' hb => (admit_run (HR1.out.step hb).run s o.s hss hsz).mono fun _ _ h => ⟨h.1, h.2.2⟩
          have ha2 : ∀ W', Below wr.heap.size wr W' → Calls Try.prog 47 #[.pointer (some ⟨rb, 0, none⟩), .string s, .string o.s] W' fun e w' => e = .returned (.bool (k.admit s.data.toList o.s.data.toList)) ∧ ∃ n, w' = W'.drewN n := fun W' hb => admit_any (HR1.out.step hb).ref s o.s hss hsz
          have hn1 : (((k.worth o.s.data.toList : Nat) : Int) != (k.worth o.s.data.toList : Nat)) = false := by simp
          have hn2 : (((k.worth s.data.toList : Nat) : Int) != (k.worth s.data.toList : Nat)) = false := by simp
          have hn3 : (k.admit s.data.toList o.s.data.toList != k.admit s.data.toList o.s.data.toList) = false := by cases k.admit s.data.toList o.s.data.toList <;> rfl
          go_region_held3 (fun W' : World => Below wr.heap.size wr W' ∧ W'.cell? ⟨B, off + m * 3 + 2, none⟩ = some (.string o.s))
            (first
              | exact ⟨hb0.drew, cs⟩
              | (go_split_ands; exact ⟨Mem.tr (by assumption) hb, (HC.out _ (Mem.tr (HR1.out.step (Mem.tr (by assumption) hb)).run.below (Below.refl _ _))).2.2⟩)
              | (go_split_ands; exact ⟨Mem.tr (by assumption) (Mem.dn (Below.refl _ _) _), (by assumption)⟩))
            (first
              | (go_at_call 41; go_split_ands; refine (hw1 _ (by assumption) _ (by assumption)).mono ?_; rintro e w4 ⟨rfl, hb⟩)
              | (go_at_call 46; go_split_ands; refine (hw2 _ (by assumption) _ (by assumption)).mono ?_; rintro e w5 ⟨rfl, d5, rfl⟩)
              | (go_at_call 42; go_split_ands; refine (ha1 _ (by assumption)).mono ?_; rintro e w6 ⟨rfl, hb⟩)
              | (go_at_call 47; go_split_ands; refine (ha2 _ (by assumption)).mono ?_; rintro e w7 ⟨rfl, d7, rfl⟩))
          go_split_ands
          clear hw1 hw2 ha1 ha2 cs
          go_wp2_with fail
          go_roundg (l.length - (m + 1))
          case measure => have := HG.out; omega
          case rel => exact ⟨m + 1, b2, f2, c2, F, k, rl, rfl, by go_num, by have := HG.out; omega, Lib.hid (HR1.out.step (by assumption))⟩
        · have hjt' : o.times ≤ (j : Int) := by omega
          clear cz
          go_wp2_with fail
          clear ct
          have cs := (HC.out wr HR1.out.run.below).2.2
          have hb0 : Below wr.heap.size wr wr := Below.refl _ _
          have hw1 : ∀ (t : ByteArray), t.size ≤ maxLen → ∀ W', Below wr.heap.size wr W' → Calls Try.prog 41 #[.pointer (some ⟨b2, 0, none⟩), .string t] W' fun e w' => e = .returned (.int .i64 (k.worth t.data.toList : Nat)) ∧ Below W'.heap.size W' w' := fun t ht W' hb => (worth_run (HR1.out.step hb).run t ht).mono fun _ _ h => ⟨h.1, h.2.2⟩
          have hw2 : ∀ (t : ByteArray), t.size ≤ maxLen → ∀ W', Below wr.heap.size wr W' → Calls Try.prog 46 #[.pointer (some ⟨rb, 0, none⟩), .string t] W' fun e w' => e = .returned (.int .i64 (k.worth t.data.toList : Nat)) ∧ ∃ n, w' = W'.drewN n := fun t ht W' hb => worth_any (HR1.out.step hb).ref t ht
          have ha1 : ∀ W', Below wr.heap.size wr W' → Calls Try.prog 42 #[.pointer (some ⟨b2, 0, none⟩), .string s, .string o.s] W' fun e w' => e = .returned (.bool (k.admit s.data.toList o.s.data.toList)) ∧ Below W'.heap.size W' w' := fun W' hb => (admit_run (HR1.out.step hb).run s o.s hss hsz).mono fun _ _ h => ⟨h.1, h.2.2⟩
          have ha2 : ∀ W', Below wr.heap.size wr W' → Calls Try.prog 47 #[.pointer (some ⟨rb, 0, none⟩), .string s, .string o.s] W' fun e w' => e = .returned (.bool (k.admit s.data.toList o.s.data.toList)) ∧ ∃ n, w' = W'.drewN n := fun W' hb => admit_any (HR1.out.step hb).ref s o.s hss hsz
          have hn1 : (((k.worth o.s.data.toList : Nat) : Int) != (k.worth o.s.data.toList : Nat)) = false := by simp
          have hn2 : (((k.worth s.data.toList : Nat) : Int) != (k.worth s.data.toList : Nat)) = false := by simp
          have hn3 : (k.admit s.data.toList o.s.data.toList != k.admit s.data.toList o.s.data.toList) = false := by cases k.admit s.data.toList o.s.data.toList <;> rfl
          go_region_held3 (fun W' : World => Below wr.heap.size wr W' ∧ W'.cell? ⟨B, off + m * 3 + 2, none⟩ = some (.string o.s))
            (first
              | exact ⟨hb0.drew, cs⟩
              | (go_split_ands; exact ⟨Mem.tr (by assumption) hb, (HC.out _ (Mem.tr (HR1.out.step (Mem.tr (by assumption) hb)).run.below (Below.refl _ _))).2.2⟩)
              | (go_split_ands; exact ⟨Mem.tr (by assumption) (Mem.dn (Below.refl _ _) _), (by assumption)⟩))
            (first
              | (go_at_call 41; go_split_ands; refine (hw1 _ (by assumption) _ (by assumption)).mono ?_; rintro e w4 ⟨rfl, hb⟩)
              | (go_at_call 46; go_split_ands; refine (hw2 _ (by assumption) _ (by assumption)).mono ?_; rintro e w5 ⟨rfl, d5, rfl⟩)
              | (go_at_call 42; go_split_ands; refine (ha1 _ (by assumption)).mono ?_; rintro e w6 ⟨rfl, hb⟩)
              | (go_at_call 47; go_split_ands; refine (ha2 _ (by assumption)).mono ?_; rintro e w7 ⟨rfl, d7, rfl⟩))
          go_split_ands
          clear hw1 hw2 ha1 ha2 cs
          go_wp2_with fail
          go_roundg (l.length - (m + 1))
          case measure => have := HG.out; omega
          case rel => exact ⟨m + 1, b2, f2, c2, F, k, rl, rfl, by go_num, by have := HG.out; omega, Lib.hid (HR1.out.step (by assumption))⟩
    · have hkb : (o.kind == 2) = false := by simpa using hk2
      clear cs
      go_wp2_with fail
      go_loopg [13] 100 (fun gk i wr => ∃ (j : Nat) (F : Nat → Prop) (k : St) (rl : List Nat), i = .int .i64 j ∧ gk + j = 100 ∧ Hid (Both W wr b fb cb rb fr F sb sg k rl))
      case atStart => exact ⟨0, F, k, rl, rfl, by omega, HR⟩
      case round =>
        obtain ⟨j, F1, k1, rl1, rfl, hgj, HR1⟩ := hrel
        clear HR cz ct
        have HJ := Lib.hid hgj
        clear hgj
        obtain ⟨cz, ct, cs⟩ := HC.out wr HR1.out.run.below
        by_cases hjt : (j : Int) < o.times
        · by_cases hk0 : o.kind = 0
          · have hkb1 : (o.kind == 0) = true := by simpa using hk0
            clear hk0
            go_wp2_with fail
            clear cz ct
            refine (touch_run HR1.out.run o.s hsz).mono ?_
            rintro e w4 ⟨rfl, hR4, ho4⟩
            have H4 := Lib.hid (And.intro hR4 (And.intro ho4 (HR1.out.one hR4 ho4)))
            have cs4 := (HC.out _ hR4.below).2.2
            clear hR4 ho4 cs
            go_wp2_with fail
            refine (touch_any H4.out.2.2 o.s hsz).mono ?_
            rintro e w5 ⟨F5, rl5, rfl, hA5, ho5, hg5⟩
            have H5 := Lib.hid (HR1.out.two H4.out.1 hA5 ho5 hg5)
            clear hA5 ho5 hg5 cs4
            go_wp2_with fail
            go_roundg (100 - (j + 1))
            case measure => have := HJ.out; omega
            case rel => exact ⟨j + 1, _, _, _, by go_num, by have := HJ.out; omega, H5⟩
          · have hkb0 : (o.kind == 0) = false := by simpa using hk0
            clear cs
            go_wp2_with fail
            clear cz ct
            have cs := (HC.out wr HR1.out.run.below).2.2
            have hb0 : Below wr.heap.size wr wr := Below.refl _ _
            have hw1 : ∀ (t : ByteArray), t.size ≤ maxLen → ∀ W', Below wr.heap.size wr W' → Calls Try.prog 41 #[.pointer (some ⟨b, 0, none⟩), .string t] W' fun e w' => e = .returned (.int .i64 (k1.worth t.data.toList : Nat)) ∧ Below W'.heap.size W' w' := fun t ht W' hb => (worth_run (HR1.out.step hb).run t ht).mono fun _ _ h => ⟨h.1, h.2.2⟩
            have hw2 : ∀ (t : ByteArray), t.size ≤ maxLen → ∀ W', Below wr.heap.size wr W' → Calls Try.prog 46 #[.pointer (some ⟨rb, 0, none⟩), .string t] W' fun e w' => e = .returned (.int .i64 (k1.worth t.data.toList : Nat)) ∧ ∃ n, w' = W'.drewN n := fun t ht W' hb => worth_any (HR1.out.step hb).ref t ht
            have ha1 : ∀ W', Below wr.heap.size wr W' → Calls Try.prog 42 #[.pointer (some ⟨b, 0, none⟩), .string s, .string o.s] W' fun e w' => e = .returned (.bool (k1.admit s.data.toList o.s.data.toList)) ∧ Below W'.heap.size W' w' := fun W' hb => (admit_run (HR1.out.step hb).run s o.s hss hsz).mono fun _ _ h => ⟨h.1, h.2.2⟩
            have ha2 : ∀ W', Below wr.heap.size wr W' → Calls Try.prog 47 #[.pointer (some ⟨rb, 0, none⟩), .string s, .string o.s] W' fun e w' => e = .returned (.bool (k1.admit s.data.toList o.s.data.toList)) ∧ ∃ n, w' = W'.drewN n := fun W' hb => admit_any (HR1.out.step hb).ref s o.s hss hsz
            have hn1 : (((k1.worth o.s.data.toList : Nat) : Int) != (k1.worth o.s.data.toList : Nat)) = false := by simp
            have hn2 : (((k1.worth s.data.toList : Nat) : Int) != (k1.worth s.data.toList : Nat)) = false := by simp
            have hn3 : (k1.admit s.data.toList o.s.data.toList != k1.admit s.data.toList o.s.data.toList) = false := by cases k1.admit s.data.toList o.s.data.toList <;> rfl
            go_region_held3 (fun W' : World => Below wr.heap.size wr W' ∧ W'.cell? ⟨B, off + m * 3 + 2, none⟩ = some (.string o.s))
              (first
                | exact ⟨hb0.drew, cs⟩
                | (go_split_ands; exact ⟨Mem.tr (by assumption) hb, (HC.out _ (Mem.tr (HR1.out.step (Mem.tr (by assumption) hb)).run.below (Below.refl _ _))).2.2⟩)
                | (go_split_ands; exact ⟨Mem.tr (by assumption) (Mem.dn (Below.refl _ _) _), (by assumption)⟩))
              (first
                | (go_at_call 41; go_split_ands; refine (hw1 _ (by assumption) _ (by assumption)).mono ?_; rintro e w4 ⟨rfl, hb⟩)
                | (go_at_call 46; go_split_ands; refine (hw2 _ (by assumption) _ (by assumption)).mono ?_; rintro e w5 ⟨rfl, d5, rfl⟩)
                | (go_at_call 42; go_split_ands; refine (ha1 _ (by assumption)).mono ?_; rintro e w6 ⟨rfl, hb⟩)
                | (go_at_call 47; go_split_ands; refine (ha2 _ (by assumption)).mono ?_; rintro e w7 ⟨rfl, d7, rfl⟩))
            go_split_ands
            clear hw1 hw2 ha1 ha2 cs
            go_wp2_with fail
            go_roundg (l.length - (m + 1))
            case measure => have := HG.out; omega
            case rel => exact ⟨m + 1, b, fb, cb, F1, k1, rl1, rfl, by go_num, by have := HG.out; omega, Lib.hid (HR1.out.step (by assumption))⟩
        · have hjt' : o.times ≤ (j : Int) := by omega
          clear cs cz
          go_wp2_with fail
          clear ct
          have cs := (HC.out wr HR1.out.run.below).2.2
          have hb0 : Below wr.heap.size wr wr := Below.refl _ _
          have hw1 : ∀ (t : ByteArray), t.size ≤ maxLen → ∀ W', Below wr.heap.size wr W' → Calls Try.prog 41 #[.pointer (some ⟨b, 0, none⟩), .string t] W' fun e w' => e = .returned (.int .i64 (k1.worth t.data.toList : Nat)) ∧ Below W'.heap.size W' w' := fun t ht W' hb => (worth_run (HR1.out.step hb).run t ht).mono fun _ _ h => ⟨h.1, h.2.2⟩
          have hw2 : ∀ (t : ByteArray), t.size ≤ maxLen → ∀ W', Below wr.heap.size wr W' → Calls Try.prog 46 #[.pointer (some ⟨rb, 0, none⟩), .string t] W' fun e w' => e = .returned (.int .i64 (k1.worth t.data.toList : Nat)) ∧ ∃ n, w' = W'.drewN n := fun t ht W' hb => worth_any (HR1.out.step hb).ref t ht
          have ha1 : ∀ W', Below wr.heap.size wr W' → Calls Try.prog 42 #[.pointer (some ⟨b, 0, none⟩), .string s, .string o.s] W' fun e w' => e = .returned (.bool (k1.admit s.data.toList o.s.data.toList)) ∧ Below W'.heap.size W' w' := fun W' hb => (admit_run (HR1.out.step hb).run s o.s hss hsz).mono fun _ _ h => ⟨h.1, h.2.2⟩
          have ha2 : ∀ W', Below wr.heap.size wr W' → Calls Try.prog 47 #[.pointer (some ⟨rb, 0, none⟩), .string s, .string o.s] W' fun e w' => e = .returned (.bool (k1.admit s.data.toList o.s.data.toList)) ∧ ∃ n, w' = W'.drewN n := fun W' hb => admit_any (HR1.out.step hb).ref s o.s hss hsz
          have hn1 : (((k1.worth o.s.data.toList : Nat) : Int) != (k1.worth o.s.data.toList : Nat)) = false := by simp
          have hn2 : (((k1.worth s.data.toList : Nat) : Int) != (k1.worth s.data.toList : Nat)) = false := by simp
          have hn3 : (k1.admit s.data.toList o.s.data.toList != k1.admit s.data.toList o.s.data.toList) = false := by cases k1.admit s.data.toList o.s.data.toList <;> rfl
          go_region_held3 (fun W' : World => Below wr.heap.size wr W' ∧ W'.cell? ⟨B, off + m * 3 + 2, none⟩ = some (.string o.s))
            (first
              | exact ⟨hb0.drew, cs⟩
              | (go_split_ands; exact ⟨Mem.tr (by assumption) hb, (HC.out _ (Mem.tr (HR1.out.step (Mem.tr (by assumption) hb)).run.below (Below.refl _ _))).2.2⟩)
              | (go_split_ands; exact ⟨Mem.tr (by assumption) (Mem.dn (Below.refl _ _) _), (by assumption)⟩))
            (first
              | (go_at_call 41; go_split_ands; refine (hw1 _ (by assumption) _ (by assumption)).mono ?_; rintro e w4 ⟨rfl, hb⟩)
              | (go_at_call 46; go_split_ands; refine (hw2 _ (by assumption) _ (by assumption)).mono ?_; rintro e w5 ⟨rfl, d5, rfl⟩)
              | (go_at_call 42; go_split_ands; refine (ha1 _ (by assumption)).mono ?_; rintro e w6 ⟨rfl, hb⟩)
              | (go_at_call 47; go_split_ands; refine (ha2 _ (by assumption)).mono ?_; rintro e w7 ⟨rfl, d7, rfl⟩))
          go_split_ands
          clear hw1 hw2 ha1 ha2 cs
          go_wp2_with fail
          go_roundg (l.length - (m + 1))
          case measure => have := HG.out; omega
          case rel => exact ⟨m + 1, b, fb, cb, F1, k1, rl1, rfl, by go_num, by have := HG.out; omega, Lib.hid (HR1.out.step (by assumption))⟩
end Go.Proofs.Ytncdaadiadeeiaa.TinyDoes
