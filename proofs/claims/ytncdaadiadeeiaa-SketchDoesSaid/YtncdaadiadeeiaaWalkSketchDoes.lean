/- SketchDoes answers true for every seed and list of calls. Conditions: the numbers are of their types. -/
import Derived.Test.YtncdaadiadeeiaaSketchRef
import Derived.Deep.RegionHeld3
import Derived.Deep.CutRange
namespace Go.Proofs.Ytncdaadiadeeiaa.SketchDoes
open Go Go.RowKit Go.Proofs.Ytncdaadiadeeiaa.Sketch Go.Proofs.Ytncdaadiadeeiaa.SketchRef Go.Proofs.Ytncdaadiadeeiaa.Mem Go.Proofs.Ytncdaadiadeeiaa.Ops

/-- A sketch, and the document's own one, in the same state. -/
structure Both (W w : World) (a b g : Nat) (k : St) : Prop where
  run : Run W w a k
  ref : RAt w b g k
  lb : W.heap.size ≤ b
  lg : W.heap.size ≤ g
  nb : a ≠ b
  ng : a ≠ g
section
variable {W w w' : World} {a b g : Nat} {k k' : St}
theorem Both.drew (h : Both W w a b g k) : Both W w.drew a b g k := ⟨⟨h.run.at_, h.run.low, h.run.below.drew, h.run.ok⟩, ⟨h.ref.blk, h.ref.row, h.ref.ne⟩, h.lb, h.lg, h.nb, h.ng⟩
theorem Both.drewN (h : Both W w a b g k) (n : Nat) : Both W (w.drewN n) a b g k := ⟨⟨h.run.at_, h.run.low, below_drewN h.run.below n, h.run.ok⟩, ⟨h.ref.blk, h.ref.row, h.ref.ne⟩, h.lb, h.lg, h.nb, h.ng⟩
theorem Both.step (h : Both W w a b g k) (hb : Below w.heap.size w w') : Both W w' a b g k := ⟨h.run.step hb, h.ref.below hb, h.lb, h.lg, h.nb, h.ng⟩
theorem Both.two {w1 w2 : World} (h : Both W w a b g k) (r1 : Run W w1 a k') (r2 : RAt w2 b g k') (o2 : Only (fun j => j = b ∨ j = g) w1 w2) : Both W w2 a b g k' :=
  ⟨r1.other o2 (fun j e => by rcases e with rfl | rfl; exact ⟨h.nb, h.lb⟩; exact ⟨h.ng, h.lg⟩), r2, h.lb, h.lg, h.nb, h.ng⟩
end

set_option maxRecDepth 20000 in
set_option maxHeartbeats 4000000 in
theorem walk (W : World) (seed : Int) (x : Option Addr) (n c : Nat) (l : List Sketch.Op) (hseed : 0 ≤ seed ∧ seed ≤ 18446744073709551615) (hl : n = l.length ∧ n ≤ maxLen ∧ (∀ a ∈ l, OpOk a) ∧ Lies W 3 encO x l) :
    Calls Try.prog 6 #[.int .u64 seed, .slice x n c] W fun e W' => e = .returned (.bool true) ∧ Below W.heap.size W W' := by
  obtain ⟨rfl, hn, hok, hlies⟩ := hl
  have HL := Lib.hid (And.intro hlies hok)
  unfold maxLen at hn
  clear hlies hok
  go_enter Try.func6, Try.ntmps6
  go_wp2_with fail
  refine (awake_any _).mono ?_
  rintro e w1 ⟨rfl, hb1⟩
  go_wp2_with fail
  refine (short_any c hn HL.out.2 (HL.out.1.same hb1)).mono ?_
  rintro e w2 ⟨⟨q, rfl, hq⟩, rfl⟩
  go_wp2_with fail
  refine (new_run hseed hb1).mono ?_
  rintro e w2 ⟨a, rfl, r0, -⟩
  clear hb1
  have H0 := Lib.hid r0
  have HQ := Lib.hid hq
  clear r0 hq
  cases q
  · go_wp2_with fail
    go_ret
    exact ⟨rfl, H0.out.below⟩
  obtain ⟨h60, hops⟩ := HQ.out.1 rfl
  have HO := Lib.hid hops
  clear hops
  go_wp2_with fail
  refine (SketchRef.new_gives _ _).mono ?_
  rintro e w3 ⟨b, g, rfl, hA, ⟨hlb, hlg⟩, hb3⟩
  have H1 := Lib.hid (show Both W w3 a b g (new seed) from ⟨H0.out.step hb3, hA, by have := H0.out.below.size; omega, by have := H0.out.below.size; omega, by have := H0.out.at_.lt; omega, by have := H0.out.at_.lt; omega⟩)
  clear hA hlb hlg hb3 H0
  go_wp2_with fail
  go_loopg [7, 9] l.length (fun gk p i wr => ∃ (m a : Nat) (k : St), p = .pointer (some ⟨a, 0, none⟩) ∧ i = .int .i64 m ∧ gk + m = l.length ∧ Hid (Both W wr a b g k))
  case atStart => exact ⟨0, a, new seed, rfl, rfl, by omega, H1⟩
  case round =>
    obtain ⟨m, a, k, rfl, rfl, hg, HR⟩ := hrel
    clear H1
    by_cases hm : m < l.length
    · obtain ⟨o, ho⟩ : ∃ o, l[m]? = some o := ⟨_, List.getElem?_eq_getElem hm⟩
      obtain ⟨B, off, rfl, hB, hc⟩ := HL.out.1 m o ho
      obtain ⟨hos, hot⟩ := HO.out o (List.mem_of_getElem? ho)
      obtain ⟨t0, t1⟩ := (HL.out.2 o (List.mem_of_getElem? ho)).times
      have hsz : o.s.size ≤ maxLen := by unfold maxLen; omega
      have HG := Lib.hid hg
      have hmi : (m : Int) < l.length := by omega
      have hmi0 : (0 : Int) ≤ m := by omega
      have hot' : o.times ≤ 100 := hot
      have HC : ∀ w, Below W.heap.size W w → w.cell? ⟨B, off + m * 3, none⟩ = some (.int .i64 o.kind) ∧ w.cell? ⟨B, off + m * 3 + 1, none⟩ = some (.int .i64 o.times) ∧ w.cell? ⟨B, off + m * 3 + 2, none⟩ = some (.string o.s) := fun w hb =>
        ⟨(World.cell?_of_block (hb.block B hB)).trans (hc 0 _ rfl), (World.cell?_of_block (hb.block B hB)).trans (hc 1 _ rfl), (World.cell?_of_block (hb.block B hB)).trans (hc 2 _ rfl)⟩
      have HC := Lib.hid HC
      clear hg hc ho hB
      obtain ⟨cz, ct, cs⟩ := HC.out wr HR.out.run.below
      have hmain : ∀ (wq : World) (a' : Nat) (k' : St), Both W wq a' b g k' → True := fun _ _ _ _ => trivial
      clear hmain
      by_cases hk2 : o.kind = 2
      · rw [hk2] at cz
        clear cs ct
        go_wp2_with fail
        refine (copy_any HR.out.run.at_).mono ?_
        rintro e w4 ⟨a2, rfl, hA, hla, hb4⟩
        have H4 := Lib.hid (And.intro (HR.out.step hb4) (show Both W w4 a2 b g k ∧ a < a2 from ⟨⟨⟨hA, by have := HR.out.run.below.size; omega, Mem.tr HR.out.run.below hb4, HR.out.run.ok⟩, HR.out.ref.below hb4, HR.out.lb, HR.out.lg, by have := HR.out.ref.lt; omega, by have := HR.out.ref.lt; omega⟩, by have := HR.out.run.at_.lt; omega⟩))
        clear hA hla hb4 cz
        go_wp2_with fail
        refine (add_run H4.out.1.run ⟨#[99, 111, 112, 105, 101, 100]⟩ (by decide)).mono ?_
        rintro e w5 ⟨rfl, hR5, ho5⟩
        have H5 := Lib.hid (show Both W w5 a2 b g k from ⟨H4.out.2.1.run.other ho5 (fun j e => by subst e; exact ⟨by have := H4.out.2.2; omega, hR5.low⟩), H4.out.2.1.ref.only ho5 ⟨fun e => H4.out.1.nb e.symm, fun e => H4.out.1.ng e.symm⟩, H4.out.1.lb, H4.out.1.lg, H4.out.2.1.nb, H4.out.2.1.ng⟩)
        clear hR5 ho5 HR
        generalize (k.add #[99, 111, 112, 105, 101, 100].toList).1 = q at *
        go_wp2_with fail
        go_loopg [11] 1 (fun gk i wr => ∃ (j : Nat), i = .int .i64 j ∧ gk + j = 1 ∧ Hid (Both W wr a2 b g k))
        case atStart => exact ⟨0, rfl, by omega, H5⟩
        case round =>
          obtain ⟨j, rfl, hgj, HR1⟩ := hrel
          clear H5
          obtain ⟨cz, ct, -⟩ := HC.out wr HR1.out.run.below
          rw [hk2] at cz
          by_cases hjt : (j : Int) < o.times
          · go_wp2_with fail
            clear cz ct
            obtain ⟨v, hv⟩ : ∃ v, k.age = v := ⟨_, rfl⟩
            obtain ⟨n, hn⟩ : ∃ n, k.count o.s.data.toList = n := ⟨_, rfl⟩
            have cs := (HC.out wr HR1.out.run.below).2.2
            have ca : wr.cell? ⟨b, 2, none⟩ = some (.int .i64 k.age) := Mem.row_cell HR1.out.ref.blk 2
            have ha := age_any HR1.out.drew.run.at_
            have hc1 := count_run HR1.out.drew.run o.s hsz
            have hc2 : ∀ w3, RAt w3 b g k → Calls Try.prog 27 #[.pointer (some ⟨b, 0, none⟩), .string o.s] w3 fun e w' => e = .returned (.int .i64 (n : Nat)) ∧ ∃ d, w' = w3.drewN d := fun w3 h => by
              have := SketchRef.count_any h HR1.out.run.ok o.s hsz
              rwa [hn] at this
            rw [hn] at hc1
            rw [hv] at ha ca
            have hvv : (v != v) = false := by simp
            have hnn : ((n : Int) != n) = false := by simp
            clear hn hv
            go_region_held3 (fun W' : World => W'.cell? ⟨B, off + m * 3 + 2, none⟩ = some (.string o.s) ∧ W'.cell? ⟨b, 2, none⟩ = some (.int .i64 v))
              (first | exact ⟨cs, ca⟩ | exact ⟨(HC.out _ hR5.below).2.2, (World.cell?_of_block (hb5.block b HR1.out.ref.lt.1)).trans ca⟩)
              (first
                | (go_at_call 23; refine ha.mono ?_; rintro e w4 ⟨rfl, rfl⟩)
                | (go_at_call 22; refine hc1.mono ?_; rintro e w5 ⟨rfl, hR5, hb5⟩)
                | (go_at_call 27; refine (hc2 _ (HR1.out.drew.ref.below hb5)).mono ?_; rintro e w6 ⟨rfl, d6, rfl⟩))
            have H5 := Lib.hid (((HR1.out.drew.step hb5)).drewN d6)
            clear hR5 hb5 cs ca ha hc1 hc2
            go_wp2_with fail
            go_roundg (l.length - (m + 1))
            case measure => have := HG.out; omega
            case rel => exact ⟨m + 1, a2, k, rfl, by go_num, by have := HG.out; omega, H5⟩
          · have hjt' : o.times ≤ (j : Int) := by omega
            clear cz
            go_wp2_with fail
            clear ct
            obtain ⟨v, hv⟩ : ∃ v, k.age = v := ⟨_, rfl⟩
            obtain ⟨n, hn⟩ : ∃ n, k.count o.s.data.toList = n := ⟨_, rfl⟩
            have cs := (HC.out wr HR1.out.run.below).2.2
            have ca : wr.cell? ⟨b, 2, none⟩ = some (.int .i64 k.age) := Mem.row_cell HR1.out.ref.blk 2
            have ha := age_any HR1.out.drew.run.at_
            have hc1 := count_run HR1.out.drew.run o.s hsz
            have hc2 : ∀ w3, RAt w3 b g k → Calls Try.prog 27 #[.pointer (some ⟨b, 0, none⟩), .string o.s] w3 fun e w' => e = .returned (.int .i64 (n : Nat)) ∧ ∃ d, w' = w3.drewN d := fun w3 h => by
              have := SketchRef.count_any h HR1.out.run.ok o.s hsz
              rwa [hn] at this
            rw [hn] at hc1
            rw [hv] at ha ca
            have hvv : (v != v) = false := by simp
            have hnn : ((n : Int) != n) = false := by simp
            clear hn hv
            go_region_held3 (fun W' : World => W'.cell? ⟨B, off + m * 3 + 2, none⟩ = some (.string o.s) ∧ W'.cell? ⟨b, 2, none⟩ = some (.int .i64 v))
              (first | exact ⟨cs, ca⟩ | exact ⟨(HC.out _ hR5.below).2.2, (World.cell?_of_block (hb5.block b HR1.out.ref.lt.1)).trans ca⟩)
              (first
                | (go_at_call 23; refine ha.mono ?_; rintro e w4 ⟨rfl, rfl⟩)
                | (go_at_call 22; refine hc1.mono ?_; rintro e w5 ⟨rfl, hR5, hb5⟩)
                | (go_at_call 27; refine (hc2 _ (HR1.out.drew.ref.below hb5)).mono ?_; rintro e w6 ⟨rfl, d6, rfl⟩))
            have H5 := Lib.hid (((HR1.out.drew.step hb5)).drewN d6)
            clear hR5 hb5 cs ca ha hc1 hc2
            go_wp2_with fail
            go_roundg (l.length - (m + 1))
            case measure => have := HG.out; omega
            case rel => exact ⟨m + 1, a2, k, rfl, by go_num, by have := HG.out; omega, H5⟩
      · have hkb : (o.kind == 2) = false := by simpa using hk2
        clear cs
        go_wp2_with fail
        go_loopg [11] 100 (fun gk i wr => ∃ (j : Nat) (k : St), i = .int .i64 j ∧ gk + j = 100 ∧ Hid (Both W wr a b g k))
        case atStart => exact ⟨0, k, rfl, by omega, HR⟩
        case round =>
          obtain ⟨j, k1, rfl, hgj, HR1⟩ := hrel
          clear HR cz ct
          have HJ := Lib.hid hgj
          clear hgj
          obtain ⟨cz, ct, cs⟩ := HC.out wr HR1.out.run.below
          by_cases hjt : (j : Int) < o.times
          · by_cases hk0 : o.kind = 0
            · have hkb1 : (o.kind == 0) = true := by simpa using hk0
              clear hk0
              obtain ⟨q, hq⟩ : ∃ q, (k1.add o.s.data.toList).1 = q := ⟨_, rfl⟩
              have hc1 := add_run HR1.out.drew.run o.s hsz
              have hc2 : ∀ w3, RAt w3 b g k1 → Calls Try.prog 26 #[.pointer (some ⟨b, 0, none⟩), .string o.s] w3 fun e w' => e = .returned (.bool q) ∧ RAt w' b g (k1.add o.s.data.toList).2 ∧ Only (fun j => j = b ∨ j = g) w3 w' := fun w3 h => by
                have := SketchRef.add_any h HR1.out.run.ok o.s hsz
                rwa [hq] at this
              rw [hq] at hc1
              have hqq : (q != q) = false := by cases q <;> rfl
              clear hq
              go_wp2_with fail
              clear cz ct
              go_region_held3 (fun W' : World => W'.cell? ⟨B, off + m * 3 + 2, none⟩ = some (.string o.s))
                (first | exact cs | exact (HC.out _ (HR1.out.two hR3 hA4 ho4).run.below).2.2 | exact (HC.out _ hR3.below).2.2)
                (first
                  | (go_at_call 21; refine hc1.mono ?_; rintro e w3 ⟨rfl, hR3, ho3⟩)
                  | (go_at_call 26; refine (hc2 _ (HR1.out.drew.ref.only ho3 ⟨fun e => HR1.out.nb e.symm, fun e => HR1.out.ng e.symm⟩)).mono ?_; rintro e w4 ⟨rfl, hA4, ho4⟩))
              have H4 := Lib.hid (HR1.out.two hR3 hA4 ho4)
              clear hR3 ho3 hA4 ho4 hc1 hc2 cs
              go_wp2_with fail
              go_roundg (100 - (j + 1))
              case measure => have := HJ.out; omega
              case rel => exact ⟨j + 1, _, by go_num, by have := HJ.out; omega, H4⟩
            · have hkb0 : (o.kind == 0) = false := by simpa using hk0
              clear cs
              go_wp2_with fail
              obtain ⟨v, hv⟩ : ∃ v, k1.age = v := ⟨_, rfl⟩
              obtain ⟨n, hn⟩ : ∃ n, k1.count o.s.data.toList = n := ⟨_, rfl⟩
              have cs := (HC.out wr HR1.out.run.below).2.2
              have ca : wr.cell? ⟨b, 2, none⟩ = some (.int .i64 k1.age) := Mem.row_cell HR1.out.ref.blk 2
              have ha := age_any HR1.out.drew.run.at_
              have hc1 := count_run HR1.out.drew.run o.s hsz
              have hc2 : ∀ w3, RAt w3 b g k1 → Calls Try.prog 27 #[.pointer (some ⟨b, 0, none⟩), .string o.s] w3 fun e w' => e = .returned (.int .i64 (n : Nat)) ∧ ∃ d, w' = w3.drewN d := fun w3 h => by
                have := SketchRef.count_any h HR1.out.run.ok o.s hsz
                rwa [hn] at this
              rw [hn] at hc1
              rw [hv] at ha ca
              have hvv : (v != v) = false := by simp
              have hnn : ((n : Int) != n) = false := by simp
              clear hn hv
              go_region_held3 (fun W' : World => W'.cell? ⟨B, off + m * 3 + 2, none⟩ = some (.string o.s) ∧ W'.cell? ⟨b, 2, none⟩ = some (.int .i64 v))
                (first | exact ⟨cs, ca⟩ | exact ⟨(HC.out _ hR5.below).2.2, (World.cell?_of_block (hb5.block b HR1.out.ref.lt.1)).trans ca⟩)
                (first
                  | (go_at_call 23; refine ha.mono ?_; rintro e w4 ⟨rfl, rfl⟩)
                  | (go_at_call 22; refine hc1.mono ?_; rintro e w5 ⟨rfl, hR5, hb5⟩)
                  | (go_at_call 27; refine (hc2 _ (HR1.out.drew.ref.below hb5)).mono ?_; rintro e w6 ⟨rfl, d6, rfl⟩))
              have H5 := Lib.hid (((HR1.out.drew.step hb5)).drewN d6)
              clear hR5 hb5 cs ca ha hc1 hc2
              go_wp2_with fail
              go_roundg (l.length - (m + 1))
              case measure => have := HG.out; omega
              case rel => exact ⟨m + 1, a, k1, rfl, by go_num, by have := HG.out; omega, H5⟩
          · have hjt' : o.times ≤ (j : Int) := by omega
            clear cs cz
            go_wp2_with fail
            obtain ⟨v, hv⟩ : ∃ v, k1.age = v := ⟨_, rfl⟩
            obtain ⟨n, hn⟩ : ∃ n, k1.count o.s.data.toList = n := ⟨_, rfl⟩
            have cs := (HC.out wr HR1.out.run.below).2.2
            have ca : wr.cell? ⟨b, 2, none⟩ = some (.int .i64 k1.age) := Mem.row_cell HR1.out.ref.blk 2
            have ha := age_any HR1.out.drew.run.at_
            have hc1 := count_run HR1.out.drew.run o.s hsz
            have hc2 : ∀ w3, RAt w3 b g k1 → Calls Try.prog 27 #[.pointer (some ⟨b, 0, none⟩), .string o.s] w3 fun e w' => e = .returned (.int .i64 (n : Nat)) ∧ ∃ d, w' = w3.drewN d := fun w3 h => by
              have := SketchRef.count_any h HR1.out.run.ok o.s hsz
              rwa [hn] at this
            rw [hn] at hc1
            rw [hv] at ha ca
            have hvv : (v != v) = false := by simp
            have hnn : ((n : Int) != n) = false := by simp
            clear hn hv
            go_region_held3 (fun W' : World => W'.cell? ⟨B, off + m * 3 + 2, none⟩ = some (.string o.s) ∧ W'.cell? ⟨b, 2, none⟩ = some (.int .i64 v))
              (first | exact ⟨cs, ca⟩ | exact ⟨(HC.out _ hR5.below).2.2, (World.cell?_of_block (hb5.block b HR1.out.ref.lt.1)).trans ca⟩)
              (first
                | (go_at_call 23; refine ha.mono ?_; rintro e w4 ⟨rfl, rfl⟩)
                | (go_at_call 22; refine hc1.mono ?_; rintro e w5 ⟨rfl, hR5, hb5⟩)
                | (go_at_call 27; refine (hc2 _ (HR1.out.drew.ref.below hb5)).mono ?_; rintro e w6 ⟨rfl, d6, rfl⟩))
            have H5 := Lib.hid (((HR1.out.drew.step hb5)).drewN d6)
            clear hR5 hb5 cs ca ha hc1 hc2
            go_wp2_with fail
            go_roundg (l.length - (m + 1))
            case measure => have := HG.out; omega
            case rel => exact ⟨m + 1, a, k1, rfl, by go_num, by have := HG.out; omega, H5⟩
    · have hml : (l.length : Int) ≤ m := by omega
      go_wp2_with fail
      go_ret
      exact ⟨rfl, HR.out.run.below⟩
end Go.Proofs.Ytncdaadiadeeiaa.SketchDoes
