/- BloomDoes answers true for every seed and list of calls. Conditions: the numbers are of their types. -/
import Derived.Test.YtncdaadiadeeiaaBloomRef
import Derived.Deep.RegionHeld3
import Derived.Deep.QuietTactic
import Derived.BigQuiet
namespace Go.Proofs.Ytncdaadiadeeiaa.BloomDoes
open Go Go.RowKit Go.Proofs.Ytncdaadiadeeiaa.Bloom Go.Proofs.Ytncdaadiadeeiaa.BloomRef Go.Proofs.Ytncdaadiadeeiaa.Mem Go.Proofs.Ytncdaadiadeeiaa.Ops

/-- A filter, and the document's own one, with the same places set. -/
structure Both (W w : World) (a b : Nat) (F : Nat → Prop) (k : St) (l : List Nat) : Prop where
  run : Run W w a k
  ref : RAt w b F k.seed l
  lo : ∀ x, F x → W.heap.size ≤ x
  na : ¬ F a
  link : Link k l
section
variable {W w w' : World} {a b : Nat} {F : Nat → Prop} {k : St} {l : List Nat}
theorem Both.drewN (h : Both W w a b F k l) (n : Nat) : Both W (w.drewN n) a b F k l := ⟨⟨h.run.at_, h.run.low, below_drewN h.run.below n, h.run.ok⟩, h.ref.same (fun _ _ => rfl) (Nat.le_refl _), h.lo, h.na, h.link⟩
theorem Both.drew (h : Both W w a b F k l) : Both W w.drew a b F k l := ⟨⟨h.run.at_, h.run.low, h.run.below.drew, h.run.ok⟩, h.ref.same (fun _ _ => rfl) (Nat.le_refl _), h.lo, h.na, h.link⟩
theorem Both.step (h : Both W w a b F k l) (hb : Below w.heap.size w w') : Both W w' a b F k l := ⟨h.run.step hb, h.ref.below hb, h.lo, h.na, h.link⟩
theorem Both.two {F' : Nat → Prop} {k' : St} {l' : List Nat} {w1 w2 : World} (h : Both W w a b F k l) (hs : k'.seed = k.seed) (r1 : Run W w1 a k') (_o1 : Only (fun j => j = a) w w1) (r2 : RAt w2 b F' k.seed l') (o2 : Only F w1 w2) (g2 : Grows w1 F F') (hl : Link k' l') : Both W w2 a b F' k' l' :=
  ⟨r1.other o2 (fun j e => ⟨fun e1 => h.na (e1 ▸ e), h.lo j e⟩), by rw [hs]; exact r2, fun x hx => (g2 x hx).elim (h.lo x) (fun e => by have := r1.below.size; omega), fun e => (g2 a e).elim h.na (fun e => by have := r1.at_.lt; omega), hl⟩
end

set_option maxRecDepth 20000 in
set_option maxHeartbeats 4000000 in
theorem walk (W : World) (seed : Int) (x : Option Addr) (n c : Nat) (l : List Bloom.Op) (hseed : 0 ≤ seed ∧ seed ≤ 18446744073709551615) (hl : n = l.length ∧ n ≤ maxLen ∧ (∀ a ∈ l, OpOk a) ∧ Lies W 2 encO x l) :
    Calls Try.prog 11 #[.int .u64 seed, .slice x n c] W fun e W' => e = .returned (.bool true) ∧ Below W.heap.size W W' := by
  obtain ⟨rfl, hn, hok, hlies⟩ := hl
  have HL := Lib.hid (And.intro hlies hok)
  unfold maxLen at hn
  clear hlies hok
  go_enter Try.func11, Try.ntmps11
  go_wp2_with fail
  refine (awake_any _).mono ?_
  rintro e w1 ⟨rfl, hb1⟩
  go_wp2_with fail
  refine (short_any c 150 hn HL.out.2 (HL.out.1.same hb1)).mono ?_
  rintro e w2 ⟨⟨q, rfl, hq⟩, rfl⟩
  go_wp2_with fail
  refine (new_run hseed hb1).mono ?_
  rintro e w2 ⟨a, rfl, r0, -, -⟩
  clear hb1
  have H0 := Lib.hid r0
  have HQ := Lib.hid hq
  clear r0 hq
  cases q
  · go_wp2_with fail
    go_ret
    exact ⟨rfl, H0.out.below⟩
  obtain ⟨h150, hops⟩ := HQ.out.1 rfl
  have HO := Lib.hid hops
  clear hops
  have H1 := Lib.hid (show Both W (w2.alloc (.cells #[.int .u64 seed, .slice none 0 0] 53)) a w2.heap.size (fun j => j = w2.heap.size) (new seed) [] from
    ⟨H0.out.step (Mem.al (Below.refl _ _) _), ⟨_, Mem.new_block w2 _, World.ownsRow_nil _ _ _ _, rfl, fun g e => (by cases e), fun j e => by simp; omega⟩, fun j e => by have := H0.out.below.size; omega, fun e => by have := H0.out.at_.lt; omega, Link.new seed⟩)
  go_wp2_with fail
  generalize w2.alloc (.cells #[.int .u64 seed, .slice none 0 0] 53) = w3 at *
  obtain ⟨b, hb⟩ : ∃ b, w2.heap.size = b := ⟨_, rfl⟩
  rw [hb] at H1
  simp only [hb]
  clear hb H0
  go_loopg [7, 9] l.length (fun gk p i wr => ∃ (m a : Nat) (F : Nat → Prop) (k : St) (rl : List Nat), p = .pointer (some ⟨a, 0, none⟩) ∧ i = .int .i64 m ∧ gk + m = l.length ∧ Hid (Both W wr a b F k rl))
  case atStart => exact ⟨0, a, _, new seed, [], rfl, rfl, by omega, H1⟩
  case round =>
    obtain ⟨m, a, F, k, rl, rfl, rfl, hg, HR⟩ := hrel
    clear H1
    by_cases hm : m < l.length
    case neg =>
      have hml : (l.length : Int) ≤ m := by omega
      go_wp2_with fail
      go_ret
      exact ⟨rfl, HR.out.run.below⟩
    obtain ⟨o, ho⟩ : ∃ o, l[m]? = some o := ⟨_, List.getElem?_eq_getElem hm⟩
    obtain ⟨B, off, rfl, hB, hc⟩ := HL.out.1 m o ho
    have hos := HO.out o (List.mem_of_getElem? ho)
    have hsz : o.s.size ≤ maxLen := by unfold maxLen; omega
    have HG := Lib.hid hg
    have hmi : (m : Int) < l.length := by omega
    have hmi0 : (0 : Int) ≤ m := by omega
    have hlr := HR.out.link.small
    have HC : ∀ w, Below W.heap.size W w → w.cell? ⟨B, off + m * 2, none⟩ = some (.int .i64 o.kind) ∧ w.cell? ⟨B, off + m * 2 + 1, none⟩ = some (.string o.s) := fun w hb =>
      ⟨(World.cell?_of_block (hb.block B hB)).trans (hc 0 _ rfl), (World.cell?_of_block (hb.block B hB)).trans (hc 1 _ rfl)⟩
    have HC := Lib.hid HC
    clear hg hc ho hB
    obtain ⟨cz, cs⟩ := HC.out wr HR.out.run.below
    by_cases hk0 : o.kind = 0
    · rw [hk0] at cz
      obtain ⟨q, hq⟩ : ∃ q, k.has o.s.data.toList = q := ⟨_, rfl⟩
      have hc1 := add_run HR.out.drew.run o.s hsz
      have hc2 : ∀ w3, RAt w3 b F k.seed rl → Calls Try.prog 35 #[.pointer (some ⟨b, 0, none⟩), .string o.s] w3 fun e w' => ∃ F', e = .returned (.bool q) ∧ RAt w' b F' k.seed (radds k.seed o.s.data.toList rl 3) ∧ Only F w3 w' ∧ Grows w3 F F' := fun w3 h => by
        have := BloomRef.add_any h (by omega) o.s hsz
        unfold AddPost at this
        rw [HR.out.link.has, hq] at this
        exact this
      rw [hq] at hc1
      have hqq : (q == q) = true := by cases q <;> rfl
      clear hq
      go_wp2_with fail
      go_region_held3 (fun W' : World => W'.cell? ⟨B, off + m * 2 + 1, none⟩ = some (.string o.s))
        (first | exact cs | exact (HC.out _ (HR.out.drew.two (add_seed k _) hR3 ho3 hA4 ho4 hg4 (HR.out.link.add _)).run.below).2 | exact (HC.out _ hR3.below).2)
        (first
          | (go_at_call 31; refine hc1.mono ?_; rintro e w3 ⟨rfl, hR3, ho3⟩)
          | (go_at_call 35; refine (hc2 _ (HR.out.drew.ref.only ho3 (fun x hx e => HR.out.na (e ▸ hx)))).mono ?_; rintro e w4 ⟨F4, rfl, hA4, ho4, hg4⟩))
      have H4 := Lib.hid (HR.out.drew.two (add_seed k _) hR3 ho3 hA4 ho4 hg4 (HR.out.link.add o.s.data.toList))
      clear hR3 ho3 hA4 ho4 hg4 hc1 hc2 cs
      obtain ⟨v, hv⟩ := H4.out.ref
      have hlen := H4.out.link.len
      obtain ⟨ya, yc, hvs⟩ := row_shape hv.row
      have cv : w4.cell? ⟨b, 1, none⟩ = some v := Mem.row_cell hv.blk 1
      have hsm := H4.out.link.small
      have hones := fun m => ones_run (H4.out.drewN m).run
      obtain ⟨nn, hnn⟩ : ∃ nn, ((radds k.seed o.s.data.toList rl 3)).length = nn := ⟨_, rfl⟩
      rw [hnn] at hvs hlen hsm
      simp only [hlen] at hones
      have hne : ((nn : Int) != nn) = false := by simp
      subst hvs
      clear hv hlen hnn
      go_wp2_with fail
      go_quiet ((go_at_call 32; exact Calls.quiet_of_same ((hones _).mono fun _ _ ⟨h, e⟩ => ⟨h, e.symm⟩)))
      go_wp2
      go_roundg (l.length - (m + 1))
      case measure => have := HG.out; omega
      case rel => exact ⟨m + 1, a, F4, (k.add o.s.data.toList), (radds k.seed o.s.data.toList rl 3), rfl, by go_num, by have := HG.out; omega, Lib.hid (H4.out.drewN nq)⟩
    have hb0 : (o.kind == 0) = false := by simpa using hk0
    by_cases hk1 : o.kind = 1
    · have hb1 : (o.kind == 1) = true := by simpa using hk1
      clear hk0 hk1
      obtain ⟨q, hq⟩ : ∃ q, k.has o.s.data.toList = q := ⟨_, rfl⟩
      have hc1 := has_run HR.out.drew.run o.s hsz
      have hc2 : ∀ w3, RAt w3 b F k.seed rl → Calls Try.prog 36 #[.pointer (some ⟨b, 0, none⟩), .string o.s] w3 fun e w' => e = .returned (.bool q) ∧ w3 = w' := fun w3 h => by
        have := BloomRef.has_any h (by omega) o.s hsz
        rw [HR.out.link.has, hq] at this
        exact this
      rw [hq] at hc1
      have hqq : (q == q) = true := by cases q <;> rfl
      clear hq
      go_wp2_with fail
      go_region_held3 (fun W' : World => W'.cell? ⟨B, off + m * 2 + 1, none⟩ = some (.string o.s))
        (first | exact cs | exact (HC.out _ hR3.below).2)
        (first
          | (go_at_call 33; refine hc1.mono ?_; rintro e w3 ⟨rfl, hR3, hb3⟩)
          | (go_at_call 36; refine (hc2 _ (HR.out.drew.ref.below hb3)).mono ?_; rintro e w4 ⟨rfl, rfl⟩))
      have H4 := Lib.hid (HR.out.drew.step hb3)
      clear hR3 hb3 hc1 hc2 cs
      obtain ⟨v, hv⟩ := H4.out.ref
      have hlen := H4.out.link.len
      obtain ⟨ya, yc, hvs⟩ := row_shape hv.row
      have cv : w3.cell? ⟨b, 1, none⟩ = some v := Mem.row_cell hv.blk 1
      have hsm := H4.out.link.small
      have hones := fun m => ones_run (H4.out.drewN m).run
      obtain ⟨nn, hnn⟩ : ∃ nn, (rl).length = nn := ⟨_, rfl⟩
      rw [hnn] at hvs hlen hsm
      simp only [hlen] at hones
      have hne : ((nn : Int) != nn) = false := by simp
      subst hvs
      clear hv hlen hnn
      go_wp2_with fail
      go_quiet ((go_at_call 32; exact Calls.quiet_of_same ((hones _).mono fun _ _ ⟨h, e⟩ => ⟨h, e.symm⟩)))
      go_wp2
      go_roundg (l.length - (m + 1))
      case measure => have := HG.out; omega
      case rel => exact ⟨m + 1, a, F, k, rl, rfl, by go_num, by have := HG.out; omega, Lib.hid (H4.out.drewN nq)⟩
    have hb1 : (o.kind == 1) = false := by simpa using hk1
    by_cases hk2 : o.kind = 2
    · have hb2 : (o.kind == 2) = true := by simpa using hk2
      clear hk0 hk1 hk2 cs
      go_wp2_with fail
      refine (clear_run HR.out.run).mono ?_
      rintro e w3 ⟨rfl, hR3, ho3⟩
      have hA3 := HR.out.ref.only ho3 (fun x hx e => HR.out.na (e ▸ hx))
      obtain ⟨v, hv⟩ := hA3
      have cv1 : w3.cell? ⟨b, 1, none⟩ = some v := Mem.row_cell hv.blk 1
      have fv1 := Mem.row_free hv.blk 1
      have hA4 := hv.turn (w' := w3) (l' := []) (v' := .slice none 0 0) (fun _ _ _ => rfl) (Nat.le_refl _) (World.ownsRow_nil _ _ _ _) (fun g e => (by cases e))
      have ho4 : Only F w3 (w3.setCell ⟨b, 1, none⟩ (.slice none 0 0)) := (Only.refl F w3).setCell (.inl hv.fb) _
      have H4 := Lib.hid (show Both W (w3.setCell ⟨b, 1, none⟩ (.slice none 0 0)) a b (fun j => F j ∨ (Value.slice none 0 0).ownBlock = some j) k.clear [] from
        ⟨hR3.other ho4 (fun j e => ⟨fun e1 => HR.out.na (e1 ▸ e), HR.out.lo j e⟩), ⟨_, hA4⟩, fun x hx => hx.elim (HR.out.lo x) (fun e => by cases e), fun hx => hx.elim HR.out.na (fun e => by cases e), Link.clear k⟩)
      clear hR3 ho3 hA4 ho4 hv cz
      go_wp2_with fail
      generalize w3.setCell ⟨b, 1, none⟩ (.slice none 0 0) = w4 at *
      obtain ⟨v, hv⟩ := H4.out.ref
      have hlen := H4.out.link.len
      obtain ⟨ya, yc, hvs⟩ := row_shape hv.row
      have cv : w4.cell? ⟨b, 1, none⟩ = some v := Mem.row_cell hv.blk 1
      have hsm := H4.out.link.small
      have hones := fun m => ones_run (H4.out.drewN m).run
      obtain ⟨nn, hnn⟩ : ∃ nn, ([]).length = nn := ⟨_, rfl⟩
      rw [hnn] at hvs hlen hsm
      simp only [hlen] at hones
      have hne : ((nn : Int) != nn) = false := by simp
      subst hvs
      clear hv hlen hnn
      go_wp2_with fail
      go_quiet ((go_at_call 32; exact Calls.quiet_of_same ((hones _).mono fun _ _ ⟨h, e⟩ => ⟨h, e.symm⟩)))
      go_wp2
      go_roundg (l.length - (m + 1))
      case measure => have := HG.out; omega
      case rel => exact ⟨m + 1, a, _, k.clear, [], rfl, by go_num, by have := HG.out; omega, Lib.hid (H4.out.drewN nq)⟩
    have hb2 : (o.kind == 2) = false := by simpa using hk2
    by_cases hk3 : o.kind = 3
    · have hb3 : (o.kind == 3) = true := by simpa using hk3
      clear hk0 hk1 hk2 hk3 cs
      go_wp2_with fail
      refine (copy_run HR.out.run).mono ?_
      rintro e w3 ⟨a2, rfl, hR3, hC3, hl3, hb3'⟩
      have H3 := Lib.hid (And.intro (HR.out.step hb3') (show Both W w3 a2 b F k rl ∧ a < a2 from ⟨⟨hC3, HR.out.ref.below hb3', HR.out.lo, fun e => by have := HR.out.ref.lt a2 e; omega, HR.out.link⟩, by have := HR.out.run.at_.lt; omega⟩))
      clear hR3 hC3 hl3 hb3' cz
      go_wp2_with fail
      refine (add_run H3.out.1.run ⟨#[99, 111, 112, 105, 101, 100]⟩ (by decide)).mono ?_
      rintro e w5 ⟨rfl, hR5, ho5⟩
      have H5 := Lib.hid (And.intro hR5 (show Both W w5 a2 b F k rl from ⟨H3.out.2.1.run.other ho5 (fun j e => by subst e; exact ⟨by have := H3.out.2.2; omega, hR5.low⟩), H3.out.2.1.ref.only ho5 (fun x hx e => H3.out.1.na (e ▸ hx)), H3.out.1.lo, H3.out.2.1.na, H3.out.1.link⟩))
      clear hR5 ho5
      generalize k.has #[99, 111, 112, 105, 101, 100].toList = q at *
      go_wp2_with fail
      refine (clear_run H5.out.1).mono ?_
      rintro e w6 ⟨rfl, hR6, ho6⟩
      have H6 := Lib.hid (show Both W w6 a2 b F k rl from ⟨H5.out.2.run.other ho6 (fun j e => by subst e; exact ⟨by have := H3.out.2.2; omega, hR6.low⟩), H5.out.2.ref.only ho6 (fun x hx e => H3.out.1.na (e ▸ hx)), H3.out.1.lo, H5.out.2.na, H3.out.1.link⟩)
      clear hR6 ho6
      obtain ⟨v, hv⟩ := H6.out.ref
      have hlen := H6.out.link.len
      obtain ⟨ya, yc, hvs⟩ := row_shape hv.row
      have cv : w6.cell? ⟨b, 1, none⟩ = some v := Mem.row_cell hv.blk 1
      have hsm := H6.out.link.small
      have hones := fun m => ones_run (H6.out.drewN m).run
      obtain ⟨nn, hnn⟩ : ∃ nn, (rl).length = nn := ⟨_, rfl⟩
      rw [hnn] at hvs hlen hsm
      simp only [hlen] at hones
      have hne : ((nn : Int) != nn) = false := by simp
      subst hvs
      clear hv hlen hnn
      go_wp2_with fail
      go_quiet ((go_at_call 32; exact Calls.quiet_of_same ((hones _).mono fun _ _ ⟨h, e⟩ => ⟨h, e.symm⟩)))
      go_wp2
      go_roundg (l.length - (m + 1))
      case measure => have := HG.out; omega
      case rel => exact ⟨m + 1, a2, F, k, rl, rfl, by go_num, by have := HG.out; omega, Lib.hid (H6.out.drewN nq)⟩
    have hb3 : (o.kind == 3) = false := by simpa using hk3
    clear hk0 hk1 hk2 hk3 cs
    obtain ⟨v, hv⟩ := HR.out.ref
    have hlen := HR.out.link.len
    obtain ⟨ya, yc, hvs⟩ := row_shape hv.row
    have cv : wr.cell? ⟨b, 1, none⟩ = some v := Mem.row_cell hv.blk 1
    have hsm := HR.out.link.small
    have hones := fun m => ones_run (HR.out.drewN m).run
    obtain ⟨nn, hnn⟩ : ∃ nn, (rl).length = nn := ⟨_, rfl⟩
    rw [hnn] at hvs hlen hsm
    simp only [hlen] at hones
    have hne : ((nn : Int) != nn) = false := by simp
    subst hvs
    clear hv hlen hnn
    go_wp2_with fail
    go_quiet ((go_at_call 32; exact Calls.quiet_of_same ((hones _).mono fun _ _ ⟨h, e⟩ => ⟨h, e.symm⟩)))
    go_wp2
    go_roundg (l.length - (m + 1))
    case measure => have := HG.out; omega
    case rel => exact ⟨m + 1, a, F, k, rl, rfl, by go_num, by have := HG.out; omega, Lib.hid (HR.out.drewN nq)⟩
end Go.Proofs.Ytncdaadiadeeiaa.BloomDoes
