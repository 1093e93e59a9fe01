/- TableSeeds answers true for every two seeds, list of calls and number. Conditions: the numbers are of their kinds. -/
import Derived.Test.YtekcogoijlbmnaaTabL5
import Derived.StillTailTactics
import Derived.Deep.RegionHeld3
namespace Go.Proofs.Ytekcogoijlbmnaa.TableSeeds
open Go Go.RowKit Go.Proofs.Ytekcogoijlbmnaa.Mem Go.Proofs.Ytekcogoijlbmnaa.Ops Go.Proofs.Ytekcogoijlbmnaa.Tab Go.Proofs.Ytekcogoijlbmnaa.TabI Go.Proofs.Ytekcogoijlbmnaa.TabL

def sized (l : List TabL.Op) : St V := l.foldl (fun s o => s.put o.key (o.key.size : Int)) new
theorem sized_snoc {l : List TabL.Op} {m : Nat} {o : TabL.Op} (h : l[m]? = some o) : sized (l.take (m + 1)) = (sized (l.take m)).put o.key (o.key.size : Int) := by
  unfold sized; rw [List.take_add_one, h]; simp
theorem sized_rev {l : List TabL.Op} {m : Nat} {o : TabL.Op} (h : l[m]? = some o) : sized (l.drop m).reverse = (sized (l.drop (m + 1)).reverse).put o.key (o.key.size : Int) := by
  obtain ⟨hl, e⟩ := List.getElem?_eq_some_iff.1 h
  unfold sized; rw [List.drop_eq_getElem_cons hl, e]; simp
theorem sized_mem (l : List TabL.Op) : ∀ s : St V, Rising s.L → (∀ p ∈ s.L, p.2 = (p.1.size : Int)) →
    Rising (l.foldl (fun s o => s.put o.key (o.key.size : Int)) s).L ∧ ∀ p, p ∈ (l.foldl (fun s o => s.put o.key (o.key.size : Int)) s).L ↔ (∃ o ∈ l, p = (o.key, (o.key.size : Int))) ∨ p ∈ s.L := by
  induction l with
  | nil => intro s hr _; exact ⟨hr, fun p => by simp⟩
  | cons o l ih =>
    intro s hr hg
    have hm := mem_put hr o.key (o.key.size : Int)
    have := ih (s.put o.key (o.key.size : Int)) (by rw [put_L]; exact rising_put hr _ _) (fun p hp => by
      rw [put_L, hm] at hp
      rcases hp with rfl | ⟨hp, _⟩
      · rfl
      · exact hg p hp)
    refine ⟨this.1, fun p => ?_⟩
    rw [List.foldl_cons, this.2 p, put_L, hm]
    constructor
    · rintro (⟨q, hq, rfl⟩ | rfl | ⟨hp, _⟩)
      · exact .inl ⟨q, by simp [hq], rfl⟩
      · exact .inl ⟨o, by simp, rfl⟩
      · exact .inr hp
    · rintro (⟨q, hq, rfl⟩ | hp)
      · rcases List.mem_cons.1 hq with rfl | hq
        · exact .inr (.inl rfl)
        · exact .inl ⟨q, hq, rfl⟩
      · by_cases e : p.1 = o.key
        · exact .inr (.inl (by obtain ⟨a, b⟩ := p; have := hg _ hp; simp at this e; subst e; rw [this]))
        · exact .inr (.inr ⟨hp, e⟩)
theorem sized_same (l : List TabL.Op) : (sized l.reverse).L = (sized l).L := by
  have h1 := sized_mem l (new : St V) List.Pairwise.nil (fun p hp => by simp [new] at hp)
  have h2 := sized_mem l.reverse (new : St V) List.Pairwise.nil (fun p hp => by simp [new] at hp)
  refine rising_ext h2.1 h1.1 fun p => ?_
  unfold sized
  rw [h1.2, h2.2]
  simp

structure Two (W w : World) (one two : Int) (b1 b2 : Nat) (F1 F2 : Nat → Prop) (m1 m2 : Nat) (s t : St V) : Prop where
  fst : Run W w m1 b1 F1 one s
  snd : Run W w m2 b2 F2 two t
  apart : ∀ k, F1 k → ¬ F2 k
section
variable {W w w' : World} {one two : Int} {b1 b2 : Nat} {F1 F2 F : Nat → Prop} {m1 m2 m : Nat} {s t u : St V}
theorem Two.turn1 (h : Two W w one two b1 b2 F1 F2 m1 m2 s t) (hr : Run W w' m b1 F one u) (ho : Only F1 w w') (hg : Grows w F1 F) : Two W w' one two b1 b2 F F2 m m2 u t :=
  ⟨hr, h.snd.only ho (fun k hk e => h.apart k e hk) h.fst.low, fun k hk e => (hg k hk).elim (fun e1 => h.apart k e1 e) (fun e1 => by have := h.snd.lt k e; omega)⟩
theorem Two.turn2 (h : Two W w one two b1 b2 F1 F2 m1 m2 s t) (hr : Run W w' m b2 F two u) (ho : Only F2 w w') (hg : Grows w F2 F) : Two W w' one two b1 b2 F1 F m1 m s u :=
  ⟨h.fst.only ho (fun k hk e => h.apart k hk e) h.snd.low, hr, fun k hk e => (hg k e).elim (fun e1 => h.apart k hk e1) (fun e1 => by have := h.fst.lt k hk; omega)⟩
theorem Two.step (h : Two W w one two b1 b2 F1 F2 m1 m2 s t) (hb : Below w.heap.size w w') : Two W w' one two b1 b2 F1 F2 m1 m2 s t := ⟨h.fst.step hb, h.snd.step hb, h.apart⟩
theorem put1 (h : Two W w one two b1 b2 F1 F2 m1 m2 s t) (hn : m1 + 1 ≤ 1000000000) (k : ByteArray) (v : V) (hk : k.size ≤ maxLen) : Calls Try.prog 11 #[.pointer (some ⟨b1, 0, none⟩), .string k, (.int .i64 v)] w fun e w' => ∃ F, e = .returned (.tuple #[]) ∧ Hid (Two W w' one two b1 b2 F F2 (m1 + 1) m2 (s.put k v) t) :=
  (put_run h.fst hn k v hk).mono fun _ _ ⟨F', he, hr, ho, hg⟩ => ⟨F', he, Lib.hid (h.turn1 hr ho hg)⟩
theorem put2 (h : Two W w one two b1 b2 F1 F2 m1 m2 s t) (hn : m2 + 1 ≤ 1000000000) (k : ByteArray) (v : V) (hk : k.size ≤ maxLen) : Calls Try.prog 11 #[.pointer (some ⟨b2, 0, none⟩), .string k, (.int .i64 v)] w fun e w' => ∃ F, e = .returned (.tuple #[]) ∧ Hid (Two W w' one two b1 b2 F1 F m1 (m2 + 1) s (t.put k v)) :=
  (put_run h.snd hn k v hk).mono fun _ _ ⟨F', he, hr, ho, hg⟩ => ⟨F', he, Lib.hid (h.turn2 hr ho hg)⟩
end
set_option maxRecDepth 100000 in
set_option maxHeartbeats 4000000 in
theorem walk (W : World) (one two : Int) (x : Option Addr) (n0 c : Nat) (l : List TabL.Op) (n : Int) (hs : 0 ≤ one ∧ one ≤ 18446744073709551615) (hs2 : 0 ≤ two ∧ two ≤ 18446744073709551615) (hl : n0 = l.length ∧ n0 ≤ maxLen ∧ (∀ a ∈ l, OpOk a) ∧ Lies W 3 encO x l) (_ : -9223372036854775808 ≤ n ∧ n ≤ 9223372036854775807) :
    Calls Try.prog 4 #[.int .u64 one, .int .u64 two, .slice x n0 c, .int .i64 n] W fun e W' => e = .returned (.bool true) ∧ Below W.heap.size W W' := by
  obtain ⟨rfl, hml, hok, hlies⟩ := hl
  have HL := Lib.hid (And.intro hlies hok)
  clear hok
  go_enter Try.func4, Try.ntmps4
  go_wp2_with fail
  refine (awake_any W).mono ?_
  rintro e w1 ⟨rfl, hb1⟩
  have hlies1 : Lies w1 3 encO x l := hlies.same hb1
  have hshort := short_any (c := c) hlies1 hml
  clear hlies1 hlies hml
  have HS : Hid (shortB l = true → l.length ≤ 300) := Lib.hid (by unfold shortB; intro h; simp at h; exact h.1)
  generalize shortB l = q at *
  go_wp2_with fail
  refine hshort.mono ?_
  rintro e w2 ⟨rfl, rfl⟩
  go_wp2_with fail
  refine (new_run hb1 one hs.1 (by omega)).mono ?_
  rintro e w2 ⟨b1, F1, rfl, r1, -, -⟩
  have hnew := new_run r1.below two hs2.1 (by omega)
  have HR1 := Lib.hid r1
  clear hshort hb1 r1
  go_wp2_with fail
  refine hnew.mono ?_
  rintro e w3 ⟨b2, F2, rfl, r2, hF2, hb3⟩
  have HR2 := Lib.hid (Two.mk (HR1.out.step hb3) r2 (fun k hk e => by have := HR1.out.lt k hk; have := hF2 k e; omega))
  clear hnew r2 hF2 hb3 HR1
  cases q with
  | false =>
    go_wp2_with fail
    go_ret
    exact ⟨rfl, HR2.out.fst.below⟩
  | true =>
  have hl300 := HS.out rfl
  by_cases hn0 : n < 0
  · go_wp2_with fail
    go_ret
    exact ⟨rfl, HR2.out.fst.below⟩
  have hn0i : 0 ≤ n := by omega
  clear hn0
  by_cases hn1 : 1000 < n
  · go_wp2_with fail
    go_ret
    exact ⟨rfl, HR2.out.fst.below⟩
  have hn1i : n ≤ 1000 := by omega
  clear hn1
  obtain ⟨k, rfl⟩ := Int.eq_ofNat_of_zero_le hn0i
  go_wp2_with fail
  go_loopg [13] l.length (fun g i wr => ∃ (m : Nat) (F : Nat → Prop), i = .int .i64 m ∧ g + m = l.length ∧ Hid (Two W wr one two b1 b2 F F2 m 0 (sized (l.take m)) new))
  case atStart => exact ⟨0, F1, rfl, by omega, HR2⟩
  case round =>
    obtain ⟨m, Fa, rfl, hg, HM⟩ := hrel
    have HG := Lib.hid hg
    clear hg HR2
    by_cases hm : m < l.length
    · obtain ⟨o, hoo⟩ : ∃ o, l[m]? = some o := ⟨_, List.getElem?_eq_getElem hm⟩
      obtain ⟨B, off, rfl, hB, hc⟩ := HL.out.1 m o hoo
      have c1 : wr.cell? ⟨B, off + m * 3 + 1, none⟩ = some (.string o.key) := (World.cell?_of_block (HM.out.fst.below.block B hB)).trans (hc 1 _ rfl)
      have hmi : (m : Int) < l.length := by omega
      have hok := HL.out.2 o (List.mem_of_getElem? hoo)
      have hput := put1 (HM.out.step (Below.drew (Below.refl _ wr))) (by omega) o.key (o.key.size : Int) hok.key
      rw [← sized_snoc hoo] at hput
      clear hc hB hoo hok
      go_wp2_with fail
      refine wp_region_still_tail 12 (by kernel_rfl) (by kernel_rfl) ?_
      simp only [List.take_succ_cons, List.take_zero, List.drop_succ_cons, List.drop_zero]
      repeat still_step
      refine wpStill_nil ?_
      change wpList _ _ _ _ _ wr.drew
      go_wp2_with fail
      refine hput.mono ?_
      rintro e w3 ⟨F3, rfl, HR3⟩
      clear hput c1
      go_wp2_with fail
      go_roundg (l.length - (m + 1))
      case measure => have := HG.out; omega
      case rel => exact ⟨m + 1, F3, by go_num, by have := HG.out; omega, HR3⟩
    · have hml : (l.length : Int) ≤ m := by omega
      have hme : m = l.length := by have := HG.out; omega
      clear HG hml hm
      subst hme
      have hml : (l.length : Int) ≤ l.length := Int.le_refl _
      rw [List.take_length] at HM
      go_wp2_with fail
      go_loopg [14] l.length (fun g i wr => ∃ (z : Int) (F : Nat → Prop), i = .int .i64 z ∧ z + 1 = g ∧ g ≤ l.length ∧ Hid (Two W wr one two b1 b2 Fa F l.length (l.length - g) (sized l) (sized (l.drop g).reverse)))
      case atStart => exact ⟨_, F2, rfl, by omega, Nat.le_refl _, by rw [List.drop_length, Nat.sub_self]; exact HM⟩
      case round =>
        obtain ⟨z, Fb, rfl, hz, hgl, HM2⟩ := hrel
        clear HM
        by_cases hj : 0 ≤ z
        · obtain ⟨p, rfl⟩ := Int.eq_ofNat_of_zero_le hj
          have hgp : gk = p + 1 := by omega
          subst hgp
          clear hz hj
          obtain ⟨o, hoo⟩ : ∃ o, l[p]? = some o := ⟨_, List.getElem?_eq_getElem (by omega)⟩
          obtain ⟨B, off, rfl, hB, hc⟩ := HL.out.1 p o hoo
          have c1 : wr.cell? ⟨B, off + p * 3 + 1, none⟩ = some (.string o.key) := (World.cell?_of_block (HM2.out.fst.below.block B hB)).trans (hc 1 _ rfl)
          have hmi : (p : Int) < l.length := by omega
          have hok := HL.out.2 o (List.mem_of_getElem? hoo)
          have hput := put2 (HM2.out.step (Below.drew (Below.refl _ wr))) (by omega) o.key (o.key.size : Int) hok.key
          rw [← sized_rev hoo] at hput
          clear hc hB hoo hok
          go_wp2_with fail
          refine wp_region_still_tail 12 (by kernel_rfl) (by kernel_rfl) ?_
          simp only [List.take_succ_cons, List.take_zero, List.drop_succ_cons, List.drop_zero]
          repeat still_step
          refine wpStill_nil ?_
          change wpList _ _ _ _ _ wr.drew
          go_wp2_with fail
          refine hput.mono ?_
          rintro e w3 ⟨F3, rfl, HR3⟩
          clear hput c1
          go_wp2_with fail
          go_roundg p
          case measure => omega
          case rel => exact ⟨_, F3, rfl, by omega, by omega, by rw [show l.length - p = l.length - (p + 1) + 1 by omega]; exact HR3⟩
        · have hz0 : gk = 0 := by omega
          subst hz0
          have hzz : z = -1 := by omega
          subst hzz
          clear hz hj hgl
          rw [List.drop_zero] at HM2
          have hse := sized_same l
          have hsl : (sized l).L.length ≤ 300 := by have := HM2.out.fst.sm.len; omega
          obtain ⟨s, hs0⟩ : ∃ s, sized l = s := ⟨_, rfl⟩
          obtain ⟨t, ht0⟩ : ∃ t, sized l.reverse = t := ⟨_, rfl⟩
          rw [hs0] at HM2 hse hsl
          rw [ht0] at HM2 hse
          clear hs0 ht0
          have hall := all' HM2.out.fst 1000
          rw [allN_all (by show _ ≤ 1000; omega)] at hall
          go_wp2_with fail
          refine hall.mono ?_
          rintro e w3 ⟨a1, c1, rfl, hc1, H3⟩
          have H3T := Lib.hid (HM2.out.step H3.out.2.2)
          have hall2 := all' H3T.out.snd (k : Int)
          rw [hse] at hall2
          clear hall HM2
          go_wp2_with fail
          refine hall2.mono ?_
          rintro e w4 ⟨a2, c2, rfl, hc2, H4⟩
          have H4T := Lib.hid (H3T.out.step H4.out.2.2)
          clear hall2 H3T
          have key : ∀ j : Nat, j ≤ s.L.length → s.L.take j = allN s.L k → Calls Try.prog 15 #[.slice a1 j c1, .slice a2 (allN s.L k).length c2] w4 fun e w' => e = .returned (.bool true) ∧ ∃ d, w' = w4.drewN d := fun j hj e =>
            (same_any ((H3.out.1.below H4.out.2.2).take hj) H4.out.1 (by rw [List.length_take]; omega)).mono fun _ _ ⟨he, hd⟩ => ⟨by rw [he, e]; simp, hd⟩
          have HK := Lib.hid key
          clear key
          have hll : ((s.L.length : Int) == s.L.length) = true := by simp
          have htl : t.L.length = s.L.length := by rw [hse]
          by_cases hk : s.L.length < k
          · have hki : (s.L.length : Int) < k := by omega
            have hsame := HK.out s.L.length (Nat.le_refl _) (by unfold allN; rw [List.take_of_length_le (Nat.le_refl _), List.take_of_length_le (by omega)])
            clear HK hk
            generalize (allN s.L ↑k).length = al at *
            go_wp2_with fail
            refine hsame.mono ?_
            rintro e w5 ⟨rfl, d, rfl⟩
            have h1 := len_any (H4T.out.fst.at_.below (Mem.dn (Below.refl _ w4) d))
            have h2 := len_any (H4T.out.snd.at_.below (Mem.dn (Below.refl _ w4) d))
            rw [htl] at h2
            clear hsame hse htl
            go_wp2_with (first | (go_at_call 16; refine h1.mono ?_; rintro e w' ⟨rfl, rfl⟩) | (go_at_call 16; refine h2.mono ?_; rintro e w' ⟨rfl, rfl⟩) | fail)
            go_ret
            exact ⟨rfl, Mem.dn H4T.out.fst.below d⟩
          · have hki : (k : Int) ≤ s.L.length := by omega
            have hkc : k ≤ c1 := by omega
            have hsame := HK.out k (by omega) (by unfold allN; rfl)
            clear HK hk
            generalize (allN s.L ↑k).length = al at *
            go_wp2_with fail
            refine hsame.mono ?_
            rintro e w5 ⟨rfl, d, rfl⟩
            have h1 := len_any (H4T.out.fst.at_.below (Mem.dn (Below.refl _ w4) d))
            have h2 := len_any (H4T.out.snd.at_.below (Mem.dn (Below.refl _ w4) d))
            rw [htl] at h2
            clear hsame hse htl
            go_wp2_with (first | (go_at_call 16; refine h1.mono ?_; rintro e w' ⟨rfl, rfl⟩) | (go_at_call 16; refine h2.mono ?_; rintro e w' ⟨rfl, rfl⟩) | fail)
            go_ret
            exact ⟨rfl, Mem.dn H4T.out.fst.below d⟩
end Go.Proofs.Ytekcogoijlbmnaa.TableSeeds
