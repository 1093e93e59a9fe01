/- TableGrows answers true for every seed and numbers. Conditions: the numbers are of their kinds. -/
import Derived.Test.YtekcogoijlbmnaaTabL5
import Derived.StillTailTactics
import Derived.Deep.RegionHeld3
namespace Go.Proofs.Ytekcogoijlbmnaa.TableGrows
open Go Go.RowKit Go.Proofs.Ytekcogoijlbmnaa.Mem Go.Proofs.Ytekcogoijlbmnaa.Ops Go.Proofs.Ytekcogoijlbmnaa.Tab Go.Proofs.Ytekcogoijlbmnaa.TabI Go.Proofs.Ytekcogoijlbmnaa.TabL

theorem numB_inj {a b : Nat} (ha : a < 10000) (hb : b < 10000) (h : numB a = numB b) : a = b := by
  unfold numB at h
  injection h with h
  have h := congrArg Array.toList h
  simp only [List.cons.injEq, and_true] at h
  have h1 := congrArg UInt8.toNat h.1
  have h2 := congrArg UInt8.toNat h.2
  replace h1 : (a / 100 % 100) % 256 = (b / 100 % 100) % 256 := h1
  replace h2 : (a % 100) % 256 = (b % 100) % 256 := h2
  omega
/-- The i-th text, and what it has. -/
def ks (step i : Nat) : Nat := i * step % 1511
theorem ks_lt (step i : Nat) : ks step i < 1511 := Nat.mod_lt _ (by omega)
def pr (step i : Nat) : ByteArray × Int := (numB (ks step i), (ks step i : Int))
theorem pr_of {step i j : Nat} (h : (pr step i).1 = (pr step j).1) : pr step i = pr step j := by
  have := numB_inj (by have := ks_lt step i; omega) (by have := ks_lt step j; omega) h
  unfold pr; rw [this]
def Has (step m : Nat) (L : Pairs V) : Prop := ∀ p, p ∈ L ↔ ∃ i < m, p = pr step i
theorem has_nil (step : Nat) : Has step 0 (new : St V).L := fun p => by simp [new]
theorem has_put {step m : Nat} {L : Pairs V} (hr : Rising L) (h : Has step m L) : Has step (m + 1) (put L (numB (ks step m)) (ks step m : Int)) := fun p => by
  rw [mem_put hr, h]
  constructor
  · rintro (rfl | ⟨⟨i, hi, rfl⟩, _⟩)
    · exact ⟨m, by omega, rfl⟩
    · exact ⟨i, by omega, rfl⟩
  · rintro ⟨i, hi, rfl⟩
    by_cases e : (pr step i).1 = (pr step m).1
    · exact .inl (pr_of e)
    · exact .inr ⟨⟨i, by have : i ≠ m := (fun h => e (by rw [h])); omega, rfl⟩, e⟩
theorem has_get {step n m : Nat} {L : Pairs V} (hr : Rising L) (h : Has step n L) (hm : m < n) : gv L (numB (ks step m)) = (ks step m : Int) ∧ gb L (numB (ks step m)) = true := by
  have : Tab.get L (numB (ks step m)) = some (ks step m : Int) := (get_mem hr.nodup).2 ((h _).2 ⟨m, hm, rfl⟩)
  unfold gv gb; rw [this]; exact ⟨rfl, rfl⟩
/-- Behind m deletions. -/
def Left (step keep n m : Nat) (L : Pairs V) : Prop := ∀ p, p ∈ L ↔ ∃ i < n, p = pr step i ∧ ¬ ∃ j < m, p = pr step j ∧ ks step j % keep ≠ 0
theorem left_zero {step keep n : Nat} {L : Pairs V} (h : Has step n L) : Left step keep n 0 L := fun p => by rw [h]; simp
theorem left_skip {step keep n m : Nat} {L : Pairs V} (h : Left step keep n m L) (hk : ks step m % keep = 0) : Left step keep n (m + 1) L := fun p => by
  rw [h]
  constructor
  · rintro ⟨i, hi, rfl, hn⟩
    refine ⟨i, hi, rfl, ?_⟩
    rintro ⟨j, hj, e, hne⟩
    by_cases ej : j = m
    · subst ej; exact hne hk
    · exact hn ⟨j, by omega, e, hne⟩
  · rintro ⟨i, hi, rfl, hn⟩
    exact ⟨i, hi, rfl, fun ⟨j, hj, e, hne⟩ => hn ⟨j, by omega, e, hne⟩⟩
theorem left_del {step keep n m : Nat} {L : Pairs V} (h : Left step keep n m L) (hk : ks step m % keep ≠ 0) : Left step keep n (m + 1) (del L (numB (ks step m))) := fun p => by
  rw [mem_del, h]
  constructor
  · rintro ⟨⟨i, hi, rfl, hn⟩, hne⟩
    refine ⟨i, hi, rfl, ?_⟩
    rintro ⟨j, hj, e, hne2⟩
    by_cases ej : j = m
    · subst ej; exact hne (by rw [e]; rfl)
    · exact hn ⟨j, by omega, e, hne2⟩
  · rintro ⟨i, hi, rfl, hn⟩
    refine ⟨⟨i, hi, rfl, fun ⟨j, hj, e, hne⟩ => hn ⟨j, by omega, e, hne⟩⟩, fun e => ?_⟩
    have := pr_of (step := step) (i := i) (j := m) e
    exact hn ⟨m, by omega, this, hk⟩
theorem left_all {step keep n : Nat} {L : Pairs V} (h : Left step keep n n L) {p : ByteArray × V} (hp : p ∈ L) : ∃ v : Nat, p.2 = (v : Int) ∧ v < 1511 ∧ v % keep = 0 := by
  obtain ⟨i, hi, rfl, hn⟩ := (h p).1 hp
  refine ⟨ks step i, rfl, ks_lt step i, Classical.byContradiction fun e => hn ⟨i, hi, rfl, e⟩⟩
theorem del_gb {L : Pairs V} (hr : Rising L) (k : ByteArray) : ((del L k).length : Int) = if gb L k = true then (L.length : Int) - 1 else L.length := by
  by_cases h : gb L k = true
  · rw [if_pos h]
    have := del_len hr (get_isSome.1 h)
    omega
  · rw [if_neg h]
    have hk : k ∉ L.map (·.1) := fun e => h (get_isSome.2 e)
    have : del L k = L := List.filter_eq_self.2 fun p hp => by
      have : p.1 ≠ k := fun e => hk (e ▸ List.mem_map_of_mem hp)
      simpa using this
    rw [this]
theorem rise_at {L : Pairs V} (h : Rising L) {i : Nat} {p q : ByteArray × V} (hp : L[i]? = some p) (hq : L[i + 1]? = some q) : ltK p.1 q.1 = true := by
  obtain ⟨h1, rfl⟩ := List.getElem?_eq_some_iff.1 hp
  obtain ⟨h2, rfl⟩ := List.getElem?_eq_some_iff.1 hq
  exact List.pairwise_iff_getElem.1 h i (i + 1) h1 h2 (by omega)

set_option maxRecDepth 100000 in
set_option maxHeartbeats 4000000 in
theorem walk (W : World) (seed n step keep : Int) (hs : 0 ≤ seed ∧ seed ≤ 18446744073709551615) (_ : -9223372036854775808 ≤ n ∧ n ≤ 9223372036854775807) (_ : -9223372036854775808 ≤ step ∧ step ≤ 9223372036854775807) (_ : -9223372036854775808 ≤ keep ∧ keep ≤ 9223372036854775807) :
    Calls Try.prog 7 #[.int .u64 seed, .int .i64 n, .int .i64 step, .int .i64 keep] W fun e W' => e = .returned (.bool true) ∧ Below W.heap.size W W' := by
  go_enter Try.func7, Try.ntmps7
  go_wp2_with fail
  refine (awake_any W).mono ?_
  rintro e w1 ⟨rfl, hb1⟩
  go_wp2_with fail
  refine (new_run hb1 seed hs.1 (by omega)).mono ?_
  rintro e w2 ⟨b, F, rfl, r2, -, -⟩
  have HR2 := Lib.hid r2
  clear r2 hb1
  by_cases h1 : n < 1
  · go_wp2_with fail
    go_ret
    exact ⟨rfl, HR2.out.below⟩
  by_cases h2 : 1500 < n
  · have h1 : 1 ≤ n := by omega
    go_wp2_with fail
    go_ret
    exact ⟨rfl, HR2.out.below⟩
  replace h1 : 1 ≤ n := by omega
  replace h2 : n ≤ 1500 := by omega
  by_cases h3 : step < 1
  · go_wp2_with fail
    go_ret
    exact ⟨rfl, HR2.out.below⟩
  by_cases h4 : 1500 < step
  · have h3 : 1 ≤ step := by omega
    go_wp2_with fail
    go_ret
    exact ⟨rfl, HR2.out.below⟩
  replace h3 : 1 ≤ step := by omega
  replace h4 : step ≤ 1500 := by omega
  by_cases h5 : keep < 1
  · go_wp2_with fail
    go_ret
    exact ⟨rfl, HR2.out.below⟩
  by_cases h6 : 100 < keep
  · have h5 : 1 ≤ keep := by omega
    go_wp2_with fail
    go_ret
    exact ⟨rfl, HR2.out.below⟩
  replace h5 : 1 ≤ keep := by omega
  replace h6 : keep ≤ 100 := by omega
  obtain ⟨n, rfl⟩ := Int.eq_ofNat_of_zero_le (show 0 ≤ n by omega)
  obtain ⟨step, rfl⟩ := Int.eq_ofNat_of_zero_le (show 0 ≤ step by omega)
  obtain ⟨keep, rfl⟩ := Int.eq_ofNat_of_zero_le (show 0 ≤ keep by omega)
  go_wp2_with fail
  go_loopg [11] n (fun g i wr => ∃ (m : Nat) (F : Nat → Prop) (s : St V), i = .int .i64 m ∧ g + m = n ∧ Hid (Run W wr m b F seed s ∧ Has step m s.L))
  case atStart => exact ⟨0, F, _, rfl, by omega, Lib.hid ⟨HR2.out, has_nil step⟩⟩
  case round =>
    obtain ⟨m, F1, s, rfl, hg, HM⟩ := hrel
    have HG := Lib.hid hg
    clear hg HR2
    by_cases hm : m < n
    · have hmi : (m : Int) < n := by omega
      have hms : m * step ≤ 2250000 := Nat.le_trans (Nat.mul_le_mul (show m ≤ 1500 by omega) (show step ≤ 1500 by omega)) (by omega)
      have hmz : (m : Int) * step ≤ 2250000 := by rw [← Int.natCast_mul]; exact Int.ofNat_le.2 hms
      have hmz0 : 0 ≤ (m : Int) * step := Int.mul_nonneg (Int.natCast_nonneg _) (Int.natCast_nonneg _)
      have hkd : (m : Int) * step % 1511 = (ks step m : Nat) := by show _ = ((m * step % 1511 : Nat) : Int); rw [Int.natCast_emod, Int.natCast_mul]; rfl
      have hkl := ks_lt step m
      have hnum := numbered_any (ks step m) (by omega) wr
      have hput : ∀ w2, Below wr.heap.size wr w2 → Calls Try.prog 11 #[.pointer (some ⟨b, 0, none⟩), .string (numB (ks step m)), .int .i64 (ks step m : Nat)] w2 fun e w' => ∃ (F' : Nat → Prop) (t : St V), e = .returned (.tuple #[]) ∧ Hid (Run W w' (m + 1) b F' seed t ∧ Has step (m + 1) t.L) := fun w2 hb =>
        (put' (HM.out.1.step hb) (by omega) (numB (ks step m)) (ks step m : Nat) (num_size _)).mono fun _ _ ⟨F', he, hr⟩ => ⟨F', _, he, Lib.hid ⟨hr.out, by rw [put_L]; exact has_put HM.out.1.at_.rise HM.out.2⟩⟩
      have HP := Lib.hid hput
      clear hput hms
      generalize ks step m = q at *
      go_wp2_with fail
      refine hnum.mono ?_
      rintro e w3 ⟨rfl, hb3⟩
      have hput := HP.out w3 hb3
      clear hnum hb3 HP
      generalize numB q = kk at *
      go_wp2_with fail
      refine hput.mono ?_
      rintro e w4 ⟨F4, t, rfl, HR4⟩
      clear hput
      go_wp2_with fail
      go_roundg (n - (m + 1))
      case measure => have := HG.out; omega
      case rel => exact ⟨m + 1, F4, t, by go_num, by have := HG.out; omega, HR4⟩
    · have hml : (n : Int) ≤ m := by omega
      have hme : m = n := by have := HG.out; omega
      clear HG hml hm
      subst hme
      have hml : (m : Int) ≤ m := Int.le_refl _
      have hlen := len_any HM.out.1.at_
      go_wp2_with (first | (go_at_call 16; refine hlen.mono ?_; rintro e w' ⟨rfl, rfl⟩) | fail)
      clear hlen
      obtain ⟨L, hL⟩ : ∃ L, s.L = L := ⟨_, rfl⟩
      have HL := Lib.hid (And.intro HM.out.1.at_.rise (And.intro HM.out.2 HM.out.1.sm.len))
      have HM2 : Hid (Run W wr m b F1 seed s ∧ s.L = L) := Lib.hid ⟨HM.out.1, hL⟩
      rw [hL] at HL ⊢
      clear HM hL
      go_loopg [14] m (fun g i wr => ∃ (j : Nat) (F : Nat → Prop) (t : St V), i = .int .i64 j ∧ g + j = m ∧ Hid (Run W wr m b F seed t ∧ t.L = L))
      case atStart => exact ⟨0, F1, _, rfl, by omega, HM2⟩
      case round =>
        obtain ⟨j, F2, t, rfl, hg, HT⟩ := hrel
        have HG := Lib.hid hg
        clear hg HM2
        by_cases hj : j < m
        · have hji : (j : Int) < m := by omega
          have hms : j * step ≤ 2250000 := Nat.le_trans (Nat.mul_le_mul (show j ≤ 1500 by omega) (show step ≤ 1500 by omega)) (by omega)
          have hmz : (j : Int) * step ≤ 2250000 := by rw [← Int.natCast_mul]; exact Int.ofNat_le.2 hms
          have hmz0 : 0 ≤ (j : Int) * step := Int.mul_nonneg (Int.natCast_nonneg _) (Int.natCast_nonneg _)
          have hkd : (j : Int) * step % 1511 = (ks step j : Nat) := by show _ = ((j * step % 1511 : Nat) : Int); rw [Int.natCast_emod, Int.natCast_mul]; rfl
          have hkl := ks_lt step j
          have hnum := numbered_any (ks step j) (by omega) wr
          have hget : ∀ w2, Below wr.heap.size wr w2 → Calls Try.prog 12 #[.pointer (some ⟨b, 0, none⟩), .string (numB (ks step j))] w2 fun e w' => ∃ (F' : Nat → Prop) (t : St V), e = .returned (.tuple #[.int .i64 (ks step j : Nat), .bool true]) ∧ Hid (Run W w' m b F' seed t ∧ t.L = L) := fun w2 hb =>
            (get' (HT.out.1.step hb) (numB (ks step j)) (num_size _)).mono fun _ _ ⟨F', he, hr⟩ => ⟨F', _, by rw [he, HT.out.2, (has_get HL.out.1 HL.out.2.1 hj).1, (has_get HL.out.1 HL.out.2.1 hj).2], Lib.hid ⟨hr.out, by rw [tick_L]; exact HT.out.2⟩⟩
          have HP := Lib.hid hget
          clear hget hms
          generalize ks step j = q at *
          go_wp2_with fail
          refine hnum.mono ?_
          rintro e w3 ⟨rfl, hb3⟩
          have hget := HP.out w3 hb3
          clear hnum hb3 HP
          generalize numB q = kk at *
          go_wp2_with fail
          refine hget.mono ?_
          rintro e w4 ⟨F4, t, rfl, HR4⟩
          have hqq : ((q : Int) != q) = false := by simp
          clear hget
          go_wp2_with fail
          go_roundg (m - (j + 1))
          case measure => have := HG.out; omega
          case rel => exact ⟨j + 1, F4, t, by go_num, by have := HG.out; omega, HR4⟩
        · have hjl : (m : Int) ≤ j := by omega
          have hje : j = m := by have := HG.out; omega
          clear HG hjl hj
          subst hje
          have hjl : (j : Int) ≤ j := Int.le_refl _
          have HT2 : Hid (Run W wr j b F2 seed t ∧ Left step keep j 0 t.L) := Lib.hid ⟨HT.out.1, by rw [HT.out.2]; exact left_zero HL.out.2.1⟩
          have hll : L.length = t.L.length := by rw [HT.out.2]
          clear HT
          obtain ⟨mm, hmm⟩ : ∃ mm, L.length = mm := ⟨_, rfl⟩
          have hml2 : t.L.length ≤ j := HT2.out.1.sm.len
          rw [hmm] at hll ⊢
          have hmr : Hid (mm = t.L.length) := Lib.hid hll
          have hm15 : mm ≤ 1500 := by omega
          clear hmm HL hll hml2
          go_wp2_with fail
          go_loopg [18, 13] j (fun g i y wr => ∃ (p : Nat) (F : Nat → Prop) (u : St V) (z : Int), i = .int .i64 p ∧ y = .int .i64 z ∧ (0 ≤ z ∧ z ≤ 1500) ∧ g + p = j ∧ Hid (Run W wr j b F seed u ∧ Left step keep j p u.L ∧ z = u.L.length))
          case atStart => exact ⟨0, F2, _, _, rfl, rfl, by omega, by omega, Lib.hid ⟨HT2.out.1, HT2.out.2, by have := hmr.out; omega⟩⟩
          case round =>
            obtain ⟨p, F3, u, z, rfl, rfl, hz, hg, HU⟩ := hrel
            have HG := Lib.hid hg
            clear hg HT2
            by_cases hp : p < j
            · have hpi : (p : Int) < j := by omega
              have hms : p * step ≤ 2250000 := Nat.le_trans (Nat.mul_le_mul (show p ≤ 1500 by omega) (show step ≤ 1500 by omega)) (by omega)
              have hmz : (p : Int) * step ≤ 2250000 := by rw [← Int.natCast_mul]; exact Int.ofNat_le.2 hms
              have hmz0 : 0 ≤ (p : Int) * step := Int.mul_nonneg (Int.natCast_nonneg _) (Int.natCast_nonneg _)
              have hkd : (p : Int) * step % 1511 = (ks step p : Nat) := by show _ = ((p * step % 1511 : Nat) : Int); rw [Int.natCast_emod, Int.natCast_mul]; rfl
              have hkl := ks_lt step p
              have hnum := numbered_any (ks step p) (by omega) wr
              by_cases hk : ks step p % keep = 0
              · have hk0 : (ks step p : Int) % keep = 0 := by rw [← Int.natCast_emod, hk]; rfl
                have HR := Lib.hid (And.intro HU.out.1 (And.intro (left_skip HU.out.2.1 hk) HU.out.2.2))
                clear HU hms hk hnum
                generalize ks step p = q at *
                go_wp2_with fail
                go_roundg (j - (p + 1))
                case measure => have := HG.out; omega
                case rel => exact ⟨p + 1, F3, u, z, by go_num, rfl, hz, by have := HG.out; omega, HR⟩
              · have hk0 : ((ks step p : Int) % keep != 0) = true := by
                  have : (ks step p : Int) % keep ≠ 0 := by rw [← Int.natCast_emod]; exact fun e => hk (Int.ofNat_eq_zero.1 e)
                  simpa using this
                have hdel : ∀ w2, Below wr.heap.size wr w2 → Calls Try.prog 13 #[.pointer (some ⟨b, 0, none⟩), .string (numB (ks step p))] w2 fun e w' => ∃ (F' : Nat → Prop) (t : St V) (g : Bool), e = .returned (.bool g) ∧ Hid (Run W w' j b F' seed t ∧ Left step keep j (p + 1) t.L ∧ (if g = true then z - 1 else z) = t.L.length) := fun w2 hb =>
                  (del' (HU.out.1.step hb) (numB (ks step p)) (num_size _)).mono fun _ _ ⟨F', he, hr⟩ => ⟨F', _, _, he, Lib.hid ⟨hr.out, by rw [del_L]; exact left_del HU.out.2.1 hk, by rw [del_L, del_gb HU.out.1.at_.rise, HU.out.2.2]⟩⟩
                have HP := Lib.hid hdel
                clear hdel hms hk
                generalize ks step p = q at *
                go_wp2_with fail
                refine hnum.mono ?_
                rintro e w3 ⟨rfl, hb3⟩
                have hdel := HP.out w3 hb3
                clear hnum hb3 HP
                generalize numB q = kk at *
                go_wp2_with fail
                refine hdel.mono ?_
                rintro e w4 ⟨F4, t4, gg, rfl, HR4⟩
                clear hdel
                cases gg with
                | true =>
                  have HR5 : Hid (Run W w4 j b F4 seed t4 ∧ Left step keep j (p + 1) t4.L ∧ z - 1 = t4.L.length) := HR4
                  have hzz : 1 ≤ z := by have := HR5.out.2.2; omega
                  clear HR4
                  go_wp2_with fail
                  go_roundg (j - (p + 1))
                  case measure => have := HG.out; omega
                  case rel => exact ⟨p + 1, F4, t4, _, by go_num, rfl, by omega, by have := HG.out; omega, HR5⟩
                | false =>
                  have HR5 : Hid (Run W w4 j b F4 seed t4 ∧ Left step keep j (p + 1) t4.L ∧ z = t4.L.length) := HR4
                  clear HR4
                  go_wp2_with fail
                  go_roundg (j - (p + 1))
                  case measure => have := HG.out; omega
                  case rel => exact ⟨p + 1, F4, t4, z, by go_num, rfl, hz, by have := HG.out; omega, HR5⟩
            · have hpl : (j : Int) ≤ p := by omega
              have hpe : p = j := by have := HG.out; omega
              clear HG hpl hp
              subst hpe
              have hpl : (p : Int) ≤ p := Int.le_refl _
              have hul : u.L.length ≤ 1500 := by have := HU.out.1.sm.len; omega
              obtain ⟨L2, hL2⟩ : ∃ L2, u.L = L2 := ⟨_, rfl⟩
              have hall := all' HU.out.1 3000
              rw [allN_all (by show _ ≤ 3000; omega)] at hall
              have hle := HU.out.1.sm.len
              rw [hL2] at hall hul hle
              have HX := Lib.hid (And.intro HU.out.1.at_.rise HU.out.2.1)
              have hzl : z = L2.length := by rw [← hL2]; exact HU.out.2.2
              rw [hL2] at HX
              have HX2 := Lib.hid hL2
              subst hzl
              clear HU hL2 hz
              go_wp2_with fail
              refine hall.mono ?_
              rintro e w5 ⟨a1, c1, rfl, hc1, H5⟩
              clear hall
              go_wp2_with fail
              clear hpl
              have hll : ((L2.length : Int) == L2.length) = true := by simp
              have hle2 : (L2.length : Int) ≤ p := by omega
              go_loopg [21] L2.length (fun g i wr => ∃ (m : Nat), i = .int .i64 m ∧ g + m = L2.length ∧ ∃ d, wr = w5.drewN d)
              case atStart => exact ⟨0, rfl, by omega, 0, rfl⟩
              case round =>
                obtain ⟨m, rfl, hg, d, rfl⟩ := hrel
                have HG := Lib.hid hg
                clear hg
                by_cases hm : m < L2.length
                · obtain ⟨⟨k1, v1⟩, hk1⟩ : ∃ q, L2[m]? = some q := ⟨_, List.getElem?_eq_getElem hm⟩
                  obtain ⟨a', c', e, -, hr⟩ := H5.out.1
                  injection e with e1 e2 e3
                  subst e1
                  obtain ⟨g, rfl, -, cc1, cc2⟩ := hr m _ hk1
                  obtain ⟨v, hv, hv2, hv3⟩ := left_all HX.out.2 (List.mem_of_getElem? hk1)
                  simp only at hv
                  subst hv
                  have hmi : (m : Int) < L2.length := by omega
                  have hvk : (v : Int) % keep = 0 := by rw [← Int.natCast_emod, hv3]; rfl
                  by_cases hm0 : m = 0
                  · have hmp : (m : Int) ≤ 0 := by omega
                    have hmn : decide (0 < m) = false := decide_eq_false (by omega)
                    have hmn2 : decide ((0 : Int) < m) = false := decide_eq_false (by omega)
                    clear hr hk1 hv3 e2 e3 hm0
                    go_wp2_with fail
                    go_quiet (fail)
                    go_wp2_with fail
                    go_roundg (L2.length - (m + 1))
                    case measure => have := HG.out; omega
                    case rel => exact ⟨m + 1, by go_num, by have := HG.out; omega, _, rfl⟩
                  · obtain ⟨m2, hm2⟩ : ∃ m2, m = m2 + 1 := ⟨m - 1, by omega⟩
                    obtain ⟨⟨k0, v0⟩, hk0⟩ : ∃ q, L2[m2]? = some q := ⟨_, List.getElem?_eq_getElem (by omega)⟩
                    obtain ⟨g', eg, -, cc0, -⟩ := hr m2 _ hk0
                    have hgg : g = g' := by injection eg with eg; injection eg
                    subst hgg
                    have hlt : ltK k0 k1 = true := rise_at HX.out.1 hk0 (by rw [← hm2]; exact hk1)
                    have hge : (!Op.bytesLess k0.toList k1.toList) = false := by rw [toList_data, toList_data]; unfold ltK at hlt; rw [hlt]; rfl
                    have hmp : (0 : Int) < m := by omega
                    have hmn : decide (0 < m) = true := decide_eq_true (by omega)
                    have hmn2 : decide ((0 : Int) < m) = true := decide_eq_true (by omega)
                    have hms : (m : Int) - 1 = (m2 : Nat) := by omega
                    have hm2i : (m2 : Int) < L2.length := by omega
                    clear hr hk1 hk0 hv3 e2 e3 eg hm0 hm2
                    go_wp2_with fail
                    go_quiet (fail)
                    go_wp2_with fail
                    go_roundg (L2.length - (m + 1))
                    case measure => have := HG.out; omega
                    case rel => exact ⟨m + 1, by go_num, by have := HG.out; omega, _, rfl⟩
                · have hml3 : (L2.length : Int) ≤ m := by omega
                  have hlen : Calls Try.prog 16 #[.pointer (some ⟨b, 0, none⟩)] (w5.drewN d) fun e w' => e = .returned (.int .i64 L2.length) ∧ (w5.drewN d) = w' := by
                    rw [← HX2.out]; exact len_any (H5.out.2.1.at_.below (Mem.dn (Below.refl _ w5) d))
                  go_wp2_with (first | (go_at_call 16; refine hlen.mono ?_; rintro e w' ⟨rfl, rfl⟩) | fail)
                  go_ret
                  exact ⟨rfl, Mem.dn H5.out.2.1.below d⟩
end Go.Proofs.Ytekcogoijlbmnaa.TableGrows
