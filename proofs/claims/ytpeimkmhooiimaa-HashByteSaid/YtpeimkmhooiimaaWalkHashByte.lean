/- The walk of the law HashByte: for all arguments of its types the call returns true, and nothing that was in memory before is changed. Conditions: none beside the types' own bounds. -/
import Derived.Test.YtpeimkmhooiimaaHashAwake
import Derived.Laws.BytesArg
import Derived.Lib.ConvBytes
import Derived.BigQuiet
import Derived.Deep.QuietTactic
import Derived.Deep.RegionWith
namespace Go.Proofs.Ytpeimkmhooiimaa.HashByte
open Go.RowKit
set_option maxHeartbeats 1000000 in
theorem early (a n c : Int) (s : ByteArray) (ha : 0 ≤ a ∧ a ≤ 18446744073709551615) (hs : s.size ≤ maxLen) (hn : -9223372036854775808 ≤ n ∧ n ≤ 9223372036854775807) (hc : 0 ≤ c ∧ c ≤ 255) (w : World)
    (h : 1000 < s.size ∨ n < 0 ∨ s.size ≤ n ∨ (∃ k : Nat, ∃ h : k < s.size, n = k ∧ c = s[k].toNat)) :
    Calls Try.prog 5 #[.int .u64 a, .string s, .int .i64 n, .int .u8 c] w fun e w' => e = .returned (.bool true) ∧ Below w.heap.size w w' := by
  obtain ⟨a0, a1⟩ := ha
  obtain ⟨n0, n1⟩ := hn
  obtain ⟨c0, c1⟩ := hc
  unfold maxLen at hs
  by_cases h1 : 1000 < s.size
  · go_enter Try.func5, Try.ntmps5
    go_wp2_with (first
      | (go_at_call 10; refine (Hash.awake_any _).mono ?_; rintro e w' ⟨rfl, rfl⟩))
    go_ret
    exact ⟨rfl, Below.refl _ _⟩
  · by_cases h2 : n < 0
    · go_enter Try.func5, Try.ntmps5
      go_wp2_with (first
        | (go_at_call 10; refine (Hash.awake_any _).mono ?_; rintro e w' ⟨rfl, rfl⟩))
      go_ret
      exact ⟨rfl, Below.refl _ _⟩
    · obtain ⟨k, rfl⟩ := Int.eq_ofNat_of_zero_le (by omega : 0 ≤ n)
      by_cases h3 : s.size ≤ k
      · go_enter Try.func5, Try.ntmps5
        go_wp2_with (first
          | (go_at_call 10; refine (Hash.awake_any _).mono ?_; rintro e w' ⟨rfl, rfl⟩))
        go_ret
        exact ⟨rfl, Below.refl _ _⟩
      · have h4 : k < s.size := by omega
        obtain rfl : c = s[k].toNat := by
          rcases h with h | h | h | ⟨k', hk, e, h⟩
          · omega
          · omega
          · omega
          · obtain rfl : k' = k := by omega
            exact h
        clear h
        go_enter Try.func5, Try.ntmps5
        go_wp2_with (first
          | (go_at_call 10; refine (Hash.awake_any _).mono ?_; rintro e w' ⟨rfl, rfl⟩))
        go_ret
        exact ⟨rfl, Below.refl _ _⟩

/-- The text with one byte turned. -/
def turned (s : ByteArray) (k : Nat) (c : Int) : ByteArray := strOfNums ((s.data.toList.map fun x => (x.toNat : Int)).set k c)

theorem strOf_self (l : List UInt8) : (l.map fun x => (x.toNat : Int)).map (fun n => UInt8.ofNat n.toNat) = l := by
  induction l with
  | nil => rfl
  | cons x l ih => simp only [List.map_cons, ih]; simp

theorem turned_data (s : ByteArray) (k : Nat) (c : Int) : (turned s k c).data.toList = s.data.toList.set k (UInt8.ofNat c.toNat) := by
  unfold turned; rw [strOfNums_data, List.map_set, strOf_self]

theorem turned_len (s : ByteArray) (k : Nat) (c : Int) : ((s.data.toList.map fun x => (x.toNat : Int)).set k c).length = s.size := by simp
theorem turned_size (s : ByteArray) (k : Nat) (c : Int) : (turned s k c).size = s.size := by
  unfold turned; rw [strOfNums_size, turned_len]

theorem parted (a : Int) (s : ByteArray) (k : Nat) (c : Int) (hk : k < s.size) (ha : 0 ≤ a) (ha' : a < 18446744073709551616) (hc : 0 ≤ c) (hc' : c ≤ 255) (hne : c ≠ s[k].toNat) :
    Hash.ofI a s.data.toList ≠ Hash.ofI a (turned s k c).data.toList := by
  intro h
  rw [turned_data] at h
  have hl : k < s.data.toList.length := by simpa using hk
  have e1 : s.data.toList = s.data.toList.take k ++ s.data.toList[k] :: s.data.toList.drop (k + 1) := by
    rw [List.getElem_cons_drop, List.take_append_drop]
  rw [List.set_eq_take_append_cons_drop, if_pos hl] at h
  conv at h => lhs; rw [e1]
  have := Hash.ofI_byte _ _ _ _ ha ha' h
  apply hne
  have e2 : s[k] = UInt8.ofNat c.toNat := this
  rw [e2, UInt8.toNat_ofNat']
  omega

set_option maxRecDepth 100000 in
set_option maxHeartbeats 1000000 in
theorem late (a c : Int) (k : Nat) (s : ByteArray) (ha : 0 ≤ a ∧ a ≤ 18446744073709551615) (hs : s.size ≤ 1000) (hc : 0 ≤ c ∧ c ≤ 255) (w : World) (hk : k < s.size) (hne : c ≠ s[k].toNat) :
    Calls Try.prog 5 #[.int .u64 a, .string s, .int .i64 k, .int .u8 c] w fun e w' => e = .returned (.bool true) ∧ Below w.heap.size w w' := by
  have hs' : s.size ≤ 2 ^ 63 - 1 := by omega
  have d1 : ¬ 1000 < s.size := by omega
  have d0 : ¬ (k : Int) < 0 := by omega
  have d2 : ¬ (s.size ≤ k) := by omega
  obtain ⟨a0, a1⟩ := ha
  obtain ⟨c0, c1⟩ := hc
  obtain ⟨x, hx, hix⟩ : ∃ x : Int, x ≠ c ∧ ∀ W : World, (Instr.index 9 (.string s) (.int .i64 (k : Int))).run Try.prog W = .ok (.int .u8 x) W :=
    ⟨s[k].toNat, fun h => hne h.symm, fun W => by rw [run_index_string W _ _ _ _ Try.underlying9, dif_pos ⟨by omega, by omega⟩]; rfl⟩
  have hb : (x == c) = false := beq_eq_false_iff_ne.2 hx
  clear hx
  have hcv := Lib.run_convert_string_bytes (P := Try.prog) w 9 29 5 s Try.underlying9 Try.underlying29 Try.underlying5
  have h0 : ∀ j, j < s.size → (Lib.bytesWorld w 5 s).cell? ⟨w.heap.size, j, none⟩ = some (.int .u8 (s.data.toList.getD j 0).toNat) := fun j hj => Lib.bytesWorld_cell w 5 s j hj
  have hfz : ∀ j, j < s.size → (Lib.bytesWorld w 5 s).frozen? ⟨w.heap.size, j, none⟩ = false := fun j hj => by
    have h1 := Lib.bytesWorld_at_new w 5 s
    have h2 : (Lib.bytesCells w 5 s).size = s.size + (grownCap w s.size 0 5 - s.size) := by simp [Lib.bytesCells]
    unfold World.frozen?
    rw [h1]
    simp only [h2]
    simp
    omega
  have hz := Lib.bytesWorld_size w 5 s
  have hB : Below w.heap.size w (Lib.bytesWorld w 5 s) := ⟨rfl, rfl, rfl, by omega, fun j hj => Lib.bytesWorld_at_old w 5 s j hj⟩
  generalize Lib.bytesWorld w 5 s = W at *
  generalize grownCap w s.size 0 5 = cap at *
  obtain ⟨x0, hk0⟩ : ∃ x, W.cell? ⟨w.heap.size, k, none⟩ = some (.int .u8 x) := ⟨_, h0 k hk⟩
  have hf0 := hfz k hk
  have H0 := Lib.hid h0
  have HZ := Lib.hid hz
  have hconv : ∀ nq, (convert 29 9 (.slice (some ⟨w.heap.size, 0, none⟩) s.size cap)).run Try.prog ((W.setCell ⟨w.heap.size, k, none⟩ (.int .u8 c)).drewN nq) = .ok (.string (turned s k c)) ((W.setCell ⟨w.heap.size, k, none⟩ (.int .u8 c)).drewN nq) := fun nq =>
    run_convert_bytes_arg (P := Try.prog) _ 29 5 Try.underlying29 Try.underlying5 w.heap.size 0 s.size cap _ (by simp) (fun i hi => by
      rw [Nat.zero_add]
      show (W.setCell ⟨w.heap.size, k, none⟩ (.int .u8 c)).cell? ⟨w.heap.size, i, none⟩ = _
      by_cases hik : i = k
      · subst hik
        rw [World.cell?_setCell_same' _ _ _ (by rw [h0 i hi]; rfl)]
        simp [List.getD, hi]
      · rw [World.cell?_setCell_other _ _ _ _ (by intro e; injection e; omega), h0 i hi]
        simp [List.getD, Ne.symm hik, hi]) 9 Try.underlying9
  have hts : (turned s k c).size ≤ maxLen := by rw [turned_size]; unfold maxLen; omega
  have hfin := fun _ : True => parted a s k c hk a0 (by omega) c0 c1 hne
  generalize turned s k c = t at *
  have HB := Lib.hid hB
  have HN : ∀ _ : True, c ≠ s[k].toNat := fun _ => hne
  have hcv' : ∀ _ : True, Sem.run Try.prog (convert 9 29 (.string s)) w = .ok (.slice (some ⟨w.heap.size, 0, none⟩) s.size cap) W := fun _ => hcv
  clear h0 hfz hz hB hne hs hcv
  go_enter Try.func5, Try.ntmps5
  go_wp2_with (first
          | (go_at_call 10; refine (Hash.awake_any _).mono ?_; rintro e w' ⟨rfl, rfl⟩))
  go_quiet (first
    | ((go_at_call_of 13 s; exact Calls.quiet_of_same ((Hash.of_any _ _ (by omega) (by omega) (by unfold maxLen; omega) _).mono fun _ _ ⟨h, e⟩ => ⟨h, e.symm⟩)))
    | ((go_at_call_of 13 t; exact Calls.quiet_of_same ((Hash.of_any _ _ (by omega) (by omega) (by assumption) _).mono fun _ _ ⟨h, e⟩ => ⟨h, e.symm⟩))))
  go_wp2
  go_ret
  exact ⟨by rw [bne_iff_ne.2 (hfin trivial)]; rfl, below_drewN (HB.out.setCell (p := ⟨w.heap.size, k, none⟩) (Nat.le_refl _) _) _⟩

theorem walk (a : Int) (s : ByteArray) (n c : Int) (ha : 0 ≤ a ∧ a ≤ 18446744073709551615) (hs : s.size ≤ maxLen) (hn : -9223372036854775808 ≤ n ∧ n ≤ 9223372036854775807) (hc : 0 ≤ c ∧ c ≤ 255) (w : World) :
    Calls Try.prog 5 #[.int .u64 a, .string s, .int .i64 n, .int .u8 c] w fun e w' => e = .returned (.bool true) ∧ Below w.heap.size w w' := by
  by_cases h1 : 1000 < s.size
  · exact early a n c s ha hs hn hc w (.inl h1)
  by_cases h2 : n < 0
  · exact early a n c s ha hs hn hc w (.inr (.inl h2))
  obtain ⟨k, rfl⟩ := Int.eq_ofNat_of_zero_le (by omega : 0 ≤ n)
  by_cases h3 : s.size ≤ k
  · exact early a k c s ha hs hn hc w (.inr (.inr (.inl (by omega))))
  by_cases h4 : c = s[k].toNat
  · exact early a k c s ha hs hn hc w (.inr (.inr (.inr ⟨k, by omega, rfl, h4⟩)))
  exact late a c k s ha (by omega) hc w (by omega) h4
end Go.Proofs.Ytpeimkmhooiimaa.HashByte
