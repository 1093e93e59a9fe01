/- Layer 9: the chapter's example. -/
import Derived.Test.YtekcogoijlbmnaaTabL2
namespace Go.Proofs.Ytekcogoijlbmnaa.TabL
open Go Go.RowKit Go.Proofs.Ytekcogoijlbmnaa.Mem Go.Proofs.Ytekcogoijlbmnaa.Ops Go.Proofs.Ytekcogoijlbmnaa.Tab Go.Proofs.Ytekcogoijlbmnaa.TabI

def awk (m : Nat) : St V := (List.range m).foldl (fun s i => s.put (numB i) (i : Int)) new
theorem awk_succ (m : Nat) : awk (m + 1) = (awk m).put (numB m) (m : Int) := by unfold awk; rw [List.range_succ, List.foldl_append]; rfl
theorem awk_buckets : (awk 17).buckets = 16 := by decide +kernel
theorem awk_left : (awk 17).left = 8 := by decide +kernel
theorem awk_len : (awk 17).L.length = 17 := by decide +kernel
theorem awk_get : Tab.get (awk 17).L (numB 3) = some 3 := by decide +kernel
set_option maxRecDepth 20000 in
set_option maxHeartbeats 2000000 in
theorem awake_any (w : World) : Calls Try.prog 8 #[] w fun e w' => e = .returned (.bool true) ∧ Below w.heap.size w w' := by
  go_enter Try.func8, Try.ntmps8
  go_wp2_with fail
  refine (new_run (Below.refl _ w) 0 (by omega) (by omega)).mono ?_
  rintro e w1 ⟨b, F1, rfl, r1, -, -⟩
  go_wp2_with fail
  go_loopg [2] 17 (fun g i wr => ∃ (m : Nat) (F : Nat → Prop), i = .int .i64 m ∧ g + m = 17 ∧ Hid (Run w wr m b F 0 (awk m)))
  case atStart => exact ⟨0, F1, rfl, rfl, Lib.hid r1⟩
  case round =>
    obtain ⟨m, F, rfl, hg, HR⟩ := hrel
    have HG := Lib.hid hg
    clear hg r1
    by_cases hm : m < 17
    · have hmi : (m : Int) < 17 := by omega
      have hnum := numbered_any m (by omega) wr
      have hput : ∀ w2, Below wr.heap.size wr w2 → Calls Try.prog 11 #[.pointer (some ⟨b, 0, none⟩), .string (numB m), .int .i64 (m : Nat)] w2 (RunPost w w2 (m + 1) b F 0 (awk (m + 1)) (.tuple #[])) := fun w2 hb => by
        rw [awk_succ]
        exact put_run (HR.out.step hb) (by omega) (numB m) (m : Int) (num_size m)
      unfold RunPost at hput
      have hHP := Lib.hid hput
      clear hput
      go_wp2_with fail
      refine hnum.mono ?_
      rintro e w2 ⟨rfl, hb2⟩
      have hput := hHP.out w2 hb2
      clear hnum hb2
      obtain ⟨kk, hkk⟩ : ∃ kk, numB m = kk := ⟨_, rfl⟩
      rw [hkk] at hput ⊢
      clear hkk hHP
      go_wp2_with fail
      refine hput.mono ?_
      rintro e w3 ⟨F3, rfl, r3, -, -⟩
      have HR3 := Lib.hid r3
      clear r3 hput
      go_wp2_with fail
      go_roundg (17 - (m + 1))
      case measure => have := HG.out; omega
      case rel => exact ⟨m + 1, F3, by go_num, by have := HG.out; omega, HR3⟩
    · have hm2 : m = 17 := by have := HG.out; omega
      subst hm2
      have r := HR.out
      have h1 := buckets_any r.at_
      have h2 := left_any r.at_
      rw [awk_buckets] at h1
      rw [awk_left] at h2
      have hnum := numbered_any 3 (by omega) wr
      have HG3 : ∀ w2, Below wr.heap.size wr w2 → Calls Try.prog 12 #[.pointer (some ⟨b, 0, none⟩), .string (numB 3)] w2 (RunPost w w2 17 b F 0 (awk 17).tick (.tuple #[.int .i64 3, .bool true])) := fun w2 hb => by
        have := get_run (r.step hb) (numB 3) (num_size 3)
        unfold getV at this
        rw [awk_get] at this
        exact this
      unfold RunPost at HG3
      have HGH := Lib.hid HG3
      clear HG3 r HR HG hm
      go_wp2_with (first | (go_at_call 18; refine h1.mono ?_; rintro e w' ⟨rfl, rfl⟩) | (go_at_call 17; refine h2.mono ?_; rintro e w' ⟨rfl, rfl⟩) | fail)
      refine hnum.mono ?_
      rintro e w2 ⟨rfl, hb2⟩
      have hget := HGH.out w2 hb2
      clear hnum hb2 HGH h1 h2
      obtain ⟨kk, hkk⟩ : ∃ kk, numB 3 = kk := ⟨_, rfl⟩
      rw [hkk] at hget ⊢
      clear hkk
      go_wp2_with fail
      refine hget.mono ?_
      rintro e w3 ⟨F3, rfl, r3, -, -⟩
      have h3 := left_any r3.at_
      have h4 := len_any r3.at_
      rw [show (awk 17).tick.left = 7 from by show (awk 17).left - 1 = 7; rw [awk_left]] at h3
      rw [tick_L, awk_len] at h4
      have HR3 := Lib.hid r3
      clear r3 hget
      go_wp2_with (first | (go_at_call 16; refine h4.mono ?_; rintro e w' ⟨rfl, rfl⟩) | (go_at_call 17; refine h3.mono ?_; rintro e w' ⟨rfl, rfl⟩))
      go_ret
      exact ⟨rfl, HR3.out.below⟩
end Go.Proofs.Ytekcogoijlbmnaa.TabL
