/- hash.Several: the closure that it hands back is an iterator over the hashes, one by one. -/
import Derived.Test.YtncdaadiadeeiaaHash
import Derived.Test.YtncdaadiadeeiaaRange
import Derived.Shelf.Abstract
import Derived.Shelf.RegionOpen
import Derived.OwnWalkIn
import Derived.TacticsInMore
import Derived.LoopNIn
import Derived.LoopIn
namespace Go.Proofs.Ytncdaadiadeeiaa.Hash
open Go.RowKit Go.Shelf Go.Proofs.Ytncdaadiadeeiaa.Rng
attribute [local go_sem] Oper.semAt_some

/-- The hashes that Several hands on, with their numbers. -/
def several (seed : Int) (l : List UInt8) (many : Int) : List (Int × Int) := (List.range many.toNat).map fun (i : Nat) => ((i : Int), nthI seed l i)
def encIH (x : Int × Int) : Array Value := #[.int .i64 x.1, .int .u64 x.2]

theorem several_len (seed : Int) (l : List UInt8) (many : Int) : (several seed l many).length = many.toNat := by simp [several]
theorem several_at (seed : Int) (l : List UInt8) (many : Int) (k : Nat) (hk : k < many.toNat) : (several seed l many)[k]? = some ((k : Int), nthI seed l k) := by
  simp [several, hk]
theorem several_inv {seed : Int} {l : List UInt8} {many : Int} {k : Nat} {x : Int × Int} (h : (several seed l many)[k]? = some x) : k < many.toNat ∧ x = ((k : Int), nthI seed l k) := by
  have hk : k < many.toNat := by
    have := (List.getElem?_eq_some_iff.1 h).1
    rwa [several_len] at this
  rw [several_at _ _ _ _ hk] at h
  exact ⟨hk, by injection h with h; exact h.symm⟩

theorem of_nth (seed : Int) (s : ByteArray) (k : Nat) (hs : s.size ≤ maxLen) (w : World) :
    Calls Try.prog 58 #[.int .u64 (IntKind.u64.wrap (seed + (k : Int))), .string s] w fun e w' => e = .returned (.int .u64 (nthI seed s.data.toList k)) ∧ w = w' :=
  of_any _ s (wrap_range _).1 (wrap_range _).2 hs w

set_option maxHeartbeats 1000000 in
theorem several_seq (seed many : Int) (s : ByteArray) (hm : many ≤ 9223372036854775807) (hs : s.size ≤ maxLen) (B0 B1 B2 : Nat) (w : World)
    (hb0 : B0 < w.heap.size) (hb1 : B1 < w.heap.size) (hb2 : B2 < w.heap.size)
    (c0 : w.cell? ⟨B0, 0, none⟩ = some (.int .u64 seed)) (c1 : w.cell? ⟨B1, 0, none⟩ = some (.string s)) (c2 : w.cell? ⟨B2, 0, none⟩ = some (.int .i64 many)) :
    SeqI Try.prog 57 #[.pointer (some ⟨B2, 0, none⟩), .pointer (some ⟨B0, 0, none⟩), .pointer (some ⟨B1, 0, none⟩)] encIH (fun k => k = B0 ∨ k = B1 ∨ k = B2) (several seed s.data.toList many) w := by
  intro l J Jx W hW hJ hJx hY hj
  have e0 := (hW.cell (p := ⟨B0, 0, none⟩) hb0).trans c0
  have e1 := (hW.cell (p := ⟨B1, 0, none⟩) hb1).trans c1
  have e2 := (hW.cell (p := ⟨B2, 0, none⟩) hb2).trans c2
  clear c0 c1 c2 hW hJ hJx
  refine callsIn_of_wp Try.func57 rfl trivial ?_ rfl
  simp only [Try.ntmps57, List.size_toArray, List.length_cons, List.length_nil, Nat.reduceAdd, Nat.reduceSub, Array.replicate_succ, Array.replicate_zero, List.push_toArray, List.append_toArray, List.nil_append, List.cons_append]
  gi_wp2
  gi_loopw [5, 7] (fun _ p wr => ∃ k : Nat, p = .int .i64 k ∧ (k = 0 ∨ (k : Int) ≤ many) ∧ J k wr ∧ wr.cell? ⟨B0, 0, none⟩ = some (.int .u64 seed) ∧ wr.cell? ⟨B1, 0, none⟩ = some (.string s))
    (fun _ p _ => many.toNat - (intOf p).toNat)
  case atStart => exact ⟨0, rfl, .inl rfl, hj, e0, e1⟩
  case round =>
    obtain ⟨k, rfl, hk, hJk, d0, d1⟩ := hrel
    by_cases hlt : (k : Int) < many
    · obtain ⟨fn, tmps, assign, body, hy, hR⟩ := hY k _ wr hJk (several_at _ _ _ _ (by omega))
      simp only [encIH] at hy
      clear hY
      gi_wp2_with (refine ⟨trivial, ?_⟩; gi_at_call 58; refine (callsIn_wide.2 (of_nth seed s k hs wr)).mono ?_; rintro e w' ⟨rfl, rfl⟩)
      refine (any_depth hR).mono ?_
      rintro e W' (⟨rfl, hJ', hk'⟩ | ⟨rfl, hJx'⟩)
      · have d0' := (World.cell?_of_block (a := ⟨B0, 0, none⟩) (hk' B0 (.inl rfl))).trans d0
        have d1' := (World.cell?_of_block (a := ⟨B1, 0, none⟩) (hk' B1 (.inr (.inl rfl)))).trans d1
        clear hJk d0 d1 hk' hR hy
        gi_wp2
        go_roundw
        case rel => exact ⟨k + 1, by go_num, .inr (by omega), hJ', d0', d1'⟩
        case measure => simp [intOf]; omega
      · gi_wp2
        refine bodyPost_ret (results_none rfl _ _ _) rfl ?_
        exact ⟨⟨_, rfl⟩, .inr ⟨k + 1, by rw [several_len]; omega, hJx'⟩⟩
    · gi_wp2
      go_end0
      exact ⟨⟨_, rfl⟩, .inl (by rw [several_len]; have : k = many.toNat := by omega
                                rw [← this]; exact hJk)⟩

/-- The world behind a call of Several: three boxes. -/
def severalWorld (w : World) (seed : Int) (s : ByteArray) (many : Int) : World :=
  ((w.alloc (.cells #[.int .u64 seed] 22)).alloc (.cells #[.string s] 9)).alloc (.cells #[.int .i64 many] 3)
def severalFree (B : Nat) : Array Value := #[.pointer (some ⟨B + 2, 0, none⟩), .pointer (some ⟨B, 0, none⟩), .pointer (some ⟨B + 1, 0, none⟩)]

theorem several_any (seed many : Int) (s : ByteArray) (w : World) :
    Calls Try.prog 48 #[.int .u64 seed, .string s, .int .i64 many] w fun e w' =>
      e = .returned (.func (.func 57) #[] (severalFree w.heap.size)) ∧ w' = severalWorld w seed s many := by
  go_enter Try.func48, Try.ntmps48
  go_wp2
  go_ret
  exact ⟨rfl, rfl⟩

theorem severalWorld_below (w : World) (seed many : Int) (s : ByteArray) : Below w.heap.size w (severalWorld w seed s many) :=
  (((Below.refl _ w).alloc (Nat.le_refl _) _).alloc (by simp) _).alloc (by simp; omega) _
theorem severalWorld_size (w : World) (seed many : Int) (s : ByteArray) : (severalWorld w seed s many).heap.size = w.heap.size + 3 := by
  simp [severalWorld]

/-- What a range over Several(..) asks of the iterator. -/
theorem several_made (seed many : Int) (s : ByteArray) (hm : many ≤ 9223372036854775807) (hs : s.size ≤ maxLen) (w : World) :
    SeqI Try.prog 57 (severalFree w.heap.size) encIH (fun k => k = w.heap.size ∨ k = w.heap.size + 1 ∨ k = w.heap.size + 2) (several seed s.data.toList many) (severalWorld w seed s many) := by
  refine several_seq seed many s hm hs w.heap.size (w.heap.size + 1) (w.heap.size + 2) _ ?_ ?_ ?_ ?_ ?_ ?_
  · rw [severalWorld_size]; omega
  · rw [severalWorld_size]; omega
  · rw [severalWorld_size]; omega
  · simp [severalWorld]; go_simp
  · simp [severalWorld]; go_simp
  · simp [severalWorld]; go_simp

/-- Several, as a caller wants it: an iterator over the hashes, in a world that has grown alone. -/
theorem several_gives (seed many : Int) (s : ByteArray) (hm : many ≤ 9223372036854775807) (hs : s.size ≤ maxLen) (w : World) :
    Calls Try.prog 48 #[.int .u64 seed, .string s, .int .i64 many] w fun e w' =>
      ∃ (lb : Array Value) (K : Nat → Prop), e = .returned (.func (.func 57) #[] lb) ∧ SeqI Try.prog 57 lb encIH K (several seed s.data.toList many) w' ∧
        Below w.heap.size w w' ∧ (∀ k, K k → w.heap.size ≤ k ∧ k < w'.heap.size) :=
  (several_any seed many s w).mono fun e w' ⟨he, hw⟩ => by
    subst hw
    exact ⟨_, _, he, several_made seed many s hm hs w, severalWorld_below w seed many s, fun k hk => by rw [severalWorld_size]; omega⟩
theorem enters (args : Array Value) (w : World) : (callFunc 57 args).run Try.prog w = .ok (.enter 57 args) w := enters_of Try.func57 (by kernel_rfl) rfl args w
end Go.Proofs.Ytncdaadiadeeiaa.Hash
