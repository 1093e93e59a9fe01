/- Part35: Route5, one behind the other. -/
import Derived.Test.YtpghckiochjogaaGreatDoorPart34
import Derived.StillTailTactics
import Derived.BigQuiet
import Derived.BigRegion
/- Layer 21: Do. -/
namespace Go.Proofs.YtpghckiochjogaaGreatDoor.Route
set_option maxRecDepth 100000
open Go Go.RowKit Go.Proofs.YtpghckiochjogaaGreatDoor.Mem Go.Proofs.YtpghckiochjogaaGreatDoor.App Go.Proofs.YtpghckiochjogaaGreatDoor.Shard Go.Proofs.YtpghckiochjogaaGreatDoor.Exec
theorem place_lt {r : RS} (k : ByteArray) (h1 : 1 ≤ r.ss.length) (h8 : r.ss.length ≤ 8) (hs : 0 ≤ r.seed ∧ r.seed < 18446744073709551616) : ∃ i : Nat, r.place k = i ∧ i < r.ss.length := by
  have hr := Hash.ofI_range (seed := r.seed) k.data.toList hs.1 hs.2
  unfold RS.place Hash.belowI
  rw [if_neg (by omega)]
  have a1 := Int.emod_nonneg (Hash.ofI r.seed k.data.toList) (show (r.ss.length : Int) ≠ 0 by omega)
  have a2 := Int.emod_lt_of_pos (Hash.ofI r.seed k.data.toList) (show (0 : Int) < r.ss.length by omega)
  exact ⟨_, (Int.toNat_of_nonneg a1).symm, by omega⟩
section
variable {W w w' : World} {M sb : Nat} {seed : Int} {xs : List (Nat × Obj)} {r : RS}
set_option maxHeartbeats 4000000 in
theorem do_any (h : SM W w M sb r xs) (hM : M + 2 ≤ 1050000) (hp : Pows W) (he : Errs W) (c : Cmd) (now : Int) {a : Option Addr} {n k : Nat} (hn : c.val.length = n) (hks : c.key.size ≤ 2000000) (hvs : c.val.length ≤ 1100000) (hv : SrcB w (.slice a n k) c.val) (hlow : c.val ≠ [] → Held W xs (.slice a n k)) (hi : Shard.isU c.initial) (hd : Shard.isU c.delta) :
    Calls Tryz.prog 11 #[.pointer (some ⟨sb, 0, none⟩), .agg (c.arr (.slice a n k)), .int .i64 now] w (DoP W w M sb r c (.slice a n k) now xs) := by
  obtain ⟨bs, g, cap, gc, gt, hL, hgc, hsg, hxs, h1, h8, hsd⟩ := h
  obtain ⟨i, hpl, hil⟩ := place_lt c.key h1 h8 hsd
  have hlen := hL.len
  obtain ⟨b, hb⟩ : ∃ b, bs[i]? = some b := ⟨_, List.getElem?_eq_getElem (by omega)⟩
  obtain ⟨s, hs⟩ : ∃ s, r.ss[i]? = some s := ⟨_, List.getElem?_eq_getElem hil⟩
  have hWw := (hL.low (by omega)).size
  have hsl : sb < w.heap.size := (Array.getElem?_eq_some_iff.1 hL.r0).1
  have hL2 := (hL.alloc hWw (.cells #[.int .i64 c.op, .string c.key, .slice a n k, .int .u32 c.flags, .int .i64 c.exp, .int .u64 c.cas, .int .u64 c.delta, .int .u64 c.initial, .bool c.makes, .bool c.sets] 33)).alloc (by rw [World.size_alloc]; omega) (.cells #[.int .i64 0, .int .i64 0, .string ⟨#[]⟩, .slice none 0 0, .int .u32 0, .int .i64 0, .int .u64 0, .int .u64 0, .int .u64 0, .bool false, .bool false, .int .i64 0, .int .u64 0, .int .i64 0, .int .u64 0, .int .i64 0, .slice none 0 0, .int .u32 0, .int .u64 0, .int .i64 0, .int .u64 0, .bool false, .bool false, .bool false, .slice none 0 0] 40)
  rw [World.size_alloc] at hL2
  have hbx := Mem.al (Mem.al (Below.refl w.heap.size w) (.cells #[.int .i64 c.op, .string c.key, .slice a n k, .int .u32 c.flags, .int .i64 c.exp, .int .u64 c.cas, .int .u64 c.delta, .int .u64 c.initial, .bool c.makes, .bool c.sets] 33)) (.cells #[.int .i64 0, .int .i64 0, .string ⟨#[]⟩, .slice none 0 0, .int .u32 0, .int .i64 0, .int .u64 0, .int .u64 0, .int .u64 0, .bool false, .bool false, .int .i64 0, .int .u64 0, .int .i64 0, .int .u64 0, .int .i64 0, .slice none 0 0, .int .u32 0, .int .u64 0, .int .i64 0, .int .u64 0, .bool false, .bool false, .bool false, .slice none 0 0] 40)
  unfold Cmd.arr
  go_enter Tryz.func11, Tryz.ntmps11
  go_upto_region 1 with (fail)
  obtain ⟨w2, hw2⟩ : ∃ w2, (w.alloc (.cells #[.int .i64 c.op, .string c.key, .slice a n k, .int .u32 c.flags, .int .i64 c.exp, .int .u64 c.cas, .int .u64 c.delta, .int .u64 c.initial, .bool c.makes, .bool c.sets] 33)).alloc (.cells #[.int .i64 0, .int .i64 0, .string ⟨#[]⟩, .slice none 0 0, .int .u32 0, .int .i64 0, .int .u64 0, .int .u64 0, .int .u64 0, .bool false, .bool false, .int .i64 0, .int .u64 0, .int .i64 0, .int .u64 0, .int .i64 0, .slice none 0 0, .int .u32 0, .int .u64 0, .int .i64 0, .int .u64 0, .bool false, .bool false, .bool false, .slice none 0 0] 40) = w2 := ⟨_, rfl⟩
  rw [hw2] at hL2 hbx ⊢
  have hz2 : w2.heap.size = w.heap.size + 2 := by rw [← hw2, World.size_alloc, World.size_alloc]
  have HZ2 := Lib.hid hz2
  have HL2 := Lib.hid (And.intro hL2 hbx)
  have s2 : ∀ o, (w2.alloc o).cell? ⟨sb, 2, none⟩ = some (.int .u64 r.seq) := fun o => Mem.row_cell (Mem.new_later hL2.r2 o) 2
  have s3 : ∀ o, (w2.alloc o).cell? ⟨sb, 3, none⟩ = some (.int .i64 r.flush) := fun o => Mem.row_cell (Mem.new_later hL2.r2 o) 3
  have s4 : ∀ o, (w2.alloc o).cell? ⟨sb, 4, none⟩ = some (.int .u64 r.flushSeq) := fun o => Mem.row_cell (Mem.new_later hL2.r2 o) 4
  have t2 : w2.cell? ⟨sb, 2, none⟩ = some (.int .u64 r.seq) := Mem.row_cell hL2.r2 2
  have t3 : w2.cell? ⟨sb, 3, none⟩ = some (.int .i64 r.flush) := Mem.row_cell hL2.r2 3
  have t4 : w2.cell? ⟨sb, 4, none⟩ = some (.int .u64 r.flushSeq) := Mem.row_cell hL2.r2 4
  have HX := Lib.hid (fun q (hq : q ∈ xs) => hL.lt q (List.mem_cons_of_mem _ (List.mem_cons_of_mem _ hq)))
  have HG := Lib.hid (show g < w.heap.size from hL.lt (g, .cells gc gt) (by simp))
  have HV := Lib.hid (And.intro hv (And.intro (And.intro (hL.sub (xs' := xs) fun p hp => List.mem_cons_of_mem _ (List.mem_cons_of_mem _ hp)) hlow) (And.intro hi (And.intro hd (And.intro hp (And.intro he (And.intro hks (And.intro hvs (And.intro hM hn)))))))))
  have HS := Lib.hid (And.intro hgc (And.intro hsg (And.intro hxs (And.intro h1 (And.intro h8 (And.intro hsd (And.intro hpl (And.intro hil (And.intro hlen (And.intro hb (And.intro hs (And.intro hWw hsl))))))))))))
  clear hv hlow hi hd hp he hks hvs hM hn hgc hsg hxs h1 h8 hsd hpl hil hlen hb hs hWw hsl hL hL2 hbx hw2 hz2
  go_region
  have hL3 := LM.below (HL2.out.1.alloc (Nat.le_trans HS.out.2.2.2.2.2.2.2.2.2.2.2.1 (by rw [HZ2.out]; omega)) (.cells #[.int .i64 now, .int .u64 r.seq, .int .i64 r.flush, .int .u64 r.flushSeq] 35)) (Below.drew (Below.refl _ _))
  obtain ⟨w3, hw3⟩ : ∃ w3, (w2.alloc (.cells #[.int .i64 now, .int .u64 r.seq, .int .i64 r.flush, .int .u64 r.flushSeq] 35)).drew = w3 := ⟨_, rfl⟩
  rw [hw3] at hL3 ⊢
  have hz3 : w3.heap.size = w2.heap.size + 1 := by rw [← hw3]; exact World.size_alloc ..
  have HZ3 := Lib.hid hz3
  have u2 : w3.cell? ⟨sb, 2, none⟩ = some (.int .u64 r.seq) := Mem.row_cell hL3.r3 2
  have u2f := Mem.row_free hL3.r3 2
  have HL3 := Lib.hid hL3
  clear s2 s3 s4 t2 t3 t4 hw3 hz3 hL3
  go_upto_region 3 with (fail)
  have hL4 : LM W (w3.setCell ⟨sb, 2, none⟩ (.int .u64 (IntKind.u64.wrap (r.seq + 1)))) M bs r.seed r.ss ((sb, .cells (r.up.arr (.slice (some ⟨g, 0, none⟩) r.ss.length cap)) 59) :: (w2.heap.size, .cells #[.int .i64 now, .int .u64 r.seq, .int .i64 r.flush, .int .u64 r.flushSeq] 35) :: (w.heap.size + 1, .cells #[.int .i64 0, .int .i64 0, .string ⟨#[]⟩, .slice none 0 0, .int .u32 0, .int .i64 0, .int .u64 0, .int .u64 0, .int .u64 0, .bool false, .bool false, .int .i64 0, .int .u64 0, .int .i64 0, .int .u64 0, .int .i64 0, .slice none 0 0, .int .u32 0, .int .u64 0, .int .i64 0, .int .u64 0, .bool false, .bool false, .bool false, .slice none 0 0] 40) :: (w.heap.size, .cells #[.int .i64 c.op, .string c.key, .slice a n k, .int .u32 c.flags, .int .i64 c.exp, .int .u64 c.cas, .int .u64 c.delta, .int .u64 c.initial, .bool c.makes, .bool c.sets] 33) :: (g, .cells gc gt) :: xs) := by
    refine (HL3.out.sub (xs' := (sb, .cells (r.arr (.slice (some ⟨g, 0, none⟩) r.ss.length cap)) 59) :: (w2.heap.size, _) :: (w.heap.size + 1, _) :: (w.heap.size, _) :: (g, _) :: xs) fun p hp => ?_).write ((Only.refl (fun k => k = sb) w3).setCell (.inl rfl) _) (Mem.row_set HL3.out.r3 2 _) fun q hq => ?_
    · simp only [List.mem_cons] at hp ⊢
      rcases hp with hp | hp | hp | hp | hp | hp
      · exact .inr (.inr (.inr (.inl hp)))
      · exact .inl hp
      · exact .inr (.inl hp)
      · exact .inr (.inr (.inl hp))
      · exact .inr (.inr (.inr (.inr (.inl hp))))
      · exact .inr (.inr (.inr (.inr (.inr hp))))
    · have h1 := HZ2.out
      have h2 := HS.out.2.2.2.2.2.2.2.2.2.2.2.2
      have h3 := HS.out.2.1
      simp only [List.mem_cons] at hq
      rcases hq with rfl | rfl | rfl | rfl | hq
      · show w2.heap.size ≠ sb; omega
      · show w.heap.size + 1 ≠ sb; omega
      · show w.heap.size ≠ sb; omega
      · show g ≠ sb; omega
      · exact (HS.out.2.2.1 q hq).1
  obtain ⟨w4, hw4⟩ : ∃ w4, w3.setCell ⟨sb, 2, none⟩ (.int .u64 (IntKind.u64.wrap (r.seq + 1))) = w4 := ⟨_, rfl⟩
  rw [hw4] at hL4 ⊢
  have hz4 : w4.heap.size = w2.heap.size + 1 := by rw [← hw4, ← HZ3.out]; simp [World.setCell]
  have HZ4 := Lib.hid hz4
  have HL4 := Lib.hid hL4
  clear hw4 hz4 u2 u2f
  have hpl := place_any (w := w4.drew) (sb := sb) rfl hL4.r0 HS.out.2.2.2.2.2.1 HS.out.2.2.2.2.1 c.key (by have := HV.out.2.2.2.2.2.2.1; unfold maxLen; omega)
  rw [show Hash.belowI (Hash.ofI r.up.seed c.key.data.toList) (r.ss.length : Int) = i from HS.out.2.2.2.2.2.2.1] at hpl
  have hrow : ∀ W', Below w4.heap.size w4 W' → W'.cell? ⟨sb, 1, none⟩ = some (.slice (some ⟨g, 0, none⟩) r.ss.length cap) ∧ W'.cell? ⟨w.heap.size, 1, none⟩ = some (.string c.key) ∧ W'.cell? ⟨g, i, none⟩ = some (.pointer (some ⟨b, 0, none⟩)) := fun W' hb => by
    have k := HL4.out.below hb
    exact ⟨Mem.row_cell k.r0 1, Mem.row_cell k.r3 1, (Mem.row_cell k.r4 i).trans (HS.out.1 i b HS.out.2.2.2.2.2.2.2.2.2.1)⟩
  have hr4 := hrow w4.drew (Below.drew (Below.refl _ _))
  have HR := Lib.hid hrow
  have hin : (i : Int) < r.ss.length := by have := HS.out.2.2.2.2.2.2.2.1; omega
  clear hL4 hrow
  go_region_held3 (fun W' : World => W'.cell? ⟨sb, 1, none⟩ = some (.slice (some ⟨g, 0, none⟩) r.ss.length cap) ∧ W'.cell? ⟨w.heap.size, 1, none⟩ = some (.string c.key) ∧ W'.cell? ⟨g, i, none⟩ = some (.pointer (some ⟨b, 0, none⟩))) (first
    | with_reducible exact HR.out _ H5.out
    | with_reducible exact hr4) (first
    | (go_at_call 12; refine hpl.mono ?_; rintro en w5 ⟨rfl, hb5⟩; have H5 := Lib.hid (Below.trans (Below.drew (Below.refl w4.heap.size w4)) hb5); clear hb5))
  all_goals clear hr4 hpl
  all_goals go_upto_region 4 with (fail)
  all_goals (
    have hbl : 0 < bs.length := by have h1 := HS.out.2.2.2.1; have h2 := HS.out.2.2.2.2.2.2.2.2.1; omega
    have hL5 := HL4.out.below H5.out
    have hz5 : w.heap.size + 3 ≤ w5.heap.size := by have h1 := H5.out.size; have h2 := HZ4.out; have h3 := HZ2.out; omega
    have hex : ∀ (w' : World) (pre : List (Nat × Obj)), LM W w' M bs r.seed r.ss (pre ++ xs) → w.heap.size ≤ w'.heap.size → Calls Tryz.prog 19 #[.pointer (some ⟨b, 0, none⟩), .agg #[.int .i64 c.op, .string c.key, .slice a n k, .int .u32 c.flags, .int .i64 c.exp, .int .u64 c.cas, .int .u64 c.delta, .int .u64 c.initial, .bool c.makes, .bool c.sets], .agg #[.int .i64 now, .int .u64 r.seq, .int .i64 r.flush, .int .u64 r.flushSeq]] w' (fun e w'' => ∃ (f : Nat) (x : Res) (t : Shard.St) (xa : Option Addr) (xn xk : Nat) (ys : List (Nat × Obj)), e = .returned (.agg #[.int .i64 x.status, .slice xa xn xk, .int .u32 x.flags, .int .u64 x.cas, .int .i64 x.ttl, .int .u64 x.number, .bool x.stale, .bool x.won, .bool x.lost]) ∧ Hid (Exd W w'' w'.heap.size M bs r.seed r.ss i t (pre ++ (xs ++ ys)) ys c (r.env now) s f x (.slice xa xn xk))) := by
      intro w' pre hL' hz'
      refine (hL'.exec HV.out.2.2.2.2.2.2.2.2.1 HV.out.2.2.2.2.1 HV.out.2.2.2.2.2.1 HS.out.2.2.2.2.2.2.2.2.2.1 HS.out.2.2.2.2.2.2.2.2.2.2.1 c (r.env now) HV.out.2.2.2.2.2.2.2.2.2 HV.out.2.2.2.2.2.2.1 HV.out.2.2.2.2.2.2.2.1 (LM.src (HV.out.2.1.1) hL' hbl hbl (fun p hp => List.mem_append_right _ hp) hz' HV.out.1 HV.out.2.1.2) (fun hx => (HV.out.2.1.2 hx).mono fun p hp => List.mem_append_right _ hp) HV.out.2.2.1 HV.out.2.2.2.1).mono ?_
      rintro e w'' ⟨f, x, t, v, ys, h1, h2, rfl, ⟨a', n', k', rfl⟩, h5, h6, h7, h8, h9⟩
      rw [List.append_assoc] at h5
      exact ⟨f, x, t, a', n', k', ys, rfl, Lib.hid ⟨h1, h2, h5, h6, fun p hp => List.mem_append_right _ (List.mem_append_right _ hp), h7, h8, h9⟩⟩
    have hr0 : ∀ (W' : World) (m : Nat) (ss' : List Shard.St) (tl : List (Nat × Obj)), LM W W' m bs r.seed ss' ((sb, .cells (r.up.arr (.slice (some ⟨g, 0, none⟩) r.ss.length cap)) 59) :: (w2.heap.size, .cells #[.int .i64 now, .int .u64 r.seq, .int .i64 r.flush, .int .u64 r.flushSeq] 35) :: (w.heap.size + 1, .cells #[.int .i64 0, .int .i64 0, .string ⟨#[]⟩, .slice none 0 0, .int .u32 0, .int .i64 0, .int .u64 0, .int .u64 0, .int .u64 0, .bool false, .bool false, .int .i64 0, .int .u64 0, .int .i64 0, .int .u64 0, .int .i64 0, .slice none 0 0, .int .u32 0, .int .u64 0, .int .i64 0, .int .u64 0, .bool false, .bool false, .bool false, .slice none 0 0] 40) :: (w.heap.size, .cells #[.int .i64 c.op, .string c.key, .slice a n k, .int .u32 c.flags, .int .i64 c.exp, .int .u64 c.cas, .int .u64 c.delta, .int .u64 c.initial, .bool c.makes, .bool c.sets] 33) :: (g, .cells gc gt) :: tl) → W'.cell? ⟨w.heap.size, 0, none⟩ = some (.int .i64 c.op) ∧ W'.cell? ⟨w.heap.size, 1, none⟩ = some (.string c.key) ∧ W'.cell? ⟨w.heap.size, 2, none⟩ = some (.slice a n k) ∧ W'.cell? ⟨w.heap.size, 3, none⟩ = some (.int .u32 c.flags) ∧ W'.cell? ⟨w.heap.size, 4, none⟩ = some (.int .i64 c.exp) ∧ W'.cell? ⟨w.heap.size, 5, none⟩ = some (.int .u64 c.cas) ∧ W'.cell? ⟨w.heap.size, 6, none⟩ = some (.int .u64 c.delta) ∧ W'.cell? ⟨w.heap.size, 7, none⟩ = some (.int .u64 c.initial) ∧ W'.cell? ⟨w.heap.size, 8, none⟩ = some (.bool c.makes) ∧ W'.cell? ⟨w.heap.size, 9, none⟩ = some (.bool c.sets) ∧ W'.cell? ⟨w2.heap.size, 0, none⟩ = some (.int .i64 now) ∧ W'.cell? ⟨w2.heap.size, 1, none⟩ = some (.int .u64 r.seq) ∧ W'.cell? ⟨w2.heap.size, 2, none⟩ = some (.int .i64 r.flush) ∧ W'.cell? ⟨w2.heap.size, 3, none⟩ = some (.int .u64 r.flushSeq) := fun W' m ss' tl h => ⟨Mem.row_cell h.r3 0, Mem.row_cell h.r3 1, Mem.row_cell h.r3 2, Mem.row_cell h.r3 3, Mem.row_cell h.r3 4, Mem.row_cell h.r3 5, Mem.row_cell h.r3 6, Mem.row_cell h.r3 7, Mem.row_cell h.r3 8, Mem.row_cell h.r3 9, Mem.row_cell h.r1 0, Mem.row_cell h.r1 1, Mem.row_cell h.r1 2, Mem.row_cell h.r1 3⟩
    have hr1 : ∀ (W' : World) (m : Nat) (ss' : List Shard.St) (q : Nat × Obj) (tl : List (Nat × Obj)), LM W W' m bs r.seed ss' (q :: (sb, .cells (r.up.arr (.slice (some ⟨g, 0, none⟩) r.ss.length cap)) 59) :: (w2.heap.size, .cells #[.int .i64 now, .int .u64 r.seq, .int .i64 r.flush, .int .u64 r.flushSeq] 35) :: (w.heap.size + 1, .cells #[.int .i64 0, .int .i64 0, .string ⟨#[]⟩, .slice none 0 0, .int .u32 0, .int .i64 0, .int .u64 0, .int .u64 0, .int .u64 0, .bool false, .bool false, .int .i64 0, .int .u64 0, .int .i64 0, .int .u64 0, .int .i64 0, .slice none 0 0, .int .u32 0, .int .u64 0, .int .i64 0, .int .u64 0, .bool false, .bool false, .bool false, .slice none 0 0] 40) :: (w.heap.size, .cells #[.int .i64 c.op, .string c.key, .slice a n k, .int .u32 c.flags, .int .i64 c.exp, .int .u64 c.cas, .int .u64 c.delta, .int .u64 c.initial, .bool c.makes, .bool c.sets] 33) :: (g, .cells gc gt) :: tl) → W'.cell? ⟨w.heap.size, 0, none⟩ = some (.int .i64 c.op) ∧ W'.cell? ⟨w.heap.size, 1, none⟩ = some (.string c.key) ∧ W'.cell? ⟨w.heap.size, 2, none⟩ = some (.slice a n k) ∧ W'.cell? ⟨w.heap.size, 3, none⟩ = some (.int .u32 c.flags) ∧ W'.cell? ⟨w.heap.size, 4, none⟩ = some (.int .i64 c.exp) ∧ W'.cell? ⟨w.heap.size, 5, none⟩ = some (.int .u64 c.cas) ∧ W'.cell? ⟨w.heap.size, 6, none⟩ = some (.int .u64 c.delta) ∧ W'.cell? ⟨w.heap.size, 7, none⟩ = some (.int .u64 c.initial) ∧ W'.cell? ⟨w.heap.size, 8, none⟩ = some (.bool c.makes) ∧ W'.cell? ⟨w.heap.size, 9, none⟩ = some (.bool c.sets) ∧ W'.cell? ⟨w2.heap.size, 0, none⟩ = some (.int .i64 now) ∧ W'.cell? ⟨w2.heap.size, 1, none⟩ = some (.int .u64 r.seq) ∧ W'.cell? ⟨w2.heap.size, 2, none⟩ = some (.int .i64 r.flush) ∧ W'.cell? ⟨w2.heap.size, 3, none⟩ = some (.int .u64 r.flushSeq) := fun W' m ss' q tl h => hr0 W' m ss' tl (h.sub fun p hp => List.mem_cons_of_mem _ hp)
    have hb0 : LM W w5.drew M bs r.seed r.ss ((sb, .cells (r.up.arr (.slice (some ⟨g, 0, none⟩) r.ss.length cap)) 59) :: (w2.heap.size, .cells #[.int .i64 now, .int .u64 r.seq, .int .i64 r.flush, .int .u64 r.flushSeq] 35) :: (w.heap.size + 1, .cells #[.int .i64 0, .int .i64 0, .string ⟨#[]⟩, .slice none 0 0, .int .u32 0, .int .i64 0, .int .u64 0, .int .u64 0, .int .u64 0, .bool false, .bool false, .int .i64 0, .int .u64 0, .int .i64 0, .int .u64 0, .int .i64 0, .slice none 0 0, .int .u32 0, .int .u64 0, .int .i64 0, .int .u64 0, .bool false, .bool false, .bool false, .slice none 0 0] 40) :: (w.heap.size, .cells #[.int .i64 c.op, .string c.key, .slice a n k, .int .u32 c.flags, .int .i64 c.exp, .int .u64 c.cas, .int .u64 c.delta, .int .u64 c.initial, .bool c.makes, .bool c.sets] 33) :: (g, .cells gc gt) :: xs) := hL5.below (Below.drew (Below.refl _ _))
    have hb1 : LM W (w5.alloc (.cells #[.int .i64 0, .int .i64 0, .string ⟨#[]⟩, .slice none 0 0, .int .u32 0, .int .i64 0, .int .u64 0, .int .u64 0, .int .u64 0, .bool false, .bool false, .int .i64 0, .int .u64 0, .int .i64 0, .int .u64 0, .int .i64 0, .slice none 0 0, .int .u32 0, .int .u64 0, .int .i64 0, .int .u64 0, .bool false, .bool false, .bool false, .slice none 0 0] 40)).drew M bs r.seed r.ss ((w5.heap.size, .cells #[.int .i64 0, .int .i64 0, .string ⟨#[]⟩, .slice none 0 0, .int .u32 0, .int .i64 0, .int .u64 0, .int .u64 0, .int .u64 0, .bool false, .bool false, .int .i64 0, .int .u64 0, .int .i64 0, .int .u64 0, .int .i64 0, .slice none 0 0, .int .u32 0, .int .u64 0, .int .i64 0, .int .u64 0, .bool false, .bool false, .bool false, .slice none 0 0] 40) :: (sb, .cells (r.up.arr (.slice (some ⟨g, 0, none⟩) r.ss.length cap)) 59) :: (w2.heap.size, .cells #[.int .i64 now, .int .u64 r.seq, .int .i64 r.flush, .int .u64 r.flushSeq] 35) :: (w.heap.size + 1, .cells #[.int .i64 0, .int .i64 0, .string ⟨#[]⟩, .slice none 0 0, .int .u32 0, .int .i64 0, .int .u64 0, .int .u64 0, .int .u64 0, .bool false, .bool false, .int .i64 0, .int .u64 0, .int .i64 0, .int .u64 0, .int .i64 0, .slice none 0 0, .int .u32 0, .int .u64 0, .int .i64 0, .int .u64 0, .bool false, .bool false, .bool false, .slice none 0 0] 40) :: (w.heap.size, .cells #[.int .i64 c.op, .string c.key, .slice a n k, .int .u32 c.flags, .int .i64 c.exp, .int .u64 c.cas, .int .u64 c.delta, .int .u64 c.initial, .bool c.makes, .bool c.sets] 33) :: (g, .cells gc gt) :: xs) := (hL5.alloc (hL5.low hbl).size (.cells #[.int .i64 0, .int .i64 0, .string ⟨#[]⟩, .slice none 0 0, .int .u32 0, .int .i64 0, .int .u64 0, .int .u64 0, .int .u64 0, .bool false, .bool false, .int .i64 0, .int .u64 0, .int .i64 0, .int .u64 0, .int .i64 0, .slice none 0 0, .int .u32 0, .int .u64 0, .int .i64 0, .int .u64 0, .bool false, .bool false, .bool false, .slice none 0 0] 40)).below (Below.drew (Below.refl _ _))
    have hlt5 := hL5.lt
    have sb0 := hr0 _ _ _ _ hb0
    have sb1 := hr1 _ _ _ _ _ hb1
    have hex0 : Calls Tryz.prog 19 #[.pointer (some ⟨b, 0, none⟩), .agg #[.int .i64 c.op, .string c.key, .slice a n k, .int .u32 c.flags, .int .i64 c.exp, .int .u64 c.cas, .int .u64 c.delta, .int .u64 c.initial, .bool c.makes, .bool c.sets], .agg #[.int .i64 now, .int .u64 r.seq, .int .i64 r.flush, .int .u64 r.flushSeq]] w5.drew (fun e wD => ∃ (f : Nat) (x : Res) (t : Shard.St) (xa : Option Addr) (xn xk : Nat) (ys : List (Nat × Obj)), e = .returned (.agg #[.int .i64 x.status, .slice xa xn xk, .int .u32 x.flags, .int .u64 x.cas, .int .i64 x.ttl, .int .u64 x.number, .bool x.stale, .bool x.won, .bool x.lost]) ∧ Hid (Exd W wD (w.heap.size + 3) M bs r.seed r.ss i t ((sb, .cells (r.up.arr (.slice (some ⟨g, 0, none⟩) r.ss.length cap)) 59) :: (w2.heap.size, .cells #[.int .i64 now, .int .u64 r.seq, .int .i64 r.flush, .int .u64 r.flushSeq] 35) :: (w.heap.size + 1, .cells #[.int .i64 0, .int .i64 0, .string ⟨#[]⟩, .slice none 0 0, .int .u32 0, .int .i64 0, .int .u64 0, .int .u64 0, .int .u64 0, .bool false, .bool false, .int .i64 0, .int .u64 0, .int .i64 0, .int .u64 0, .int .i64 0, .slice none 0 0, .int .u32 0, .int .u64 0, .int .i64 0, .int .u64 0, .bool false, .bool false, .bool false, .slice none 0 0] 40) :: (w.heap.size, .cells #[.int .i64 c.op, .string c.key, .slice a n k, .int .u32 c.flags, .int .i64 c.exp, .int .u64 c.cas, .int .u64 c.delta, .int .u64 c.initial, .bool c.makes, .bool c.sets] 33) :: (g, .cells gc gt) :: (xs ++ ys)) ys c (r.env now) s f x (.slice xa xn xk))) :=
      (hex w5.drew [(sb, .cells (r.up.arr (.slice (some ⟨g, 0, none⟩) r.ss.length cap)) 59), (w2.heap.size, .cells #[.int .i64 now, .int .u64 r.seq, .int .i64 r.flush, .int .u64 r.flushSeq] 35), (w.heap.size + 1, .cells #[.int .i64 0, .int .i64 0, .string ⟨#[]⟩, .slice none 0 0, .int .u32 0, .int .i64 0, .int .u64 0, .int .u64 0, .int .u64 0, .bool false, .bool false, .int .i64 0, .int .u64 0, .int .i64 0, .int .u64 0, .int .i64 0, .slice none 0 0, .int .u32 0, .int .u64 0, .int .i64 0, .int .u64 0, .bool false, .bool false, .bool false, .slice none 0 0] 40), (w.heap.size, .cells #[.int .i64 c.op, .string c.key, .slice a n k, .int .u32 c.flags, .int .i64 c.exp, .int .u64 c.cas, .int .u64 c.delta, .int .u64 c.initial, .bool c.makes, .bool c.sets] 33), (g, .cells gc gt)] hb0 (by show w.heap.size ≤ w5.heap.size; omega)).mono fun e wD ⟨f, x, t, xa, xn, xk, ys, he, H6⟩ => ⟨f, x, t, xa, xn, xk, ys, he, Lib.hid (H6.out.move hbl H6.out.lm H6.out.sub (Nat.le_refl _) (by show w.heap.size + 3 ≤ w5.heap.size; omega))⟩
    have hexA : Calls Tryz.prog 19 #[.pointer (some ⟨b, 0, none⟩), .agg #[.int .i64 c.op, .string c.key, .slice a n k, .int .u32 c.flags, .int .i64 c.exp, .int .u64 c.cas, .int .u64 c.delta, .int .u64 c.initial, .bool c.makes, .bool c.sets], .agg #[.int .i64 now, .int .u64 r.seq, .int .i64 r.flush, .int .u64 r.flushSeq]] (w5.alloc (.cells #[.int .i64 0, .int .i64 0, .string ⟨#[]⟩, .slice none 0 0, .int .u32 0, .int .i64 0, .int .u64 0, .int .u64 0, .int .u64 0, .bool false, .bool false, .int .i64 0, .int .u64 0, .int .i64 0, .int .u64 0, .int .i64 0, .slice none 0 0, .int .u32 0, .int .u64 0, .int .i64 0, .int .u64 0, .bool false, .bool false, .bool false, .slice none 0 0] 40)).drew (fun e wD => ∃ (f : Nat) (x : Res) (t : Shard.St) (xa : Option Addr) (xn xk : Nat) (ys : List (Nat × Obj)), e = .returned (.agg #[.int .i64 x.status, .slice xa xn xk, .int .u32 x.flags, .int .u64 x.cas, .int .i64 x.ttl, .int .u64 x.number, .bool x.stale, .bool x.won, .bool x.lost]) ∧ Hid (Exd W wD (w5.heap.size + 1) M bs r.seed r.ss i t ((w5.heap.size, .cells #[.int .i64 0, .int .i64 0, .string ⟨#[]⟩, .slice none 0 0, .int .u32 0, .int .i64 0, .int .u64 0, .int .u64 0, .int .u64 0, .bool false, .bool false, .int .i64 0, .int .u64 0, .int .i64 0, .int .u64 0, .int .i64 0, .slice none 0 0, .int .u32 0, .int .u64 0, .int .i64 0, .int .u64 0, .bool false, .bool false, .bool false, .slice none 0 0] 40) :: (sb, .cells (r.up.arr (.slice (some ⟨g, 0, none⟩) r.ss.length cap)) 59) :: (w2.heap.size, .cells #[.int .i64 now, .int .u64 r.seq, .int .i64 r.flush, .int .u64 r.flushSeq] 35) :: (w.heap.size + 1, .cells #[.int .i64 0, .int .i64 0, .string ⟨#[]⟩, .slice none 0 0, .int .u32 0, .int .i64 0, .int .u64 0, .int .u64 0, .int .u64 0, .bool false, .bool false, .int .i64 0, .int .u64 0, .int .i64 0, .int .u64 0, .int .i64 0, .slice none 0 0, .int .u32 0, .int .u64 0, .int .i64 0, .int .u64 0, .bool false, .bool false, .bool false, .slice none 0 0] 40) :: (w.heap.size, .cells #[.int .i64 c.op, .string c.key, .slice a n k, .int .u32 c.flags, .int .i64 c.exp, .int .u64 c.cas, .int .u64 c.delta, .int .u64 c.initial, .bool c.makes, .bool c.sets] 33) :: (g, .cells gc gt) :: (xs ++ ys)) ys c (r.env now) s f x (.slice xa xn xk))) :=
      (hex (w5.alloc (.cells #[.int .i64 0, .int .i64 0, .string ⟨#[]⟩, .slice none 0 0, .int .u32 0, .int .i64 0, .int .u64 0, .int .u64 0, .int .u64 0, .bool false, .bool false, .int .i64 0, .int .u64 0, .int .i64 0, .int .u64 0, .int .i64 0, .slice none 0 0, .int .u32 0, .int .u64 0, .int .i64 0, .int .u64 0, .bool false, .bool false, .bool false, .slice none 0 0] 40)).drew ((w5.heap.size, .cells #[.int .i64 0, .int .i64 0, .string ⟨#[]⟩, .slice none 0 0, .int .u32 0, .int .i64 0, .int .u64 0, .int .u64 0, .int .u64 0, .bool false, .bool false, .int .i64 0, .int .u64 0, .int .i64 0, .int .u64 0, .int .i64 0, .slice none 0 0, .int .u32 0, .int .u64 0, .int .i64 0, .int .u64 0, .bool false, .bool false, .bool false, .slice none 0 0] 40) :: [(sb, .cells (r.up.arr (.slice (some ⟨g, 0, none⟩) r.ss.length cap)) 59), (w2.heap.size, .cells #[.int .i64 now, .int .u64 r.seq, .int .i64 r.flush, .int .u64 r.flushSeq] 35), (w.heap.size + 1, .cells #[.int .i64 0, .int .i64 0, .string ⟨#[]⟩, .slice none 0 0, .int .u32 0, .int .i64 0, .int .u64 0, .int .u64 0, .int .u64 0, .bool false, .bool false, .int .i64 0, .int .u64 0, .int .i64 0, .int .u64 0, .int .i64 0, .slice none 0 0, .int .u32 0, .int .u64 0, .int .i64 0, .int .u64 0, .bool false, .bool false, .bool false, .slice none 0 0] 40), (w.heap.size, .cells #[.int .i64 c.op, .string c.key, .slice a n k, .int .u32 c.flags, .int .i64 c.exp, .int .u64 c.cas, .int .u64 c.delta, .int .u64 c.initial, .bool c.makes, .bool c.sets] 33), (g, .cells gc gt)]) hb1 (by show w.heap.size ≤ (w5.alloc _).heap.size; rw [World.size_alloc]; omega)).mono fun e wD ⟨f, x, t, xa, xn, xk, ys, he, H6⟩ => by
        have hs6 : (w5.alloc (.cells #[.int .i64 0, .int .i64 0, .string ⟨#[]⟩, .slice none 0 0, .int .u32 0, .int .i64 0, .int .u64 0, .int .u64 0, .int .u64 0, .bool false, .bool false, .int .i64 0, .int .u64 0, .int .i64 0, .int .u64 0, .int .i64 0, .slice none 0 0, .int .u32 0, .int .u64 0, .int .i64 0, .int .u64 0, .bool false, .bool false, .bool false, .slice none 0 0] 40)).drew.heap.size = w5.heap.size + 1 := World.size_alloc ..
        have H7 : Exd W wD (w5.heap.size + 1) M bs r.seed r.ss i t ((w5.heap.size, .cells #[.int .i64 0, .int .i64 0, .string ⟨#[]⟩, .slice none 0 0, .int .u32 0, .int .i64 0, .int .u64 0, .int .u64 0, .int .u64 0, .bool false, .bool false, .int .i64 0, .int .u64 0, .int .i64 0, .int .u64 0, .int .i64 0, .slice none 0 0, .int .u32 0, .int .u64 0, .int .i64 0, .int .u64 0, .bool false, .bool false, .bool false, .slice none 0 0] 40) :: (sb, .cells (r.up.arr (.slice (some ⟨g, 0, none⟩) r.ss.length cap)) 59) :: (w2.heap.size, .cells #[.int .i64 now, .int .u64 r.seq, .int .i64 r.flush, .int .u64 r.flushSeq] 35) :: (w.heap.size + 1, .cells #[.int .i64 0, .int .i64 0, .string ⟨#[]⟩, .slice none 0 0, .int .u32 0, .int .i64 0, .int .u64 0, .int .u64 0, .int .u64 0, .bool false, .bool false, .int .i64 0, .int .u64 0, .int .i64 0, .int .u64 0, .int .i64 0, .slice none 0 0, .int .u32 0, .int .u64 0, .int .i64 0, .int .u64 0, .bool false, .bool false, .bool false, .slice none 0 0] 40) :: (w.heap.size, .cells #[.int .i64 c.op, .string c.key, .slice a n k, .int .u32 c.flags, .int .i64 c.exp, .int .u64 c.cas, .int .u64 c.delta, .int .u64 c.initial, .bool c.makes, .bool c.sets] 33) :: (g, .cells gc gt) :: (xs ++ ys)) ys c (r.env now) s f x (.slice xa xn xk) := H6.out.move hbl H6.out.lm H6.out.sub (Nat.le_refl _) (by rw [hs6]; exact Nat.le_refl _)
        exact ⟨f, x, t, xa, xn, xk, ys, he, Lib.hid H7⟩
    have HEXA := Lib.hid hexA
    have HEX := Lib.hid hex0
    have HR0 := Lib.hid hr0
    have HR1 := Lib.hid hr1
    have H5L := Lib.hid (And.intro hlt5 (And.intro hbl hz5))
    clear hexA hex hex0 hr0 hr1 hb0 hb1 hL5 hlt5 hbl hz5)
  all_goals go_cut [9] from 42 to 49 (fun p wx => ∃ (d f : Nat) (x : Res) (t : Shard.St) (xa : Option Addr) (xn xk : Nat) (ys : List (Nat × Obj)), p = .pointer (some ⟨d, 0, none⟩) ∧ Hid ((∀ q ∈ ((sb, .cells (r.up.arr (.slice (some ⟨g, 0, none⟩) r.ss.length cap)) 59) :: (w2.heap.size, .cells #[.int .i64 now, .int .u64 r.seq, .int .i64 r.flush, .int .u64 r.flushSeq] 35) :: (w.heap.size + 1, .cells #[.int .i64 0, .int .i64 0, .string ⟨#[]⟩, .slice none 0 0, .int .u32 0, .int .i64 0, .int .u64 0, .int .u64 0, .int .u64 0, .bool false, .bool false, .int .i64 0, .int .u64 0, .int .i64 0, .int .u64 0, .int .i64 0, .slice none 0 0, .int .u32 0, .int .u64 0, .int .i64 0, .int .u64 0, .bool false, .bool false, .bool false, .slice none 0 0] 40) :: (w.heap.size, .cells #[.int .i64 c.op, .string c.key, .slice a n k, .int .u32 c.flags, .int .i64 c.exp, .int .u64 c.cas, .int .u64 c.delta, .int .u64 c.initial, .bool c.makes, .bool c.sets] 33) :: (g, .cells gc gt) :: (xs ++ ys)), q.1 ≠ d) ∧ Exd W wx (w.heap.size + 3) M bs r.seed r.ss i t ((d, .cells #[.int .i64 0, .int .i64 c.op, .string c.key, .slice a n k, .int .u32 c.flags, .int .i64 c.exp, .int .u64 c.cas, .int .u64 c.delta, .int .u64 c.initial, .bool c.makes, .bool c.sets, .int .i64 now, .int .u64 r.seq, .int .i64 r.flush, .int .u64 r.flushSeq, .int .i64 x.status, .slice xa xn xk, .int .u32 x.flags, .int .u64 x.cas, .int .i64 x.ttl, .int .u64 x.number, .bool x.stale, .bool x.won, .bool x.lost, .slice none 0 0] 40) :: (sb, .cells (r.up.arr (.slice (some ⟨g, 0, none⟩) r.ss.length cap)) 59) :: (w2.heap.size, .cells #[.int .i64 now, .int .u64 r.seq, .int .i64 r.flush, .int .u64 r.flushSeq] 35) :: (w.heap.size + 1, .cells #[.int .i64 0, .int .i64 0, .string ⟨#[]⟩, .slice none 0 0, .int .u32 0, .int .i64 0, .int .u64 0, .int .u64 0, .int .u64 0, .bool false, .bool false, .int .i64 0, .int .u64 0, .int .i64 0, .int .u64 0, .int .i64 0, .slice none 0 0, .int .u32 0, .int .u64 0, .int .i64 0, .int .u64 0, .bool false, .bool false, .bool false, .slice none 0 0] 40) :: (w.heap.size, .cells #[.int .i64 c.op, .string c.key, .slice a n k, .int .u32 c.flags, .int .i64 c.exp, .int .u64 c.cas, .int .u64 c.delta, .int .u64 c.initial, .bool c.makes, .bool c.sets] 33) :: (g, .cells gc gt) :: (xs ++ ys)) ys c (r.env now) s f x (.slice xa xn xk)))
  case first =>
    refine wp_region_held_drew (S := fun W' : World => W'.cell? ⟨w.heap.size, 0, none⟩ = some (.int .i64 c.op) ∧ W'.cell? ⟨w.heap.size, 1, none⟩ = some (.string c.key) ∧ W'.cell? ⟨w.heap.size, 2, none⟩ = some (.slice a n k) ∧ W'.cell? ⟨w.heap.size, 3, none⟩ = some (.int .u32 c.flags) ∧ W'.cell? ⟨w.heap.size, 4, none⟩ = some (.int .i64 c.exp) ∧ W'.cell? ⟨w.heap.size, 5, none⟩ = some (.int .u64 c.cas) ∧ W'.cell? ⟨w.heap.size, 6, none⟩ = some (.int .u64 c.delta) ∧ W'.cell? ⟨w.heap.size, 7, none⟩ = some (.int .u64 c.initial) ∧ W'.cell? ⟨w.heap.size, 8, none⟩ = some (.bool c.makes) ∧ W'.cell? ⟨w.heap.size, 9, none⟩ = some (.bool c.sets) ∧ W'.cell? ⟨w2.heap.size, 0, none⟩ = some (.int .i64 now) ∧ W'.cell? ⟨w2.heap.size, 1, none⟩ = some (.int .u64 r.seq) ∧ W'.cell? ⟨w2.heap.size, 2, none⟩ = some (.int .i64 r.flush) ∧ W'.cell? ⟨w2.heap.size, 3, none⟩ = some (.int .u64 r.flushSeq)) (by kernel_rfl) (by first
      | with_reducible exact sb0
      | with_reducible exact sb1) (fun hHeld => ?_)
    refine wpAnyH_take (i := 0) (v := ?_) rfl (by kernel_rfl) (by kernel_rfl) (by kernel_rfl) (fun _ _ _ h => h) (Or.inl ⟨by rfl, ?_⟩) (by assumption) ?_
    rotate_left 1
    · (intro ww hSw; (try dsimp only at hSw); go_simp; (try with_reducible rfl))
    simp only [Act.put, List.setIfInBounds_toArray, List.set_cons_zero, List.set_cons_succ, List.getElem_toArray, List.getElem_cons_zero]
    refine wpAnyH_take (i := 1) (v := ?_) rfl (by kernel_rfl) (by kernel_rfl) (by kernel_rfl) (fun _ _ _ h => h) (Or.inl ⟨by rfl, ?_⟩) (by assumption) ?_
    rotate_left 1
    · (intro ww hSw; (try dsimp only at hSw); go_simp; (try with_reducible rfl))
    simp only [Act.put, List.setIfInBounds_toArray, List.set_cons_zero, List.set_cons_succ, List.getElem_toArray, List.getElem_cons_succ, List.getElem_cons_zero]
    refine wpAnyH_take (i := 2) (v := ?_) rfl (by kernel_rfl) (by kernel_rfl) (by kernel_rfl) (fun _ _ _ h => h) (Or.inl ⟨by rfl, ?_⟩) (by assumption) ?_
    rotate_left 1
    · (intro ww hSw; (try dsimp only at hSw); go_simp; (try with_reducible rfl))
    simp only [Act.put, List.setIfInBounds_toArray, List.set_cons_zero, List.set_cons_succ, List.getElem_toArray, List.getElem_cons_succ, List.getElem_cons_zero]
    refine wpAnyH_take (i := 3) (v := ?_) rfl (by kernel_rfl) (by kernel_rfl) (by kernel_rfl) (fun _ _ _ h => h) (Or.inl ⟨by rfl, ?_⟩) (by assumption) ?_
    rotate_left 1
    · (intro ww hSw; (try dsimp only at hSw); go_simp; (try with_reducible rfl))
    simp only [Act.put, List.setIfInBounds_toArray, List.set_cons_zero, List.set_cons_succ, List.getElem_toArray, List.getElem_cons_succ, List.getElem_cons_zero]
    refine wpAnyH_take (i := 4) (v := ?_) rfl (by kernel_rfl) (by kernel_rfl) (by kernel_rfl) (fun _ _ _ h => h) (Or.inl ⟨by rfl, ?_⟩) (by assumption) ?_
    rotate_left 1
    · (intro ww hSw; (try dsimp only at hSw); go_simp; (try with_reducible rfl))
    simp only [Act.put, List.setIfInBounds_toArray, List.set_cons_zero, List.set_cons_succ, List.getElem_toArray, List.getElem_cons_succ, List.getElem_cons_zero]
    refine wpAnyH_ready (rs := [5, 7]) (by kernel_rfl) (by simp) ?_
    refine AllReadyH.cons rfl (fun K hK => ?_) (AllReadyH.cons rfl (fun K hK => ?_) AllReadyH.nil)
    · skip
      rw [if_pos (by rfl)]
      go_simp
      go_at_call 19; refine HEX.out.mono ?_; rintro en wD ⟨f, x, t, xa, xn, xk, ys, rfl, H6⟩
      go_wp2_with fail
      refine hK.out _ _ (by with_reducible exact HR0.out _ _ _ _ H6.out.lm) (fun hHeld => ?_)
      clear hK K
      try simp only [Act.put, List.setIfInBounds_toArray, List.set_cons_zero, List.set_cons_succ, List.getElem_toArray, List.getElem_cons_succ, List.getElem_cons_zero]
      refine wpAnyH_take (i := 6) (v := ?_) rfl (by kernel_rfl) (by kernel_rfl) (by kernel_rfl) (fun _ _ _ h => h) (Or.inl ⟨by rfl, ?_⟩) (by assumption) ?_
      rotate_left 1
      · (intro ww hSw; (try dsimp only at hSw); go_simp; (try with_reducible rfl))
      simp only [Act.put, List.setIfInBounds_toArray, List.set_cons_zero, List.set_cons_succ, List.getElem_toArray, List.getElem_cons_succ, List.getElem_cons_zero]
      refine wpAnyH_ready (rs := [7]) (by kernel_rfl) (by simp) ?_
      refine AllReadyH.cons rfl (fun K hK => ?_) AllReadyH.nil
      go_simp
      refine hK.out _ _ (by with_reducible exact HR0.out _ _ _ _ (H6.out.lm.below (Mem.al (Below.refl _ _) _))) (fun hHeld => ?_)
      clear hK K
      try simp only [Act.put, List.setIfInBounds_toArray, List.set_cons_zero, List.set_cons_succ, List.getElem_toArray, List.getElem_cons_succ, List.getElem_cons_zero]
      refine wpAnyH_ready (rs := [8]) (by kernel_rfl) (by simp) ?_
      refine AllReadyH.cons rfl (fun K hK => ?_) AllReadyH.nil
      rw [if_pos (by rfl)]
      refine wp_store_row 40 _ _ rfl wD.heap.size #[.int .i64 0, .int .i64 c.op, .string c.key, .slice a n k, .int .u32 c.flags, .int .i64 c.exp, .int .u64 c.cas, .int .u64 c.delta, .int .u64 c.initial, .bool c.makes, .bool c.sets, .int .i64 now, .int .u64 r.seq, .int .i64 r.flush, .int .u64 r.flushSeq, .int .i64 x.status, .slice xa xn xk, .int .u32 x.flags, .int .u64 x.cas, .int .i64 x.ttl, .int .u64 x.number, .bool x.stale, .bool x.won, .bool x.lost, .slice none 0 0] rfl rfl 40 #[.int .i64 0, .int .i64 0, .string ⟨#[]⟩, .slice none 0 0, .int .u32 0, .int .i64 0, .int .u64 0, .int .u64 0, .int .u64 0, .bool false, .bool false, .int .i64 0, .int .u64 0, .int .i64 0, .int .u64 0, .int .i64 0, .slice none 0 0, .int .u32 0, .int .u64 0, .int .i64 0, .int .u64 0, .bool false, .bool false, .bool false, .slice none 0 0] (Mem.new_block wD _) done_sz rfl (done_one c a n k (r.env now) x xa xn xk none 0 0) ?_
      refine hK.out _ _ (by exact HR1.out _ _ _ _ _ (H6.out.fresh2 H5L.out.2.1 #[.int .i64 0, .int .i64 c.op, .string c.key, .slice a n k, .int .u32 c.flags, .int .i64 c.exp, .int .u64 c.cas, .int .u64 c.delta, .int .u64 c.initial, .bool c.makes, .bool c.sets, .int .i64 now, .int .u64 r.seq, .int .i64 r.flush, .int .u64 r.flushSeq, .int .i64 x.status, .slice xa xn xk, .int .u32 x.flags, .int .u64 x.cas, .int .i64 x.ttl, .int .u64 x.number, .bool x.stale, .bool x.won, .bool x.lost, .slice none 0 0]).2.lm) (fun hHeld => ?_)
      clear hK K
      try simp only [Act.put, List.getElem_toArray, List.getElem_cons_succ, List.getElem_cons_zero]
      refine wpAnyH_done (by kernel_rfl) ?_ _
      go_wp2_with fail
      go_meet
      exact ⟨wD.heap.size, f, x, t, xa, xn, xk, ys, rfl, Lib.hid (H6.out.fresh2 H5L.out.2.1 #[.int .i64 0, .int .i64 c.op, .string c.key, .slice a n k, .int .u32 c.flags, .int .i64 c.exp, .int .u64 c.cas, .int .u64 c.delta, .int .u64 c.initial, .bool c.makes, .bool c.sets, .int .i64 now, .int .u64 r.seq, .int .i64 r.flush, .int .u64 r.flushSeq, .int .i64 x.status, .slice xa xn xk, .int .u32 x.flags, .int .u64 x.cas, .int .i64 x.ttl, .int .u64 x.number, .bool x.stale, .bool x.won, .bool x.lost, .slice none 0 0])⟩
    · skip
      go_simp
      refine hK.out _ _ (by with_reducible exact sb1) (fun hHeld => ?_)
      clear hK K
      try simp only [Act.put, List.setIfInBounds_toArray, List.set_cons_zero, List.set_cons_succ, List.getElem_toArray, List.getElem_cons_succ, List.getElem_cons_zero]
      refine wpAnyH_ready (rs := [5]) (by kernel_rfl) (by simp) ?_
      refine AllReadyH.cons rfl (fun K hK => ?_) AllReadyH.nil
      rw [if_pos (by rfl)]
      go_simp
      go_at_call 19; refine HEXA.out.mono ?_; rintro en wD ⟨f, x, t, xa, xn, xk, ys, rfl, H6⟩
      go_wp2_with fail
      refine hK.out _ _ (by with_reducible exact HR1.out _ _ _ _ _ H6.out.lm) (fun hHeld => ?_)
      clear hK K
      try simp only [Act.put, List.setIfInBounds_toArray, List.set_cons_zero, List.set_cons_succ, List.getElem_toArray, List.getElem_cons_succ, List.getElem_cons_zero]
      refine wpAnyH_take (i := 6) (v := ?_) rfl (by kernel_rfl) (by kernel_rfl) (by kernel_rfl) (fun _ _ _ h => h) (Or.inl ⟨by rfl, ?_⟩) (by assumption) ?_
      rotate_left 1
      · (intro ww hSw; (try dsimp only at hSw); go_simp; (try with_reducible rfl))
      simp only [Act.put, List.setIfInBounds_toArray, List.set_cons_zero, List.set_cons_succ, List.getElem_toArray, List.getElem_cons_succ, List.getElem_cons_zero]
      refine wpAnyH_ready (rs := [8]) (by kernel_rfl) (by simp) ?_
      refine AllReadyH.cons rfl (fun K hK => ?_) AllReadyH.nil
      rw [if_pos (by rfl)]
      refine wp_store_row 40 _ _ rfl w5.heap.size #[.int .i64 0, .int .i64 c.op, .string c.key, .slice a n k, .int .u32 c.flags, .int .i64 c.exp, .int .u64 c.cas, .int .u64 c.delta, .int .u64 c.initial, .bool c.makes, .bool c.sets, .int .i64 now, .int .u64 r.seq, .int .i64 r.flush, .int .u64 r.flushSeq, .int .i64 x.status, .slice xa xn xk, .int .u32 x.flags, .int .u64 x.cas, .int .i64 x.ttl, .int .u64 x.number, .bool x.stale, .bool x.won, .bool x.lost, .slice none 0 0] rfl rfl 40 #[.int .i64 0, .int .i64 0, .string ⟨#[]⟩, .slice none 0 0, .int .u32 0, .int .i64 0, .int .u64 0, .int .u64 0, .int .u64 0, .bool false, .bool false, .int .i64 0, .int .u64 0, .int .i64 0, .int .u64 0, .int .i64 0, .slice none 0 0, .int .u32 0, .int .u64 0, .int .i64 0, .int .u64 0, .bool false, .bool false, .bool false, .slice none 0 0] H6.out.lm.r0 done_sz rfl (done_one c a n k (r.env now) x xa xn xk none 0 0) ?_
      refine hK.out _ _ (by exact HR1.out _ _ _ _ _ (H6.out.fill H5L.out.2.1 (apart_of (pre := [(sb, .cells (r.up.arr (.slice (some ⟨g, 0, none⟩) r.ss.length cap)) 59), (w2.heap.size, .cells #[.int .i64 now, .int .u64 r.seq, .int .i64 r.flush, .int .u64 r.flushSeq] 35), (w.heap.size + 1, .cells #[.int .i64 0, .int .i64 0, .string ⟨#[]⟩, .slice none 0 0, .int .u32 0, .int .i64 0, .int .u64 0, .int .u64 0, .int .u64 0, .bool false, .bool false, .int .i64 0, .int .u64 0, .int .i64 0, .int .u64 0, .int .i64 0, .slice none 0 0, .int .u32 0, .int .u64 0, .int .i64 0, .int .u64 0, .bool false, .bool false, .bool false, .slice none 0 0] 40), (w.heap.size, .cells #[.int .i64 c.op, .string c.key, .slice a n k, .int .u32 c.flags, .int .i64 c.exp, .int .u64 c.cas, .int .u64 c.delta, .int .u64 c.initial, .bool c.makes, .bool c.sets] 33), (g, .cells gc gt)]) H5L.out.1 H6.out.lo) #[.int .i64 0, .int .i64 c.op, .string c.key, .slice a n k, .int .u32 c.flags, .int .i64 c.exp, .int .u64 c.cas, .int .u64 c.delta, .int .u64 c.initial, .bool c.makes, .bool c.sets, .int .i64 now, .int .u64 r.seq, .int .i64 r.flush, .int .u64 r.flushSeq, .int .i64 x.status, .slice xa xn xk, .int .u32 x.flags, .int .u64 x.cas, .int .i64 x.ttl, .int .u64 x.number, .bool x.stale, .bool x.won, .bool x.lost, .slice none 0 0] (Nat.le_refl _)).2.lm) (fun hHeld => ?_)
      clear hK K
      try simp only [Act.put, List.getElem_toArray, List.getElem_cons_succ, List.getElem_cons_zero]
      refine wpAnyH_done (by kernel_rfl) ?_ _
      go_wp2_with fail
      go_meet
      exact ⟨w5.heap.size, f, x, t, xa, xn, xk, ys, rfl, Lib.hid (H6.out.fill H5L.out.2.1 (apart_of (pre := [(sb, .cells (r.up.arr (.slice (some ⟨g, 0, none⟩) r.ss.length cap)) 59), (w2.heap.size, .cells #[.int .i64 now, .int .u64 r.seq, .int .i64 r.flush, .int .u64 r.flushSeq] 35), (w.heap.size + 1, .cells #[.int .i64 0, .int .i64 0, .string ⟨#[]⟩, .slice none 0 0, .int .u32 0, .int .i64 0, .int .u64 0, .int .u64 0, .int .u64 0, .bool false, .bool false, .int .i64 0, .int .u64 0, .int .i64 0, .int .u64 0, .int .i64 0, .slice none 0 0, .int .u32 0, .int .u64 0, .int .i64 0, .int .u64 0, .bool false, .bool false, .bool false, .slice none 0 0] 40), (w.heap.size, .cells #[.int .i64 c.op, .string c.key, .slice a n k, .int .u32 c.flags, .int .i64 c.exp, .int .u64 c.cas, .int .u64 c.delta, .int .u64 c.initial, .bool c.makes, .bool c.sets] 33), (g, .cells gc gt)]) H5L.out.1 H6.out.lo) #[.int .i64 0, .int .i64 c.op, .string c.key, .slice a n k, .int .u32 c.flags, .int .i64 c.exp, .int .u64 c.cas, .int .u64 c.delta, .int .u64 c.initial, .bool c.makes, .bool c.sets, .int .i64 now, .int .u64 r.seq, .int .i64 r.flush, .int .u64 r.flushSeq, .int .i64 x.status, .slice xa xn xk, .int .u32 x.flags, .int .u64 x.cas, .int .i64 x.ttl, .int .u64 x.number, .bool x.stale, .bool x.won, .bool x.lost, .slice none 0 0] (by have := H5L.out.2.2; omega))⟩
  case rest =>
    obtain ⟨d, f, x, t, xa, xn, xk, ys, rfl, H6⟩ := hcut
    have hbl : 0 < bs.length := by have h1 := HS.out.2.2.2.1; have h2 := HS.out.2.2.2.2.2.2.2.2.1; omega
    have k0 : wc.cell? ⟨w.heap.size, 0, none⟩ = some (.int .i64 c.op) := Mem.row_cell H6.out.2.lm.r4 0
    have k4 : wc.cell? ⟨w.heap.size, 4, none⟩ = some (.int .i64 c.exp) := Mem.row_cell H6.out.2.lm.r4 4
    have hset : (r.ss.set i t)[i]? = some t := List.getElem?_set_self HS.out.2.2.2.2.2.2.2.1
    have hdr := H6.out.2.lm.drops HV.out.2.2.2.2.2.2.2.2.1 HS.out.2.2.2.2.2.2.2.2.2.1 hset
    have hz1 : (r.ss.set i t).length = r.ss.length := List.length_set
    have HB := Lib.hid (And.intro hbl hz1)
    have hfn : ∀ (wz : World) (ss2 : List Shard.St) (sv : Array Value) (nd : Array Value) (yz : List (Nat × Obj)), LM W wz (M + 2) bs r.seed ss2 ((d, .cells nd 40) :: (sb, .cells sv 59) :: (w2.heap.size, .cells #[.int .i64 now, .int .u64 r.seq, .int .i64 r.flush, .int .u64 r.flushSeq] 35) :: (w.heap.size + 1, .cells #[.int .i64 0, .int .i64 0, .string ⟨#[]⟩, .slice none 0 0, .int .u32 0, .int .i64 0, .int .u64 0, .int .u64 0, .int .u64 0, .bool false, .bool false, .int .i64 0, .int .u64 0, .int .i64 0, .int .u64 0, .int .i64 0, .slice none 0 0, .int .u32 0, .int .u64 0, .int .i64 0, .int .u64 0, .bool false, .bool false, .bool false, .slice none 0 0] 40) :: (w.heap.size, .cells #[.int .i64 c.op, .string c.key, .slice a n k, .int .u32 c.flags, .int .i64 c.exp, .int .u64 c.cas, .int .u64 c.delta, .int .u64 c.initial, .bool c.makes, .bool c.sets] 33) :: (g, .cells gc gt) :: (xs ++ yz)) → (∀ p ∈ yz, p.1 ≠ w.heap.size + 1) → LM W (wz.setRow (w.heap.size + 1) nd) (M + 2) bs r.seed ss2 ((sb, .cells sv 59) :: (g, .cells gc gt) :: (xs ++ yz)) := by
      intro wz ss2 sv nd yz h hy
      have h1 := h.sub (xs' := (w.heap.size + 1, .cells #[.int .i64 0, .int .i64 0, .string ⟨#[]⟩, .slice none 0 0, .int .u32 0, .int .i64 0, .int .u64 0, .int .u64 0, .int .u64 0, .bool false, .bool false, .int .i64 0, .int .u64 0, .int .i64 0, .int .u64 0, .int .i64 0, .slice none 0 0, .int .u32 0, .int .u64 0, .int .i64 0, .int .u64 0, .bool false, .bool false, .bool false, .slice none 0 0] 40) :: (sb, .cells sv 59) :: (g, .cells gc gt) :: (xs ++ yz)) (fun p hp => by
        rcases List.mem_cons.1 hp with rfl | hp
        · simp
        rcases List.mem_cons.1 hp with rfl | hp
        · simp
        rcases List.mem_cons.1 hp with rfl | hp
        · simp
        · simp only [List.mem_cons]; exact .inr (.inr (.inr (.inr (.inr (.inr hp))))))
      refine (h1.setRow (fun q hq => ?_) nd).sub fun p hp => List.mem_cons_of_mem _ hp
      have q1 := HS.out.2.2.2.2.2.2.2.2.2.2.2.2
      rcases List.mem_cons.1 hq with rfl | hq
      · show sb ≠ w.heap.size + 1; omega
      rcases List.mem_cons.1 hq with rfl | hq
      · have := HG.out; show g ≠ w.heap.size + 1; omega
      rcases List.mem_append.1 hq with hq | hq
      · have := HX.out q hq; omega
      · exact hy q hq
    have HFN := Lib.hid hfn
    clear hfn hset hbl hz1
    have hys1 : ∀ p ∈ ys, p.1 ≠ w.heap.size + 1 := fun p hp => by have := H6.out.2.lo p hp; omega
    have hyb : ∀ p ∈ ys, p.1 ≠ sb ∧ p.1 ≠ g := fun p hp => by have h1 := H6.out.2.lo p hp; have h2 := HS.out.2.2.2.2.2.2.2.2.2.2.2.2; have h3 := HG.out; omega
    have HYS := Lib.hid (And.intro hys1 hyb)
    clear hys1 hyb
    rcases hk : keyed c.op with _ | _
    · have hdz : dropped c t = [] := by unfold dropped; rw [hk]; rfl
      by_cases h13 : c.op = 13
      · have e13 : (c.op == 13) = true := by rw [h13]; rfl
        obtain ⟨fe, hfe⟩ : ∃ fe, flushS c.exp (r.env now) = fe := ⟨_, rfl⟩
        have hfl := fun w' => flush_any c.exp (r.env now) w'
        rw [hfe] at hfl
        unfold Shard.Env.arr RS.env at hfl
        have HE := Lib.hid (And.intro h13 (And.intro hk (And.intro hdz hfe)))
        clear hdr h13 hdz hfe
        have v0 : wc.cell? ⟨w2.heap.size, 0, none⟩ = some (.int .i64 now) := Mem.row_cell H6.out.2.lm.r2 0
        have v1 : wc.cell? ⟨w2.heap.size, 1, none⟩ = some (.int .u64 r.seq) := Mem.row_cell H6.out.2.lm.r2 1
        have v2 : wc.cell? ⟨w2.heap.size, 2, none⟩ = some (.int .i64 r.flush) := Mem.row_cell H6.out.2.lm.r2 2
        have v3 : wc.cell? ⟨w2.heap.size, 3, none⟩ = some (.int .u64 r.flushSeq) := Mem.row_cell H6.out.2.lm.r2 3
        go_wp2_with fail
        refine (keyed_any c.op _).mono ?_
        rintro e wk ⟨rfl, hwk⟩
        subst hwk
        rw [hk]
        clear hk
        go_wp2_with fail
        refine (hfl _).mono ?_
        rintro e wF ⟨rfl, hbF⟩
        have hLG := (H6.out.2.lm.below hbF).alloc ((H6.out.2.lm.below hbF).low HB.out.1).size (.cells #[.int .i64 fe.now, .int .u64 fe.seq, .int .i64 fe.flush, .int .u64 fe.flushSeq] 35)
        have hne : wF.heap.size ≠ sb := by have h1 := hbF.size; have h2 := H6.out.2.size; have h3 := HS.out.2.2.2.2.2.2.2.2.2.2.2.2; omega
        have hzF := hbF.size
        clear hbF hfl v0 v1 v2 v3 k0 k4
        go_upto_region 9 with (fail)
        obtain ⟨wG, hwG⟩ : ∃ wG, wF.alloc (.cells #[.int .i64 fe.now, .int .u64 fe.seq, .int .i64 fe.flush, .int .u64 fe.flushSeq] 35) = wG := ⟨_, rfl⟩
        obtain ⟨nb, hnb⟩ : ∃ nb, wF.heap.size = nb := ⟨_, rfl⟩
        have hzG : wG.heap.size = wF.heap.size + 1 := by rw [← hwG]; exact World.size_alloc ..
        have HZ := Lib.hid (And.intro hzF hzG)
        rw [hwG, hnb] at hLG
        rw [hwG, hnb]
        rw [hnb] at hne
        clear hwG hnb hzF hzG
        have s3 : wG.cell? ⟨sb, 3, none⟩ = some (.int .i64 r.flush) := Mem.row_cell hLG.r2 3
        have s4 : wG.cell? ⟨sb, 4, none⟩ = some (.int .u64 r.flushSeq) := Mem.row_cell hLG.r2 4
        have f3 := Mem.row_free hLG.r2 3
        have f4 := Mem.row_free hLG.r2 4
        have b2 : wG.cell? ⟨nb, 2, none⟩ = some (.int .i64 fe.flush) := Mem.row_cell hLG.r0 2
        have b3 : wG.cell? ⟨nb, 3, none⟩ = some (.int .u64 fe.flushSeq) := Mem.row_cell hLG.r0 3
        have hfar : ∀ (W' : World) i u j, (W'.setCell ⟨sb, i, none⟩ u).cell? ⟨nb, j, none⟩ = W'.cell? ⟨nb, j, none⟩ := fun W' i u j => World.cell?_setCell_far W' ⟨sb, i, none⟩ ⟨nb, j, none⟩ u (fun e => hne e.symm)
        have HG2 := Lib.hid (And.intro hLG hne)
        clear hLG hne
        go_region
        have hds : d ≠ sb := fun e => H6.out.1 (sb, .cells (r.up.arr (.slice (some ⟨g, 0, none⟩) r.ss.length cap)) 59) (List.mem_cons_self ..) e.symm
        have hsr := (HG2.out.1.sub (xs' := (sb, .cells (r.up.arr (.slice (some ⟨g, 0, none⟩) r.ss.length cap)) 59) :: (d, .cells #[.int .i64 0, .int .i64 c.op, .string c.key, .slice a n k, .int .u32 c.flags, .int .i64 c.exp, .int .u64 c.cas, .int .u64 c.delta, .int .u64 c.initial, .bool c.makes, .bool c.sets, .int .i64 now, .int .u64 r.seq, .int .i64 r.flush, .int .u64 r.flushSeq, .int .i64 x.status, .slice xa xn xk, .int .u32 x.flags, .int .u64 x.cas, .int .i64 x.ttl, .int .u64 x.number, .bool x.stale, .bool x.won, .bool x.lost, .slice none 0 0] 40) :: (w2.heap.size, .cells #[.int .i64 now, .int .u64 r.seq, .int .i64 r.flush, .int .u64 r.flushSeq] 35) :: (w.heap.size + 1, .cells #[.int .i64 0, .int .i64 0, .string ⟨#[]⟩, .slice none 0 0, .int .u32 0, .int .i64 0, .int .u64 0, .int .u64 0, .int .u64 0, .bool false, .bool false, .int .i64 0, .int .u64 0, .int .i64 0, .int .u64 0, .int .i64 0, .slice none 0 0, .int .u32 0, .int .u64 0, .int .i64 0, .int .u64 0, .bool false, .bool false, .bool false, .slice none 0 0] 40) :: (w.heap.size, .cells #[.int .i64 c.op, .string c.key, .slice a n k, .int .u32 c.flags, .int .i64 c.exp, .int .u64 c.cas, .int .u64 c.delta, .int .u64 c.initial, .bool c.makes, .bool c.sets] 33) :: (g, .cells gc gt) :: (xs ++ ys)) (fun p hp => by
          rcases List.mem_cons.1 hp with rfl | hp
          · exact List.mem_cons_of_mem _ (List.mem_cons_of_mem _ (List.mem_cons_self ..))
          rcases List.mem_cons.1 hp with rfl | hp
          · exact List.mem_cons_of_mem _ (List.mem_cons_self ..)
          · exact List.mem_cons_of_mem _ (List.mem_cons_of_mem _ (List.mem_cons_of_mem _ hp))))
        have hq : ∀ q ∈ ((d, .cells #[.int .i64 0, .int .i64 c.op, .string c.key, .slice a n k, .int .u32 c.flags, .int .i64 c.exp, .int .u64 c.cas, .int .u64 c.delta, .int .u64 c.initial, .bool c.makes, .bool c.sets, .int .i64 now, .int .u64 r.seq, .int .i64 r.flush, .int .u64 r.flushSeq, .int .i64 x.status, .slice xa xn xk, .int .u32 x.flags, .int .u64 x.cas, .int .i64 x.ttl, .int .u64 x.number, .bool x.stale, .bool x.won, .bool x.lost, .slice none 0 0] 40) :: (w2.heap.size, .cells #[.int .i64 now, .int .u64 r.seq, .int .i64 r.flush, .int .u64 r.flushSeq] 35) :: (w.heap.size + 1, .cells #[.int .i64 0, .int .i64 0, .string ⟨#[]⟩, .slice none 0 0, .int .u32 0, .int .i64 0, .int .u64 0, .int .u64 0, .int .u64 0, .bool false, .bool false, .int .i64 0, .int .u64 0, .int .i64 0, .int .u64 0, .int .i64 0, .slice none 0 0, .int .u32 0, .int .u64 0, .int .i64 0, .int .u64 0, .bool false, .bool false, .bool false, .slice none 0 0] 40) :: (w.heap.size, .cells #[.int .i64 c.op, .string c.key, .slice a n k, .int .u32 c.flags, .int .i64 c.exp, .int .u64 c.cas, .int .u64 c.delta, .int .u64 c.initial, .bool c.makes, .bool c.sets] 33) :: (g, .cells gc gt) :: (xs ++ ys) : List (Nat × Obj)), q.1 ≠ sb := fun q hq => by
          have h1 := HZ2.out
          have h2 := HS.out.2.2.2.2.2.2.2.2.2.2.2.2
          have h3 := HS.out.2.1
          simp only [List.mem_cons, List.mem_append] at hq
          rcases hq with rfl | rfl | rfl | rfl | rfl | hq | hq
          · exact hds
          · show w2.heap.size ≠ sb; omega
          · show w.heap.size + 1 ≠ sb; omega
          · show w.heap.size ≠ sb; omega
          · show g ≠ sb; omega
          · exact (HS.out.2.2.1 q hq).1
          · exact (HYS.out.2 q hq).1
        have hLH := LM.below ((hsr.setCell (j := 3) hq (.int .i64 fe.flush)).setCell (j := 4) hq (.int .u64 fe.flushSeq)) (Below.drew (Below.refl _ _))
        obtain ⟨wH, hwH⟩ : ∃ wH, ((wG.setCell ⟨sb, 3, none⟩ (.int .i64 fe.flush)).setCell ⟨sb, 4, none⟩ (.int .u64 fe.flushSeq)).drew = wH := ⟨_, rfl⟩
        have hzH : wH.heap.size = wG.heap.size := by rw [← hwH]; simp [World.setCell, World.drew]
        rw [hwH] at hLH
        rw [hwH]
        replace hLH : LM W wH (M + 2) bs r.seed (r.ss.set i t) ((d, .cells #[.int .i64 0, .int .i64 c.op, .string c.key, .slice a n k, .int .u32 c.flags, .int .i64 c.exp, .int .u64 c.cas, .int .u64 c.delta, .int .u64 c.initial, .bool c.makes, .bool c.sets, .int .i64 now, .int .u64 r.seq, .int .i64 r.flush, .int .u64 r.flushSeq, .int .i64 x.status, .slice xa xn xk, .int .u32 x.flags, .int .u64 x.cas, .int .i64 x.ttl, .int .u64 x.number, .bool x.stale, .bool x.won, .bool x.lost, .slice none 0 0] 40) :: (sb, .cells #[.int .u64 r.seed, .slice (some ⟨g, 0, none⟩) r.ss.length cap, .int .u64 (IntKind.u64.wrap (r.seq + 1)), .int .i64 fe.flush, .int .u64 fe.flushSeq] 59) :: (w2.heap.size, .cells #[.int .i64 now, .int .u64 r.seq, .int .i64 r.flush, .int .u64 r.flushSeq] 35) :: (w.heap.size + 1, .cells #[.int .i64 0, .int .i64 0, .string ⟨#[]⟩, .slice none 0 0, .int .u32 0, .int .i64 0, .int .u64 0, .int .u64 0, .int .u64 0, .bool false, .bool false, .int .i64 0, .int .u64 0, .int .i64 0, .int .u64 0, .int .i64 0, .slice none 0 0, .int .u32 0, .int .u64 0, .int .i64 0, .int .u64 0, .bool false, .bool false, .bool false, .slice none 0 0] 40) :: (w.heap.size, .cells #[.int .i64 c.op, .string c.key, .slice a n k, .int .u32 c.flags, .int .i64 c.exp, .int .u64 c.cas, .int .u64 c.delta, .int .u64 c.initial, .bool c.makes, .bool c.sets] 33) :: (g, .cells gc gt) :: (xs ++ ys)) := hLH.sub (fun p hp => by
          rcases List.mem_cons.1 hp with rfl | hp
          · exact List.mem_cons_of_mem _ (List.mem_cons_self ..)
          rcases List.mem_cons.1 hp with rfl | hp
          · exact List.mem_cons_self ..
          · exact List.mem_cons_of_mem _ (List.mem_cons_of_mem _ hp))
        have HH := Lib.hid (And.intro hLH hzH)
        clear hds hsr hq hLH hzH hwH s3 s4 f3 f4 b2 b3 hfar
        go_wp2_with (first
          | (refine wpList_load_row rfl 40 _ rfl d rfl 40 _ (0, 0) _ HH.out.1.r0 Tryz.underlying40 rfl (done_size c (.slice a n k) (r.env now) x (.slice xa xn xk) (.slice none 0 0)) ?_)
          | (refine wpList_store_row rfl 40 _ _ rfl (w.heap.size + 1) _ rfl rfl 40 zeroD HH.out.1.r3 (done_size c (.slice a n k) (r.env now) x (.slice xa xn xk) (.slice none 0 0)) rfl (done_one c a n k (r.env now) x xa xn xk none 0 0) ?_)
          | fail)
        refine bodyPost_ret (results_cell_row Tryz.results11 _ _ (w.heap.size + 1) _ _ _ _ rfl (setRow_heap _ _ _ _ _ _ HH.out.1.r3) Tryz.underlying40 rfl (done_size c (.slice a n k) (r.env now) x (.slice xa xn xk) (.slice none 0 0))) rfl ?_
        have haf : r.after i t c now = { r.up with ss := r.ss.set i t, flush := fe.flush, flushSeq := fe.flushSeq } := by unfold RS.after; rw [if_neg (by rw [HE.out.2.1]; decide), if_pos HE.out.1, HE.out.2.2.2]
        exact DoP.of (r' := r.after i t c now) H6.out.2 ⟨i, s, t, f, HS.out.2.2.2.2.2.2.1, HS.out.2.2.2.2.2.2.2.2.2.2.1, H6.out.2.new, H6.out.2.run, HE.out.2.2.1.symm, rfl⟩ (by rw [haf]; exact HFN.out _ _ _ _ _ HH.out.1 HYS.out.1) (fun _ hp => hp) (by rw [size_setRow]; have h1 := HH.out.2; have h2 := HZ.out; omega) (by omega) HS.out.1 HS.out.2.1 HS.out.2.2.1 HYS.out.2 HS.out.2.2.2.1 HS.out.2.2.2.2.1 HS.out.2.2.2.2.2.1 (by rw [haf]; exact HB.out.2) (by rw [haf]; rfl) (src_none _) (held_none _ _)
      · have e13 : (c.op == 13) = false := by simpa using h13
        have HE := Lib.hid (And.intro h13 (And.intro hk hdz))
        clear hdr h13 hdz
        go_wp2_with fail
        refine (keyed_any c.op _).mono ?_
        rintro e wk ⟨rfl, hwk⟩
        subst hwk
        rw [hk]
        clear hk
        go_wp2_with (first
          | (refine wpList_load_row rfl 40 _ rfl d rfl 40 _ (0, 0) _ H6.out.2.lm.r0 Tryz.underlying40 rfl (done_size c (.slice a n k) (r.env now) x (.slice xa xn xk) (.slice none 0 0)) ?_)
          | (refine wpList_store_row rfl 40 _ _ rfl (w.heap.size + 1) _ rfl rfl 40 zeroD H6.out.2.lm.r3 (done_size c (.slice a n k) (r.env now) x (.slice xa xn xk) (.slice none 0 0)) rfl (done_one c a n k (r.env now) x xa xn xk none 0 0) ?_)
          | fail)
        refine bodyPost_ret (results_cell_row Tryz.results11 _ _ (w.heap.size + 1) _ _ _ _ rfl (setRow_heap _ _ _ _ _ _ H6.out.2.lm.r3) Tryz.underlying40 rfl (done_size c (.slice a n k) (r.env now) x (.slice xa xn xk) (.slice none 0 0))) rfl ?_
        have haf : r.after i t c now = { r.up with ss := r.ss.set i t } := by unfold RS.after; rw [if_neg (by rw [HE.out.2.1]; decide), if_neg HE.out.1]
        exact DoP.of (r' := r.after i t c now) H6.out.2 ⟨i, s, t, f, HS.out.2.2.2.2.2.2.1, HS.out.2.2.2.2.2.2.2.2.2.2.1, H6.out.2.new, H6.out.2.run, HE.out.2.2.symm, rfl⟩ (by rw [haf]; exact HFN.out _ _ _ _ _ H6.out.2.lm HYS.out.1) (fun _ hp => hp) (by rw [size_setRow]; exact Nat.le_refl _) (by omega) HS.out.1 HS.out.2.1 HS.out.2.2.1 HYS.out.2 HS.out.2.2.2.1 HS.out.2.2.2.2.1 HS.out.2.2.2.2.2.1 (by rw [haf]; exact HB.out.2) (by rw [haf]; rfl) (src_none _) (held_none _ _)
    · have HE := Lib.hid hk
      go_wp2_with fail
      refine (keyed_any c.op _).mono ?_
      rintro e wk ⟨rfl, hwk⟩
      subst hwk
      rw [hk]
      clear hk
      go_wp2_with fail
      refine hdr.mono ?_
      rintro e wd ⟨v, ys2, rfl, ⟨a2, n2, k2, rfl⟩, hLd, hap, hsd2, hhd, hzd⟩
      replace hLd : LM W wd (M + 2) bs r.seed ((r.ss.set i t).set i { t with drops := [] }) ((d, .cells #[.int .i64 0, .int .i64 c.op, .string c.key, .slice a n k, .int .u32 c.flags, .int .i64 c.exp, .int .u64 c.cas, .int .u64 c.delta, .int .u64 c.initial, .bool c.makes, .bool c.sets, .int .i64 now, .int .u64 r.seq, .int .i64 r.flush, .int .u64 r.flushSeq, .int .i64 x.status, .slice xa xn xk, .int .u32 x.flags, .int .u64 x.cas, .int .i64 x.ttl, .int .u64 x.number, .bool x.stale, .bool x.won, .bool x.lost, .slice none 0 0] 40) :: (sb, .cells (r.up.arr (.slice (some ⟨g, 0, none⟩) r.ss.length cap)) 59) :: (w2.heap.size, .cells #[.int .i64 now, .int .u64 r.seq, .int .i64 r.flush, .int .u64 r.flushSeq] 35) :: (w.heap.size + 1, .cells #[.int .i64 0, .int .i64 0, .string ⟨#[]⟩, .slice none 0 0, .int .u32 0, .int .i64 0, .int .u64 0, .int .u64 0, .int .u64 0, .bool false, .bool false, .int .i64 0, .int .u64 0, .int .i64 0, .int .u64 0, .int .i64 0, .slice none 0 0, .int .u32 0, .int .u64 0, .int .i64 0, .int .u64 0, .bool false, .bool false, .bool false, .slice none 0 0] 40) :: (w.heap.size, .cells #[.int .i64 c.op, .string c.key, .slice a n k, .int .u32 c.flags, .int .i64 c.exp, .int .u64 c.cas, .int .u64 c.delta, .int .u64 c.initial, .bool c.makes, .bool c.sets] 33) :: (g, .cells gc gt) :: ((xs ++ ys) ++ ys2)) := hLd
      rw [List.set_set, List.append_assoc] at hLd
      have q24 : wd.cell? ⟨d, 24, none⟩ = some (.slice none 0 0) := Mem.row_cell hLd.r0 24
      have f24 := Mem.row_free hLd.r0 24
      have HD := Lib.hid (And.intro hLd (And.intro hap (And.intro hsd2 (And.intro hhd hzd))))
      clear hLd hap hsd2 hhd hzd hdr k0 k4
      go_upto_region 10 with (fail)
      have hLe := HD.out.1.setCell (j := 24) (fun q hq => by
        have h0 := H6.out.1
        simp only [List.mem_cons, List.mem_append] at hq h0
        rcases hq with hq | hq | hq | hq | hq | hq | hq | hq
        · exact h0 q (.inl hq)
        · exact h0 q (.inr (.inl hq))
        · exact h0 q (.inr (.inr (.inl hq)))
        · exact h0 q (.inr (.inr (.inr (.inl hq))))
        · exact h0 q (.inr (.inr (.inr (.inr (.inl hq)))))
        · exact h0 q (.inr (.inr (.inr (.inr (.inr (.inl hq))))))
        · exact h0 q (.inr (.inr (.inr (.inr (.inr (.inr hq))))))
        · exact fun e => HD.out.2.1 q hq (d, .cells #[.int .i64 0, .int .i64 c.op, .string c.key, .slice a n k, .int .u32 c.flags, .int .i64 c.exp, .int .u64 c.cas, .int .u64 c.delta, .int .u64 c.initial, .bool c.makes, .bool c.sets, .int .i64 now, .int .u64 r.seq, .int .i64 r.flush, .int .u64 r.flushSeq, .int .i64 x.status, .slice xa xn xk, .int .u32 x.flags, .int .u64 x.cas, .int .i64 x.ttl, .int .u64 x.number, .bool x.stale, .bool x.won, .bool x.lost, .slice none 0 0] 40) (List.mem_cons_self ..) e.symm) (.slice a2 n2 k2)
      obtain ⟨we, hwe⟩ : ∃ we, wd.setCell ⟨d, 24, none⟩ (.slice a2 n2 k2) = we := ⟨_, rfl⟩
      have hze : we.heap.size = wd.heap.size := by rw [← hwe]; simp [World.setCell]
      rw [hwe] at hLe
      rw [hwe]
      replace hLe : LM W we (M + 2) bs r.seed (r.ss.set i { t with drops := [] }) ((d, .cells #[.int .i64 0, .int .i64 c.op, .string c.key, .slice a n k, .int .u32 c.flags, .int .i64 c.exp, .int .u64 c.cas, .int .u64 c.delta, .int .u64 c.initial, .bool c.makes, .bool c.sets, .int .i64 now, .int .u64 r.seq, .int .i64 r.flush, .int .u64 r.flushSeq, .int .i64 x.status, .slice xa xn xk, .int .u32 x.flags, .int .u64 x.cas, .int .i64 x.ttl, .int .u64 x.number, .bool x.stale, .bool x.won, .bool x.lost, .slice a2 n2 k2] 40) :: (sb, .cells (r.up.arr (.slice (some ⟨g, 0, none⟩) r.ss.length cap)) 59) :: (w2.heap.size, .cells #[.int .i64 now, .int .u64 r.seq, .int .i64 r.flush, .int .u64 r.flushSeq] 35) :: (w.heap.size + 1, .cells #[.int .i64 0, .int .i64 0, .string ⟨#[]⟩, .slice none 0 0, .int .u32 0, .int .i64 0, .int .u64 0, .int .u64 0, .int .u64 0, .bool false, .bool false, .int .i64 0, .int .u64 0, .int .i64 0, .int .u64 0, .int .i64 0, .slice none 0 0, .int .u32 0, .int .u64 0, .int .i64 0, .int .u64 0, .bool false, .bool false, .bool false, .slice none 0 0] 40) :: (w.heap.size, .cells #[.int .i64 c.op, .string c.key, .slice a n k, .int .u32 c.flags, .int .i64 c.exp, .int .u64 c.cas, .int .u64 c.delta, .int .u64 c.initial, .bool c.makes, .bool c.sets] 33) :: (g, .cells gc gt) :: (xs ++ (ys ++ ys2))) := hLe
      have HL := Lib.hid (And.intro hLe hze)
      clear hLe hze hwe q24 f24
      go_wp2_with (first
        | (refine wpList_load_row rfl 40 _ rfl d rfl 40 _ (0, 0) _ HL.out.1.r0 Tryz.underlying40 rfl (done_size c (.slice a n k) (r.env now) x (.slice xa xn xk) (.slice a2 n2 k2)) ?_)
        | (refine wpList_store_row rfl 40 _ _ rfl (w.heap.size + 1) _ rfl rfl 40 zeroD HL.out.1.r3 (done_size c (.slice a n k) (r.env now) x (.slice xa xn xk) (.slice a2 n2 k2)) rfl (done_one c a n k (r.env now) x xa xn xk a2 n2 k2) ?_)
        | fail)
      refine bodyPost_ret (results_cell_row Tryz.results11 _ _ (w.heap.size + 1) _ _ _ _ rfl (setRow_heap _ _ _ _ _ _ HL.out.1.r3) Tryz.underlying40 rfl (done_size c (.slice a n k) (r.env now) x (.slice xa xn xk) (.slice a2 n2 k2))) rfl ?_
      have haf : r.after i t c now = { r.up with ss := r.ss.set i { t with drops := [] } } := by unfold RS.after; rw [if_pos HE.out]
      have hdz : dropped c t = t.drops := by unfold dropped; rw [if_pos HE.out]
      have hyz : ∀ p ∈ ys ++ ys2, p.1 ≠ w.heap.size + 1 := fun p hp => by
        rcases List.mem_append.1 hp with hp | hp
        · exact HYS.out.1 p hp
        · exact fun e => HD.out.2.1 p hp (w.heap.size + 1, .cells #[.int .i64 0, .int .i64 0, .string ⟨#[]⟩, .slice none 0 0, .int .u32 0, .int .i64 0, .int .u64 0, .int .u64 0, .int .u64 0, .bool false, .bool false, .int .i64 0, .int .u64 0, .int .i64 0, .int .u64 0, .int .i64 0, .slice none 0 0, .int .u32 0, .int .u64 0, .int .i64 0, .int .u64 0, .bool false, .bool false, .bool false, .slice none 0 0] 40) (by simp) e.symm
      have hyb : ∀ p ∈ ys ++ ys2, p.1 ≠ sb ∧ p.1 ≠ g := fun p hp => by
        rcases List.mem_append.1 hp with hp | hp
        · exact HYS.out.2 p hp
        · exact ⟨fun e => HD.out.2.1 p hp (sb, .cells (r.up.arr (.slice (some ⟨g, 0, none⟩) r.ss.length cap)) 59) (by simp) e.symm, fun e => HD.out.2.1 p hp (g, .cells gc gt) (by simp) e.symm⟩
      have hLz := HFN.out _ _ _ _ _ HL.out.1 hyz
      refine DoP.of (r' := r.after i t c now) (dl := t.drops) H6.out.2 ⟨i, s, t, f, HS.out.2.2.2.2.2.2.1, HS.out.2.2.2.2.2.2.2.2.2.2.1, H6.out.2.new, H6.out.2.run, hdz.symm, rfl⟩ (by rw [haf]; exact hLz) (fun _ hp => List.mem_append_left _ hp) (by rw [size_setRow]; have h1 := HL.out.2; have h2 := HD.out.2.2.2.2; omega) (by omega) HS.out.1 HS.out.2.1 HS.out.2.2.1 hyb HS.out.2.2.2.1 HS.out.2.2.2.2.1 HS.out.2.2.2.2.2.1 (by rw [haf]; show (r.ss.set i _).length = _; exact List.length_set) (by rw [haf]; rfl) ?_ (HD.out.2.2.2.1.mono fun _ hp => List.mem_append_right _ hp)
      exact LM.srcS (HD.out.1.sub (xs' := ys2) fun p hp => by simp only [List.mem_cons, List.mem_append]; exact .inr (.inr (.inr (.inr (.inr (.inr (.inr (.inr hp)))))))) hLz HB.out.1 HB.out.1 (fun p hp => by simp only [List.mem_cons, List.mem_append]; exact .inr (.inr (.inr (.inr hp)))) (by rw [size_setRow]; have h1 := HL.out.2; omega) HD.out.2.2.1 HD.out.2.2.2.1
end
end Go.Proofs.YtpghckiochjogaaGreatDoor.Route

