/- The document's own judge of layer 6; its walks. -/
import Derived.Test.YtncdaadiadeeiaaTiny3
import Derived.Test.YtncdaadiadeeiaaBloomRef
namespace Go.Proofs.Ytncdaadiadeeiaa.TinyRef
open Go Go.RowKit Go.Proofs.Ytncdaadiadeeiaa.Mem Go.Proofs.Ytncdaadiadeeiaa.Tiny

/-- Its block, its filter's, its sketch's two. -/
structure RJ (w : World) (rb fb : Nat) (F : Nat → Prop) (sb sg : Nat) (j : St) (rl : List Nat) : Prop where
  blk : w.heap[rb]? = some (.cells #[.pointer (some ⟨fb, 0, none⟩), .pointer (some ⟨sb, 0, none⟩)] 84 (0, 0))
  f : BloomRef.RAt w fb F j.f.seed rl
  k : SketchRef.RAt w sb sg j.c
  link : BloomRef.Link j.f rl
  ok : Sketch.Ok j.c
  nr : ¬ F rb
  nb : ¬ F sb
  ng : ¬ F sg
  rs : rb ≠ sb
  rg : rb ≠ sg
/-- All that it holds. -/
def All (rb : Nat) (F : Nat → Prop) (sb sg : Nat) : Nat → Prop := fun x => x = rb ∨ F x ∨ x = sb ∨ x = sg
section
variable {w w' : World} {rb fb : Nat} {F : Nat → Prop} {sb sg : Nat} {j : St} {rl : List Nat}
theorem RJ.lt (h : RJ w rb fb F sb sg j rl) : ∀ x, All rb F sb sg x → x < w.heap.size := by
  rintro x (rfl | hx | rfl | rfl)
  · exact (Array.getElem?_eq_some_iff.1 h.blk).1
  · exact h.f.lt x hx
  · exact h.k.lt.1
  · exact h.k.lt.2
theorem RJ.same (h : RJ w rb fb F sb sg j rl) (hs : ∀ x, All rb F sb sg x → w'.heap[x]? = w.heap[x]?) (hz : w.heap.size ≤ w'.heap.size) : RJ w' rb fb F sb sg j rl :=
  ⟨(hs rb (.inl rfl)).trans h.blk, h.f.same (fun x hx => hs x (.inr (.inl hx))) hz, ⟨(hs sb (.inr (.inr (.inl rfl)))).trans h.k.blk, (hs sg (.inr (.inr (.inr rfl)))).trans h.k.row, h.k.ne⟩, h.link, h.ok, h.nr, h.nb, h.ng, h.rs, h.rg⟩
theorem RJ.below (h : RJ w rb fb F sb sg j rl) (hb : Below w.heap.size w w') : RJ w' rb fb F sb sg j rl := h.same (fun x hx => hb.block x (h.lt x hx)) hb.size
theorem RJ.drewN (h : RJ w rb fb F sb sg j rl) (n : Nat) : RJ (w.drewN n) rb fb F sb sg j rl := h.same (fun _ _ => rfl) (Nat.le_refl _)
theorem RJ.only (h : RJ w rb fb F sb sg j rl) {G : Nat → Prop} (ho : Only G w w') (hd : ∀ x, All rb F sb sg x → ¬ G x) : RJ w' rb fb F sb sg j rl := h.same (fun x hx => ho.same x (h.lt x hx) (hd x hx)) ho.size
end
set_option maxHeartbeats 1000000 in
theorem new_gives (seed : Int) (w : World) : Calls Try.prog 44 #[.int .u64 seed] w fun e w' =>
    ∃ (rb fb : Nat) (F : Nat → Prop) (sb sg : Nat), e = .returned (.pointer (some ⟨rb, 0, none⟩)) ∧ RJ w' rb fb F sb sg (new seed) [] ∧ (∀ x, All rb F sb sg x → w.heap.size ≤ x) ∧ Below w.heap.size w w' := by
  have hw := Hash.wrap_range (seed + 1)
  go_enter Try.func44, Try.ntmps44
  have hb0 : BloomRef.RAt (w.alloc (.cells #[.int .u64 seed, .slice none 0 0] 53)) w.heap.size (fun j => j = w.heap.size) seed [] :=
    ⟨_, Mem.new_block w _, World.ownsRow_nil _ _ _ _, rfl, fun g e => (by cases e), fun j e => by simp; omega⟩
  have HB := Lib.hid hb0
  clear hb0
  go_wp2_with fail
  refine (SketchRef.new_gives _ _).mono ?_
  rintro e w2 ⟨sb, sg, rfl, hA, ⟨hlb, hlg⟩, hb2⟩
  have H2 := Lib.hid (And.intro hA (And.intro hlb (And.intro hlg hb2)))
  clear hA hlb hlg hb2
  go_wp2_with fail
  go_ret
  obtain ⟨hA, hlb, hlg, hb2⟩ := H2.out
  have hl := hA.lt
  have hz := hb2.size
  simp only [World.size_alloc] at hlb hlg hz
  have hall : Below w2.heap.size w2 (w2.alloc (.cells #[.pointer (some ⟨w.heap.size, 0, none⟩), .pointer (some ⟨sb, 0, none⟩)] 84)) := Mem.al (Below.refl _ _) _
  refine ⟨_, w.heap.size, _, sb, sg, rfl, ⟨Mem.new_block w2 _, ((HB.out.below hb2)).below hall, hA.below hall, BloomRef.Link.new seed, Sketch.Ok.new hw.1 hw.2, ?_, ?_, ?_, ?_, ?_⟩, ?_, Mem.al (Mem.tr (Mem.al (Below.refl _ _) _) hb2) _⟩
  · omega
  · omega
  · omega
  · omega
  · omega
  · rintro x (rfl | rfl | rfl | rfl) <;> omega
def TouchPost (w : World) (rb fb : Nat) (F : Nat → Prop) (sb sg : Nat) (j : St) (s : List UInt8) (e : Ending) (w' : World) : Prop :=
  ∃ F' rl', e = .returned (.tuple #[]) ∧ RJ w' rb fb F' sb sg (j.touch s) rl' ∧ Only (All rb F sb sg) w w' ∧ Grows w F F'
set_option maxHeartbeats 2000000 in
theorem touch_any {w : World} {rb fb : Nat} {F : Nat → Prop} {sb sg : Nat} {j : St} {rl : List Nat} (h : RJ w rb fb F sb sg j rl) (s : ByteArray) (hs : s.size ≤ maxLen) :
    Calls Try.prog 45 #[.pointer (some ⟨rb, 0, none⟩), .string s] w (TouchPost w rb fb F sb sg j s.data.toList) := by
  have H := Lib.hid h
  have c0 : w.cell? ⟨rb, 0, none⟩ = some (.pointer (some ⟨fb, 0, none⟩)) := Mem.row_cell h.blk 0
  have hsm := h.link.small
  have hadd := BloomRef.add_any h.f (by omega) s hs
  clear h
  obtain ⟨q, hq⟩ : ∃ q, j.f.has s.data.toList = q := ⟨_, rfl⟩
  have HQ := Lib.hid hq
  unfold BloomRef.AddPost at hadd
  rw [H.out.link.has, hq] at hadd
  clear hq
  go_enter Try.func45, Try.ntmps45
  go_wp2_with fail
  refine hadd.mono ?_
  rintro e w1 ⟨F1, rfl, hf, ho, hg⟩
  have H1 := Lib.hid (And.intro (show RJ w1 rb fb F1 sb sg ⟨j.f.add s.data.toList, j.c⟩ (BloomRef.radds j.f.seed s.data.toList rl 3) from
    ⟨(ho.same rb (H.out.lt _ (.inl rfl)) H.out.nr).trans H.out.blk, hf, H.out.k.only ho ⟨H.out.nb, H.out.ng⟩, H.out.link.add _, H.out.ok,
      fun e => (hg _ e).elim H.out.nr (fun e => by have := H.out.lt rb (.inl rfl); omega), fun e => (hg _ e).elim H.out.nb (fun e => by have := H.out.k.lt; omega), fun e => (hg _ e).elim H.out.ng (fun e => by have := H.out.k.lt; omega), H.out.rs, H.out.rg⟩)
    (And.intro (ho.mono (F' := All rb F sb sg) (fun x hx => .inr (.inl hx))) hg))
  clear hf ho hg c0 hadd
  cases q
  · go_wp2_with fail
    go_end0
    refine ⟨F1, BloomRef.radds j.f.seed s.data.toList rl 3, rfl, ?_, H1.out.2⟩
    rw [has_touch_false HQ.out]
    exact H1.out.1
  have c1 : w1.cell? ⟨rb, 1, none⟩ = some (.pointer (some ⟨sb, 0, none⟩)) := Mem.row_cell H1.out.1.blk 1
  obtain ⟨v, hv⟩ : ∃ v, (j.c.add s.data.toList).1 = v := ⟨_, rfl⟩
  have HV := Lib.hid hv
  have hadd := SketchRef.add_any H1.out.1.k H1.out.1.ok s hs
  simp only at hadd
  rw [hv] at hadd
  clear hv
  go_wp2_with fail
  refine hadd.mono ?_
  rintro e w2 ⟨rfl, hk, ho⟩
  have hd : ∀ x, (x = sb ∨ x = sg) → ¬ F1 x ∧ x ≠ rb := fun x hx => by
    rcases hx with rfl | rfl
    · exact ⟨H1.out.1.nb, fun e => H1.out.1.rs e.symm⟩
    · exact ⟨H1.out.1.ng, fun e => H1.out.1.rg e.symm⟩
  have H2 := Lib.hid (And.intro (show RJ w2 rb fb F1 sb sg ⟨j.f.add s.data.toList, (j.c.add s.data.toList).2⟩ (BloomRef.radds j.f.seed s.data.toList rl 3) from
    ⟨(ho.same rb (H1.out.1.lt _ (.inl rfl)) (fun e => (hd _ e).2 rfl)).trans H1.out.1.blk, H1.out.1.f.only ho (fun x hx e => (hd x e).1 hx), hk, H1.out.1.link, H1.out.1.ok.add _, H1.out.1.nr, H1.out.1.nb, H1.out.1.ng, H1.out.1.rs, H1.out.1.rg⟩)
    (H1.out.2.1.trans (ho.mono (F' := All rb F sb sg) (fun x hx => .inr (.inr hx))) (Grows.refl _ _)))
  clear hk ho c1 hadd hd
  cases v
  · go_wp2_with fail
    go_end0
    refine ⟨F1, BloomRef.radds j.f.seed s.data.toList rl 3, rfl, ?_, H2.out.2, H1.out.2.2⟩
    rw [touch_false HQ.out HV.out]
    exact H2.out.1
  have c0 : w2.cell? ⟨rb, 0, none⟩ = some (.pointer (some ⟨fb, 0, none⟩)) := Mem.row_cell H2.out.1.blk 0
  obtain ⟨vv, hvv⟩ := H2.out.1.f
  have cv1 : w2.cell? ⟨fb, 1, none⟩ = some vv := Mem.row_cell hvv.blk 1
  have fv1 := Mem.row_free hvv.blk 1
  have hA4 := hvv.turn (w' := w2) (l' := []) (v' := .slice none 0 0) (fun _ _ _ => rfl) (Nat.le_refl _) (World.ownsRow_nil _ _ _ _) (fun g e => (by cases e))
  have ho4 : Only F1 w2 (w2.setCell ⟨fb, 1, none⟩ (.slice none 0 0)) := (Only.refl F1 w2).setCell (.inl hvv.fb) _
  have hgr : Grows w F (fun x => F1 x ∨ (Value.slice none 0 0).ownBlock = some x) := fun x hx => hx.elim (H1.out.2.2 x) (fun e => by cases e)
  have H3 := Lib.hid (And.intro (show RJ (w2.setCell ⟨fb, 1, none⟩ (.slice none 0 0)) rb fb (fun x => F1 x ∨ (Value.slice none 0 0).ownBlock = some x) sb sg ⟨(j.f.add s.data.toList).clear, (j.c.add s.data.toList).2⟩ [] from
    ⟨(ho4.same rb (H2.out.1.lt _ (.inl rfl)) H2.out.1.nr).trans H2.out.1.blk, ⟨_, hA4⟩, H2.out.1.k.only ho4 ⟨H2.out.1.nb, H2.out.1.ng⟩, BloomRef.Link.clear _, H2.out.1.ok,
      fun e => e.elim H2.out.1.nr (fun e => by cases e), fun e => e.elim H2.out.1.nb (fun e => by cases e), fun e => e.elim H2.out.1.ng (fun e => by cases e), H2.out.1.rs, H2.out.1.rg⟩)
    (And.intro (H2.out.2.trans (F' := All rb F1 sb sg) (ho4.mono (fun x hx => .inr (.inl hx))) (fun x hx => by
      rcases hx with rfl | hx | rfl | rfl
      · exact .inl (.inl rfl)
      · exact (H1.out.2.2 x hx).imp (fun e => .inr (.inl e)) id
      · exact .inl (.inr (.inr (.inl rfl)))
      · exact .inl (.inr (.inr (.inr rfl))))) hgr))
  clear hA4 ho4 hvv hgr
  go_wp2_with fail
  go_end0
  refine ⟨_, [], rfl, ?_, H3.out.2⟩
  rw [touch_true HQ.out HV.out]
  exact H3.out.1
set_option maxHeartbeats 1000000 in
theorem worth_any {w : World} {rb fb : Nat} {F : Nat → Prop} {sb sg : Nat} {j : St} {rl : List Nat} (h : RJ w rb fb F sb sg j rl) (s : ByteArray) (hs : s.size ≤ maxLen) :
    Calls Try.prog 46 #[.pointer (some ⟨rb, 0, none⟩), .string s] w fun e w' => e = .returned (.int .i64 (j.worth s.data.toList : Nat)) ∧ ∃ n, w' = w.drewN n := by
  have H := Lib.hid h
  have c1 : w.cell? ⟨rb, 1, none⟩ = some (.pointer (some ⟨sb, 0, none⟩)) := Mem.row_cell h.blk 1
  have hsm := h.link.small
  clear h
  obtain ⟨q, hq⟩ : ∃ q, j.f.has s.data.toList = q := ⟨_, rfl⟩
  have h15 : j.c.count s.data.toList ≤ 15 := Sketch.cnt_le15 _ _ _ _
  obtain ⟨n, hn⟩ : ∃ n, j.c.count s.data.toList = n := ⟨_, rfl⟩
  rw [hn] at h15
  have HQ := Lib.hid (And.intro hq hn)
  clear hq hn
  go_enter Try.func46, Try.ntmps46
  go_wp2_with fail
  refine (SketchRef.count_any H.out.k H.out.ok s hs).mono ?_
  rintro e w1 ⟨rfl, d, rfl⟩
  rw [HQ.out.2]
  have c0 : (w.drewN d).cell? ⟨rb, 0, none⟩ = some (.pointer (some ⟨fb, 0, none⟩)) := Mem.row_cell H.out.blk 0
  have hhas := BloomRef.has_any (H.out.drewN d).f (by omega) s hs
  rw [H.out.link.has, HQ.out.1] at hhas
  clear c1
  go_wp2_with fail
  refine hhas.mono ?_
  rintro e w2 ⟨rfl, rfl⟩
  cases q
  · go_wp2_with fail
    go_ret
    exact ⟨Tiny.ret_int (by unfold St.worth; rw [HQ.out.1, HQ.out.2]; rfl), d, rfl⟩
  · go_wp2_with fail
    go_ret
    exact ⟨Tiny.ret_int (by unfold St.worth; rw [HQ.out.1, HQ.out.2]; rfl), d, rfl⟩
theorem admit_any {w : World} {rb fb : Nat} {F : Nat → Prop} {sb sg : Nat} {j : St} {rl : List Nat} (h : RJ w rb fb F sb sg j rl) (s t : ByteArray) (hs : s.size ≤ maxLen) (ht : t.size ≤ maxLen) :
    Calls Try.prog 47 #[.pointer (some ⟨rb, 0, none⟩), .string s, .string t] w fun e w' => e = .returned (.bool (j.admit s.data.toList t.data.toList)) ∧ ∃ n, w' = w.drewN n := by
  have H := Lib.hid h
  clear h
  obtain ⟨n, hn⟩ : ∃ n, j.worth s.data.toList = n := ⟨_, rfl⟩
  obtain ⟨m, hm⟩ : ∃ m, j.worth t.data.toList = m := ⟨_, rfl⟩
  have HQ := Lib.hid (And.intro hn hm)
  clear hn hm
  go_enter Try.func47, Try.ntmps47
  go_wp2_with fail
  refine (worth_any H.out s hs).mono ?_
  rintro e w1 ⟨rfl, d, rfl⟩
  rw [HQ.out.1]
  go_wp2_with fail
  refine (worth_any (H.out.drewN d) t ht).mono ?_
  rintro e w2 ⟨rfl, d2, rfl⟩
  rw [HQ.out.2]
  go_wp2_with fail
  go_ret
  refine ⟨?_, d + d2, by simp [World.drewN]⟩
  unfold St.admit
  rw [HQ.out.1, HQ.out.2]
  rfl
end Go.Proofs.Ytncdaadiadeeiaa.TinyRef
