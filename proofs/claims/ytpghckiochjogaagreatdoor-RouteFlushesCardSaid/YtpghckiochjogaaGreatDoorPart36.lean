/- Part36: Route2, one behind the other. -/
import Derived.Test.YtpghckiochjogaaGreatDoorPart34
import Derived.Test.YtpghckiochjogaaGreatDoorPart3
import Derived.Deep.LoopGhost
import Derived.StillTailTactics
import Derived.BigQuiet
/- Layer 21: New. -/
namespace Go.Proofs.YtpghckiochjogaaGreatDoor.Route
set_option maxRecDepth 100000
open Go Go.RowKit Go.Proofs.YtpghckiochjogaaGreatDoor.Mem Go.Proofs.YtpghckiochjogaaGreatDoor.App Go.Proofs.YtpghckiochjogaaGreatDoor.Shard Go.Proofs.YtpghckiochjogaaGreatDoor.Exec
def ptrV (b : Nat) : Value := .pointer (some ⟨b, 0, none⟩)
structure Ptrs (w : World) (base : Nat) (v : Value) (n : Nat) (ys : List Value) (xs : List (Nat × Obj)) : Prop where
  own : w.ownsRow base 60 1 v n ys
  one : ∀ g, v.ownBlock = some g → ∃ o, xs = [(g, o)]
  zero : v.ownBlock = none → xs = []
theorem Ptrs.below {w w' : World} {base n : Nat} {v : Value} {ys : List Value} {xs : List (Nat × Obj)} (h : Ptrs w base v n ys xs) (hb : Below w.heap.size w w') : Ptrs w' base v n ys xs :=
  ⟨row_keep h.own fun g e => hb.block g (own_block_lt h.own g e).2, h.one, h.zero⟩
theorem LM.appended {W w w' : World} {M : Nat} {bs : List Nat} {seed : Int} {ss : List Shard.St} {sb base n g cap : Nat} {ob : Obj} {v y : Value} {ys : List Value} {xs : List (Nat × Obj)} (h : LM W w M bs seed ss ((sb, ob) :: xs)) (hp : Ptrs w base v n ys xs) (hsb : sb < base)
    (hown : w'.ownsRow base 60 1 (.slice (some ⟨g, 0, none⟩) (n + 1) cap) (n + 1) (ys ++ [y])) (hg : w.grownBy w' v.ownBlock) (hat : v.ownBlock = some g ∨ g = w.heap.size) :
    ∃ xs', LM W w' M bs seed ss ((sb, ob) :: xs') ∧ Ptrs w' base (.slice (some ⟨g, 0, none⟩) (n + 1) cap) (n + 1) (ys ++ [y]) xs' := by
  obtain ⟨cols, h1, h2⟩ := h
  have hgl := own_block_lt hown g rfl
  have ho : Only (fun k => v.ownBlock = some k) w w' := (Only.refl _ w).grown hg (fun g e => .inl e)
  have hF : ∀ k, v.ownBlock = some k → W.heap.size ≤ k ∧ ∀ i, i < bs.length → cols i k = none := fun k hk => by
    obtain ⟨o, rfl⟩ := hp.one k hk
    exact (h2 (k, o) (by simp)).2
  have hsb0 := h2 (sb, ob) (List.mem_cons_self ..)
  have hsn : v.ownBlock ≠ some sb := fun e => by have := (own_block_lt hp.own sb e).1; omega
  refine ⟨[(g, w'.heap[g]'hgl.2)], ⟨cols, h1.aside ho (fun i k hi hk => ⟨(hF k hk).2 i hi, (hF k hk).1⟩), fun p hp' => ?_⟩, ⟨hown, fun g' e => ⟨_, by
    have e' : g' = g := by simpa [Value.ownBlock] using e.symm
    subst e'
    rfl⟩, fun e => (by cases e)⟩⟩
  rcases List.mem_cons.1 hp' with rfl | hp'
  · exact ⟨(ho.same sb (Array.getElem?_eq_some_iff.1 hsb0.1).1 hsn).trans hsb0.1, hsb0.2⟩
  · rw [List.mem_singleton.1 hp']
    refine ⟨Array.getElem?_eq_some_iff.2 ⟨hgl.2, rfl⟩, by have := hsb0.2.1; show W.heap.size ≤ g; omega, fun i hi => ?_⟩
    rcases hat with hat | hat
    · exact (hF g hat).2 i hi
    · exact h1.free hi (by show w.heap.size ≤ g; omega)
theorem step_append_sh {w : World} {ops : Array Oper} {o : Oper} {a : Act} {K : Act → World → Prop} {Q : Exit → Act → World → Prop} {E : Prop} (hgd : o.guard = none) (s x : Operand)
    (ho : o.op = .call { callee := .builtin .append, args := #[s, x], argTypes := #[57, 57] })
    (base : Nat) (v : Value) (n : Nat) (ys : List Value) (hs : a.eval s = v) (hown : w.ownsRow base 60 1 v n ys) (b gx : Nat) (hx : a.eval x = .slice (some ⟨gx, 0, none⟩) 1 1) (hb : w.heap[gx]? = some (.cells #[ptrV b] 60)) (hn : n ≤ 1000) (hbase : base ≤ w.heap.size)
    (h : ∀ g cap w', w'.ownsRow base 60 1 (.slice (some ⟨g, 0, none⟩) (n + 1) cap) (n + 1) (ys ++ [ptrV b]) → w.grownBy w' v.ownBlock → (v.ownBlock = some g ∨ g = w.heap.size) → K (a.put o.dst (.slice (some ⟨g, 0, none⟩) (n + 1) cap)) w') :
    if Region.wanted o (yielded ops a.tmps) = true then Oper.wp Tryz.prog o a w K Q else E := by
  obtain ⟨i, hi, hz0, hz1, z, hz, hzs⟩ : ∃ i, Tryz.prog.info? 60 = some i ∧ i.size = 1 ∧ i.bytes ≤ 200 ∧ ∃ z, i.zero = some z ∧ z.cells.size = 1 := by
    have e : (Tryz.prog.info? 60).map (fun i => (i.size, decide (i.bytes ≤ 200), i.zero.map (fun z => z.cells.size))) = some (1, true, some 1) := by kernel_rfl
    obtain ⟨i, hi, e2⟩ := Option.map_eq_some_iff.1 e
    injection e2 with e3 e4
    injection e4 with e4 e5
    obtain ⟨z, hz, e6⟩ := Option.map_eq_some_iff.1 e5
    exact ⟨i, hi, e3, of_decide_eq_true e4, z, hz, e6⟩
  refine step_append_lies w hgd s x 57 ho base 60 i z 1 i.bytes Tryz.underlying57 hi hz hz0 rfl hzs (by decide) v n ys hs hown ⟨gx, 0, none⟩ 1 1 [ptrV b] hx rfl (fun j u hu => ?_) (fun u hu => ?_) (by decide) (by unfold maxLen; omega) ?_ hbase _ rfl ?_
  · rw [App.addr_add, Nat.zero_add, Mem.row_cell hb j, ← hu, List.getElem?_toArray]
  · rw [List.mem_singleton.1 hu]; rfl
  · exact Nat.le_trans (Nat.mul_le_mul (show n + 1 ≤ 1001 by omega) hz1) (by decide)
  · intro g cap w' h1 h2 h3 _
    exact h g cap w' h1 h2 h3
def RS.new (seed : Int) (n : Nat) (budget protect : Int) : RS := ⟨seed, (List.range n).map (fun i : Nat => St.new (IntKind.u64.wrap (seed + i)) budget protect), 0, 0, 0⟩
theorem RS.new_len (seed : Int) (n : Nat) (budget protect : Int) : (RS.new seed n budget protect).ss.length = n := by simp [RS.new]
theorem RS.new_succ (seed : Int) (n : Nat) (budget protect : Int) : (RS.new seed (n + 1) budget protect).ss = (RS.new seed n budget protect).ss ++ [St.new (IntKind.u64.wrap (seed + n)) budget protect] := by simp [RS.new, List.range_succ]
def NewI (W w0 w : World) (sb : Nat) (seed budget protect : Int) (bs : List Nat) (v : Value) : Prop :=
  ∃ xs, LM W w 0 bs seed (RS.new seed bs.length budget protect).ss ((sb, .cells ((RS.new seed bs.length budget protect).arr v) 59) :: xs) ∧ Ptrs w (sb + 1) v bs.length (bs.map ptrV) xs ∧ Below w0.heap.size w0 w ∧ w0.heap.size ≤ sb ∧ sb < w.heap.size
def NewJ (W w0 w : World) (sb : Nat) (seed budget protect : Int) (bs : List Nat) (v : Value) (b : Nat) : Prop :=
  ∃ xs, LM W w 0 (bs ++ [b]) seed (RS.new seed (bs.length + 1) budget protect).ss ((sb, .cells ((RS.new seed bs.length budget protect).arr v) 59) :: xs) ∧ Ptrs w (sb + 1) v bs.length (bs.map ptrV) xs ∧ Below w0.heap.size w0 w ∧ w0.heap.size ≤ sb ∧ sb < w.heap.size
def NewK (W w0 w : World) (sb : Nat) (seed budget protect : Int) (bs : List Nat) (v v' : Value) (b : Nat) : Prop :=
  ∃ xs, LM W w 0 (bs ++ [b]) seed (RS.new seed (bs.length + 1) budget protect).ss ((sb, .cells ((RS.new seed bs.length budget protect).arr v) 59) :: xs) ∧ Ptrs w (sb + 1) v' (bs.length + 1) (bs.map ptrV ++ [ptrV b]) xs ∧ Below w0.heap.size w0 w ∧ w0.heap.size ≤ sb ∧ sb < w.heap.size
section
variable {W w0 w w' : World} {sb b : Nat} {seed budget protect : Int} {v v' : Value} {bs : List Nat}
theorem NewI.cell (h : NewI W w0 w sb seed budget protect bs v) : w.heap[sb]? = some (.cells #[.int .u64 seed, v, .int .u64 0, .int .i64 0, .int .u64 0] 59) := by
  obtain ⟨xs, h1, _⟩ := h
  exact h1.row (List.mem_cons_self ..)
theorem NewJ.below (h : NewJ W w0 w sb seed budget protect bs v b) (hb : Below w.heap.size w w') : NewJ W w0 w' sb seed budget protect bs v b := by
  obtain ⟨xs, h1, h2, h3, h4, h5⟩ := h
  exact ⟨xs, h1.below hb, h2.below hb, Mem.tr h3 hb, h4, Nat.lt_of_lt_of_le h5 hb.size⟩
theorem NewJ.cell (h : NewJ W w0 w sb seed budget protect bs v b) : w.heap[sb]? = some (.cells #[.int .u64 seed, v, .int .u64 0, .int .i64 0, .int .u64 0] 59) := by
  obtain ⟨xs, h1, _⟩ := h
  exact h1.row (List.mem_cons_self ..)
theorem NewK.cell (h : NewK W w0 w sb seed budget protect bs v v' b) : w.heap[sb]? = some (.cells #[.int .u64 seed, v, .int .u64 0, .int .i64 0, .int .u64 0] 59) := by
  obtain ⟨xs, h1, _⟩ := h
  exact h1.row (List.mem_cons_self ..)
theorem NewI.shard (h : NewI W w0 w sb seed budget protect bs v) {col : Col} (hb : Below w.heap.size w w') (hr : Run W w' 0 b col (IntKind.u64.wrap (seed + bs.length)) (St.new (IntKind.u64.wrap (seed + bs.length)) budget protect)) (hc : ∀ k, col k ≠ none → w.heap.size ≤ k) : NewJ W w0 w' sb seed budget protect bs v b := by
  obtain ⟨xs, h1, h2, h3, h4, h5⟩ := h
  refine ⟨xs, ?_, h2.below hb, Mem.tr h3 hb, h4, Nat.lt_of_lt_of_le h5 hb.size⟩
  rw [RS.new_succ]
  exact h1.push hb hr hc
theorem NewJ.append {g cap : Nat} (h : NewJ W w0 w sb seed budget protect bs v b) (hown : w'.ownsRow (sb + 1) 60 1 (.slice (some ⟨g, 0, none⟩) (bs.length + 1) cap) (bs.length + 1) (bs.map ptrV ++ [ptrV b])) (hg : w.grownBy w' v.ownBlock) (hat : v.ownBlock = some g ∨ g = w.heap.size) : NewK W w0 w' sb seed budget protect bs v (.slice (some ⟨g, 0, none⟩) (bs.length + 1) cap) b := by
  obtain ⟨xs, h1, h2, h3, h4, h5⟩ := h
  obtain ⟨xs', k1, k2⟩ := h1.appended h2 (Nat.lt_succ_self _) hown hg hat
  exact ⟨xs', k1, k2, h3.grown hg h3.size (fun g e => by have := (own_block_lt h2.own g e).1; omega), h4, Nat.lt_of_lt_of_le h5 hg.size⟩
theorem NewK.store (h : NewK W w0 w sb seed budget protect bs v v' b) : NewI W w0 (w.setCell ⟨sb, 1, none⟩ v') sb seed budget protect (bs ++ [b]) v' := by
  obtain ⟨xs, h1, h2, h3, h4, h5⟩ := h
  have hne : ∀ q ∈ xs, q.1 ≠ sb := fun q hq => by
    rcases hn : v'.ownBlock with _ | g
    · rw [h2.zero hn] at hq; cases hq
    · obtain ⟨o, rfl⟩ := h2.one g hn
      rw [List.mem_singleton.1 hq]
      have := (own_block_lt h2.own g hn).1
      show g ≠ sb
      omega
  have hsz : (w.setCell ⟨sb, 1, none⟩ v').heap.size = w.heap.size := by simp [World.setCell]
  refine ⟨xs, ?_, ?_, h3.setCell (by show w0.heap.size ≤ sb; omega) v', h4, by rw [hsz]; exact h5⟩
  · rw [List.length_append, List.length_singleton]
    refine h1.write ((Only.refl (fun k => k = sb) w).setCell (.inl rfl) v') ?_ hne
    have := Mem.row_set (h1.row (List.mem_cons_self ..)) 1 v'
    exact this
  · rw [List.length_append, List.length_singleton, List.map_append]
    refine ⟨row_keep h2.own fun g e => Below.heap_setCell _ _ _ _ ?_, h2.one, h2.zero⟩
    have := (own_block_lt h2.own g e).1
    show g ≠ sb
    omega
theorem NewI.done (h : NewI W w0 w sb seed budget protect bs v) (h1 : 1 ≤ bs.length) (h8 : bs.length ≤ 8) (hs : 0 ≤ seed ∧ seed < 18446744073709551616) : SM W w 0 sb (RS.new seed bs.length budget protect) [] := by
  obtain ⟨xs, k1, k2, k3, k4, k5⟩ := h
  obtain ⟨m, hm⟩ : ∃ m, bs.length = m + 1 := ⟨bs.length - 1, by omega⟩
  have ho := k2.own
  rw [hm] at ho
  obtain ⟨g, cap, cur, rfl, hg, hrow, _, _, hcs⟩ := Mem.row_block ho
  obtain ⟨o, rfl⟩ := k2.one g rfl
  have hro := k1.row (p := (g, o)) (by simp)
  have e : o = .cells cur 60 (0, 0) := Option.some.inj (hro.symm.trans hrow)
  subst e
  refine ⟨bs, g, cap, cur, 60, ?_, fun i b hb => ?_, by omega, fun p hp => (nomatch hp), by rw [RS.new_len]; exact h1, by rw [RS.new_len]; exact h8, hs⟩
  · rw [RS.new_len, hm]
    rw [hm] at k1
    exact k1
  · exact hcs i (ptrV b) (by rw [List.getElem?_map, hb]; rfl)
end
set_option maxHeartbeats 4000000 in
theorem new_any {W w : World} (hb : Below W.heap.size W w) (seed shards budget protect : Int) (hs : 0 ≤ seed ∧ seed < 18446744073709551616) (hbud : -9223372036854775808 ≤ budget ∧ budget ≤ 9223372036854775807) :
    Calls Tryz.prog 10 #[.int .u64 seed, .int .i64 shards, .int .i64 budget, .int .i64 protect] w fun e w' => Below w.heap.size w w' ∧ ((¬ (1 ≤ shards ∧ shards ≤ 8) ∧ e = .returned (.tuple #[.pointer none, .int .i64 1])) ∨ ((1 ≤ shards ∧ shards ≤ 8) ∧ ∃ sb, e = .returned (.tuple #[.pointer (some ⟨sb, 0, none⟩), .int .i64 0]) ∧ w.heap.size ≤ sb ∧ SM W w' 0 sb (RS.new seed shards.toNat budget protect) [])) := by
  by_cases h1 : shards < 1
  · have HN := Lib.hid (show ¬ (1 ≤ shards ∧ shards ≤ 8) by omega)
    clear hb
    go_enter Tryz.func10, Tryz.ntmps10
    go_wp2_with fail
    go_ret2
    exact ⟨Below.refl _ _, .inl ⟨HN.out, rfl⟩⟩
  by_cases h2 : 8 < shards
  · have HN := Lib.hid (show ¬ (1 ≤ shards ∧ shards ≤ 8) by omega)
    have h1' : 1 ≤ shards := by omega
    clear hb h1
    go_enter Tryz.func10, Tryz.ntmps10
    go_wp2_with fail
    go_ret2
    exact ⟨Below.refl _ _, .inl ⟨HN.out, rfl⟩⟩
  obtain ⟨n, rfl⟩ : ∃ n : Nat, shards = n := ⟨shards.toNat, by omega⟩
  have h1' : (1 : Int) ≤ n := by omega
  have h2' : (n : Int) ≤ 8 := by omega
  have HB := Lib.hid (And.intro hb (And.intro hs hbud))
  have h0 : NewI W w (w.alloc (.cells #[.int .u64 seed, .slice none 0 0, .int .u64 0, .int .i64 0, .int .u64 0] 59)) w.heap.size seed budget protect [] (.slice none 0 0) :=
    ⟨[], (LM.nil W w 0 seed).alloc hb.size _, ⟨World.ownsRow_nil _ _ _ _, fun g e => (by cases e), fun _ => rfl⟩, Mem.al (Below.refl _ _) _, Nat.le_refl _, by rw [World.size_alloc]; omega⟩
  have H0 := Lib.hid h0
  have HN := Lib.hid (And.intro h1' h2')
  clear hb hs hbud h0 h1 h2
  go_enter Tryz.func10, Tryz.ntmps10
  go_wp2_with fail
  go_loopg [11, 22] n (fun g _ i wr => ∃ (m : Nat) (bs : List Nat) (v : Value), i = .int .i64 m ∧ Hid (g + m = n ∧ bs.length = m) ∧ Hid (NewI W w wr w.heap.size seed budget protect bs v))
  case atStart => exact ⟨0, [], _, rfl, Lib.hid ⟨rfl, rfl⟩, H0⟩
  case round =>
    obtain ⟨m, bs, v, rfl, hg, hI⟩ := hrel
    by_cases hm : m < n
    · have hmi : (m : Int) < n := by omega
      have hmw : IntKind.u64.wrap (m : Int) = m := by
        have := HN.out
        simp [IntKind.wrap, IntKind.signed, IntKind.bits]; omega
      have hNl : m ≤ 8 := by have := HN.out; omega
      have hnew := fun (w' : World) (hb' : Below W.heap.size W w') => new_run hb' (IntKind.u64.wrap (seed + m)) budget protect (by simp [IntKind.wrap, IntKind.signed, IntKind.bits]; omega) (by simp [IntKind.wrap, IntKind.signed, IntKind.bits]; omega) HB.out.2.2
      have hnew1 := hnew wr.drew (Below.drew (Mem.tr HB.out.1 (by
        obtain ⟨xs, _, _, h3, _⟩ := hI.out
        exact h3)))
      have hstep : ∀ (w2 : World) (b2 : Nat), Hid (NewJ W w w2 w.heap.size seed budget protect bs v b2) → ∀ {ops : Array Oper} {o : Oper} {a : Act} {K : Act → World → Prop} {Q : Exit → Act → World → Prop} {E : Prop}, o.guard = none → o.op = .call { callee := .builtin .append, args := #[.tmp 29, .tmp 37], argTypes := #[57, 57] } → a.eval (.tmp 29) = v → a.eval (.tmp 37) = .slice (some ⟨w2.heap.size, 0, none⟩) 1 1 →
          (∀ g cap w', Hid (NewK W w w' w.heap.size seed budget protect bs v (.slice (some ⟨g, 0, none⟩) (bs.length + 1) cap) b2) → w'.cell? ⟨w.heap.size, 1, none⟩ = some v → w'.frozen? ⟨w.heap.size, 1, none⟩ = false → K (a.put o.dst (.slice (some ⟨g, 0, none⟩) (bs.length + 1) cap)) w') → if Region.wanted o (yielded ops a.tmps) = true then Oper.wp Tryz.prog o a (w2.alloc (.cells #[.pointer (some ⟨b2, 0, none⟩)] 60)) K Q else E := by
        intro w2 b2 hJ ops o a K Q E hgd ho he1 he2 hK
        have hJ2 := hJ.out.below (Mem.al (Below.refl w2.heap.size w2) (.cells #[.pointer (some ⟨b2, 0, none⟩)] 60))
        obtain ⟨xs, h1, h2, h3, h4, h5⟩ := hJ2
        refine step_append_sh hgd _ _ ho (w.heap.size + 1) v bs.length (bs.map ptrV) he1 h2.own b2 w2.heap.size he2 (Mem.new_block w2 _) (by have := hg.out; omega) h5 ?_
        intro g cap w' hown hgr hat
        have hK2 := NewJ.append (v := v) ⟨xs, h1, h2, h3, h4, h5⟩ hown hgr hat
        exact hK g cap w' (Lib.hid hK2) (Mem.row_cell hK2.cell 1) (Mem.row_free hK2.cell 1)
      have hnew2 := hnew1.mono (R' := fun e w2 => ∃ b2, e = .returned (.pointer (some ⟨b2, 0, none⟩)) ∧ Hid (NewJ W w w2 w.heap.size seed budget protect bs v b2) ∧ w2.cell? ⟨w.heap.size, 1, none⟩ = some v ∧ ∀ o, (w2.alloc o).cell? ⟨w.heap.size, 1, none⟩ = some v) fun e w2 ⟨b2, col, he, hr2, hl2, hb2⟩ => by
        have hJ := hI.out.shard (Below.trans (Below.drew (Below.refl _ _)) hb2) ((hg.out.2).symm ▸ hr2) hl2
        exact ⟨b2, he, Lib.hid hJ, Mem.row_cell hJ.cell 1, fun o => Mem.row_cell (Mem.new_later hJ.cell o) 1⟩
      have c1 := Mem.row_cell hI.out.cell 1
      simp only [List.getElem?_toArray, List.getElem?_cons_zero, List.getElem?_cons_succ] at c1
      have HS := Lib.hid (@hstep)
      clear hnew hnew1 hstep hNl
      go_upto_block 1 with (fail)
      go_cut [11] from 23 to 41 (fun _ wx => ∃ (b2 : Nat) (v' : Value), Hid (NewI W w wx w.heap.size seed budget protect (bs ++ [b2]) v'))
      case first =>
        go_upto_region 7 with (fail)
        go_region_law (first
          | (go_simp; refine hnew2.mono ?_; rintro en w2 ⟨b2, rfl, hJ, c2, c4⟩)
          | (refine HS.out w2 b2 hJ (by rfl) (by rfl) (by kernel_rfl) (by kernel_rfl) ?_; intro g3 k3 w3 hK3 c3 f3))
        all_goals (go_wp2_with fail; go_meet; exact ⟨b2, _, Lib.hid hK3.out.store⟩)
      case rest =>
        obtain ⟨b2, v', hI2⟩ := hcut
        go_wp2_with fail
        go_roundg (n - (m + 1))
        case measure => have := hg.out; omega
        case rel => exact ⟨m + 1, bs ++ [b2], v', by go_num, Lib.hid ⟨by have := hg.out; omega, by have := hg.out; simp; omega⟩, hI2⟩
    · have hmi : (n : Int) ≤ m := by omega
      have e9 : m = n := by have := hg.out; omega
      subst e9
      go_wp2_with fail
      go_ret2
      have e8 := hg.out.2
      refine ⟨?_, .inr ⟨HN.out, w.heap.size, rfl, Nat.le_refl _, ?_⟩⟩
      · obtain ⟨xs, _, _, h3, _⟩ := hI.out
        exact h3
      · have := hI.out.done (by have := HN.out; omega) (by have := HN.out; omega) HB.out.2.1
        rw [e8] at this
        exact this
end Go.Proofs.YtpghckiochjogaaGreatDoor.Route

