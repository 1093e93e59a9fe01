/- Part5: SlabRef3, SlabRef4, SlabRef5, SlabRef6, SlabRef7, Slru1, one behind the other. -/
import Derived.Test.YteonjgnnpgpnnaaGreatPart4
import Derived.Deep.RegionLaw
import Derived.Deep.CutRange
import Derived.Deep.AppendLies
import Derived.Test.YteonjgnnpgpnnaaGreatProg
import Derived.Test.YteonjgnnpgpnnaaGreatPart1
import Derived.WalkKit
import Derived.StillTailTactics
import Derived.Deep.Cut
import Derived.Lib.Hide
/- The document's own slab of layer 7: Has, Fits. -/
namespace Go.Proofs.YteonjgnnpgpnnaaGreat.RefSlab
open Go Go.RowKit Go.Proofs.YteonjgnnpgpnnaaGreat.Slab Go.Proofs.YteonjgnnpgpnnaaGreat.Mem

theorem total_most (l : List (Int × Int)) : total l ≤ 2048 * l.length := by
  induction l with
  | nil => simp [total]
  | cons c l ih => rw [total_cons, List.length_cons]; have := bytes_range c.1; omega
/-- What Fits answers, of what is in use. -/
def ft (u budget size less : Int) : Bool := decide (classN size < 6 ∧ 0 ≤ less ∧ less ≤ u ∧ u - less + bytesI (classN size) ≤ budget)
set_option maxRecDepth 100000 in
set_option maxHeartbeats 2000000 in
theorem fits_any {w : World} {b : Nat} {F : Nat → Prop} {r : RSt} (h : RAt w b F r) (hl0 : r.inn.length ≤ 1000000) (size less : Int) (hl : -9223372036854775808 ≤ less ∧ less ≤ 9223372036854775807) :
    Calls Tryz.prog 83 #[.pointer (some ⟨b, 0, none⟩), .int .i64 size, .int .i64 less] w fun e w' => e = .returned (.bool (ft (total r.inn) r.budget size less)) ∧ ∃ n, w' = w.drewN n := by
  have hu := used_any h hl0
  obtain ⟨vi, vg, gm, h⟩ := h
  have c0 : w.cell? ⟨b, 0, none⟩ = some (.int .i64 r.budget) := Mem.row_cell h.blk 0
  have u0 := total_pos r.inn
  have u1 := total_most r.inn
  have u2 : total r.inn ≤ 2251799813685248 := by omega
  obtain ⟨l0, l1⟩ := hl
  clear h u1
  obtain ⟨u, hue⟩ : ∃ u, total r.inn = u := ⟨_, rfl⟩
  rw [hue] at u0 u2
  simp only [hue] at hu
  simp only [hue]
  clear hue
  by_cases h6 : classN size = 6
  · have hr : ft u r.budget size less = false := by unfold ft; simp [h6]
    rw [hr]
    have e0 : (classE size == 0) = false := by rw [(classE_no h6).1]; rfl
    clear h6 hr
    go_enter Tryz.func83, Tryz.ntmps83
    go_wp2_with (first | (go_at_call 53; refine (rclass_any _ _).mono ?_; rintro e w' ⟨rfl, rfl⟩) | (go_at_call 12; refine hu.mono ?_; rintro e w' ⟨rfl, rfl⟩))
    go_quiet (fail)
    go_wp2
    go_ret
    exact ⟨rfl, _, rfl⟩
  have hc := class_six size
  have e0 : (classE size == 0) = true := by rw [(classE_ok (by omega)).1]; rfl
  have er : classR size = (classN size : Nat) := (classE_ok (by omega)).2
  have hb := bytes_range (classN size : Nat)
  by_cases h0 : 0 ≤ less
  case neg =>
    have hr : ft u r.budget size less = false := by unfold ft; simp; intros; omega
    rw [hr]
    have d0 : decide ((0 : Int) ≤ less) = false := by simpa using h0
    clear h6 hr er hb hc h0
    go_enter Tryz.func83, Tryz.ntmps83
    go_wp2_with (first | (go_at_call 53; refine (rclass_any _ _).mono ?_; rintro e w' ⟨rfl, rfl⟩) | (go_at_call 12; refine hu.mono ?_; rintro e w' ⟨rfl, rfl⟩))
    go_quiet (fail)
    go_wp2
    go_ret
    exact ⟨rfl, _, rfl⟩
  have d0 : decide ((0 : Int) ≤ less) = true := by simpa using h0
  by_cases h1 : less ≤ u
  case neg =>
    have hr : ft u r.budget size less = false := by unfold ft; simp; intros; omega
    rw [hr]
    have d1 : decide (less ≤ u) = false := by simpa using h1
    clear h6 hr er hb hc h1
    go_enter Tryz.func83, Tryz.ntmps83
    go_wp2_with (first | (go_at_call 53; refine (rclass_any _ _).mono ?_; rintro e w' ⟨rfl, rfl⟩) | (go_at_call 12; refine hu.mono ?_; rintro e w' ⟨rfl, rfl⟩))
    go_quiet (fail)
    go_wp2
    go_ret
    exact ⟨rfl, _, rfl⟩
  have d1 : decide (less ≤ u) = true := by simpa using h1
  have hr : ft u r.budget size less = decide (u - less + bytesI (classR size) ≤ r.budget) := by
    unfold ft; rw [er]
    by_cases hx : u - less + bytesI ((classN size : Nat) : Int) ≤ r.budget
    · simp [hx, h0, h1]; omega
    · simp [hx]
  rw [hr]
  rw [← er] at hb
  obtain ⟨hb0, hb1⟩ := hb
  have w1 : IntKind.i64.wrap (u - less) = u - less := by rw [IntKind.wrap_i64]; omega
  have w2 : IntKind.i64.wrap (u - less + bytesI (classR size)) = u - less + bytesI (classR size) := by rw [IntKind.wrap_i64]; omega
  clear h6 hr er hc
  go_enter Tryz.func83, Tryz.ntmps83
  go_wp2_with (first | (go_at_call 53; refine (rclass_any _ _).mono ?_; rintro e w' ⟨rfl, rfl⟩) | (go_at_call 12; refine hu.mono ?_; rintro e w' ⟨rfl, rfl⟩))
  go_quiet ((go_at_call 36; exact Calls.quiet_of_same ((rbytes_any _ _).mono fun _ _ ⟨h, e⟩ => ⟨h, e.symm⟩)))
  go_wp2
  go_ret
  exact ⟨rfl, _, rfl⟩
end Go.Proofs.YteonjgnnpgpnnaaGreat.RefSlab

/- The document's own slab of layer 7: appends of chunks at a plain region; Free. -/
namespace Go.Proofs.YteonjgnnpgpnnaaGreat.RefSlab
open Go Go.RowKit Go.Proofs.YteonjgnnpgpnnaaGreat.Slab Go.Proofs.YteonjgnnpgpnnaaGreat.Mem

/-- append of chunks that lie somewhere onto chunks of the call's own, at a plain region. -/
theorem list_appC {w : World} {ops : Array Oper} {rest : List Oper} {o : Oper} {a : Act} {Q : Exit → Act → World → Prop} (s x : Operand) (base : Nat) (v : Value) (xs ys : List (Int × Int)) (g off c : Nat) (hgd : o.guard = none)
    (ho : o.op = .call { callee := .builtin .append, args := #[s, x], argTypes := #[83, 83] }) (hs : a.eval s = v) (hx : a.eval x = .slice (some ⟨g, off, none⟩) ys.length c)
    (hown : w.ownsRow base 77 2 v xs.length (cellsC xs)) (hr : ReadsC w g off ys) (hb : xs.length + ys.length ≤ 1000000000) (hbase : base ≤ w.heap.size)
    (hK : ∀ v' w', w'.ownsRow base 77 2 v' (xs ++ ys).length (cellsC (xs ++ ys)) → w.grownBy w' v.ownBlock → (v'.ownBlock = v.ownBlock ∨ v'.ownBlock = some w.heap.size) → wpList Tryz.prog ops Q rest (a.put o.dst v') w') :
    wpList Tryz.prog ops Q (o :: rest) a w := by
  obtain ⟨i0, hi, hz0, hz1, hz2⟩ := info_parts infoChunk
  obtain ⟨v', w', hrun, h2, h3, _, h5⟩ := run_append_own_at (P := Tryz.prog) w base 83 o.type 77 i0 _ 2 16 Tryz.underlying83 hi hz0 hz1 hz2 rfl (by decide) v xs.length (cellsC xs) hown ⟨g, off, none⟩ ys.length c (cellsC ys) (cellsC_len ys) (fun j u hu => by rw [addr_add]; exact hr j u hu) (one_cellsC ys)
    (by unfold maxLen; omega) (by omega) hbase
  refine wpList_plain hgd fun K hKK => ?_
  unfold Oper.wp
  simp [execOp, ho, resolve, invoke, builtin, hs, hx, hrun, Result.andThen]
  exact hKK _ _ (hK v' w' (by rw [List.length_append, cellsC_app]; exact h2) h3 h5)
theorem row_not {w : World} {e t : TypeId} {size n k : Nat} {v : Value} {xs : List Value} {cs : Array Value} (h : w.ownsRow 0 e size v n xs) (hk : w.heap[k]? = some (.cells cs t (0, 0))) (hne : e ≠ t) : v.ownBlock ≠ some k := fun e1 => by
  rcases h.2 with ⟨q, _⟩ | ⟨g1, cap, cur, q, _, b1, _⟩
  · rw [q] at e1; cases e1
  · rw [q] at e1
    have : g1 = k := by simpa [Value.ownBlock] using e1
    subst this
    rw [b1] at hk
    injection hk with hk
    injection hk with _ hk
    exact hne hk
section
variable {w w' : World} {b : Nat} {F : Nat → Prop} {r : RSt} {vi vg v' : Value} {gm : Nat} {xs : List (Int × Int)}
/-- A new list of what is in use. -/
theorem RAtW.inn (h : RAtW w b F r vi vg gm) (hs : ∀ k, F k → vi.ownBlock ≠ some k → w'.heap[k]? = w.heap[k]?) (hz : w.heap.size ≤ w'.heap.size) (hown : w'.ownsRow 0 77 2 v' xs.length (cellsC xs))
    (hat : ∀ g, v'.ownBlock = some g → vi.ownBlock = some g ∨ w.heap.size ≤ g) : RAtW (w'.setCell ⟨b, 1, none⟩ v') b (fun j => F j ∨ v'.ownBlock = some j) { r with inn := xs } v' vg gm := by
  have hvb : vi.ownBlock ≠ some b := row_not h.ri h.blk (by decide)
  have hvm : vi.ownBlock ≠ some gm := row_not h.ri h.mad (by decide)
  have hbm : gm ≠ b := fun e => by have h1 := h.blk; rw [← e, h.mad] at h1; injection h1 with h1; injection h1 with _ h1; exact absurd h1 (by decide)
  have hvg : vg.ownBlock ≠ some b := row_not h.rg h.blk (by decide)
  have hnb : v'.ownBlock ≠ some b := fun e => (hat b e).elim hvb (fun e1 => by have := h.lt b h.fb; omega)
  have hset : ∀ k, k ≠ b → (w'.setCell ⟨b, 1, none⟩ v').heap[k]? = w'.heap[k]? := fun k hk => Below.heap_setCell _ _ _ _ hk
  refine ⟨?_, (hset gm hbm).trans ((hs gm h.fm hvm).trans h.mad), row_same hown fun g e => hset g (fun e1 => hnb (e1 ▸ e)), row_same h.rg fun g e => (hset g (fun e1 => hvg (e1 ▸ e))).trans (hs g (h.fg g e) (fun e1 => h.apart g e1 e)), .inl h.fb, .inl h.fm, fun g e => .inr e, fun g e => .inl (h.fg g e), fun g e e1 => ?_, fun k hk => ?_⟩
  · have := Mem.row_set ((hs b h.fb hvb).trans h.blk) 1 v'
    exact this
  · exact (hat g e).elim (fun e2 => h.apart g e2 e1) (fun e2 => by have := h.lt g (h.fg g e1); omega)
  · rw [show (w'.setCell ⟨b, 1, none⟩ v').heap.size = w'.heap.size from by simp [World.setCell]]
    exact hk.elim (fun e => Nat.lt_of_lt_of_le (h.lt k e) hz) (fun e => (ownsRow_lt hown k e).2)
/-- A new list of what was let go. -/
theorem RAtW.gne (h : RAtW w b F r vi vg gm) (hs : ∀ k, F k → vg.ownBlock ≠ some k → w'.heap[k]? = w.heap[k]?) (hz : w.heap.size ≤ w'.heap.size) (hown : w'.ownsRow 0 77 2 v' xs.length (cellsC xs))
    (hat : ∀ g, v'.ownBlock = some g → vg.ownBlock = some g ∨ w.heap.size ≤ g) : RAtW (w'.setCell ⟨b, 2, none⟩ v') b (fun j => F j ∨ v'.ownBlock = some j) { r with gone := xs } vi v' gm := by
  have hvb : vg.ownBlock ≠ some b := row_not h.rg h.blk (by decide)
  have hvm : vg.ownBlock ≠ some gm := row_not h.rg h.mad (by decide)
  have hbm : gm ≠ b := fun e => by have h1 := h.blk; rw [← e, h.mad] at h1; injection h1 with h1; injection h1 with _ h1; exact absurd h1 (by decide)
  have hvi : vi.ownBlock ≠ some b := row_not h.ri h.blk (by decide)
  have hnb : v'.ownBlock ≠ some b := fun e => (hat b e).elim hvb (fun e1 => by have := h.lt b h.fb; omega)
  have hset : ∀ k, k ≠ b → (w'.setCell ⟨b, 2, none⟩ v').heap[k]? = w'.heap[k]? := fun k hk => Below.heap_setCell _ _ _ _ hk
  refine ⟨?_, (hset gm hbm).trans ((hs gm h.fm hvm).trans h.mad), row_same h.ri fun g e => (hset g (fun e1 => hvi (e1 ▸ e))).trans (hs g (h.fi g e) (fun e1 => h.apart g e e1)), row_same hown fun g e => hset g (fun e1 => hnb (e1 ▸ e)), .inl h.fb, .inl h.fm, fun g e => .inl (h.fi g e), fun g e => .inr e, fun g e e1 => ?_, fun k hk => ?_⟩
  · have := Mem.row_set ((hs b h.fb hvb).trans h.blk) 2 v'
    exact this
  · exact (hat g e1).elim (fun e2 => h.apart g e e2) (fun e2 => by have := h.lt g (h.fi g e); omega)
  · rw [show (w'.setCell ⟨b, 2, none⟩ v').heap.size = w'.heap.size from by simp [World.setCell]]
    exact hk.elim (fun e => Nat.lt_of_lt_of_le (h.lt k e) hz) (fun e => (ownsRow_lt hown k e).2)
end
theorem erase_first {α : Type} [BEq α] [LawfulBEq α] : ∀ (l : List α) (j : Nat) (c : α), c ∉ l.take j → l[j]? = some c → l.erase c = l.take j ++ l.drop (j + 1)
  | [], j, c, _, h => by simp at h
  | d :: l, 0, c, _, h => by simp at h; subst h; simp
  | d :: l, j + 1, c, hn, h => by
    have hne : (d == c) = false := by simp; exact fun e => hn (by simp [e])
    rw [List.erase_cons, hne, erase_first l j c (fun h1 => hn (by simp [h1])) (by simpa using h)]
    simp
end Go.Proofs.YteonjgnnpgpnnaaGreat.RefSlab

/- The document's own slab of layer 7: Free. -/
namespace Go.Proofs.YteonjgnnpgpnnaaGreat.RefSlab
open Go Go.RowKit Go.Proofs.YteonjgnnpgpnnaaGreat.Slab Go.Proofs.YteonjgnnpgpnnaaGreat.Mem

def rfree (r : RSt) (c : Int × Int) : Int × RSt := if c ∈ r.inn then (0, { r with inn := r.inn.erase c, gone := r.gone ++ [c] }) else (1, r)
def RFreePost (w : World) (b : Nat) (F : Nat → Prop) (r : RSt) (c : Int × Int) (e : Ending) (w' : World) : Prop :=
  ∃ F', e = .returned (.int .i64 (rfree r c).1) ∧ RAt w' b F' (rfree r c).2 ∧ Only F w w' ∧ Grows w F F'

set_option maxRecDepth 20000 in
set_option maxHeartbeats 2000000 in
theorem free_any {w : World} {b : Nat} {F : Nat → Prop} {r : RSt} (h : RAt w b F r) (hl : r.inn.length ≤ 1000000) (hl2 : r.gone.length ≤ 1000000) (c n : Int) :
    Calls Tryz.prog 56 #[.pointer (some ⟨b, 0, none⟩), .agg #[.int .i64 c, .int .i64 n]] w (RFreePost w b F r (c, n)) := by
  have hst : Below w.heap.size w (w.alloc (.cells #[.int .i64 c, .int .i64 n] 77)) := Mem.al (Below.refl _ _) _
  have h1 := h.below hst
  have hlt0 := h.lt
  have hk := Mem.new_block w (.cells #[.int .i64 c, .int .i64 n] 77)
  have H1 := Lib.hid (And.intro h1 hk)
  have H0 := Lib.hid (And.intro hst hlt0)
  clear h h1 hk hst hlt0
  go_enter Tryz.func56, Tryz.ntmps56
  go_wp2
  generalize w.alloc (.cells #[.int .i64 c, .int .i64 n] 77) = w1 at *
  obtain ⟨sz, hsz⟩ : ∃ sz, w.heap.size = sz := ⟨_, rfl⟩
  rw [hsz] at H1
  have HS := Lib.hid hsz
  simp only [hsz]
  clear hsz
  go_loopg [5] r.inn.length (fun g i wr => ∃ j : Nat, i = .int .i64 j ∧ g + j = r.inn.length ∧ Below w1.heap.size w1 wr ∧ (c, n) ∉ r.inn.take j)
  case atStart => exact ⟨0, rfl, by omega, Below.refl _ _, by simp⟩
  case round =>
    obtain ⟨j, rfl, hg, hb, hno⟩ := hrel
    have HG := Lib.hid hg
    obtain ⟨vi, vg, gm, h⟩ := H1.out.1.below hb
    obtain ⟨ya, yc, hv⟩ := row_shape h.ri
    have c1 : wr.cell? ⟨b, 1, none⟩ = some vi := Mem.row_cell h.blk 1
    have hkb := (hb.block sz (Array.getElem?_eq_some_iff.1 H1.out.2).1).trans H1.out.2
    have p0 := Mem.row_cell hkb 0
    have p1 := Mem.row_cell hkb 1
    simp only [List.getElem?_toArray, List.getElem?_cons_zero, List.getElem?_cons_succ] at p0 p1
    have HB := Lib.hid (And.intro hb hno)
    by_cases hj : j < r.inn.length
    · obtain ⟨⟨cj, nj⟩, hcj⟩ : ∃ q, r.inn[j]? = some q := ⟨_, List.getElem?_eq_getElem hj⟩
      obtain ⟨g', cap', hya, z0, z1⟩ := row_at h.ri hcj
      subst hv
      injection hya with hya hle hyc
      clear hle
      subst hya hyc
      have hji : (j : Int) < r.inn.length := by omega
      have htk : r.inn.take (j + 1) = r.inn.take j ++ [(cj, nj)] := by rw [List.take_add_one, hcj]; rfl
      have HT := Lib.hid (And.intro htk hcj)
      have HW := Lib.hid (And.intro h hkb)
      clear h hkb hb hno hcj htk hg
      by_cases hcc : cj = c
      · subst hcc
        by_cases hnn : nj = n
        · subst hnn
          go_wp2
          go_quiet (fail)
          have h5 := HW.out.1.same (w' := wr.drewN nq) (fun _ _ => rfl) (Nat.le_refl _)
          have hk5 : (wr.drewN nq).heap[sz]? = some (.cells #[.int .i64 cj, .int .i64 nj] 77 (0, 0)) := HW.out.2
          have hb5 : Below w1.heap.size w1 (wr.drewN nq) := Mem.tr HB.out.1 (Mem.dn (Below.refl _ _) _)
          have d1 : (wr.drewN nq).cell? ⟨b, 1, none⟩ = some (.slice (some ⟨g', 0, none⟩) r.inn.length yc) := Mem.row_cell h5.blk 1
          have f1 : (wr.drewN nq).frozen? ⟨b, 1, none⟩ = false := Mem.row_free h5.blk 1
          clear c1 p0 p1 z0 z1
          generalize wr.drewN nq = w5 at *
          have hcap : r.inn.length ≤ yc := by
            rcases h5.ri.2 with ⟨e1, _⟩ | ⟨g1, c1, cur, e1, _, _, e2, _⟩
            · cases e1
            · injection e1 with _ _ e1; omega
          have hrd : ReadsC w5 g' 0 r.inn := fun i u hu => by
            obtain ⟨n', hn'⟩ : ∃ n', r.inn.length = n' + 1 := ⟨r.inn.length - 1, by omega⟩
            have ho := h5.ri
            rw [hn'] at ho
            obtain ⟨g1, c1, cur, e1, _, e2, _, _, e3⟩ := Mem.row_block ho
            injection e1 with e1
            injection e1 with e1
            injection e1 with e1
            subst e1
            rw [Nat.zero_add]
            exact (Mem.row_cell e2 _).trans (e3 _ _ hu)
          have hgl : g' < w5.heap.size := h5.lt _ (h5.fi g' rfl)
          have hl1 : (r.inn.take j).length = j := by rw [List.length_take]; omega
          have hl2 : (r.inn.drop (j + 1)).length = r.inn.length - (j + 1) := by rw [List.length_drop]
          have hcapi : (j : Int) ≤ yc := by omega
          have hcapi1 : (r.inn.length : Int) ≤ yc := by omega
          have hw1 : IntKind.i64.wrap ((j : Int) + 1) = (j : Int) + 1 := by rw [IntKind.wrap_i64]; omega
          have htn : ((j : Int) + 1).toNat = j + 1 := by omega
          have hk1i : (j : Int) + 1 ≤ r.inn.length := by omega
          have hk01 : (0 : Int) ≤ (j : Int) + 1 := by omega
          obtain ⟨off2, hoff2, hrd2⟩ : ∃ off2, (if yc = j + 1 then some (⟨g', 0, none⟩ : Addr) else some ⟨g', (j + 1) * 2, none⟩) = some ⟨g', off2, none⟩ ∧ ReadsC w5 g' off2 (r.inn.drop (j + 1)) := by
            by_cases hy : yc = j + 1
            · refine ⟨0, by rw [if_pos hy], ?_⟩
              rw [List.drop_eq_nil_of_le (by omega)]
              exact fun i u hu => by simp [cellsC] at hu
            · refine ⟨(j + 1) * 2, by rw [if_neg hy], ?_⟩
              have := hrd.drop (j + 1)
              rwa [Nat.zero_add] at this
          have H5 := Lib.hid (And.intro h5 (And.intro hk5 (And.intro hb5 (And.intro hrd hrd2))))
          clear h5 hk5 hb5 hrd hrd2
          have hlb : b < w5.heap.size := H5.out.1.lt _ H5.out.1.fb
          have hls : sz < w5.heap.size := (Array.getElem?_eq_some_iff.1 H5.out.2.1).1
          have hkeep1 : ∀ w6, w5.grownBy w6 (Value.slice none 0 0).ownBlock → ∀ k, k < w5.heap.size → w6.heap[k]? = w5.heap[k]? := fun w6 hg k hk => hg.block k hk (fun e => by cases e)
          have hkeep2 : ∀ (w6 w7 : World) (v1 : Value), w5.grownBy w6 (Value.slice none 0 0).ownBlock → w6.grownBy w7 v1.ownBlock → (v1.ownBlock = (Value.slice none 0 0).ownBlock ∨ v1.ownBlock = some w5.heap.size) → ∀ k, k < w5.heap.size → w7.heap[k]? = w5.heap[k]? := fun w6 w7 v1 hg hg2 hat k hk =>
            (hg2.block k (Nat.lt_of_lt_of_le hk hg.size) (fun e => by
              rcases hat with e1 | e1
              · rw [e1] at e; cases e
              · rw [e1] at e; injection e with e; omega)).trans (hkeep1 w6 hg k hk)
          have HK2 := Lib.hid hkeep2
          have HK1 := Lib.hid hkeep1
          clear hkeep1 hkeep2
          go_wp2_with (first
            | (at_builtin; refine list_appC _ _ 0 _ [] (r.inn.take j) g' 0 yc rfl rfl rfl (by rw [hl1]; kernel_rfl) (World.ownsRow_nil _ _ _ _) (H5.out.2.2.2.1.take j) (by rw [hl1]; simp; omega) (Nat.zero_le _) ?_; intro v1 w6 hown1 hgrow1 hat1; have d1' : w6.cell? ⟨b, 1, none⟩ = some (.slice (some ⟨g', 0, none⟩) r.inn.length yc) := (World.cell?_of_block (HK1.out _ hgrow1 b hlb)).trans d1)
            | (at_builtin; refine list_appC _ _ 0 v1 (r.inn.take j) (r.inn.drop (j + 1)) g' off2 (yc - (j + 1)) rfl rfl rfl (by rw [hl2]; kernel_rfl) hown1 (H5.out.2.2.2.2.same (HK1.out _ hgrow1 g' hgl)) (by rw [hl1, hl2]; omega) (Nat.zero_le _) ?_; intro v2 w7 hown2 hgrow2 hat2; obtain ⟨xs, hxs⟩ : ∃ xs, r.inn.take j ++ r.inn.drop (j + 1) = xs := ⟨_, rfl⟩; rw [hxs] at hown2; obtain ⟨ya2, yc2, hv2⟩ := row_shape hown2; subst hv2; have d2' : w7.cell? ⟨b, 1, none⟩ = some (.slice (some ⟨g', 0, none⟩) r.inn.length yc) := (World.cell?_of_block (HK2.out _ _ _ hgrow1 hgrow2 hat1 b hlb)).trans d1; have f2' : w7.frozen? ⟨b, 1, none⟩ = false := (World.frozen?_of_block (HK2.out _ _ _ hgrow1 hgrow2 hat1 b hlb)).trans f1))
          have h7 := HK2.out _ _ _ hgrow1 hgrow2 hat1
          have hat7 : ∀ g, (Value.slice ya2 xs.length yc2).ownBlock = some g → w5.heap.size ≤ g := fun g e => by
            rw [e] at hat2
            rcases hat2 with e1 | e1
            · rcases hat1 with e2 | e2
              · rw [e2] at e1; cases e1
              · rw [e2] at e1; injection e1 with e1; omega
            · injection e1 with e1
              have := hgrow1.size; omega
          have hz7 : w5.heap.size ≤ w7.heap.size := Nat.le_trans hgrow1.size hgrow2.size
          have h8 := H5.out.1.inn (fun k hk _ => h7 k (H5.out.1.lt k hk)) hz7 hown2 (fun g e => .inr (hat7 g e))
          have ho7 : Only F w5 w7 := ((Only.refl F w5).grown hgrow1 (fun g e => (by cases e))).grown hgrow2 (fun g e => .inr (by
            rcases hat1 with e2 | e2
            · rw [e2] at e; cases e
            · rw [e2] at e; injection e with e; omega))
          have ho8 : Only F w5 (w7.setCell ⟨b, 1, none⟩ (.slice ya2 xs.length yc2)) := ho7.setCell (.inl H5.out.1.fb) _
          have hsb : sz ≠ b := fun e => by subst e; have := HS.out; have := H0.out.2 _ H5.out.1.fb; omega
          have hk8 : (w7.setCell ⟨b, 1, none⟩ (.slice ya2 xs.length yc2)).heap[sz]? = some (.cells #[.int .i64 cj, .int .i64 nj] 77 (0, 0)) := (Below.heap_setCell _ _ _ _ (by simpa using hsb)).trans ((h7 sz hls).trans H5.out.2.1)
          have hgr8 : Grows w5 F (fun k => F k ∨ (Value.slice ya2 xs.length yc2).ownBlock = some k) := fun k hk => hk.imp id (hat7 k)
          have H8 := Lib.hid (And.intro h8 (And.intro ho8 (And.intro hk8 (And.intro hgr8 hxs))))
          clear h7 hat7 hz7 h8 ho7 ho8 hk8 hgr8 hown1 hown2 hgrow1 hgrow2 hat1 hat2 hxs d1' d2' f2' d1 f1
          generalize w7.setCell ⟨b, 1, none⟩ (.slice ya2 xs.length yc2) = w8 at *
          obtain ⟨i0, hi, hz0, hz1, hz2⟩ := info_parts infoChunk
          have ck : w8.cell? ⟨b, 2, none⟩ = some vg := Mem.row_cell H8.out.1.blk 2
          have fk := Mem.row_free H8.out.1.blk 2
          have d0' := Mem.row_cell H8.out.2.2.1 0
          have d1' := Mem.row_cell H8.out.2.2.1 1
          simp only [List.getElem?_toArray, List.getElem?_cons_zero, List.getElem?_cons_succ] at d0' d1'
          have hrow := H8.out.1.rg
          have hlb8 : b < w8.heap.size := H8.out.1.lt _ H8.out.1.fb
          have hls8 : sz < w8.heap.size := (Array.getElem?_eq_some_iff.1 H8.out.2.2.1).1
          have hne : vg.ownBlock ≠ some b := row_not H8.out.1.rg H8.out.1.blk (by decide)
          have hneR : vg.ownBlock ≠ some sz := fun e => by have := H0.out.2 sz (HW.out.1.fg sz e); have := HS.out; omega
          obtain ⟨L, hL⟩ : ∃ L, r.gone.length = L := ⟨_, rfl⟩
          obtain ⟨X, hX⟩ : ∃ X, cellsC r.gone = X := ⟨_, rfl⟩
          simp only [hL, hX] at hrow
          have hmx : L + 1 ≤ maxLen := by unfold maxLen; omega
          have hby : (L + 1) * 16 ≤ 140737488355328 := by omega
          have HLX := Lib.hid (And.intro hL hX)
          clear hL hX
          have hstep : ∀ {ops : Array Oper} {o : Oper} {a : Act} {K : Act → World → Prop} {Q : Exit → Act → World → Prop} {E : Prop}, o.guard = none → o.op = .call { callee := .builtin .append, args := #[.tmp 49, .tmp 51], argTypes := #[83, 83] } → a.eval (.tmp 49) = vg → a.eval (.tmp 51) = .slice (some ⟨w8.heap.size, 0, none⟩) 1 1 → (∀ g cap w', w'.ownsRow 0 77 2 (.slice (some ⟨g, 0, none⟩) (L + 1) cap) (L + 1) (X ++ [.int .i64 cj, .int .i64 nj]) → (w8.alloc (.cells #[.int .i64 cj, .int .i64 nj] 77)).drew.grownBy w' vg.ownBlock → (vg.ownBlock = some g ∨ g = w8.heap.size + 1) → g < w'.heap.size → K (a.put o.dst (.slice (some ⟨g, 0, none⟩) (L + 1) cap)) w') → if Region.wanted o (yielded ops a.tmps) = true then Oper.wp Tryz.prog o a (w8.alloc (.cells #[.int .i64 cj, .int .i64 nj] 77)).drew K Q else E := fun hg ho he hx hK => step_append_lies _ hg _ _ _ ho 0 77 i0 _ 2 16 Tryz.underlying83 hi hz0 hz1 hz2 rfl (by omega) vg L X he ((hrow.alloc _).drew) ⟨w8.heap.size, 0, none⟩ 1 1 [.int .i64 cj, .int .i64 nj] hx rfl (World.news_of_block (cs := #[.int .i64 cj, .int .i64 nj]) (t := 77) (fr := (0, 0)) (heap_alloc_new w8 _)) (by simp [Value.oneCell']) (by decide) hmx hby (Nat.zero_le _) (w8.heap.size + 1) (by simp) hK
          have hsl : b < (w8.alloc (.cells #[.int .i64 cj, .int .i64 nj] 77)).drew.heap.size := by simp; omega
          have hblk : ∀ w1 : World, (w8.alloc (.cells #[.int .i64 cj, .int .i64 nj] 77)).drew.grownBy w1 vg.ownBlock → w1.heap[b]? = w8.heap[b]? := fun w1 hg => (hg.block b hsl (Ne.symm hne)).trans (Below.heap_alloc w8 _ _ hlb8)
          have hfarb : ∀ w1 : World, (w8.alloc (.cells #[.int .i64 cj, .int .i64 nj] 77)).drew.grownBy w1 vg.ownBlock → w1.cell? ⟨b, 2, none⟩ = some vg ∧ w1.frozen? ⟨b, 2, none⟩ = false := fun w1 hg => ⟨(World.cell?_of_block (hblk w1 hg)).trans ck, (World.frozen?_of_block (hblk w1 hg)).trans fk⟩
          have hsl2 : sz < (w8.alloc (.cells #[.int .i64 cj, .int .i64 nj] 77)).drew.heap.size := by simp; omega
          have hfars : ∀ w1 : World, (w8.alloc (.cells #[.int .i64 cj, .int .i64 nj] 77)).drew.grownBy w1 vg.ownBlock → w1.cell? ⟨sz, 0, none⟩ = some (.int .i64 cj) ∧ w1.cell? ⟨sz, 1, none⟩ = some (.int .i64 nj) := fun w1 hg => by
            have e2 := (hg.block sz hsl2 (Ne.symm hneR)).trans (Below.heap_alloc w8 _ _ hls8)
            exact ⟨(World.cell?_of_block e2).trans d0', (World.cell?_of_block e2).trans d1'⟩
          go_cut [] from 7 to 54 (fun wx => ∃ g cap w1, w1.ownsRow 0 77 2 (.slice (some ⟨g, 0, none⟩) (L + 1) cap) (L + 1) (X ++ [.int .i64 cj, .int .i64 nj]) ∧ (w8.alloc (.cells #[.int .i64 cj, .int .i64 nj] 77)).drew.grownBy w1 vg.ownBlock ∧ (vg.ownBlock = some g ∨ g = w8.heap.size + 1) ∧ g < w1.heap.size ∧ wx = w1.setCell ⟨b, 2, none⟩ (.slice (some ⟨g, 0, none⟩) (L + 1) cap))
          case first =>
            go_region_law (refine hstep (by rfl) (by rfl) (by kernel_rfl) (by kernel_rfl) ?_; intro gg cap w1 hown1 hgrow hat hlt; have cw1 := (hfarb w1 hgrow).1; have fw1 := (hfarb w1 hgrow).2; have ew1 := (hfars w1 hgrow).1; have gw1 := (hfars w1 hgrow).2)
            all_goals (go_wp2_with fail; go_meet; exact ⟨_, _, _, hown1, hgrow, hat, hlt, rfl⟩)
          case rest =>
            obtain ⟨g, cap, w9, hown, hgrow, hat, hlt, rfl⟩ := hcut
            have hX := HLX.out.2
            have hL := HLX.out.1
            subst hX hL
            have hw5 : w.heap.size ≤ w5.heap.size := by have h1 := H0.out.1.size; have h2 := H5.out.2.2.1.size; omega
            have hw8 := H8.out.2.1.size
            have hw89 : w8.heap.size ≤ w9.heap.size := Nat.le_trans (by simp) hgrow.size
            have hown' : w9.ownsRow 0 77 2 (.slice (some ⟨g, 0, none⟩) (r.gone.length + 1) cap) (r.gone ++ [(cj, nj)]).length (cellsC (r.gone ++ [(cj, nj)])) := by
              rw [List.length_append, cellsC_app]; exact hown
            have hat' : ∀ x, (Value.slice (some ⟨g, 0, none⟩) (r.gone.length + 1) cap).ownBlock = some x → vg.ownBlock = some x ∨ w8.heap.size ≤ x := fun x e => by
              have : g = x := by simpa [Value.ownBlock] using e
              subst this
              exact hat.imp id (fun e => by omega)
            have h10 := H8.out.1.gne (w' := w9) (fun k hk hv => (hgrow.block k (by have := H8.out.1.lt k hk; simp; omega) (fun e => hv e.symm)).trans (Below.heap_alloc _ _ _ (H8.out.1.lt k hk))) hw89 hown' hat'
            have ho10 : Only F w (w9.setCell ⟨b, 2, none⟩ (.slice (some ⟨g, 0, none⟩) (r.gone.length + 1) cap)) :=
              ((((Only.of_below (F := F) (Mem.tr H0.out.1 H5.out.2.2.1) (fun k h1 h2 => by omega)).trans H8.out.2.1 (fun _ e => .inl e)).alloc _).drew.grown hgrow (fun x e => .inl (H5.out.1.fg x e))).setCell (.inl H5.out.1.fb) _
            have hg10 : Grows w F (fun k => (F k ∨ (Value.slice ya2 xs.length yc2).ownBlock = some k) ∨ (Value.slice (some ⟨g, 0, none⟩) (r.gone.length + 1) cap).ownBlock = some k) := fun x hx => by
              rcases hx with hx | hx
              · exact (H8.out.2.2.2.1 x hx).imp id (fun e => by omega)
              · rcases hat' x hx with e | e
                · exact .inl (H5.out.1.fg x e)
                · exact .inr (by omega)
            have hmem : (cj, nj) ∈ r.inn := List.mem_of_getElem? HT.out.2
            have hr : rfree r (cj, nj) = (0, { r with inn := xs, gone := r.gone ++ [(cj, nj)] }) := by
              unfold rfree
              rw [if_pos hmem, erase_first _ j _ HB.out.2 HT.out.2, H8.out.2.2.2.2]
            have H10 := Lib.hid (And.intro h10 (And.intro ho10 (And.intro hg10 hr)))
            clear h10 ho10 hg10 hr hown hgrow hat hlt hown' hat' hstep hblk hfarb hfars hmem
            go_wp2
            go_ret
            unfold RFreePost
            rw [H10.out.2.2.2]
            exact ⟨_, rfl, ⟨_, _, _, H10.out.1⟩, H10.out.2.1, H10.out.2.2.1⟩
        · have hnb : (nj == n) = false := by simp; exact hnn
          have HN := Lib.hid hnn
          go_wp2
          go_quiet (fail)
          go_wp2
          go_roundg (r.inn.length - (j + 1))
          case measure => have := HG.out; omega
          case rel => exact ⟨j + 1, by go_num, by have := HG.out; omega, Mem.tr HB.out.1 (Mem.dn (Below.refl _ _) _), by rw [HT.out.1]; simp; exact ⟨HB.out.2, fun e => HN.out e.symm⟩⟩
      · have hnb : (cj == c) = false := by simp; exact hcc
        have HN := Lib.hid hcc
        go_wp2
        go_quiet (fail)
        go_wp2
        go_roundg (r.inn.length - (j + 1))
        case measure => have := HG.out; omega
        case rel => exact ⟨j + 1, by go_num, by have := HG.out; omega, Mem.tr HB.out.1 (Mem.dn (Below.refl _ _) _), by rw [HT.out.1]; simp; exact ⟨HB.out.2, fun e => absurd e.symm HN.out⟩⟩
    · have hjs : (r.inn.length : Int) ≤ j := by omega
      have hno' : (c, n) ∉ r.inn := by rw [List.take_of_length_le (by omega)] at hno; exact hno
      have HN := Lib.hid hno'
      subst hv
      clear h hkb hb hno hno' hg
      go_wp2
      go_ret
      have hbw := Mem.tr H0.out.1 HB.out.1
      unfold RFreePost rfree
      rw [if_neg HN.out]
      exact ⟨F, rfl, H1.out.1.below HB.out.1, Only.of_below hbw (fun k h1 h2 => by omega), Grows.refl _ _⟩
end Go.Proofs.YteonjgnnpgpnnaaGreat.RefSlab

/- The document's own slab of layer 7: Take. -/
namespace Go.Proofs.YteonjgnnpgpnnaaGreat.RefSlab
open Go Go.RowKit Go.Proofs.YteonjgnnpgpnnaaGreat.Slab Go.Proofs.YteonjgnnpgpnnaaGreat.Mem

/-- The last of a class, among those that were let go. -/
def IsLast (l : List (Int × Int)) (k : Int) (a : Nat) (n : Int) : Prop := l[a]? = some (k, n) ∧ ∀ i c, a < i → l[i]? = some c → c.1 ≠ k
def NoClass (l : List (Int × Int)) (k : Int) : Prop := ∀ (i : Nat) c, l[i]? = some c → c.1 ≠ k
def rtook (r : RSt) (c : Int × Int) : RSt := { r with inn := r.inn ++ [c] }
def RTook (r : RSt) (size : Int) (c n err : Int) (r' : RSt) : Prop :=
  (classN size = 6 ∧ (c, n, err) = (0, 0, 4) ∧ r' = r) ∨
  (classN size < 6 ∧ r.budget < total r.inn + bytesI (classN size) ∧ (c, n, err) = (0, 0, 5) ∧ r' = r) ∨
  (classN size < 6 ∧ ¬ r.budget < total r.inn + bytesI (classN size) ∧ c = (classN size : Nat) ∧ err = 0 ∧
    ((NoClass r.gone c ∧ n = r.made (classN size) ∧ r' = rtook { r with made := put r.made (classN size) (r.made (classN size) + 1) } (c, n)) ∨
     (∃ a, IsLast r.gone c a n ∧ r' = rtook { r with gone := r.gone.take a ++ r.gone.drop (a + 1) } (c, n))))
def RTakePost (w : World) (b : Nat) (F : Nat → Prop) (r : RSt) (size : Int) (e : Ending) (w' : World) : Prop :=
  ∃ c n err r' F', e = .returned (.tuple #[.agg #[.int .i64 c, .int .i64 n], .int .i64 err]) ∧ RAt w' b F' r' ∧ Only F w w' ∧ Grows w F F' ∧ RTook r size c n err r'
def LastTo (l : List (Int × Int)) (k : Int) (m : Nat) (a : Int) : Prop :=
  (a = -1 ∧ ∀ i c, i < m → l[i]? = some c → c.1 ≠ k) ∨ (∃ (j : Nat) (n : Int), a = (j : Int) ∧ j < m ∧ l[j]? = some (k, n) ∧ ∀ i c, j < i → i < m → l[i]? = some c → c.1 ≠ k)
theorem LastTo.skip {l : List (Int × Int)} {k : Int} {m : Nat} {a : Int} (h : LastTo l k m a) {c : Int × Int} (hc : l[m]? = some c) (hne : c.1 ≠ k) : LastTo l k (m + 1) a := by
  rcases h with ⟨h1, h2⟩ | ⟨j, n, h1, h2, h3, h4⟩
  · refine .inl ⟨h1, fun i d hi hd => ?_⟩
    by_cases e : i = m
    · subst e; rw [hc] at hd; injection hd with hd; subst hd; exact hne
    · exact h2 i d (by omega) hd
  · refine .inr ⟨j, n, h1, by omega, h3, fun i d hj hi hd => ?_⟩
    by_cases e : i = m
    · subst e; rw [hc] at hd; injection hd with hd; subst hd; exact hne
    · exact h4 i d hj (by omega) hd
theorem LastTo.take {l : List (Int × Int)} {k : Int} {m : Nat} {n : Int} (hc : l[m]? = some (k, n)) : LastTo l k (m + 1) (m : Int) := .inr ⟨m, n, rfl, by omega, hc, fun i d hj hi => by omega⟩
theorem mcells_set (r : RSt) {k : Nat} (hk : k < 6) (v : Int) : (mcells r).setIfInBounds k (.int .i64 v) = mcells { r with made := put r.made k v } := by
  match k, hk with
  | 0, _ | 1, _ | 2, _ | 3, _ | 4, _ | 5, _ => rfl
theorem RAtW.mde {w : World} {b : Nat} {F : Nat → Prop} {r : RSt} {vi vg : Value} {gm : Nat} (h : RAtW w b F r vi vg gm) {k : Nat} (hk : k < 6) (v : Int) : RAtW (w.setCell ⟨gm, k, none⟩ (.int .i64 v)) b F { r with made := put r.made k v } vi vg gm := by
  have hbm : gm ≠ b := fun e => by have h1 := h.blk; rw [← e, h.mad] at h1; injection h1 with h1; injection h1 with _ h1; exact absurd h1 (by decide)
  have hvi : vi.ownBlock ≠ some gm := row_not h.ri h.mad (by decide)
  have hvg : vg.ownBlock ≠ some gm := row_not h.rg h.mad (by decide)
  have hset : ∀ j, j ≠ gm → (w.setCell ⟨gm, k, none⟩ (.int .i64 v)).heap[j]? = w.heap[j]? := fun j hj => Below.heap_setCell _ _ _ _ hj
  refine ⟨(hset b (fun e => hbm e.symm)).trans h.blk, ?_, row_same h.ri fun g e => hset g (fun e1 => hvi (by rw [e, e1])), row_same h.rg fun g e => hset g (fun e1 => hvg (by rw [e, e1])), h.fb, h.fm, h.fi, h.fg, h.apart, fun j hj => Nat.lt_of_lt_of_le (h.lt j hj) (by simp [World.setCell])⟩
  have := Mem.row_set h.mad k (.int .i64 v)
  rw [mcells_set r hk v] at this
  exact this
section
variable {w : World} {b : Nat} {F : Nat → Prop} {r : RSt}
theorem take_long (h : RAt w b F r) (size : Int) (h6 : classN size = 6) :
    Calls Tryz.prog 57 #[.pointer (some ⟨b, 0, none⟩), .int .i64 size] w (RTakePost w b F r size) := by
  have hfin : ∀ w', Below w.heap.size w w' → RTakePost w b F r size (.returned (.tuple #[.agg #[.int .i64 0, .int .i64 0], .int .i64 4])) w' := fun w' hb =>
    ⟨0, 0, 4, r, F, rfl, h.below hb, Only.of_below hb (fun k h1 h2 => by omega), Grows.refl _ _, .inl ⟨h6, rfl, rfl⟩⟩
  have HF := Lib.hid hfin
  obtain ⟨e1, er⟩ := classE_no h6
  have e0 : (classE size != 0) = true := by rw [e1]; rfl
  clear h hfin h6 er
  go_enter Tryz.func57, Tryz.ntmps57
  go_wp2_with (go_at_call 53; refine (rclass_any _ _).mono ?_; rintro e w' ⟨rfl, rfl⟩)
  have r0 : (w.alloc (.cells #[.int .i64 0, .int .i64 0] 77)).cell? ⟨w.heap.size, 0, none⟩ = some (.int .i64 0) := Mem.row_cell (Mem.new_block w _) 0
  have r1 : (w.alloc (.cells #[.int .i64 0, .int .i64 0] 77)).cell? ⟨w.heap.size, 1, none⟩ = some (.int .i64 0) := Mem.row_cell (Mem.new_block w _) 1
  refine bodyPost_ret (v := .tuple #[.agg #[.int .i64 0, .int .i64 0], .int .i64 4]) (by simp [results, Tryz.results57, go_sem, r0, r1]) rfl ?_
  exact HF.out _ (Mem.al (Below.refl _ _) _)
theorem take_full (h : RAt w b F r) (hl : r.inn.length ≤ 1000000) (hbud : -9223372036854775808 ≤ r.budget ∧ r.budget ≤ 9223372036854775807) (size : Int) (h6 : classN size < 6) (hx : r.budget < total r.inn + bytesI (classN size)) :
    Calls Tryz.prog 57 #[.pointer (some ⟨b, 0, none⟩), .int .i64 size] w (RTakePost w b F r size) := by
  have hfin : ∀ w', Below w.heap.size w w' → RTakePost w b F r size (.returned (.tuple #[.agg #[.int .i64 0, .int .i64 0], .int .i64 5])) w' := fun w' hb =>
    ⟨0, 0, 5, r, F, rfl, h.below hb, Only.of_below hb (fun k h1 h2 => by omega), Grows.refl _ _, .inr (.inl ⟨h6, hx, rfl, rfl⟩)⟩
  have HF := Lib.hid hfin
  have h1 : RAt (w.alloc (.cells #[.int .i64 0, .int .i64 0] 77)) b F r := h.below (Mem.al (Below.refl _ _) _)
  have hu := fun n => used_any (h1.same (w' := (w.alloc (.cells #[.int .i64 0, .int .i64 0] 77)).drewN n) (fun _ _ => rfl) (Nat.le_refl _)) hl
  have c0 : (w.alloc (.cells #[.int .i64 0, .int .i64 0] 77)).cell? ⟨b, 0, none⟩ = some (.int .i64 r.budget) := by obtain ⟨vi, vg, gm, h1⟩ := h1; exact Mem.row_cell h1.blk 0
  have u0 := total_pos r.inn
  have u1 := total_most r.inn
  have u2 : total r.inn ≤ 2251799813685248 := by omega
  obtain ⟨e1, er⟩ := classE_ok h6
  have e0 : (classE size != 0) = false := by rw [e1]; rfl
  rw [← er] at hx
  obtain ⟨hb0, hb1⟩ := bytes_range (classR size)
  have w2 : IntKind.i64.wrap (total r.inn + bytesI (classR size)) = total r.inn + bytesI (classR size) := by rw [IntKind.wrap_i64]; omega
  have r0 : (w.alloc (.cells #[.int .i64 0, .int .i64 0] 77)).cell? ⟨w.heap.size, 0, none⟩ = some (.int .i64 0) := Mem.row_cell (Mem.new_block w _) 0
  have r1 : (w.alloc (.cells #[.int .i64 0, .int .i64 0] 77)).cell? ⟨w.heap.size, 1, none⟩ = some (.int .i64 0) := Mem.row_cell (Mem.new_block w _) 1
  have HB : Below w.heap.size w (w.alloc (.cells #[.int .i64 0, .int .i64 0] 77)) := Mem.al (Below.refl _ _) _
  have HB := Lib.hid HB
  clear h h1 h6 er e1 hfin
  generalize total r.inn = u at *
  go_enter Tryz.func57, Tryz.ntmps57
  go_wp2_with (go_at_call 53; refine (rclass_any _ _).mono ?_; rintro e w' ⟨rfl, rfl⟩)
  go_quiet (first | (go_at_call 12; exact Calls.quiet_of_same ((hu _).mono fun _ _ ⟨h, e⟩ => ⟨h, e.symm⟩)) | (go_at_call 36; exact Calls.quiet_of_same ((rbytes_any _ _).mono fun _ _ ⟨h, e⟩ => ⟨h, e.symm⟩)))
  go_wp2
  generalize w.alloc (.cells #[.int .i64 0, .int .i64 0] 77) = A at *
  have q1 : (((A.drewN nq).setCell ⟨w.heap.size, 0, none⟩ (.int .i64 0)).setCell ⟨w.heap.size, 1, none⟩ (.int .i64 0)).cell? ⟨w.heap.size, 1, none⟩ = some (.int .i64 0) :=
    World.cell?_setCell_same' _ _ _ (by rw [World.cell?_setCell_other _ _ _ _ (by simp)]; exact (congrArg Option.isSome (show (A.drewN nq).cell? ⟨w.heap.size, 1, none⟩ = _ from r1)))
  have q0 : (((A.drewN nq).setCell ⟨w.heap.size, 0, none⟩ (.int .i64 0)).setCell ⟨w.heap.size, 1, none⟩ (.int .i64 0)).cell? ⟨w.heap.size, 0, none⟩ = some (.int .i64 0) := by
    rw [World.cell?_setCell_other _ _ _ _ (by simp)]
    exact World.cell?_setCell_same' _ _ _ (congrArg Option.isSome (show (A.drewN nq).cell? ⟨w.heap.size, 0, none⟩ = _ from r0))
  refine bodyPost_ret (v := .tuple #[.agg #[.int .i64 0, .int .i64 0], .int .i64 5]) (by simp [results, Tryz.results57, go_sem, q0, q1]) rfl ?_
  exact HF.out _ (Mem.sc (Mem.sc (Mem.dn HB.out nq) (p := ⟨w.heap.size, 0, none⟩) (Nat.le_refl _) _) (p := ⟨w.heap.size, 1, none⟩) (Nat.le_refl _) _)
set_option maxRecDepth 20000 in
set_option maxHeartbeats 4000000 in
theorem take_ok (h : RAt w b F r) (hl : r.inn.length ≤ 1000000) (hl2 : r.gone.length ≤ 1000000) (hm : ∀ k, 0 ≤ r.made k ∧ r.made k ≤ 1000000) (hbud : -9223372036854775808 ≤ r.budget ∧ r.budget ≤ 9223372036854775807) (size : Int) (h6 : classN size < 6) (hx : ¬ r.budget < total r.inn + bytesI (classN size)) :
    Calls Tryz.prog 57 #[.pointer (some ⟨b, 0, none⟩), .int .i64 size] w (RTakePost w b F r size) := by
  have hst : Below w.heap.size w (w.alloc (.cells #[.int .i64 0, .int .i64 0] 77)) := Mem.al (Below.refl _ _) _
  have h1 := h.below hst
  have hlt0 := h.lt
  have hu := fun n => used_any (h1.same (w' := (w.alloc (.cells #[.int .i64 0, .int .i64 0] 77)).drewN n) (fun _ _ => rfl) (Nat.le_refl _)) hl
  have c0 : (w.alloc (.cells #[.int .i64 0, .int .i64 0] 77)).cell? ⟨b, 0, none⟩ = some (.int .i64 r.budget) := by obtain ⟨vi, vg, gm, h1⟩ := h1; exact Mem.row_cell h1.blk 0
  have u0 := total_pos r.inn
  have u1 := total_most r.inn
  have u2 : total r.inn ≤ 2251799813685248 := by omega
  obtain ⟨e1, er⟩ := classE_ok h6
  have e0 : (classE size != 0) = false := by rw [e1]; rfl
  have hx' : total r.inn + bytesI (classR size) ≤ r.budget := by rw [er]; omega
  obtain ⟨hb0, hb1⟩ := bytes_range (classR size)
  have w2 : IntKind.i64.wrap (total r.inn + bytesI (classR size)) = total r.inn + bytesI (classR size) := by rw [IntKind.wrap_i64]; omega
  have hkb := Mem.new_block w (.cells #[.int .i64 0, .int .i64 0] 77)
  have HX := Lib.hid (And.intro h6 (And.intro hx (And.intro er (And.intro hm (And.intro h1 (And.intro hst (And.intro hlt0 hkb)))))))
  clear h h1 h6 er e1 hm hx hst hlt0 hkb
  obtain ⟨u, hue⟩ : ∃ u, total r.inn = u := ⟨_, rfl⟩
  rw [hue] at HX u0 u1 u2 hx' w2
  simp only [hue] at hu
  have HU := Lib.hid hue
  clear hue
  go_enter Tryz.func57, Tryz.ntmps57
  go_wp2_with (go_at_call 53; refine (rclass_any _ _).mono ?_; rintro e w' ⟨rfl, rfl⟩)
  go_quiet (first | (go_at_call 12; exact Calls.quiet_of_same ((hu _).mono fun _ _ ⟨h, e⟩ => ⟨h, e.symm⟩)) | (go_at_call 36; exact Calls.quiet_of_same ((rbytes_any _ _).mono fun _ _ ⟨h, e⟩ => ⟨h, e.symm⟩)))
  have h5 : RAt ((w.alloc (.cells #[.int .i64 0, .int .i64 0] 77)).drewN nq) b F r := HX.out.2.2.2.2.1.same (fun _ _ => rfl) (Nat.le_refl _)
  have hb5 : Below w.heap.size w ((w.alloc (.cells #[.int .i64 0, .int .i64 0] 77)).drewN nq) := Mem.dn HX.out.2.2.2.2.2.1 nq
  have hk5 : ((w.alloc (.cells #[.int .i64 0, .int .i64 0] 77)).drewN nq).heap[w.heap.size]? = some (.cells #[.int .i64 0, .int .i64 0] 77 (0, 0)) := HX.out.2.2.2.2.2.2.2
  have hkR : classR size = (classN size : Nat) := HX.out.2.2.1
  obtain ⟨k, hk⟩ : ∃ k, classN size = k := ⟨_, rfl⟩
  rw [hk] at hkR
  have hk6 : k < 6 := by rw [← hk]; exact HX.out.1
  have hk6i : (k : Int) < 6 := by omega
  have hk0i : (0 : Int) ≤ k := by omega
  have HKK := Lib.hid hk
  have hdx : decide (r.budget < u + bytesI (k : Int)) = false := by rw [← hkR]; simp; omega
  clear hk c0 hu u1
  rw [hkR] at hx' hb0 hb1
  simp only [hkR]
  simp only [hdx]
  clear w2
  generalize (w.alloc (.cells #[.int .i64 0, .int .i64 0] 77)).drewN nq = w5 at *
  obtain ⟨vi, vg, gm, h5⟩ := h5
  have c3 : w5.cell? ⟨b, 3, none⟩ = some (.slice (some ⟨gm, 0, none⟩) 6 6) := Mem.row_cell h5.blk 3
  have cm : w5.cell? ⟨gm, k, none⟩ = some (.int .i64 (r.made k)) := by
    rw [Mem.row_cell h5.mad k]
    match k, hk6 with
    | 0, _ | 1, _ | 2, _ | 3, _ | 4, _ | 5, _ => rfl
  obtain ⟨sz, hsz⟩ : ∃ sz, w.heap.size = sz := ⟨_, rfl⟩
  have HS := Lib.hid hsz
  rw [hsz] at hk5
  simp only [hsz]
  clear hsz
  have H5 := Lib.hid (And.intro h5 (And.intro hb5 hk5))
  clear h5 hb5 hk5
  go_wp2_with fail
  -- LOOP
  have h6 : RAtW (w5.alloc (.cells #[.int .i64 k, .int .i64 (r.made k)] 77)) b F r vi vg gm := H5.out.1.same (fun x hx => Below.heap_alloc _ _ _ (H5.out.1.lt x hx)) (by simp)
  have hcb6 := Mem.new_block w5 (.cells #[.int .i64 k, .int .i64 (r.made k)] 77)
  have hsz6 : (w5.alloc (.cells #[.int .i64 k, .int .i64 (r.made k)] 77)).heap[sz]? = some (.cells #[.int .i64 0, .int .i64 0] 77 (0, 0)) := Mem.new_later H5.out.2.2 _
  have hb6 : Below w.heap.size w (w5.alloc (.cells #[.int .i64 k, .int .i64 (r.made k)] 77)) := Mem.al H5.out.2.1 _
  have hcbs : sz < w5.heap.size := (Array.getElem?_eq_some_iff.1 H5.out.2.2).1
  generalize w5.alloc (.cells #[.int .i64 k, .int .i64 (r.made k)] 77) = w6 at *
  obtain ⟨cb, hcb⟩ : ∃ cb, w5.heap.size = cb := ⟨_, rfl⟩
  rw [hcb] at hcb6 hcbs
  simp only [hcb]
  have HCS := Lib.hid hcbs
  have H6 := Lib.hid (And.intro h6 (And.intro hcb6 (And.intro hsz6 hb6)))
  clear h6 hcb6 hsz6 hb6 hcb c3 cm hcbs
  go_loopg [9, 10] r.gone.length (fun gk p i wr => ∃ (m : Nat) (a : Int), p = .int .i64 a ∧ i = .int .i64 m ∧ gk + m = r.gone.length ∧ Hid (LastTo r.gone k m a) ∧ wr = w6)
  case atStart => exact ⟨0, -1, rfl, rfl, by omega, Lib.hid (.inl ⟨rfl, fun i c hi => by omega⟩), rfl⟩
  case round =>
    obtain ⟨m, a, rfl, rfl, hg, HA, rfl⟩ := hrel
    have HG := Lib.hid hg
    have c2 : wr.cell? ⟨b, 2, none⟩ = some vg := Mem.row_cell H6.out.1.blk 2
    obtain ⟨ya, yc, hv⟩ := row_shape H6.out.1.rg
    by_cases hm : m < r.gone.length
    · obtain ⟨⟨cj, nj⟩, hcj⟩ : ∃ q, r.gone[m]? = some q := ⟨_, List.getElem?_eq_getElem hm⟩
      obtain ⟨g', cap', hya, z0, z1⟩ := row_at H6.out.1.rg hcj
      rw [hya] at c2
      have hmi : (m : Int) < r.gone.length := by omega
      have HC := Lib.hid hcj
      clear hg hcj hv hya z1
      by_cases hck : cj = k
      · have hckb : (cj == (k : Int)) = true := by simpa using hck
        have HK := Lib.hid hck
        clear hck
        go_wp2
        go_roundg (r.gone.length - (m + 1))
        case measure => have := HG.out; omega
        case rel => exact ⟨m + 1, m, rfl, by go_num, by have := HG.out; omega, Lib.hid (LastTo.take (n := nj) (by rw [HC.out, HK.out])), rfl⟩
      · have hckb : (cj == (k : Int)) = false := by simpa using hck
        have HK := Lib.hid hck
        clear hck
        go_wp2
        go_roundg (r.gone.length - (m + 1))
        case measure => have := HG.out; omega
        case rel => exact ⟨m + 1, a, rfl, by go_num, by have := HG.out; omega, Lib.hid (HA.out.skip HC.out HK.out), rfl⟩
    · have hmg : (r.gone.length : Int) ≤ m := by omega
      have hdm : decide (m < r.gone.length) = false := by simp; omega
      rw [hv] at c2
      by_cases ha : a = -1
      · subst ha
        have hno : NoClass r.gone k := by
          rcases HA.out with ⟨-, h2⟩ | ⟨j, n, h1, -⟩
          · exact fun i c hc => h2 i c (by have := (List.getElem?_eq_some_iff.1 hc).1; omega) hc
          · omega
        have hmk := HX.out.2.2.2.1 k
        obtain ⟨n8, hn8⟩ : ∃ n, r.made k = n := ⟨_, rfl⟩
        have c3 : wr.cell? ⟨b, 3, none⟩ = some (.slice (some ⟨gm, 0, none⟩) 6 6) := Mem.row_cell H6.out.1.blk 3
        have cm : wr.cell? ⟨gm, k, none⟩ = some (.int .i64 n8) := by
          rw [← hn8, Mem.row_cell H6.out.1.mad k]
          match k, hk6 with
          | 0, _ | 1, _ | 2, _ | 3, _ | 4, _ | 5, _ => rfl
        have fm : wr.frozen? ⟨gm, k, none⟩ = false := Mem.row_free H6.out.1.mad k
        rw [hn8] at hmk
        obtain ⟨hm0, hm1⟩ := hmk
        have HN8 := Lib.hid hn8
        have HNo := Lib.hid hno
        clear hn8 hno hg hm hv
        go_wp2_with fail
        have hm8 := H6.out.1.mde hk6 (n8 + 1)
        have hgc : cb ≠ gm := fun e => by have h1 := H6.out.2.1; rw [e, H6.out.1.mad] at h1; injection h1 with h1; injection h1 with _ h1; exact absurd h1 (by decide)
        have hgs : sz ≠ gm := fun e => by have h1 := H6.out.2.2.1; rw [e, H6.out.1.mad] at h1; injection h1 with h1; injection h1 with _ h1; exact absurd h1 (by decide)
        have hFsz : ¬ F sz := fun e => by have := HX.out.2.2.2.2.2.2.1 sz e; have := HS.out; omega
        have hFcb : ¬ F cb := fun e => by have := HX.out.2.2.2.2.2.2.1 cb e; have := HS.out; have := HCS.out; omega
        have H8 := Lib.hid (show RAtW (wr.setCell ⟨gm, k, none⟩ (.int .i64 (n8 + 1))) b F { r with made := put r.made k (n8 + 1) } vi vg gm ∧ Only F w (wr.setCell ⟨gm, k, none⟩ (.int .i64 (n8 + 1))) ∧ Grows w F F ∧
            (wr.setCell ⟨gm, k, none⟩ (.int .i64 (n8 + 1))).heap[cb]? = some (.cells #[.int .i64 k, .int .i64 n8] 77 (0, 0)) ∧ (wr.setCell ⟨gm, k, none⟩ (.int .i64 (n8 + 1))).heap[sz]? = some (.cells #[.int .i64 0, .int .i64 0] 77 (0, 0)) ∧ ¬ F cb ∧ ¬ F sz ∧ { r with made := put r.made k (n8 + 1) }.inn.length ≤ 1000000 from
          ⟨hm8, (Only.of_below H6.out.2.2.2 (fun k h1 h2 => by omega)).setCell (.inl H6.out.1.fm) _, Grows.refl _ _, (Below.heap_setCell _ _ _ _ (by simpa using hgc)).trans (by rw [← HN8.out]; exact H6.out.2.1), (Below.heap_setCell _ _ _ _ (by simpa using hgs)).trans H6.out.2.2.1, hFcb, hFsz, hl⟩)
        have HT8 : Hid ((NoClass r.gone k ∧ n8 = r.made (classN size) ∧ rtook { r with made := put r.made k (n8 + 1) } (k, n8) = rtook { r with made := put r.made (classN size) (r.made (classN size) + 1) } (k, n8)) ∨
            (∃ a, IsLast r.gone k a n8 ∧ rtook { r with made := put r.made k (n8 + 1) } (k, n8) = rtook { r with gone := r.gone.take a ++ r.gone.drop (a + 1) } (k, n8))) := Lib.hid (.inl ⟨HNo.out, by rw [HKK.out, HN8.out], by rw [HKK.out, HN8.out]⟩)
        clear hm8 c2 c3 cm fm hgc hgs hFsz hFcb
        generalize wr.setCell ⟨gm, k, none⟩ (.int .i64 (n8 + 1)) = w8 at *
        obtain ⟨vi8, hvi8⟩ : ∃ vi8, vi = vi8 := ⟨_, rfl⟩
        obtain ⟨r8, hr8⟩ : ∃ r8, { r with made := put r.made k (n8 + 1) } = r8 := ⟨_, rfl⟩
        rw [hvi8, hr8] at H8
        rw [hr8] at HT8
        clear hvi8 hr8 H6 HA
        obtain ⟨i0, hi, hz0, hz1, hz2⟩ := info_parts infoChunk
        have ck : w8.cell? ⟨b, 1, none⟩ = some vi8 := Mem.row_cell H8.out.1.blk 1
        have fk := Mem.row_free H8.out.1.blk 1
        have d0' := Mem.row_cell H8.out.2.2.2.1 0
        have d1' := Mem.row_cell H8.out.2.2.2.1 1
        simp only [List.getElem?_toArray, List.getElem?_cons_zero, List.getElem?_cons_succ] at d0' d1'
        have hrow := H8.out.1.ri
        have hlb8 : b < w8.heap.size := H8.out.1.lt _ H8.out.1.fb
        have hlc8 : cb < w8.heap.size := (Array.getElem?_eq_some_iff.1 H8.out.2.2.2.1).1
        have hls8 : sz < w8.heap.size := (Array.getElem?_eq_some_iff.1 H8.out.2.2.2.2.1).1
        have hne : vi8.ownBlock ≠ some b := row_not H8.out.1.ri H8.out.1.blk (by decide)
        have hneC : vi8.ownBlock ≠ some cb := fun e => H8.out.2.2.2.2.2.1 (H8.out.1.fi cb e)
        have hneS : vi8.ownBlock ≠ some sz := fun e => H8.out.2.2.2.2.2.2.1 (H8.out.1.fi sz e)
        obtain ⟨L, hL⟩ : ∃ L, r8.inn.length = L := ⟨_, rfl⟩
        obtain ⟨X, hX⟩ : ∃ X, cellsC r8.inn = X := ⟨_, rfl⟩
        have hL8 := H8.out.2.2.2.2.2.2.2
        simp only [hL, hX] at hrow
        rw [hL] at hL8
        have hmx : L + 1 ≤ maxLen := by unfold maxLen; omega
        have hby : (L + 1) * 16 ≤ 140737488355328 := by omega
        have HLX := Lib.hid (And.intro hL hX)
        clear hL hX
        have hstep : ∀ {ops : Array Oper} {o : Oper} {a : Act} {K : Act → World → Prop} {Q : Exit → Act → World → Prop} {E : Prop}, o.guard = none → o.op = .call { callee := .builtin .append, args := #[.tmp 103, .tmp 105], argTypes := #[83, 83] } → a.eval (.tmp 103) = vi8 → a.eval (.tmp 105) = .slice (some ⟨w8.heap.size, 0, none⟩) 1 1 → (∀ g cap w', w'.ownsRow 0 77 2 (.slice (some ⟨g, 0, none⟩) (L + 1) cap) (L + 1) (X ++ [.int .i64 k, .int .i64 n8]) → (w8.alloc (.cells #[.int .i64 k, .int .i64 n8] 77)).drew.grownBy w' vi8.ownBlock → (vi8.ownBlock = some g ∨ g = w8.heap.size + 1) → g < w'.heap.size → K (a.put o.dst (.slice (some ⟨g, 0, none⟩) (L + 1) cap)) w') → if Region.wanted o (yielded ops a.tmps) = true then Oper.wp Tryz.prog o a (w8.alloc (.cells #[.int .i64 k, .int .i64 n8] 77)).drew K Q else E := fun hg ho he hx hK => step_append_lies _ hg _ _ _ ho 0 77 i0 _ 2 16 Tryz.underlying83 hi hz0 hz1 hz2 rfl (by omega) vi8 L X he ((hrow.alloc _).drew) ⟨w8.heap.size, 0, none⟩ 1 1 [.int .i64 k, .int .i64 n8] hx rfl (World.news_of_block (cs := #[.int .i64 k, .int .i64 n8]) (t := 77) (fr := (0, 0)) (heap_alloc_new w8 _)) (by simp [Value.oneCell']) (by decide) hmx hby (Nat.zero_le _) (w8.heap.size + 1) (by simp) hK
        have hblk : ∀ (w1 : World) (j : Nat), (w8.alloc (.cells #[.int .i64 k, .int .i64 n8] 77)).drew.grownBy w1 vi8.ownBlock → j < w8.heap.size → vi8.ownBlock ≠ some j → w1.heap[j]? = w8.heap[j]? := fun w1 j hg hj hn => (hg.block j (show j < (w8.alloc (.cells #[.int .i64 k, .int .i64 n8] 77)).heap.size by simp; omega) (Ne.symm hn)).trans (Below.heap_alloc w8 _ _ hj)
        have hfarb : ∀ w1 : World, (w8.alloc (.cells #[.int .i64 k, .int .i64 n8] 77)).drew.grownBy w1 vi8.ownBlock → w1.cell? ⟨b, 1, none⟩ = some vi8 ∧ w1.frozen? ⟨b, 1, none⟩ = false := fun w1 hg => ⟨(World.cell?_of_block (hblk w1 b hg hlb8 hne)).trans ck, (World.frozen?_of_block (hblk w1 b hg hlb8 hne)).trans fk⟩
        have hfars : ∀ w1 : World, (w8.alloc (.cells #[.int .i64 k, .int .i64 n8] 77)).drew.grownBy w1 vi8.ownBlock → w1.cell? ⟨cb, 0, none⟩ = some (.int .i64 k) ∧ w1.cell? ⟨cb, 1, none⟩ = some (.int .i64 n8) := fun w1 hg =>
          ⟨(World.cell?_of_block (hblk w1 cb hg hlc8 hneC)).trans d0', (World.cell?_of_block (hblk w1 cb hg hlc8 hneC)).trans d1'⟩
        go_cut [] from 61 to 108 (fun wx => ∃ g cap w1, w1.ownsRow 0 77 2 (.slice (some ⟨g, 0, none⟩) (L + 1) cap) (L + 1) (X ++ [.int .i64 k, .int .i64 n8]) ∧ (w8.alloc (.cells #[.int .i64 k, .int .i64 n8] 77)).drew.grownBy w1 vi8.ownBlock ∧ (vi8.ownBlock = some g ∨ g = w8.heap.size + 1) ∧ g < w1.heap.size ∧ wx = w1.setCell ⟨b, 1, none⟩ (.slice (some ⟨g, 0, none⟩) (L + 1) cap))
        case first =>
          go_region_law (refine hstep (by rfl) (by rfl) (by kernel_rfl) (by kernel_rfl) ?_; intro gg cap w1 hown1 hgrow hat hlt; have cw1 := (hfarb w1 hgrow).1; have fw1 := (hfarb w1 hgrow).2; have ew1 := (hfars w1 hgrow).1; have gw1 := (hfars w1 hgrow).2)
          all_goals (go_wp2_with fail; go_meet; exact ⟨_, _, _, hown1, hgrow, hat, hlt, rfl⟩)
        case rest =>
          obtain ⟨g, cap, w9, hown, hgrow, hat, hlt, rfl⟩ := hcut
          have hX := HLX.out.2
          have hL := HLX.out.1
          subst hX hL
          have hw8 := H8.out.2.1.size
          have hw89 : w8.heap.size ≤ w9.heap.size := Nat.le_trans (by simp) hgrow.size
          have hown' : w9.ownsRow 0 77 2 (.slice (some ⟨g, 0, none⟩) (r8.inn.length + 1) cap) (r8.inn ++ [((k : Int), n8)]).length (cellsC (r8.inn ++ [((k : Int), n8)])) := by
            rw [List.length_append, cellsC_app]; exact hown
          have hat' : ∀ x, (Value.slice (some ⟨g, 0, none⟩) (r8.inn.length + 1) cap).ownBlock = some x → vi8.ownBlock = some x ∨ w8.heap.size ≤ x := fun x e => by
            have : g = x := by simpa [Value.ownBlock] using e
            subst this
            exact hat.imp id (fun e => by omega)
          have h10 := H8.out.1.inn (w' := w9) (fun j hj hv => hblk w9 j hgrow (H8.out.1.lt j hj) hv) hw89 hown' hat'
          have ho10 : Only F w (w9.setCell ⟨b, 1, none⟩ (.slice (some ⟨g, 0, none⟩) (r8.inn.length + 1) cap)) :=
            (((H8.out.2.1.alloc _).drew.grown hgrow (fun x e => H8.out.2.2.1 x (H8.out.1.fi x e)))).setCell (H8.out.2.2.1 b H8.out.1.fb) _
          have hg10 : Grows w F (fun x => F x ∨ (Value.slice (some ⟨g, 0, none⟩) (r8.inn.length + 1) cap).ownBlock = some x) := fun x hx => by
            rcases hx with hx | hx
            · exact H8.out.2.2.1 x hx
            · rcases hat' x hx with e | e
              · exact H8.out.2.2.1 x (H8.out.1.fi x e)
              · exact .inr (by omega)
          have hcbb : cb ≠ b := fun e => H8.out.2.2.2.2.2.1 (e ▸ H8.out.1.fb)
          have hszb : sz ≠ b := fun e => H8.out.2.2.2.2.2.2.1 (e ▸ H8.out.1.fb)
          have kc : (w9.setCell ⟨b, 1, none⟩ (.slice (some ⟨g, 0, none⟩) (r8.inn.length + 1) cap)).heap[cb]? = some (.cells #[.int .i64 k, .int .i64 n8] 77 (0, 0)) := (Below.heap_setCell _ _ _ _ (by simpa using hcbb)).trans ((hblk w9 cb hgrow hlc8 hneC).trans H8.out.2.2.2.1)
          have ks : (w9.setCell ⟨b, 1, none⟩ (.slice (some ⟨g, 0, none⟩) (r8.inn.length + 1) cap)).heap[sz]? = some (.cells #[.int .i64 0, .int .i64 0] 77 (0, 0)) := (Below.heap_setCell _ _ _ _ (by simpa using hszb)).trans ((hblk w9 sz hgrow hls8 hneS).trans H8.out.2.2.2.2.1)
          have hszg : g ≠ sz := fun e => by subst e; exact hat.elim (fun e => hneS e) (fun e => by omega)
          have hnF : ¬ (F sz ∨ (Value.slice (some ⟨g, 0, none⟩) (r8.inn.length + 1) cap).ownBlock = some sz) := fun e => e.elim H8.out.2.2.2.2.2.2.1 (fun e => hszg (by simpa [Value.ownBlock] using e))
          have H10 := Lib.hid (And.intro h10 (And.intro ho10 (And.intro hg10 (And.intro ks hnF))))
          have e0' := Mem.row_cell kc 0
          have e1' := Mem.row_cell kc 1
          have s0' := Mem.row_cell ks 0
          have s1' := Mem.row_cell ks 1
          have t0' := Mem.row_free ks 0
          have t1' := Mem.row_free ks 1
          simp only [List.getElem?_toArray, List.getElem?_cons_zero, List.getElem?_cons_succ] at e0' e1' s0' s1'
          have hcs : cb ≠ sz := fun e => by have h1 := H8.out.2.2.2.1; subst e; have := HCS.out; omega
          clear h10 ho10 hg10 hown hgrow hat hlt hown' hat' hstep hblk hfarb hfars kc ks hnF
          generalize w9.setCell ⟨b, 1, none⟩ (.slice (some ⟨g, 0, none⟩) (r8.inn.length + 1) cap) = wA at *
          go_wp2
          have r1 : ((wA.setCell ⟨sz, 0, none⟩ (.int .i64 k)).setCell ⟨sz, 1, none⟩ (.int .i64 n8)).cell? ⟨sz, 1, none⟩ = some (.int .i64 n8) :=
            World.cell?_setCell_same' _ _ _ (by rw [World.cell?_setCell_other _ _ _ _ (by simp), s1']; rfl)
          have r0 : ((wA.setCell ⟨sz, 0, none⟩ (.int .i64 k)).setCell ⟨sz, 1, none⟩ (.int .i64 n8)).cell? ⟨sz, 0, none⟩ = some (.int .i64 k) := by
            rw [World.cell?_setCell_other _ _ _ _ (by simp)]; exact World.cell?_setCell_same' _ _ _ (by rw [s0']; rfl)
          refine bodyPost_ret (v := .tuple #[.agg #[.int .i64 k, .int .i64 n8], .int .i64 0]) (by simp [results, Tryz.results57, go_sem, r0, r1]) rfl ?_
          have hset : ∀ x, x ≠ sz → ((wA.setCell ⟨sz, 0, none⟩ (.int .i64 k)).setCell ⟨sz, 1, none⟩ (.int .i64 n8)).heap[x]? = wA.heap[x]? := fun x hx => (Below.heap_setCell _ _ _ _ (by simpa using hx)).trans (Below.heap_setCell _ _ _ _ (by simpa using hx))
          have hsw : w.heap.size ≤ sz := by have := HS.out; omega
          refine ⟨k, n8, 0, _, _, rfl, ⟨_, _, _, H10.out.1.same (fun x hx => hset x (fun e => H10.out.2.2.2.2 (e ▸ hx))) (by simp [World.setCell])⟩, (H10.out.2.1.setCell (p := ⟨sz, 0, none⟩) (.inr hsw) _).setCell (p := ⟨sz, 1, none⟩) (.inr hsw) _, H10.out.2.2.1, .inr (.inr ⟨HX.out.1, by rw [HU.out]; have := HX.out.2.1; omega, by rw [HKK.out], rfl, ?_⟩)⟩
          exact HT8.out
      · obtain ⟨j, n8, rfl, hjm, hcj, hlast⟩ : ∃ (j : Nat) (n : Int), a = (j : Int) ∧ j < m ∧ r.gone[j]? = some ((k : Int), n) ∧ ∀ i c, j < i → i < m → r.gone[i]? = some c → c.1 ≠ k := by
          rcases HA.out with ⟨h1, -⟩ | h
          · exact absurd h1 ha
          · exact h
        have hil : IsLast r.gone k j n8 := ⟨hcj, fun i c hi hc => hlast i c hi (by have := (List.getElem?_eq_some_iff.1 hc).1; omega) hc⟩
        have hjl : j < r.gone.length := (List.getElem?_eq_some_iff.1 hcj).1
        obtain ⟨g', cap', hya, z0, z1⟩ := row_at H6.out.1.rg hcj
        rw [hv] at hya
        injection hya with hya hle hyc
        clear hle
        subst hya hyc
        subst hv
        have ec0 := Mem.row_cell H6.out.2.1 0
        have ec1 := Mem.row_cell H6.out.2.1 1
        have ef0 := Mem.row_free H6.out.2.1 0
        have ef1 := Mem.row_free H6.out.2.1 1
        simp only [List.getElem?_toArray, List.getElem?_cons_zero, List.getElem?_cons_succ] at ec0 ec1
        have hji : (j : Int) < r.gone.length := by omega
        have hj0 : (0 : Int) ≤ j := by omega
        have HIL := Lib.hid (And.intro hil hcj)
        have hFsz : ¬ F sz := fun e => by have := HX.out.2.2.2.2.2.2.1 sz e; have := HS.out; omega
        have hFcb : ¬ F cb := fun e => by have := HX.out.2.2.2.2.2.2.1 cb e; have := HS.out; have := HCS.out; omega
        have hcbb : b ≠ cb := fun e => hFcb (e ▸ H6.out.1.fb)
        clear hil hcj hlast hg hm ha HA
        have hset7 : ∀ x, x ≠ cb → ((wr.setCell ⟨cb, 0, none⟩ (.int .i64 k)).setCell ⟨cb, 1, none⟩ (.int .i64 n8)).heap[x]? = wr.heap[x]? := fun x hx => (Below.heap_setCell _ _ _ _ (by simpa using hx)).trans (Below.heap_setCell _ _ _ _ (by simpa using hx))
        have h7 : RAtW ((wr.setCell ⟨cb, 0, none⟩ (.int .i64 k)).setCell ⟨cb, 1, none⟩ (.int .i64 n8)) b F r vi (.slice (some ⟨g', 0, none⟩) r.gone.length yc) gm := H6.out.1.same (fun x hx => hset7 x (fun e => hFcb (e ▸ hx))) (by simp [World.setCell])
        have hc7 : ((wr.setCell ⟨cb, 0, none⟩ (.int .i64 k)).setCell ⟨cb, 1, none⟩ (.int .i64 n8)).heap[cb]? = some (.cells #[.int .i64 k, .int .i64 n8] 77 (0, 0)) := by
          have h1 := Mem.row_set H6.out.2.1 0 (.int .i64 k)
          have h2 := Mem.row_set h1 1 (.int .i64 n8)
          exact h2
        have hs7 : ((wr.setCell ⟨cb, 0, none⟩ (.int .i64 k)).setCell ⟨cb, 1, none⟩ (.int .i64 n8)).heap[sz]? = some (.cells #[.int .i64 0, .int .i64 0] 77 (0, 0)) := (hset7 sz (fun e => by have := HCS.out; omega)).trans H6.out.2.2.1
        have ho7 : Only F w ((wr.setCell ⟨cb, 0, none⟩ (.int .i64 k)).setCell ⟨cb, 1, none⟩ (.int .i64 n8)) :=
          ((Only.of_below H6.out.2.2.2 (fun k h1 h2 => by omega)).setCell (p := ⟨cb, 0, none⟩) (.inr (by have := HS.out; have := HCS.out; simp; omega)) _).setCell (p := ⟨cb, 1, none⟩) (.inr (by have := HS.out; have := HCS.out; simp; omega)) _
        have d1 : ((wr.setCell ⟨cb, 0, none⟩ (.int .i64 k)).setCell ⟨cb, 1, none⟩ (.int .i64 n8)).cell? ⟨b, 2, none⟩ = some (.slice (some ⟨g', 0, none⟩) r.gone.length yc) := Mem.row_cell h7.blk 2
        have f1 : ((wr.setCell ⟨cb, 0, none⟩ (.int .i64 k)).setCell ⟨cb, 1, none⟩ (.int .i64 n8)).frozen? ⟨b, 2, none⟩ = false := Mem.row_free h7.blk 2
        clear hset7
        obtain ⟨w7, hw7⟩ : ∃ w7, (wr.setCell ⟨cb, 0, none⟩ (.int .i64 k)).setCell ⟨cb, 1, none⟩ (.int .i64 n8) = w7 := ⟨_, rfl⟩
        rw [hw7] at h7 hc7 hs7 ho7 d1 f1
        have hcap : r.gone.length ≤ yc := by
          rcases h7.rg.2 with ⟨e1, _⟩ | ⟨g1, c1, cur, e1, _, _, e2, _⟩
          · cases e1
          · injection e1 with _ _ e1; omega
        have hrd : ReadsC w7 g' 0 r.gone := fun i u hu => by
          obtain ⟨n', hn'⟩ : ∃ n', r.gone.length = n' + 1 := ⟨r.gone.length - 1, by omega⟩
          have ho := h7.rg
          rw [hn'] at ho
          obtain ⟨g1, c1, cur, e1, _, e2, _, _, e3⟩ := Mem.row_block ho
          injection e1 with e1
          injection e1 with e1
          injection e1 with e1
          subst e1
          rw [Nat.zero_add]
          exact (Mem.row_cell e2 _).trans (e3 _ _ hu)
        have hgl : g' < w7.heap.size := h7.lt _ (h7.fg g' rfl)
        have hl1 : (r.gone.take j).length = j := by rw [List.length_take]; omega
        have hl2' : (r.gone.drop (j + 1)).length = r.gone.length - (j + 1) := by rw [List.length_drop]
        have hcapi : (j : Int) ≤ yc := by omega
        have hcapi1 : (r.gone.length : Int) ≤ yc := by omega
        have hw1 : IntKind.i64.wrap ((j : Int) + 1) = (j : Int) + 1 := by rw [IntKind.wrap_i64]; omega
        have htn : ((j : Int) + 1).toNat = j + 1 := by omega
        have hk1i : (j : Int) + 1 ≤ r.gone.length := by omega
        have hk01 : (0 : Int) ≤ (j : Int) + 1 := by omega
        obtain ⟨off2, hoff2, hrd2⟩ : ∃ off2, (if yc = j + 1 then some (⟨g', 0, none⟩ : Addr) else some ⟨g', (j + 1) * 2, none⟩) = some ⟨g', off2, none⟩ ∧ ReadsC w7 g' off2 (r.gone.drop (j + 1)) := by
          by_cases hy : yc = j + 1
          · refine ⟨0, by rw [if_pos hy], ?_⟩
            rw [List.drop_eq_nil_of_le (by omega)]
            exact fun i u hu => by simp [cellsC] at hu
          · refine ⟨(j + 1) * 2, by rw [if_neg hy], ?_⟩
            have := hrd.drop (j + 1)
            rwa [Nat.zero_add] at this
        have H7 := Lib.hid (And.intro h7 (And.intro hc7 (And.intro hs7 (And.intro ho7 (And.intro hrd hrd2)))))
        have hlb : b < w7.heap.size := h7.lt _ h7.fb
        have hlc : cb < w7.heap.size := (Array.getElem?_eq_some_iff.1 hc7).1
        have hls : sz < w7.heap.size := (Array.getElem?_eq_some_iff.1 hs7).1
        clear h7 hc7 hs7 ho7 hrd hrd2
        have hkeep1 : ∀ wx, w7.grownBy wx (Value.slice none 0 0).ownBlock → ∀ k, k < w7.heap.size → wx.heap[k]? = w7.heap[k]? := fun wx hg k hk => hg.block k hk (fun e => by cases e)
        have hkeep2 : ∀ (wx wy : World) (v1 : Value), w7.grownBy wx (Value.slice none 0 0).ownBlock → wx.grownBy wy v1.ownBlock → (v1.ownBlock = (Value.slice none 0 0).ownBlock ∨ v1.ownBlock = some w7.heap.size) → ∀ k, k < w7.heap.size → wy.heap[k]? = w7.heap[k]? := fun wx wy v1 hg hg2 hat k hk =>
          (hg2.block k (Nat.lt_of_lt_of_le hk hg.size) (fun e => by
            rcases hat with e1 | e1
            · rw [e1] at e; cases e
            · rw [e1] at e; injection e with e; omega)).trans (hkeep1 wx hg k hk)
        have HK2 := Lib.hid hkeep2
        have HK1 := Lib.hid hkeep1
        clear hkeep1 hkeep2
        go_wp2_with (first
          | (at_builtin; refine list_appC _ _ 0 _ [] (r.gone.take j) g' 0 yc rfl rfl rfl (by rw [hl1]; kernel_rfl) (World.ownsRow_nil _ _ _ _) (H7.out.2.2.2.2.1.take j) (by rw [hl1]; simp; omega) (Nat.zero_le _) ?_; intro v1 wx hown1 hgrow1 hat1; have d1' : wx.cell? ⟨b, 2, none⟩ = some (.slice (some ⟨g', 0, none⟩) r.gone.length yc) := (World.cell?_of_block (HK1.out _ hgrow1 b hlb)).trans d1)
          | (at_builtin; refine list_appC _ _ 0 v1 (r.gone.take j) (r.gone.drop (j + 1)) g' off2 (yc - (j + 1)) rfl rfl rfl (by rw [hl2']; kernel_rfl) hown1 (H7.out.2.2.2.2.2.same (HK1.out _ hgrow1 g' hgl)) (by rw [hl1, hl2']; omega) (Nat.zero_le _) ?_; intro v2 wy hown2 hgrow2 hat2; obtain ⟨xs, hxs⟩ : ∃ xs, r.gone.take j ++ r.gone.drop (j + 1) = xs := ⟨_, rfl⟩; rw [hxs] at hown2; obtain ⟨ya2, yc2, hv2⟩ := row_shape hown2; subst hv2; have d2' : wy.cell? ⟨b, 2, none⟩ = some (.slice (some ⟨g', 0, none⟩) r.gone.length yc) := (World.cell?_of_block (HK2.out _ _ _ hgrow1 hgrow2 hat1 b hlb)).trans d1; have f2' : wy.frozen? ⟨b, 2, none⟩ = false := (World.frozen?_of_block (HK2.out _ _ _ hgrow1 hgrow2 hat1 b hlb)).trans f1))
        have h7 := HK2.out _ _ _ hgrow1 hgrow2 hat1
        have hat7 : ∀ g, (Value.slice ya2 xs.length yc2).ownBlock = some g → w7.heap.size ≤ g := fun g e => by
          rw [e] at hat2
          rcases hat2 with e1 | e1
          · rcases hat1 with e2 | e2
            · rw [e2] at e1; cases e1
            · rw [e2] at e1; injection e1 with e1; omega
          · injection e1 with e1
            have := hgrow1.size; omega
        have hz7 : w7.heap.size ≤ wy.heap.size := Nat.le_trans hgrow1.size hgrow2.size
        have hwz : w.heap.size ≤ w7.heap.size := H7.out.2.2.2.1.size
        have h8 := H7.out.1.gne (fun k hk _ => h7 k (H7.out.1.lt k hk)) hz7 hown2 (fun g e => .inr (hat7 g e))
        have ho8 : Only F w (wy.setCell ⟨b, 2, none⟩ (.slice ya2 xs.length yc2)) := ((H7.out.2.2.2.1.grown hgrow1 (fun g e => (by cases e))).grown hgrow2 (fun g e => .inr (by
          rcases hat1 with e2 | e2
          · rw [e2] at e; cases e
          · rw [e2] at e; injection e with e; omega))).setCell (.inl H7.out.1.fb) _
        have hsb : sz ≠ b := fun e => hFsz (e ▸ H6.out.1.fb)
        have hgr8 : Grows w F (fun k => F k ∨ (Value.slice ya2 xs.length yc2).ownBlock = some k) := fun k hk => hk.imp id (fun e => by have := hat7 k e; omega)
        have hF8c : ¬ (F cb ∨ (Value.slice ya2 xs.length yc2).ownBlock = some cb) := fun e => e.elim hFcb (fun e => by have := hat7 cb e; omega)
        have hF8s : ¬ (F sz ∨ (Value.slice ya2 xs.length yc2).ownBlock = some sz) := fun e => e.elim hFsz (fun e => by have := hat7 sz e; omega)
        have H8 := Lib.hid (show RAtW (wy.setCell ⟨b, 2, none⟩ (.slice ya2 xs.length yc2)) b (fun k => F k ∨ (Value.slice ya2 xs.length yc2).ownBlock = some k) { r with gone := xs } vi (.slice ya2 xs.length yc2) gm ∧ Only F w (wy.setCell ⟨b, 2, none⟩ (.slice ya2 xs.length yc2)) ∧ Grows w F (fun k => F k ∨ (Value.slice ya2 xs.length yc2).ownBlock = some k) ∧
            (wy.setCell ⟨b, 2, none⟩ (.slice ya2 xs.length yc2)).heap[cb]? = some (.cells #[.int .i64 k, .int .i64 n8] 77 (0, 0)) ∧ (wy.setCell ⟨b, 2, none⟩ (.slice ya2 xs.length yc2)).heap[sz]? = some (.cells #[.int .i64 0, .int .i64 0] 77 (0, 0)) ∧ ¬ (F cb ∨ (Value.slice ya2 xs.length yc2).ownBlock = some cb) ∧ ¬ (F sz ∨ (Value.slice ya2 xs.length yc2).ownBlock = some sz) ∧ { r with gone := xs }.inn.length ≤ 1000000 from
          ⟨h8, ho8, hgr8, (Below.heap_setCell _ _ _ _ (by simpa using fun e => hcbb e.symm)).trans ((h7 cb hlc).trans H7.out.2.1), (Below.heap_setCell _ _ _ _ (by simpa using hsb)).trans ((h7 sz hls).trans H7.out.2.2.1), hF8c, hF8s, hl⟩)
        have HT8 : Hid ((NoClass r.gone k ∧ n8 = r.made (classN size) ∧ rtook { r with gone := xs } (k, n8) = rtook { r with made := put r.made (classN size) (r.made (classN size) + 1) } (k, n8)) ∨
            (∃ a, IsLast r.gone k a n8 ∧ rtook { r with gone := xs } (k, n8) = rtook { r with gone := r.gone.take a ++ r.gone.drop (a + 1) } (k, n8))) := Lib.hid (.inr ⟨j, HIL.out.1, by rw [hxs]⟩)
        clear c2 ec0 ec1 ef0 ef1 z0 z1 hw7 h7 hat7 hz7 hwz h8 ho8 hgr8 hF8c hF8s hown1 hown2 hgrow1 hgrow2 hat1 hat2 hxs d1' d2' f2' d1 f1 hFsz hFcb hcbb hsb
        generalize wy.setCell ⟨b, 2, none⟩ (.slice ya2 xs.length yc2) = w8 at *
        obtain ⟨vi8, hvi8⟩ : ∃ vi8, vi = vi8 := ⟨_, rfl⟩
        obtain ⟨r8, hr8⟩ : ∃ r8, { r with gone := xs } = r8 := ⟨_, rfl⟩
        rw [hvi8, hr8] at H8
        rw [hr8] at HT8
        obtain ⟨F8, hF8⟩ : ∃ F8 : Nat → Prop, (fun k => F k ∨ (Value.slice ya2 xs.length yc2).ownBlock = some k) = F8 := ⟨_, rfl⟩
        have H8 : Hid (RAtW w8 b F8 r8 vi8 (.slice ya2 xs.length yc2) gm ∧ Only F w w8 ∧ Grows w F F8 ∧ w8.heap[cb]? = some (.cells #[.int .i64 k, .int .i64 n8] 77 (0, 0)) ∧ w8.heap[sz]? = some (.cells #[.int .i64 0, .int .i64 0] 77 (0, 0)) ∧ ¬ F8 cb ∧ ¬ F8 sz ∧ r8.inn.length ≤ 1000000) := by rw [← hF8]; exact H8
        clear hvi8 hr8 H6 hF8
        obtain ⟨i0, hi, hz0, hz1, hz2⟩ := info_parts infoChunk
        have ck : w8.cell? ⟨b, 1, none⟩ = some vi8 := Mem.row_cell H8.out.1.blk 1
        have fk := Mem.row_free H8.out.1.blk 1
        have d0' := Mem.row_cell H8.out.2.2.2.1 0
        have d1' := Mem.row_cell H8.out.2.2.2.1 1
        simp only [List.getElem?_toArray, List.getElem?_cons_zero, List.getElem?_cons_succ] at d0' d1'
        have hrow := H8.out.1.ri
        have hlb8 : b < w8.heap.size := H8.out.1.lt _ H8.out.1.fb
        have hlc8 : cb < w8.heap.size := (Array.getElem?_eq_some_iff.1 H8.out.2.2.2.1).1
        have hls8 : sz < w8.heap.size := (Array.getElem?_eq_some_iff.1 H8.out.2.2.2.2.1).1
        have hne : vi8.ownBlock ≠ some b := row_not H8.out.1.ri H8.out.1.blk (by decide)
        have hneC : vi8.ownBlock ≠ some cb := fun e => H8.out.2.2.2.2.2.1 (H8.out.1.fi cb e)
        have hneS : vi8.ownBlock ≠ some sz := fun e => H8.out.2.2.2.2.2.2.1 (H8.out.1.fi sz e)
        obtain ⟨L, hL⟩ : ∃ L, r8.inn.length = L := ⟨_, rfl⟩
        obtain ⟨X, hX⟩ : ∃ X, cellsC r8.inn = X := ⟨_, rfl⟩
        have hL8 := H8.out.2.2.2.2.2.2.2
        simp only [hL, hX] at hrow
        rw [hL] at hL8
        have hmx : L + 1 ≤ maxLen := by unfold maxLen; omega
        have hby : (L + 1) * 16 ≤ 140737488355328 := by omega
        have HLX := Lib.hid (And.intro hL hX)
        clear hL hX
        have hstep : ∀ {ops : Array Oper} {o : Oper} {a : Act} {K : Act → World → Prop} {Q : Exit → Act → World → Prop} {E : Prop}, o.guard = none → o.op = .call { callee := .builtin .append, args := #[.tmp 103, .tmp 105], argTypes := #[83, 83] } → a.eval (.tmp 103) = vi8 → a.eval (.tmp 105) = .slice (some ⟨w8.heap.size, 0, none⟩) 1 1 → (∀ g cap w', w'.ownsRow 0 77 2 (.slice (some ⟨g, 0, none⟩) (L + 1) cap) (L + 1) (X ++ [.int .i64 k, .int .i64 n8]) → (w8.alloc (.cells #[.int .i64 k, .int .i64 n8] 77)).drew.grownBy w' vi8.ownBlock → (vi8.ownBlock = some g ∨ g = w8.heap.size + 1) → g < w'.heap.size → K (a.put o.dst (.slice (some ⟨g, 0, none⟩) (L + 1) cap)) w') → if Region.wanted o (yielded ops a.tmps) = true then Oper.wp Tryz.prog o a (w8.alloc (.cells #[.int .i64 k, .int .i64 n8] 77)).drew K Q else E := fun hg ho he hx hK => step_append_lies _ hg _ _ _ ho 0 77 i0 _ 2 16 Tryz.underlying83 hi hz0 hz1 hz2 rfl (by omega) vi8 L X he ((hrow.alloc _).drew) ⟨w8.heap.size, 0, none⟩ 1 1 [.int .i64 k, .int .i64 n8] hx rfl (World.news_of_block (cs := #[.int .i64 k, .int .i64 n8]) (t := 77) (fr := (0, 0)) (heap_alloc_new w8 _)) (by simp [Value.oneCell']) (by decide) hmx hby (Nat.zero_le _) (w8.heap.size + 1) (by simp) hK
        have hblk : ∀ (w1 : World) (j : Nat), (w8.alloc (.cells #[.int .i64 k, .int .i64 n8] 77)).drew.grownBy w1 vi8.ownBlock → j < w8.heap.size → vi8.ownBlock ≠ some j → w1.heap[j]? = w8.heap[j]? := fun w1 j hg hj hn => (hg.block j (show j < (w8.alloc (.cells #[.int .i64 k, .int .i64 n8] 77)).heap.size by simp; omega) (Ne.symm hn)).trans (Below.heap_alloc w8 _ _ hj)
        have hfarb : ∀ w1 : World, (w8.alloc (.cells #[.int .i64 k, .int .i64 n8] 77)).drew.grownBy w1 vi8.ownBlock → w1.cell? ⟨b, 1, none⟩ = some vi8 ∧ w1.frozen? ⟨b, 1, none⟩ = false := fun w1 hg => ⟨(World.cell?_of_block (hblk w1 b hg hlb8 hne)).trans ck, (World.frozen?_of_block (hblk w1 b hg hlb8 hne)).trans fk⟩
        have hfars : ∀ w1 : World, (w8.alloc (.cells #[.int .i64 k, .int .i64 n8] 77)).drew.grownBy w1 vi8.ownBlock → w1.cell? ⟨cb, 0, none⟩ = some (.int .i64 k) ∧ w1.cell? ⟨cb, 1, none⟩ = some (.int .i64 n8) := fun w1 hg =>
          ⟨(World.cell?_of_block (hblk w1 cb hg hlc8 hneC)).trans d0', (World.cell?_of_block (hblk w1 cb hg hlc8 hneC)).trans d1'⟩
        go_cut [] from 61 to 108 (fun wx => ∃ g cap w1, w1.ownsRow 0 77 2 (.slice (some ⟨g, 0, none⟩) (L + 1) cap) (L + 1) (X ++ [.int .i64 k, .int .i64 n8]) ∧ (w8.alloc (.cells #[.int .i64 k, .int .i64 n8] 77)).drew.grownBy w1 vi8.ownBlock ∧ (vi8.ownBlock = some g ∨ g = w8.heap.size + 1) ∧ g < w1.heap.size ∧ wx = w1.setCell ⟨b, 1, none⟩ (.slice (some ⟨g, 0, none⟩) (L + 1) cap))
        case first =>
          go_region_law (refine hstep (by rfl) (by rfl) (by kernel_rfl) (by kernel_rfl) ?_; intro gg cap w1 hown1 hgrow hat hlt; have cw1 := (hfarb w1 hgrow).1; have fw1 := (hfarb w1 hgrow).2; have ew1 := (hfars w1 hgrow).1; have gw1 := (hfars w1 hgrow).2)
          all_goals (go_wp2_with fail; go_meet; exact ⟨_, _, _, hown1, hgrow, hat, hlt, rfl⟩)
        case rest =>
          obtain ⟨g, cap, w9, hown, hgrow, hat, hlt, rfl⟩ := hcut
          have hX := HLX.out.2
          have hL := HLX.out.1
          subst hX hL
          have hw8 := H8.out.2.1.size
          have hw89 : w8.heap.size ≤ w9.heap.size := Nat.le_trans (by simp) hgrow.size
          have hown' : w9.ownsRow 0 77 2 (.slice (some ⟨g, 0, none⟩) (r8.inn.length + 1) cap) (r8.inn ++ [((k : Int), n8)]).length (cellsC (r8.inn ++ [((k : Int), n8)])) := by
            rw [List.length_append, cellsC_app]; exact hown
          have hat' : ∀ x, (Value.slice (some ⟨g, 0, none⟩) (r8.inn.length + 1) cap).ownBlock = some x → vi8.ownBlock = some x ∨ w8.heap.size ≤ x := fun x e => by
            have : g = x := by simpa [Value.ownBlock] using e
            subst this
            exact hat.imp id (fun e => by omega)
          have h10 := H8.out.1.inn (w' := w9) (fun j hj hv => hblk w9 j hgrow (H8.out.1.lt j hj) hv) hw89 hown' hat'
          have ho10 : Only F w (w9.setCell ⟨b, 1, none⟩ (.slice (some ⟨g, 0, none⟩) (r8.inn.length + 1) cap)) :=
            (((H8.out.2.1.alloc _).drew.grown hgrow (fun x e => H8.out.2.2.1 x (H8.out.1.fi x e)))).setCell (H8.out.2.2.1 b H8.out.1.fb) _
          have hg10 : Grows w F (fun x => F8 x ∨ (Value.slice (some ⟨g, 0, none⟩) (r8.inn.length + 1) cap).ownBlock = some x) := fun x hx => by
            rcases hx with hx | hx
            · exact H8.out.2.2.1 x hx
            · rcases hat' x hx with e | e
              · exact H8.out.2.2.1 x (H8.out.1.fi x e)
              · exact .inr (by omega)
          have hcbb : cb ≠ b := fun e => H8.out.2.2.2.2.2.1 (e ▸ H8.out.1.fb)
          have hszb : sz ≠ b := fun e => H8.out.2.2.2.2.2.2.1 (e ▸ H8.out.1.fb)
          have kc : (w9.setCell ⟨b, 1, none⟩ (.slice (some ⟨g, 0, none⟩) (r8.inn.length + 1) cap)).heap[cb]? = some (.cells #[.int .i64 k, .int .i64 n8] 77 (0, 0)) := (Below.heap_setCell _ _ _ _ (by simpa using hcbb)).trans ((hblk w9 cb hgrow hlc8 hneC).trans H8.out.2.2.2.1)
          have ks : (w9.setCell ⟨b, 1, none⟩ (.slice (some ⟨g, 0, none⟩) (r8.inn.length + 1) cap)).heap[sz]? = some (.cells #[.int .i64 0, .int .i64 0] 77 (0, 0)) := (Below.heap_setCell _ _ _ _ (by simpa using hszb)).trans ((hblk w9 sz hgrow hls8 hneS).trans H8.out.2.2.2.2.1)
          have hszg : g ≠ sz := fun e => by subst e; exact hat.elim (fun e => hneS e) (fun e => by omega)
          have hnF : ¬ (F8 sz ∨ (Value.slice (some ⟨g, 0, none⟩) (r8.inn.length + 1) cap).ownBlock = some sz) := fun e => e.elim H8.out.2.2.2.2.2.2.1 (fun e => hszg (by simpa [Value.ownBlock] using e))
          have H10 := Lib.hid (And.intro h10 (And.intro ho10 (And.intro hg10 (And.intro ks hnF))))
          have e0' := Mem.row_cell kc 0
          have e1' := Mem.row_cell kc 1
          have s0' := Mem.row_cell ks 0
          have s1' := Mem.row_cell ks 1
          have t0' := Mem.row_free ks 0
          have t1' := Mem.row_free ks 1
          simp only [List.getElem?_toArray, List.getElem?_cons_zero, List.getElem?_cons_succ] at e0' e1' s0' s1'
          have hcs : cb ≠ sz := fun e => by have h1 := H8.out.2.2.2.1; subst e; have := HCS.out; omega
          clear h10 ho10 hg10 hown hgrow hat hlt hown' hat' hstep hblk hfarb hfars kc ks hnF
          generalize w9.setCell ⟨b, 1, none⟩ (.slice (some ⟨g, 0, none⟩) (r8.inn.length + 1) cap) = wA at *
          go_wp2
          have r1 : ((wA.setCell ⟨sz, 0, none⟩ (.int .i64 k)).setCell ⟨sz, 1, none⟩ (.int .i64 n8)).cell? ⟨sz, 1, none⟩ = some (.int .i64 n8) :=
            World.cell?_setCell_same' _ _ _ (by rw [World.cell?_setCell_other _ _ _ _ (by simp), s1']; rfl)
          have r0 : ((wA.setCell ⟨sz, 0, none⟩ (.int .i64 k)).setCell ⟨sz, 1, none⟩ (.int .i64 n8)).cell? ⟨sz, 0, none⟩ = some (.int .i64 k) := by
            rw [World.cell?_setCell_other _ _ _ _ (by simp)]; exact World.cell?_setCell_same' _ _ _ (by rw [s0']; rfl)
          refine bodyPost_ret (v := .tuple #[.agg #[.int .i64 k, .int .i64 n8], .int .i64 0]) (by simp [results, Tryz.results57, go_sem, r0, r1]) rfl ?_
          have hset : ∀ x, x ≠ sz → ((wA.setCell ⟨sz, 0, none⟩ (.int .i64 k)).setCell ⟨sz, 1, none⟩ (.int .i64 n8)).heap[x]? = wA.heap[x]? := fun x hx => (Below.heap_setCell _ _ _ _ (by simpa using hx)).trans (Below.heap_setCell _ _ _ _ (by simpa using hx))
          have hsw : w.heap.size ≤ sz := by have := HS.out; omega
          refine ⟨k, n8, 0, _, _, rfl, ⟨_, _, _, H10.out.1.same (fun x hx => hset x (fun e => H10.out.2.2.2.2 (e ▸ hx))) (by simp [World.setCell])⟩, (H10.out.2.1.setCell (p := ⟨sz, 0, none⟩) (.inr hsw) _).setCell (p := ⟨sz, 1, none⟩) (.inr hsw) _, H10.out.2.2.1, .inr (.inr ⟨HX.out.1, by rw [HU.out]; have := HX.out.2.1; omega, by rw [HKK.out], rfl, ?_⟩)⟩
          exact HT8.out
end
end Go.Proofs.YteonjgnnpgpnnaaGreat.RefSlab

/- The document's own slab of layer 7 beside the plain one: Take at any size; the link between the two. -/
namespace Go.Proofs.YteonjgnnpgpnnaaGreat.RefSlab
open Go Go.RowKit Go.Proofs.YteonjgnnpgpnnaaGreat.Slab Go.Proofs.YteonjgnnpgpnnaaGreat.Mem

theorem take_any {w : World} {b : Nat} {F : Nat → Prop} {r : RSt} (h : RAt w b F r) (hl : r.inn.length ≤ 1000000) (hl2 : r.gone.length ≤ 1000000) (hm : ∀ k, 0 ≤ r.made k ∧ r.made k ≤ 1000000) (hbud : -9223372036854775808 ≤ r.budget ∧ r.budget ≤ 9223372036854775807) (size : Int) :
    Calls Tryz.prog 57 #[.pointer (some ⟨b, 0, none⟩), .int .i64 size] w (RTakePost w b F r size) := by
  have h6 := class_six size
  by_cases h : classN size = 6
  · exact take_long ‹_› size h
  by_cases hx : r.budget < total r.inn + bytesI (classN size)
  · exact take_full ‹_› hl hbud size (by omega) hx
  · exact take_ok ‹_› hl hl2 hm hbud size (by omega) hx

def ofK (l : List (Int × Int)) (k : Nat) : List Int := (l.filter fun c => c.1 == (k : Int)).map (·.2)
theorem ofK_app (l m : List (Int × Int)) (k : Nat) : ofK (l ++ m) k = ofK l k ++ ofK m k := by simp [ofK]
theorem ofK_one (n : Int) (k j : Nat) : ofK [((k : Int), n)] j = if j = k then [n] else [] := by
  unfold ofK
  by_cases h : j = k
  · subst h; simp
  · rw [if_neg h]
    have : ((k : Int) == (j : Int)) = false := by simp; omega
    simp [List.filter, this]
theorem ofK_none {l : List (Int × Int)} {k : Nat} (h : ∀ (i : Nat) c, l[i]? = some c → c.1 ≠ k) : ofK l k = [] := by
  unfold ofK
  rw [List.filter_eq_nil_iff.2]
  · rfl
  · intro c hc
    obtain ⟨i, hi⟩ := List.mem_iff_getElem?.1 hc
    simpa using h i c hi
theorem ofK_last {l : List (Int × Int)} {k a : Nat} {n : Int} (h : IsLast l k a n) (j : Nat) : ofK l j = ofK (l.take a ++ l.drop (a + 1)) j ++ (if j = k then [n] else []) := by
  obtain ⟨h1, h2⟩ := h
  have hal := (List.getElem?_eq_some_iff.1 h1).1
  have hs : l = l.take a ++ ([((k : Int), n)] ++ l.drop (a + 1)) := by
    conv => lhs; rw [← List.take_append_drop a l]
    rw [List.drop_eq_getElem_cons hal]
    have := (List.getElem?_eq_some_iff.1 h1).2
    rw [this]; rfl
  conv => lhs; rw [hs]
  rw [ofK_app, ofK_app, ofK_app, ofK_one]
  by_cases e : j = k
  · subst e
    have : ofK (l.drop (a + 1)) j = [] := ofK_none fun i c hi => h2 (a + 1 + i) c (by omega) (by rw [List.getElem?_drop] at hi; exact hi)
    rw [this]; simp
  · rw [if_neg e]; simp

/-- The plain slab and the document's record say the same. -/
structure Link (N : Nat) (s : St) (r : RSt) : Prop where
  bud : r.budget = s.budget
  inn : r.inn = s.inn
  gone : ∀ k : Nat, ofK r.gone k = s.gone k
  made : ∀ k, r.made k = s.made k
  glen : r.gone.length ≤ N
  ilen : r.inn.length ≤ N
theorem Link.new (budget : Int) : Link 0 (new budget) (rnew budget) := ⟨rfl, rfl, fun _ => rfl, fun _ => rfl, Nat.le_refl _, Nat.le_refl _⟩
theorem Link.mono {N M : Nat} {s : St} {r : RSt} (h : Link N s r) (hm : N ≤ M) : Link M s r := ⟨h.bud, h.inn, h.gone, h.made, Nat.le_trans h.glen hm, Nat.le_trans h.ilen hm⟩
theorem Link.free {N : Nat} {s : St} {r : RSt} (h : Link N s r) (hg : Slab.Good N s) (c : Int × Int) : (rfree r c).1 = (s.free c).1 ∧ Link (N + 1) (s.free c).2 (rfree r c).2 := by
  unfold rfree
  by_cases hc : c ∈ s.inn
  · have hc' : c ∈ r.inn := by rw [h.inn]; exact hc
    have hs : s.free c = (0, { s with inn := s.inn.erase c, gone := put s.gone c.1.toNat (s.gone c.1.toNat ++ [c.2]), used := s.used - bytesI c.1 }) := by unfold St.free; rw [if_pos hc]
    rw [hs, if_pos hc']
    have hcl := hg.small.cls c hc
    obtain ⟨k, hk⟩ := Int.eq_ofNat_of_zero_le hcl.1
    obtain ⟨c1, n⟩ := c
    simp only at hk
    subst hk
    refine ⟨rfl, h.bud, ?_, fun j => ?_, h.made, ?_, ?_⟩
    · simp only; rw [h.inn]
    · simp only [Int.toNat_natCast]
      rw [ofK_app, ofK_one, h.gone j]
      unfold put
      by_cases e : j = k
      · subst e; simp
      · simp [e]
    · have := h.glen; simp; omega
    · have := h.ilen
      have h2 := List.length_erase_le (a := ((k : Int), n)) (l := r.inn)
      simp only; omega
  · have hc' : c ∉ r.inn := by rw [h.inn]; exact hc
    rw [free_out hc, if_neg hc']
    exact ⟨rfl, h.mono (by omega)⟩
theorem Link.take {N : Nat} {s : St} {r r' : RSt} (h : Link N s r) (hg : Slab.Good N s) {size c n err : Int} (ht : RTook r size c n err r') : (s.take size).1 = ((c, n), err) ∧ Link (N + 1) (s.take size).2 r' := by
  have hu : total r.inn = s.used := by rw [h.inn, hg.sum]
  unfold RTook at ht
  rw [hu, h.bud] at ht
  rcases take_cases s size with ⟨h6, e⟩ | ⟨h6, hx, e⟩ | ⟨h6, hx, e⟩
  · rcases ht with ⟨_, h2, h3⟩ | ⟨h1, _⟩ | ⟨h1, _⟩
    · injection h2 with h2 h4
      injection h4 with h4 h5
      subst h2 h3 h4 h5
      rw [e]; exact ⟨rfl, h.mono (by omega)⟩
    · omega
    · omega
  · rcases ht with ⟨h1, _⟩ | ⟨_, _, h2, h3⟩ | ⟨_, h1, _⟩
    · omega
    · injection h2 with h2 h4
      injection h4 with h4 h5
      subst h2 h3 h4 h5
      rw [e]; exact ⟨rfl, h.mono (by omega)⟩
    · omega
  · rcases ht with ⟨h1, _⟩ | ⟨_, h1, _⟩ | ⟨_, _, rfl, rfl, ht⟩
    · omega
    · omega
    rw [e]
    simp only
    generalize classN size = k at *
    have hnew := hg.number_new k
    rw [addIn_new hnew]
    have hg1 := h.glen
    have hi1 := h.ilen
    rcases ht with ⟨hno, hn, hr⟩ | ⟨a, hla, hr⟩
    · have hg0 : s.gone k = [] := by rw [← h.gone k]; exact ofK_none hno
      rw [number_made hg0] at hnew ⊢
      subst hr hn
      refine ⟨by rw [h.made k], rfl, ?_, h.gone, fun j => ?_, by simp only [rtook]; omega, by simp [rtook]; omega⟩
      · simp only [rtook]; rw [h.inn, h.made k]
      · simp only [rtook, put]; rw [h.made k]; split
        · rfl
        · exact h.made j
    · have hk := ofK_last hla
      have hg0 : s.gone k = ofK (r.gone.take a ++ r.gone.drop (a + 1)) k ++ [n] := by rw [← h.gone k, hk k, if_pos rfl]
      rw [number_last hg0] at hnew ⊢
      subst hr
      have hal := (List.getElem?_eq_some_iff.1 hla.1).1
      refine ⟨rfl, rfl, ?_, fun j => ?_, h.made, by simp [rtook]; omega, by simp [rtook]; omega⟩
      · simp only [rtook]; rw [h.inn]
      · simp only [rtook, put]
        by_cases e2 : j = k
        · subst e2; simp
        · rw [if_neg e2, ← h.gone j, hk j, if_neg e2]; simp
theorem Link.fits {N : Nat} {s : St} {r : RSt} (h : Link N s r) (hg : Slab.Good N s) (size less : Int) : ft (total r.inn) r.budget size less = s.fits size less := by
  unfold ft St.fits
  rw [h.inn, ← hg.sum, h.bud]
theorem Link.used {N : Nat} {s : St} {r : RSt} (h : Link N s r) (hg : Slab.Good N s) : total r.inn = s.used := by rw [h.inn, hg.sum]
theorem Link.bounds {N : Nat} {s : St} {r : RSt} (h : Link N s r) (hg : Slab.Good N s) (hN : N ≤ 1000000) : r.inn.length ≤ 1000000 ∧ r.gone.length ≤ 1000000 ∧ (∀ k, 0 ≤ r.made k ∧ r.made k ≤ 1000000) ∧ (-9223372036854775808 ≤ r.budget ∧ r.budget ≤ 9223372036854775807) :=
  ⟨Nat.le_trans h.ilen hN, Nat.le_trans h.glen hN, fun k => by have h1 := hg.small.m0 k; have h2 := hg.small.m1 k; rw [h.made k]; omega, by rw [h.bud]; exact ⟨hg.small.b0, hg.small.b1⟩⟩
end Go.Proofs.YteonjgnnpgpnnaaGreat.RefSlab

/- Layer 8: where a list lies; a node is put behind its row. -/
namespace Go.Proofs.YteonjgnnpgpnnaaGreat.Slru
open Go Go.RowKit Go.Proofs.YteonjgnnpgpnnaaGreat.Mem

def pt (o : Option Nat) : Value := .pointer (o.map fun n => ⟨n, 0, none⟩)
def nodeObj (k : ByteArray) (a n : Option Nat) (ra : Addr) : Obj := .cells #[.string k, pt a, pt n, .pointer (some ra)] 150 (0, 0)
def listArr (most : Int) (mb : Nat) (ts ss : List Nd) : Array Value := #[.int .i64 most, .map (some mb), pt (fst ts), pt (lst ts), .int .i64 (ts.length : Nat), pt (fst ss), pt (lst ss), .int .i64 (ss.length : Nat)]
def listObj (most : Int) (mb : Nat) (ts ss : List Nd) : Obj := .cells (listArr most mb ts ss) 114 (0, 0)
def Chain (w : World) (ra : Addr) (xs : List Nd) : Prop := ChainB (fun n k a c => w.heap[n]? = some (nodeObj k a c ra)) xs
section
variable {w w' : World} {ra : Addr} {xs : List Nd} {b n mb : Nat} {most : Int} {ts ss : List Nd}
theorem Chain.at_mem (h : Chain w ra xs) {j : Nat} (hj : j ∈ xs.map (·.1)) : ∃ k a c, w.heap[j]? = some (nodeObj k a c ra) := by
  obtain ⟨⟨m, k⟩, hm, rfl⟩ := List.mem_map.1 hj
  obtain ⟨l, r, e⟩ := List.append_of_mem hm
  exact ⟨_, _, _, h l m k r e⟩
theorem Chain.ne (h : Chain w ra xs) (hb : w.heap[b]? = some (listObj most mb ts ss)) : b ∉ xs.map (·.1) := fun hj => by
  obtain ⟨k, a, c, e⟩ := h.at_mem hj
  rw [hb] at e
  injection e with e
  injection e with _ e
  exact absurd e (by decide)
theorem Chain.same (h : Chain w ra xs) (hs : ∀ j ∈ xs.map (·.1), w'.heap[j]? = w.heap[j]?) : Chain w' ra xs := ChainB.same h fun j hj _ _ _ e => (hs j hj).trans e
end

theorem set_far {w : World} {p : Addr} {v : Value} {j : Nat} (h : j ≠ p.block) : (w.setCell p v).heap[j]? = w.heap[j]? := Below.heap_setCell _ _ _ _ h
theorem set_size (w : World) (p : Addr) (v : Value) : (w.setCell p v).heap.size = w.heap.size := by simp [World.setCell]

/-- Behind a turn of one of the two rows. -/
def RowPost (w : World) (b o : Nat) (obj : Obj) (xs ys : List Nd) (n : Nat) (e : Ending) (w' : World) : Prop :=
  e = .returned (.tuple #[]) ∧ w'.heap[b]? = some obj ∧ Chain w' ⟨b, o, none⟩ ys ∧ Only (fun j => j = b ∨ j = n ∨ j ∈ xs.map (·.1)) w w'

set_option maxRecDepth 100000 in
set_option maxHeartbeats 2000000 in
theorem push_trial {w : World} {b n mb : Nat} {most : Int} {ts ss : List Nd} {k : ByteArray} {u1 u2 u3 : Value} (hb : w.heap[b]? = some (listObj most mb ts ss)) (hc : Chain w ⟨b, 2, none⟩ ts) (hnd : (ts.map (·.1)).Nodup)
    (hn : w.heap[n]? = some (.cells #[.string k, u1, u2, u3] 150 (0, 0))) (hnt : n ∉ ts.map (·.1)) (hlen : ts.length + 1 ≤ 9223372036854775807) :
    Calls Tryz.prog 76 #[.pointer (some ⟨b, 2, none⟩), .pointer (some ⟨n, 0, none⟩)] w (RowPost w b 2 (listObj most mb (ts ++ [(n, k)]) ss) ts (ts ++ [(n, k)]) n) := by
  have hbn : n ≠ b := fun e => by
    subst e
    rw [hb] at hn
    injection hn with e
    injection e with _ e
    exact absurd e (by decide)
  have hbt := hc.ne hb
  have HC := Lib.hid (And.intro hc (And.intro hnd (And.intro hnt hbt)))
  have hb3 := Mem.row_cell hb 3
  have m1 := Mem.row_cell hn 1
  have m2 := Mem.row_cell hn 2
  have m3 := Mem.row_cell hn 3
  have n1 := Mem.row_free hn 1
  have n2 := Mem.row_free hn 2
  have n3 := Mem.row_free hn 3
  simp only [listArr, List.getElem?_toArray, List.getElem?_cons_zero, List.getElem?_cons_succ] at hb3 m1 m2 m3
  obtain ⟨la, hla⟩ : ∃ la, lst ts = la := ⟨_, rfl⟩
  rw [hla] at hb3
  obtain ⟨xa, hxa⟩ : ∃ xa, la.map (fun n => (⟨n, 0, none⟩ : Addr)) = xa := ⟨_, rfl⟩
  have hpa : pt la = .pointer xa := by rw [← hxa]; rfl
  rw [hpa] at hb3
  have HX := Lib.hid hpa
  clear hxa hpa
  have HN := Lib.hid hn
  have HB := Lib.hid hb
  clear hb hn hc hnd hnt hbt
  go_enter Tryz.func76, Tryz.ntmps76
  go_upto_region 1 with (fail)
  have k1 : (((w.setCell ⟨n, 1, none⟩ (.pointer xa)).setCell ⟨n, 2, none⟩ (.pointer none)).setCell ⟨n, 3, none⟩ (.pointer (some ⟨b, 2, none⟩))).heap[n]? = some (nodeObj k la none ⟨b, 2, none⟩) := by
    rw [← HX.out]
    exact Mem.row_set (Mem.row_set (Mem.row_set HN.out 1 _) 2 _) 3 _
  have o1 : ∀ j, j ≠ n → (((w.setCell ⟨n, 1, none⟩ (.pointer xa)).setCell ⟨n, 2, none⟩ (.pointer none)).setCell ⟨n, 3, none⟩ (.pointer (some ⟨b, 2, none⟩))).heap[j]? = w.heap[j]? := fun j hj => (set_far hj).trans ((set_far hj).trans (set_far hj))
  have on1 : Only (fun j => j = b ∨ j = n ∨ j ∈ ts.map (·.1)) w (((w.setCell ⟨n, 1, none⟩ (.pointer xa)).setCell ⟨n, 2, none⟩ (.pointer none)).setCell ⟨n, 3, none⟩ (.pointer (some ⟨b, 2, none⟩))) :=
    (((Only.refl _ w).setCell (p := ⟨n, 1, none⟩) (.inl (.inr (.inl rfl))) _).setCell (p := ⟨n, 2, none⟩) (.inl (.inr (.inl rfl))) _).setCell (p := ⟨n, 3, none⟩) (.inl (.inr (.inl rfl))) _
  generalize ((w.setCell ⟨n, 1, none⟩ (.pointer xa)).setCell ⟨n, 2, none⟩ (.pointer none)).setCell ⟨n, 3, none⟩ (.pointer (some ⟨b, 2, none⟩)) = w1 at *
  have hb1 := (o1 b (Ne.symm hbn)).trans HB.out
  have c2 := Mem.row_cell hb1 2
  have c3 := Mem.row_cell hb1 3
  have c4 := Mem.row_cell hb1 4
  have f2 := Mem.row_free hb1 2
  have f3 := Mem.row_free hb1 3
  have f4 := Mem.row_free hb1 4
  simp only [listArr, List.getElem?_toArray, List.getElem?_cons_zero, List.getElem?_cons_succ] at c2 c3 c4
  have hw : IntKind.i64.wrap ((ts.length : Int) + 1) = (ts.length : Int) + 1 := by rw [IntKind.wrap_i64]; omega
  rw [hla] at c3
  have H1 := Lib.hid (And.intro k1 (And.intro o1 (And.intro on1 hb1)))
  have HA := Lib.hid hla
  clear k1 o1 on1 hb1 hb3 n1 n2 n3 m1 m2 m3
  rcases snoc_cases ts with hts | ⟨l, ⟨p, kp⟩, hts⟩
  · have hla2 := HA.out
    rw [hts] at hla2
    simp at hla2
    subst hla2
    have HT := Lib.hid hts
    clear hts hlen
    simp only [pt, Option.map_none] at c3
    go_wp2_with fail
    go_end0
    have q := Mem.row_set (Mem.row_set (Mem.row_set H1.out.2.2.2 2 (.pointer (some ⟨n, 0, none⟩))) 3 (.pointer (some ⟨n, 0, none⟩))) 4 (.int .i64 ((ts.length : Int) + 1))
    have hts := HT.out
    subst hts
    refine ⟨rfl, q, ChainB.push HC.out.1 HC.out.2.1 ?_ (fun l p e => by simp at e) (fun j hj _ _ _ _ _ => by simp at hj), ((H1.out.2.2.1.setCell (p := ⟨b, 2, none⟩) (.inl (.inl rfl)) _).setCell (p := ⟨b, 3, none⟩) (.inl (.inl rfl)) _).setCell (p := ⟨b, 4, none⟩) (.inl (.inl rfl)) _⟩
    exact (set_far hbn).trans ((set_far hbn).trans ((set_far hbn).trans H1.out.1))
  · have hla2 := HA.out
    rw [hts] at hla2
    simp at hla2
    subst hla2
    have hpt : p ∈ ts.map (·.1) := by rw [hts]; simp
    have hpb : p ≠ b := fun e => HC.out.2.2.2 (e ▸ hpt)
    have hpn : p ≠ n := fun e => HC.out.2.2.1 (e ▸ hpt)
    have hp1 := (H1.out.2.1 p hpn).trans (HC.out.1 l p kp [] hts)
    have g2 := Mem.row_free hp1 2
    have d2 := Mem.row_cell hp1 2
    simp only [List.getElem?_toArray, List.getElem?_cons_zero, List.getElem?_cons_succ] at d2
    have HP := Lib.hid (And.intro hts (And.intro hpt (And.intro hpn hp1)))
    have hbp : b ≠ p := Ne.symm hpb
    clear hts hlen hpt hpn hp1
    simp only [pt, Option.map_some] at c3
    go_wp2_with fail
    go_end0
    have hb2 := (set_far (w := w1) (p := ⟨p, 2, none⟩) (v := .pointer (some ⟨n, 0, none⟩)) hbp).trans H1.out.2.2.2
    have q := Mem.row_set (Mem.row_set hb2 3 (.pointer (some ⟨n, 0, none⟩))) 4 (.int .i64 ((ts.length : Int) + 1))
    have hfar : ∀ j, j ≠ b → (((w1.setCell ⟨p, 2, none⟩ (.pointer (some ⟨n, 0, none⟩))).setCell ⟨b, 3, none⟩ (.pointer (some ⟨n, 0, none⟩))).setCell ⟨b, 4, none⟩ (.int .i64 ((ts.length : Int) + 1))).heap[j]? = (w1.setCell ⟨p, 2, none⟩ (.pointer (some ⟨n, 0, none⟩))).heap[j]? := fun j hj => (set_far hj).trans (set_far hj)
    refine ⟨rfl, ?_, ChainB.push HC.out.1 HC.out.2.1 ?_ (fun l2 p2 e => ?_) (fun j hj h2 k a c h3 => ?_), ((H1.out.2.2.1.setCell (p := ⟨p, 2, none⟩) (.inl (.inr (.inr HP.out.2.1))) _).setCell (p := ⟨b, 3, none⟩) (.inl (.inl rfl)) _).setCell (p := ⟨b, 4, none⟩) (.inl (.inl rfl)) _⟩
    · rw [q]
      unfold listObj listArr
      rw [fst_left ts [(n, k)] (by rw [HP.out.1]; simp), lst_app, List.length_append]
      rfl
    · rw [HA.out]
      exact (hfar n hbn).trans ((set_far (Ne.symm HP.out.2.2.1)).trans H1.out.1)
    · have := e.symm.trans HP.out.1
      obtain ⟨rfl, e2⟩ := List.append_inj' this rfl
      injection e2 with e2
      subst e2
      exact (hfar p hpb).trans (Mem.row_set HP.out.2.2.2 2 _)
    · have hjb : j ≠ b := fun e => HC.out.2.2.2 (e ▸ hj)
      have hjn : j ≠ n := fun e => HC.out.2.2.1 (e ▸ hj)
      have hjp : j ≠ p := fun e => h2 (by rw [e]; exact HA.out)
      exact (hfar j hjb).trans ((set_far hjp).trans ((H1.out.2.1 j hjn).trans h3))

set_option maxRecDepth 100000 in
set_option maxHeartbeats 2000000 in
theorem push_safe {w : World} {b n mb : Nat} {most : Int} {ts ss : List Nd} {k : ByteArray} {u1 u2 u3 : Value} (hb : w.heap[b]? = some (listObj most mb ts ss)) (hc : Chain w ⟨b, 5, none⟩ ss) (hnd : (ss.map (·.1)).Nodup)
    (hn : w.heap[n]? = some (.cells #[.string k, u1, u2, u3] 150 (0, 0))) (hnt : n ∉ ss.map (·.1)) (hlen : ss.length + 1 ≤ 9223372036854775807) :
    Calls Tryz.prog 76 #[.pointer (some ⟨b, 5, none⟩), .pointer (some ⟨n, 0, none⟩)] w (RowPost w b 5 (listObj most mb ts (ss ++ [(n, k)])) ss (ss ++ [(n, k)]) n) := by
  have hbn : n ≠ b := fun e => by
    subst e
    rw [hb] at hn
    injection hn with e
    injection e with _ e
    exact absurd e (by decide)
  have hbt := hc.ne hb
  have HC := Lib.hid (And.intro hc (And.intro hnd (And.intro hnt hbt)))
  have hb3 := Mem.row_cell hb 6
  have m1 := Mem.row_cell hn 1
  have m2 := Mem.row_cell hn 2
  have m3 := Mem.row_cell hn 3
  have n1 := Mem.row_free hn 1
  have n2 := Mem.row_free hn 2
  have n3 := Mem.row_free hn 3
  simp only [listArr, List.getElem?_toArray, List.getElem?_cons_zero, List.getElem?_cons_succ] at hb3 m1 m2 m3
  obtain ⟨la, hla⟩ : ∃ la, lst ss = la := ⟨_, rfl⟩
  rw [hla] at hb3
  obtain ⟨xa, hxa⟩ : ∃ xa, la.map (fun n => (⟨n, 0, none⟩ : Addr)) = xa := ⟨_, rfl⟩
  have hpa : pt la = .pointer xa := by rw [← hxa]; rfl
  rw [hpa] at hb3
  have HX := Lib.hid hpa
  clear hxa hpa
  have HN := Lib.hid hn
  have HB := Lib.hid hb
  clear hb hn hc hnd hnt hbt
  go_enter Tryz.func76, Tryz.ntmps76
  go_upto_region 1 with (fail)
  have k1 : (((w.setCell ⟨n, 1, none⟩ (.pointer xa)).setCell ⟨n, 2, none⟩ (.pointer none)).setCell ⟨n, 3, none⟩ (.pointer (some ⟨b, 5, none⟩))).heap[n]? = some (nodeObj k la none ⟨b, 5, none⟩) := by
    rw [← HX.out]
    exact Mem.row_set (Mem.row_set (Mem.row_set HN.out 1 _) 2 _) 3 _
  have o1 : ∀ j, j ≠ n → (((w.setCell ⟨n, 1, none⟩ (.pointer xa)).setCell ⟨n, 2, none⟩ (.pointer none)).setCell ⟨n, 3, none⟩ (.pointer (some ⟨b, 5, none⟩))).heap[j]? = w.heap[j]? := fun j hj => (set_far hj).trans ((set_far hj).trans (set_far hj))
  have on1 : Only (fun j => j = b ∨ j = n ∨ j ∈ ss.map (·.1)) w (((w.setCell ⟨n, 1, none⟩ (.pointer xa)).setCell ⟨n, 2, none⟩ (.pointer none)).setCell ⟨n, 3, none⟩ (.pointer (some ⟨b, 5, none⟩))) :=
    (((Only.refl _ w).setCell (p := ⟨n, 1, none⟩) (.inl (.inr (.inl rfl))) _).setCell (p := ⟨n, 2, none⟩) (.inl (.inr (.inl rfl))) _).setCell (p := ⟨n, 3, none⟩) (.inl (.inr (.inl rfl))) _
  generalize ((w.setCell ⟨n, 1, none⟩ (.pointer xa)).setCell ⟨n, 2, none⟩ (.pointer none)).setCell ⟨n, 3, none⟩ (.pointer (some ⟨b, 5, none⟩)) = w1 at *
  have hb1 := (o1 b (Ne.symm hbn)).trans HB.out
  have c2 := Mem.row_cell hb1 5
  have c3 := Mem.row_cell hb1 6
  have c4 := Mem.row_cell hb1 7
  have f2 := Mem.row_free hb1 5
  have f3 := Mem.row_free hb1 6
  have f4 := Mem.row_free hb1 7
  simp only [listArr, List.getElem?_toArray, List.getElem?_cons_zero, List.getElem?_cons_succ] at c2 c3 c4
  have hw : IntKind.i64.wrap ((ss.length : Int) + 1) = (ss.length : Int) + 1 := by rw [IntKind.wrap_i64]; omega
  rw [hla] at c3
  have H1 := Lib.hid (And.intro k1 (And.intro o1 (And.intro on1 hb1)))
  have HA := Lib.hid hla
  clear k1 o1 on1 hb1 hb3 n1 n2 n3 m1 m2 m3
  rcases snoc_cases ss with hts | ⟨l, ⟨p, kp⟩, hts⟩
  · have hla2 := HA.out
    rw [hts] at hla2
    simp at hla2
    subst hla2
    have HT := Lib.hid hts
    clear hts hlen
    simp only [pt, Option.map_none] at c3
    go_wp2_with fail
    go_end0
    have q := Mem.row_set (Mem.row_set (Mem.row_set H1.out.2.2.2 5 (.pointer (some ⟨n, 0, none⟩))) 6 (.pointer (some ⟨n, 0, none⟩))) 7 (.int .i64 ((ss.length : Int) + 1))
    have hts := HT.out
    subst hts
    refine ⟨rfl, q, ChainB.push HC.out.1 HC.out.2.1 ?_ (fun l p e => by simp at e) (fun j hj _ _ _ _ _ => by simp at hj), ((H1.out.2.2.1.setCell (p := ⟨b, 5, none⟩) (.inl (.inl rfl)) _).setCell (p := ⟨b, 6, none⟩) (.inl (.inl rfl)) _).setCell (p := ⟨b, 7, none⟩) (.inl (.inl rfl)) _⟩
    exact (set_far hbn).trans ((set_far hbn).trans ((set_far hbn).trans H1.out.1))
  · have hla2 := HA.out
    rw [hts] at hla2
    simp at hla2
    subst hla2
    have hpt : p ∈ ss.map (·.1) := by rw [hts]; simp
    have hpb : p ≠ b := fun e => HC.out.2.2.2 (e ▸ hpt)
    have hpn : p ≠ n := fun e => HC.out.2.2.1 (e ▸ hpt)
    have hp1 := (H1.out.2.1 p hpn).trans (HC.out.1 l p kp [] hts)
    have g2 := Mem.row_free hp1 2
    have d2 := Mem.row_cell hp1 2
    simp only [List.getElem?_toArray, List.getElem?_cons_zero, List.getElem?_cons_succ] at d2
    have HP := Lib.hid (And.intro hts (And.intro hpt (And.intro hpn hp1)))
    have hbp : b ≠ p := Ne.symm hpb
    clear hts hlen hpt hpn hp1
    simp only [pt, Option.map_some] at c3
    go_wp2_with fail
    go_end0
    have hb2 := (set_far (w := w1) (p := ⟨p, 2, none⟩) (v := .pointer (some ⟨n, 0, none⟩)) hbp).trans H1.out.2.2.2
    have q := Mem.row_set (Mem.row_set hb2 6 (.pointer (some ⟨n, 0, none⟩))) 7 (.int .i64 ((ss.length : Int) + 1))
    have hfar : ∀ j, j ≠ b → (((w1.setCell ⟨p, 2, none⟩ (.pointer (some ⟨n, 0, none⟩))).setCell ⟨b, 6, none⟩ (.pointer (some ⟨n, 0, none⟩))).setCell ⟨b, 7, none⟩ (.int .i64 ((ss.length : Int) + 1))).heap[j]? = (w1.setCell ⟨p, 2, none⟩ (.pointer (some ⟨n, 0, none⟩))).heap[j]? := fun j hj => (set_far hj).trans (set_far hj)
    refine ⟨rfl, ?_, ChainB.push HC.out.1 HC.out.2.1 ?_ (fun l2 p2 e => ?_) (fun j hj h2 k a c h3 => ?_), ((H1.out.2.2.1.setCell (p := ⟨p, 2, none⟩) (.inl (.inr (.inr HP.out.2.1))) _).setCell (p := ⟨b, 6, none⟩) (.inl (.inl rfl)) _).setCell (p := ⟨b, 7, none⟩) (.inl (.inl rfl)) _⟩
    · rw [q]
      unfold listObj listArr
      rw [fst_left ss [(n, k)] (by rw [HP.out.1]; simp), lst_app, List.length_append]
      rfl
    · rw [HA.out]
      exact (hfar n hbn).trans ((set_far (Ne.symm HP.out.2.2.1)).trans H1.out.1)
    · have := e.symm.trans HP.out.1
      obtain ⟨rfl, e2⟩ := List.append_inj' this rfl
      injection e2 with e2
      subst e2
      exact (hfar p hpb).trans (Mem.row_set HP.out.2.2.2 2 _)
    · have hjb : j ≠ b := fun e => HC.out.2.2.2 (e ▸ hj)
      have hjn : j ≠ n := fun e => HC.out.2.2.1 (e ▸ hj)
      have hjp : j ≠ p := fun e => h2 (by rw [e]; exact HA.out)
      exact (hfar j hjb).trans ((set_far hjp).trans ((H1.out.2.1 j hjn).trans h3))

end Go.Proofs.YteonjgnnpgpnnaaGreat.Slru

