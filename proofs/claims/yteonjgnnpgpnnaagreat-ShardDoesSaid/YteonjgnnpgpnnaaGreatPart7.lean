/- Part7: SlruRef1, SlruRef2, SlruRef3, SlruRef4, SlruRef5, RefSh2, RefSh3, RefSh4, RefLive11, one behind the other. -/
import Derived.Test.YteonjgnnpgpnnaaGreatPart6
import Derived.Deep.AppendLies
import Derived.Laws.OwnMore
import Derived.Deep.QuietTactic
import Derived.BigQuiet
import Derived.Test.YteonjgnnpgpnnaaGreatPart4
import Derived.Test.YteonjgnnpgpnnaaGreatPart5
import Derived.Deep.LoopGhost
import Derived.StillTailTactics
import Derived.Test.YteonjgnnpgpnnaaGreatPart1
/- The document's own list of layer 8: where it lies; without, has. -/
namespace Go.Proofs.YteonjgnnpgpnnaaGreat.RefSlru
set_option maxRecDepth 100000
open Go Go.RowKit Go.Proofs.YteonjgnnpgpnnaaGreat.Slru Go.Proofs.YteonjgnnpgpnnaaGreat.Mem

/-- Keys that lie behind a slice's value, from wherever it begins. -/
def Lk (w : World) (v : Value) (xs : List ByteArray) : Prop := (v = .slice none 0 0 ∧ xs = []) ∨
  ∃ g off c, v = .slice (some ⟨g, off, none⟩) xs.length c ∧ xs.length ≤ c ∧ g < w.heap.size ∧ ∀ i k, xs[i]? = some k → w.cell? ⟨g, off + i, none⟩ = some (.string k)
theorem own_lt {w : World} {base : Nat} {e : TypeId} {size n : Nat} {v : Value} {xs : List Value} (h : w.ownsRow base e size v n xs) : ∀ g, v.ownBlock = some g → base ≤ g ∧ g < w.heap.size := fun g e => by
  rcases h.2 with ⟨e1, _⟩ | ⟨g', cap, cur, e1, h2, e2, _⟩
  · rw [e1] at e; cases e
  · rw [e1] at e
    have : g' = g := by simpa [Value.ownBlock] using e
    subst this
    exact ⟨h2, (Array.getElem?_eq_some_iff.1 e2).1⟩
theorem row_same {w w' : World} {base : Nat} {e : TypeId} {size n : Nat} {v : Value} {xs : List Value} (h : w.ownsRow base e size v n xs) (hs : ∀ g, v.ownBlock = some g → w'.heap[g]? = w.heap[g]?) : w'.ownsRow base e size v n xs := by
  refine ⟨h.1, ?_⟩
  rcases h.2 with h1 | ⟨g, cap, cur, h1, h2, h3, h4⟩
  · exact .inl h1
  · exact .inr ⟨g, cap, cur, h1, h2, (hs g (by rw [h1]; rfl)).trans h3, h4⟩
theorem Lk.of_row {w : World} {base : Nat} {v : Value} {xs : List ByteArray} (h : w.ownsRow base 9 1 v xs.length (cellsK xs)) : Lk w v xs := by
  rcases h.2 with ⟨e1, e2⟩ | ⟨g, cap, cur, e1, _, e2, e3, _, e4, e5⟩
  · exact .inl ⟨e1, List.eq_nil_of_length_eq_zero (by omega)⟩
  · refine .inr ⟨g, 0, cap, e1, e3, (Array.getElem?_eq_some_iff.1 e2).1, fun i k hi => ?_⟩
    rw [Nat.zero_add, Mem.row_cell e2 i]
    have hil := (List.getElem?_eq_some_iff.1 hi).1
    have h1 : (cur.toList.take (xs.length * 1))[i]? = some (.string k) := by rw [e5, cellsK, List.getElem?_map, hi]; rfl
    rw [List.getElem?_take, if_pos (by omega)] at h1
    simpa using h1
theorem Lk.same {w w' : World} {v : Value} {xs : List ByteArray} (h : Lk w v xs) (hs : ∀ g, v.ownBlock = some g → w'.heap[g]? = w.heap[g]?) (hz : w.heap.size ≤ w'.heap.size) : Lk w' v xs := by
  rcases h with h | ⟨g, off, c, rfl, h2, h3, h4⟩
  · exact .inl h
  · exact .inr ⟨g, off, c, rfl, h2, Nat.lt_of_lt_of_le h3 hz, fun i k hi => (World.cell?_of_block (hs g rfl)).trans (h4 i k hi)⟩
theorem Lk.lt {w : World} {v : Value} {xs : List ByteArray} (h : Lk w v xs) : ∀ g, v.ownBlock = some g → g < w.heap.size := fun g e => by
  rcases h with ⟨rfl, _⟩ | ⟨g', off, c, rfl, h2, h3, h4⟩
  · cases e
  · have : g' = g := by simpa [Value.ownBlock] using e
    omega
theorem Lk.below {w w' : World} {v : Value} {xs : List ByteArray} (h : Lk w v xs) (hb : Below w.heap.size w w') : Lk w' v xs := h.same (fun g e => hb.block g (h.lt g e)) hb.size
/-- A known list's slice: its address, by what it holds. -/
theorem Lk.shape {w : World} {v : Value} {xs : List ByteArray} (h : Lk w v xs) : ∃ a c, v = .slice a xs.length c ∧ xs.length ≤ c := by
  rcases h with ⟨rfl, rfl⟩ | ⟨g, off, c, rfl, h2, _⟩
  · exact ⟨none, 0, rfl, Nat.le_refl _⟩
  · exact ⟨_, c, rfl, h2⟩
theorem Lk.at {w : World} {a : Option Addr} {n c : Nat} {xs : List ByteArray} (h : Lk w (.slice a n c) xs) {i : Nat} {k : ByteArray} (hi : xs[i]? = some k) : ∃ g off, a = some ⟨g, off, none⟩ ∧ g < w.heap.size ∧ w.cell? ⟨g, off + i, none⟩ = some (.string k) := by
  rcases h with ⟨_, rfl⟩ | ⟨g, off, c', e, _, h3, h4⟩
  · simp at hi
  · injection e with e
    exact ⟨g, off, e, h3, h4 i k hi⟩
theorem grown_refl (w : World) (row : Option Nat) : w.grownBy w row := ⟨rfl, rfl, rfl, Nat.le_refl _, fun _ _ _ => rfl⟩
theorem addr_add (g off j : Nat) : (⟨g, off, none⟩ : Addr).add j = ⟨g, off + j, none⟩ := by
  unfold Addr.add
  by_cases h : j = 0
  · subst h; rfl
  · rw [if_neg h]
theorem one_cellsK (xs : List ByteArray) : ∀ u ∈ cellsK xs, u.oneCell' = true := fun u hu => by
  simp only [cellsK, List.mem_map] at hu
  obtain ⟨k, _, rfl⟩ := hu
  rfl
theorem cellsK_app (xs ys : List ByteArray) : cellsK (xs ++ ys) = cellsK xs ++ cellsK ys := by simp [cellsK]
/-- append of keys that lie somewhere onto keys of the call's own, at a plain region. -/
theorem list_appK {w : World} {ops : Array Oper} {rest : List Oper} {o : Oper} {a : Act} {Q : Exit → Act → World → Prop} (s x : Operand) (base : Nat) (v y : Value) (xs ys : List ByteArray) (hgd : o.guard = none)
    (ho : o.op = .call { callee := .builtin .append, args := #[s, x], argTypes := #[46, 46] }) (hs : a.eval s = v) (hx : a.eval x = y)
    (hown : w.ownsRow base 9 1 v xs.length (cellsK xs)) (hr : Lk w y ys) (hb : xs.length + ys.length ≤ 1000000000000) (hbase : base ≤ w.heap.size)
    (hK : ∀ v' w', w'.ownsRow base 9 1 v' (xs ++ ys).length (cellsK (xs ++ ys)) → w.grownBy w' v.ownBlock → (v'.ownBlock = v.ownBlock ∨ v'.ownBlock = some w.heap.size) → wpList Tryz.prog ops Q rest (a.put o.dst v') w') :
    wpList Tryz.prog ops Q (o :: rest) a w := by
  obtain ⟨i0, hi, hz0, hz1, hz2⟩ := info_parts infoStr
  refine wpList_plain hgd fun K hKK => ?_
  rcases hr with ⟨e1, rfl⟩ | ⟨g, off, c, e1, h2, h3, h4⟩
  · have hrun := run_append_owned_none (P := Tryz.prog) (w := w) base 46 o.type 9 i0 1 Tryz.underlying46 hi v xs.length (cellsK xs) hown
    unfold Oper.wp
    simp [execOp, ho, resolve, invoke, builtin, hs, hx, e1, hrun, Result.andThen]
    exact hKK _ _ (hK v w (by rw [List.append_nil]; exact hown) (grown_refl _ _) (.inl rfl))
  · obtain ⟨v', w', hrun, h5, h6, _, h7⟩ := run_append_own_at (P := Tryz.prog) w base 46 o.type 9 i0 _ 1 16 Tryz.underlying46 hi hz0 hz1 hz2 rfl (by decide) v xs.length (cellsK xs) hown ⟨g, off, none⟩ ys.length c (cellsK ys) (by simp [cellsK])
      (fun j u hu => by
        rw [addr_add]
        rw [cellsK, List.getElem?_map] at hu
        rcases hk : ys[j]? with _ | k
        · rw [hk] at hu; cases hu
        · rw [hk] at hu; injection hu with hu; subst hu; exact h4 j k hk) (one_cellsK ys) (by unfold maxLen; omega) (by omega) hbase
    unfold Oper.wp
    simp [execOp, ho, resolve, invoke, builtin, hs, hx, e1, hrun, Result.andThen]
    exact hKK _ _ (hK v' w' (by rw [List.length_append, cellsK_app]; exact h5) h6 h7)

def WithoutPost (w : World) (xs : List ByteArray) (k : ByteArray) (e : Ending) (w' : World) : Prop :=
  ∃ v, e = .returned (.tuple #[v, .bool (decide (k ∈ xs))]) ∧ w'.ownsRow w.heap.size 9 1 v (without xs k).length (cellsK (without xs k)) ∧ Below w.heap.size w w'
set_option maxRecDepth 100000 in
set_option maxHeartbeats 1000000 in
theorem without_any {w : World} {v : Value} {xs : List ByteArray} (h : Lk w v xs) (k : ByteArray) (hl : xs.length ≤ 100000000) :
    Calls Tryz.prog 90 #[v, .string k] w (WithoutPost w xs k) := by
  obtain ⟨i0, hi, hz0, hz1, hz2⟩ := info_parts infoStr
  obtain ⟨a, c, rfl, hc⟩ := h.shape
  have HH := Lib.hid h
  clear h
  go_enter Tryz.func90, Tryz.ntmps90
  go_wp2_with fail
  go_loopg [6, 7, 8] xs.length (fun g vw vh i wr => ∃ (m : Nat), i = .int .i64 m ∧ g + m = xs.length ∧ vh = .bool (decide (k ∈ xs.take m)) ∧ Hid (Below w.heap.size w wr ∧ wr.ownsRow w.heap.size 9 1 vw (without (xs.take m) k).length (cellsK (without (xs.take m) k))))
  case atStart => exact ⟨0, rfl, by omega, by simp, Lib.hid ⟨Below.refl _ _, World.ownsRow_nil _ _ _ _⟩⟩
  case round =>
    obtain ⟨m, rfl, hg, rfl, HB⟩ := hrel
    have HG := Lib.hid hg
    clear hg
    obtain ⟨yw, yx, hvw⟩ : ∃ a c, u6 = .slice a (without (xs.take m) k).length c := by
      rcases HB.out.2.2 with ⟨e1, e2⟩ | ⟨g, cap, cur, e1, _⟩
      · exact ⟨none, 0, by rw [e1, e2]⟩
      · exact ⟨_, _, e1⟩
    subst hvw
    have hwm : (without (xs.take m) k).length ≤ 100000000 := by
      have h1 := without_len (xs.take m) k
      have h2 : (xs.take m).length ≤ xs.length := by rw [List.length_take]; omega
      omega
    obtain ⟨q, hq⟩ : ∃ q, decide (k ∈ xs.take m) = q := ⟨_, rfl⟩
    have HQ := Lib.hid hq
    rw [hq]
    clear hq
    by_cases hm : m < xs.length
    · obtain ⟨km, hkm⟩ : ∃ k, xs[m]? = some k := ⟨_, List.getElem?_eq_getElem hm⟩
      obtain ⟨ga, off, rfl, hga, c0⟩ := (HH.out.below HB.out.1).at hkm
      have hmi : (m : Int) < xs.length := by omega
      have htk : xs.take (m + 1) = xs.take m ++ [km] := by rw [List.take_add_one, hkm]; rfl
      clear hkm hga
      by_cases hkk : km = k
      · have hnx : without (xs.take (m + 1)) k = without (xs.take m) k := by
          rw [htk, without_app, show without [km] k = [] from by unfold without; simp [hkk], List.append_nil]
        have hse := str_eq k
        have hin : decide (k ∈ xs.take (m + 1)) = true := by rw [htk]; simp [hkk]
        have HN := Lib.hid (And.intro hnx hin)
        clear htk hnx hin
        subst hkk
        go_wp2_with fail
        go_roundg (xs.length - (m + 1))
        case measure => have := HG.out; omega
        case rel => exact ⟨m + 1, by go_num, by have := HG.out; omega, by rw [HN.out.2], Lib.hid (by rw [HN.out.1]; exact HB.out)⟩
      · have hnx : without (xs.take (m + 1)) k = without (xs.take m) k ++ [km] := by
          rw [htk, without_app, show without [km] k = [km] from by unfold without; simp [hkk]]
        have hin : decide (k ∈ xs.take (m + 1)) = q := by rw [← HQ.out, htk]; simp; exact fun e => absurd e.symm hkk
        have hse := str_ne hkk
        have HN := Lib.hid (And.intro hnx hin)
        have HO := Lib.hid (HB.out.2.alloc (.cells #[.string km] 9))
        have hzw : w.heap.size ≤ wr.heap.size := HB.out.1.size
        clear htk hnx hkk hin
        go_wp2_with (at_builtin; refine wpList_append_lies _ rfl _ _ _ rfl w.heap.size 9 i0 _ 1 16 Tryz.underlying46 hi hz0 hz1 hz2 rfl (by decide) _ (without (xs.take m) k).length (cellsK (without (xs.take m) k)) rfl HO.out ⟨wr.heap.size, 0, none⟩ 1 1 [.string km] rfl rfl (World.news_of_block (Mem.new_block wr _)) (by simp [Value.oneCell']) (by decide) (by unfold maxLen; omega) (by omega) (by simp; omega) (wr.heap.size + 1) (by simp) ?_; intro gg cap w6 hown hgrow hat hlt)
        go_roundg (xs.length - (m + 1))
        case measure => have := HG.out; omega
        case rel =>
          refine ⟨m + 1, by go_num, by have := HG.out; omega, by rw [HN.out.2], Lib.hid ⟨?_, ?_⟩⟩
          · exact (HB.out.1.alloc hzw _).grown hgrow (by simp; omega) (fun g e => (own_lt HB.out.2 g e).1)
          · rw [HN.out.1, List.length_append, cellsK, List.map_append]; exact hown
    · have hml : (xs.length : Int) ≤ m := by omega
      have hB := HB.out
      have hq := HQ.out
      rw [List.take_of_length_le (by omega)] at hB hq
      rw [List.take_of_length_le (by omega)]
      have HE := Lib.hid (And.intro hB hq)
      clear hB hq HB HQ hwm
      go_wp2_with fail
      refine bodyPost_ret (v := .tuple #[.slice yw (without xs k).length yx, .bool q]) (by simp [results, Tryz.results90, go_sem]) rfl ?_
      exact ⟨_, by rw [HE.out.2], HE.out.1.2, HE.out.1.1⟩
end Go.Proofs.YteonjgnnpgpnnaaGreat.RefSlru

/- The document's own list of layer 8: has, Add, Remove. -/
namespace Go.Proofs.YteonjgnnpgpnnaaGreat.RefSlru
open Go Go.RowKit Go.Proofs.YteonjgnnpgpnnaaGreat.Slru Go.Proofs.YteonjgnnpgpnnaaGreat.Mem

def rlistObj (most : Int) (vt vs : Value) : Obj := .cells #[.int .i64 most, vt, vs] 69 (0, 0)
abbrev Own (w : World) (v : Value) (xs : List ByteArray) : Prop := w.ownsRow 0 9 1 v xs.length (cellsK xs)
structure RAtW (w : World) (b : Nat) (G : Nat → Prop) (s : St) (vt vs : Value) : Prop where
  blk : w.heap[b]? = some (rlistObj s.most vt vs)
  rt : Own w vt s.trial
  rs : Lk w vs s.safe
  gb : G b
  gt : ∀ g, vt.ownBlock = some g → G g
  gs : ∀ g, vs.ownBlock = some g → G g
  ap : ∀ g, vt.ownBlock = some g → vs.ownBlock ≠ some g
  sb : vs.ownBlock ≠ some b
  lt : ∀ k, G k → k < w.heap.size
def RAt (w : World) (b : Nat) (G : Nat → Prop) (s : St) : Prop := ∃ vt vs, RAtW w b G s vt vs
theorem row_not {w : World} {e t : TypeId} {base size n k : Nat} {v : Value} {xs : List Value} {cs : Array Value} (h : w.ownsRow base e size v n xs) (hk : w.heap[k]? = some (.cells cs t (0, 0))) (hne : e ≠ t) : v.ownBlock ≠ some k := fun e1 => by
  rcases h.2 with ⟨q, _⟩ | ⟨g1, cap, cur, q, _, b1, _⟩
  · rw [q] at e1; cases e1
  · rw [q] at e1
    have : g1 = k := by simpa [Value.ownBlock] using e1
    subst this
    rw [b1] at hk
    injection hk with hk
    injection hk with _ hk
    exact hne hk
section
variable {w w' : World} {b : Nat} {G : Nat → Prop} {s : St} {vt vs v va vb : Value} {xs ys : List ByteArray} {k : ByteArray}
theorem RAtW.tb (h : RAtW w b G s vt vs) : vt.ownBlock ≠ some b := row_not h.rt h.blk (by decide)
theorem RAtW.same (h : RAtW w b G s vt vs) (hs : ∀ k, G k → w'.heap[k]? = w.heap[k]?) (hz : w.heap.size ≤ w'.heap.size) : RAtW w' b G s vt vs :=
  ⟨(hs _ h.gb).trans h.blk, row_same h.rt fun g e => hs g (h.gt g e), h.rs.same (fun g e => hs g (h.gs g e)) hz, h.gb, h.gt, h.gs, h.ap, h.sb, fun k hk => Nat.lt_of_lt_of_le (h.lt k hk) hz⟩
theorem RAtW.below (h : RAtW w b G s vt vs) (hb : Below w.heap.size w w') : RAtW w' b G s vt vs := h.same (fun k hk => hb.block k (h.lt k hk)) hb.size
theorem RAt.same (h : RAt w b G s) (hs : ∀ k, G k → w'.heap[k]? = w.heap[k]?) (hz : w.heap.size ≤ w'.heap.size) : RAt w' b G s := by
  obtain ⟨vt, vs, h⟩ := h
  exact ⟨vt, vs, h.same hs hz⟩
theorem RAt.lt (h : RAt w b G s) : ∀ k, G k → k < w.heap.size := by obtain ⟨_, _, h⟩ := h; exact h.lt
theorem RAt.below (h : RAt w b G s) (hb : Below w.heap.size w w') : RAt w' b G s := h.same (fun k hk => hb.block k (h.lt k hk)) hb.size
theorem RAt.only {F : Nat → Prop} (h : RAt w b G s) (ho : Only F w w') (hd : ∀ k, G k → ¬ F k) : RAt w' b G s := h.same (fun k hk => ho.same k (h.lt k hk) (hd k hk)) ho.size
/-- A new row on trial. -/
theorem RAtW.setTrial (h : RAtW w b G s vt vs) (hs : ∀ k, G k → vt.ownBlock ≠ some k → w'.heap[k]? = w.heap[k]?) (hz : w.heap.size ≤ w'.heap.size) (hown : Own w' v xs) (hat : ∀ g, v.ownBlock = some g → vt.ownBlock = some g ∨ w.heap.size ≤ g) :
    RAtW (w'.setCell ⟨b, 1, none⟩ v) b (fun j => G j ∨ v.ownBlock = some j) { s with trial := xs } v vs := by
  have hnb : v.ownBlock ≠ some b := fun e => (hat b e).elim h.tb (fun e1 => by have := h.lt b h.gb; omega)
  have hset : ∀ k, k ≠ b → (w'.setCell ⟨b, 1, none⟩ v).heap[k]? = w'.heap[k]? := fun k hk => set_far hk
  have hz2 : (w'.setCell ⟨b, 1, none⟩ v).heap.size = w'.heap.size := set_size _ _ _
  have hsv : ∀ g, vs.ownBlock = some g → (w'.setCell ⟨b, 1, none⟩ v).heap[g]? = w.heap[g]? := fun g e => (hset g (fun e1 => h.sb (e1 ▸ e))).trans (hs g (h.gs g e) (fun e1 => h.ap g e1 e))
  refine ⟨Mem.row_set ((hs b h.gb h.tb).trans h.blk) 1 v, row_same hown fun g e => hset g (fun e1 => hnb (e1 ▸ e)), h.rs.same hsv (by rw [hz2]; exact hz), .inl h.gb, fun g e => .inr e, fun g e => .inl (h.gs g e), fun g e e1 => ?_, h.sb, fun j hj => ?_⟩
  · exact (hat g e).elim (fun e2 => h.ap g e2 e1) (fun e2 => by have := h.lt g (h.gs g e1); omega)
  · rw [hz2]
    exact hj.elim (fun e => Nat.lt_of_lt_of_le (h.lt j e) hz) (fun e => (own_lt hown j e).2)
/-- A new row of the safe ones. -/
theorem RAtW.setSafe (h : RAtW w b G s vt vs) (hs : ∀ k, G k → vs.ownBlock ≠ some k → w'.heap[k]? = w.heap[k]?) (hz : w.heap.size ≤ w'.heap.size) (hown : Lk w' v xs) (hat : ∀ g, v.ownBlock = some g → vs.ownBlock = some g ∨ w.heap.size ≤ g) :
    RAtW (w'.setCell ⟨b, 2, none⟩ v) b (fun j => G j ∨ v.ownBlock = some j) { s with safe := xs } vt v := by
  have hnb : v.ownBlock ≠ some b := fun e => (hat b e).elim h.sb (fun e1 => by have := h.lt b h.gb; omega)
  have hset : ∀ k, k ≠ b → (w'.setCell ⟨b, 2, none⟩ v).heap[k]? = w'.heap[k]? := fun k hk => set_far hk
  have hz2 : (w'.setCell ⟨b, 2, none⟩ v).heap.size = w'.heap.size := set_size _ _ _
  refine ⟨Mem.row_set ((hs b h.gb h.sb).trans h.blk) 2 v, row_same h.rt fun g e => (hset g (fun e1 => h.tb (e1 ▸ e))).trans (hs g (h.gt g e) (h.ap g e)), hown.same (fun g e => hset g (fun e1 => hnb (e1 ▸ e))) (by rw [hz2]; exact Nat.le_refl _), .inl h.gb, fun g e => .inl (h.gt g e), fun g e => .inr e, fun g e e1 => ?_, hnb, fun j hj => ?_⟩
  · exact (hat g e1).elim (fun e2 => h.ap g e e2) (fun e2 => by have := h.lt g (h.gt g e); omega)
  · rw [hz2]
    exact hj.elim (fun e => Nat.lt_of_lt_of_le (h.lt j e) hz) (fun e => hown.lt j e)
end
def RTurn (w : World) (b : Nat) (G : Nat → Prop) (y : Int × St) (e : Ending) (w' : World) : Prop := ∃ G', e = .returned (.int .i64 y.1) ∧ RAt w' b G' y.2 ∧ Only G w w' ∧ Grows w G G'
theorem in_all (s : St) (k : ByteArray) : (decide (k ∈ s.trial) || decide (k ∈ s.safe)) = decide (k ∈ s.all) := by
  unfold St.all
  by_cases h1 : k ∈ s.trial <;> by_cases h2 : k ∈ s.safe <;> simp [h1, h2]
set_option maxRecDepth 100000 in
set_option maxHeartbeats 1000000 in
theorem has_any {w : World} {b : Nat} {G : Nat → Prop} {s : St} (h : RAt w b G s) (k : ByteArray) (hl : s.all.length ≤ 100000000) :
    Calls Tryz.prog 86 #[.pointer (some ⟨b, 0, none⟩), .string k] w fun e w' => e = .returned (.bool (decide (k ∈ s.all))) ∧ Below w.heap.size w w' := by
  obtain ⟨vt, vs, h⟩ := h
  have hl2 : s.trial.length + s.safe.length ≤ 100000000 := by unfold St.all at hl; rwa [List.length_append] at hl
  rw [← in_all]
  have c1 := Mem.row_cell h.blk 1
  simp only [List.getElem?_toArray, List.getElem?_cons_zero, List.getElem?_cons_succ] at c1
  have hw1 := without_any (Lk.of_row h.rt) k (by omega)
  unfold WithoutPost at hw1
  obtain ⟨q1, hq1⟩ : ∃ q1, decide (k ∈ s.trial) = q1 := ⟨_, rfl⟩
  obtain ⟨q2, hq2⟩ : ∃ q2, decide (k ∈ s.safe) = q2 := ⟨_, rfl⟩
  rw [hq1] at hw1
  rw [hq1, hq2]
  have HQ := Lib.hid hq2
  have HH := Lib.hid h
  clear h hl hq1 hq2
  go_enter Tryz.func86, Tryz.ntmps86
  go_wp2_with fail
  refine hw1.mono ?_
  rintro e w1 ⟨va, rfl, -, hb1⟩
  have h1 := HH.out.below hb1
  have c2 := Mem.row_cell h1.blk 2
  simp only [List.getElem?_toArray, List.getElem?_cons_zero, List.getElem?_cons_succ] at c2
  have hw2 := without_any h1.rs k (by omega)
  unfold WithoutPost at hw2
  rw [HQ.out] at hw2
  clear c1 hw1 h1
  go_wp2_with fail
  refine hw2.mono ?_
  rintro e w2 ⟨vb, rfl, -, hb2⟩
  have hbb := Mem.tr hb1 hb2
  clear hw2 c2 hb2
  cases q1
  · cases q2
    · go_wp2_with fail
      go_ret
      exact ⟨rfl, hbb⟩
    · go_wp2_with fail
      go_ret
      exact ⟨rfl, hbb⟩
  · go_wp2_with fail
    go_ret
    exact ⟨rfl, hbb⟩
set_option maxRecDepth 100000 in
set_option maxHeartbeats 1000000 in
theorem add_any {w : World} {b : Nat} {G : Nat → Prop} {s : St} (h : RAt w b G s) (k : ByteArray) (hl : s.all.length ≤ 100000000) :
    Calls Tryz.prog 58 #[.pointer (some ⟨b, 0, none⟩), .string k] w (RTurn w b G (s.add k)) := by
  have hat := h
  have hhas := has_any h k hl
  have hl2 : s.trial.length ≤ 100000000 := by unfold St.all at hl; rw [List.length_append] at hl; omega
  by_cases hk : k ∈ s.all
  · have e : s.add k = (7, s) := by unfold St.add; rw [if_pos hk]
    have hd : decide (k ∈ s.all) = true := by simpa using hk
    rw [hd] at hhas
    have HF := Lib.hid (show ∀ w', Below w.heap.size w w' → RTurn w b G (s.add k) (.returned (.int .i64 7)) w' from fun w' hb => by rw [e]; exact ⟨G, rfl, hat.below hb, Only.of_below hb (fun k h1 h2 => by omega), Grows.refl _ _⟩)
    clear h hat hl hk hd e
    go_enter Tryz.func58, Tryz.ntmps58
    go_wp2_with fail
    refine hhas.mono ?_
    rintro e w1 ⟨rfl, hb1⟩
    go_wp2_with fail
    go_ret
    exact HF.out _ hb1
  have e : s.add k = (0, { s with trial := s.trial ++ [k] }) := by unfold St.add; rw [if_neg hk]
  have hd : decide (k ∈ s.all) = false := by simpa using hk
  rw [hd] at hhas
  rw [e]
  clear hl hk hd e hat
  go_enter Tryz.func58, Tryz.ntmps58
  go_wp2_with fail
  refine hhas.mono ?_
  rintro e w1 ⟨rfl, hb1⟩
  obtain ⟨vt, vs, h⟩ := h
  have h1 := h.below hb1
  have c1 := Mem.row_cell h1.blk 1
  simp only [List.getElem?_toArray, List.getElem?_cons_zero, List.getElem?_cons_succ] at c1
  have hlk : Lk (w1.alloc (.cells #[.string k] 9)) (.slice (some ⟨w1.heap.size, 0, none⟩) [k].length 1) [k] := .inr ⟨w1.heap.size, 0, 1, rfl, Nat.le_refl _, by simp, fun i x hi => by
    have : i = 0 := by have := (List.getElem?_eq_some_iff.1 hi).1; simp at this; exact this
    subst this
    simp at hi
    subst hi
    exact Mem.box_cell (Mem.new_block w1 _)⟩
  have hrow := h1.rt.alloc (.cells #[.string k] 9)
  have hafter : ∀ v' (w3 : World), Own w3 v' (s.trial ++ [k]) → (w1.alloc (.cells #[.string k] 9)).grownBy w3 vt.ownBlock → (v'.ownBlock = vt.ownBlock ∨ v'.ownBlock = some (w1.alloc (.cells #[.string k] 9)).heap.size) →
      (∃ a c, v' = .slice a (s.trial.length + 1) c) ∧ w3.heap[b]? = some (rlistObj s.most vt vs) ∧ RTurn w b G (0, { s with trial := s.trial ++ [k] }) (.returned (.int .i64 0)) (w3.setCell ⟨b, 1, none⟩ v') := fun v' w3 hown hg hat => by
    have hs3 : w1.heap.size + 1 ≤ w3.heap.size := by have := hg.size; simp at this; omega
    have hsm : ∀ j, G j → vt.ownBlock ≠ some j → w3.heap[j]? = w1.heap[j]? := fun j hj hn => (hg.block j (by have := h1.lt j hj; simp; omega) (Ne.symm hn)).trans (Below.heap_alloc _ _ _ (h1.lt j hj))
    have hat' : ∀ g, v'.ownBlock = some g → vt.ownBlock = some g ∨ w1.heap.size ≤ g := fun g e => hat.imp (fun e1 => by rw [← e1]; exact e) (fun e1 => by rw [e1] at e; injection e with e; simp at e; omega)
    refine ⟨?_, (hsm b h1.gb h1.tb).trans h1.blk, _, rfl, ⟨_, _, h1.setTrial hsm (by omega) hown hat'⟩, ?_, fun j hj => ?_⟩
    · rcases hown.2 with ⟨e1, e2⟩ | ⟨g, cap, cur, e1, _⟩
      · simp at e2
      · exact ⟨_, _, by rw [e1, List.length_append]; rfl⟩
    · exact ((((Only.of_below (F := G) hb1 (fun k h1 h2 => by omega)).alloc _).grown hg (fun g e => .inl (h1.gt g e))).setCell (p := ⟨b, 1, none⟩) (.inl h1.gb) _)
    · rcases hj with e | e
      · exact .inl e
      · exact (hat' j e).elim (fun e => .inl (h1.gt j e)) (fun e => .inr (by have := hb1.size; omega))
  have HA := Lib.hid (And.intro hrow (And.intro hlk hafter))
  clear h h1 hb1 hhas hlk hrow hafter
  go_wp2_with (at_builtin; refine list_appK _ _ 0 vt _ s.trial [k] rfl rfl rfl rfl HA.out.1 HA.out.2.1 (by simp; omega) (Nat.zero_le _) ?_; intro v' w3 hown hg hat; obtain ⟨⟨ya, yc, rfl⟩, hb3, hres⟩ := HA.out.2.2 v' w3 hown hg hat; have c3 := Mem.row_cell hb3 1; have f3 := Mem.row_free hb3 1; have HR := Lib.hid hres)
  go_ret
  exact HR.out
end Go.Proofs.YteonjgnnpgpnnaaGreat.RefSlru

/- The document's own list of layer 8: Remove, Hit. -/
namespace Go.Proofs.YteonjgnnpgpnnaaGreat.RefSlru
open Go Go.RowKit Go.Proofs.YteonjgnnpgpnnaaGreat.Slru Go.Proofs.YteonjgnnpgpnnaaGreat.Mem

/-- Behind Remove: where something was taken out, both rows are new. -/
def RemPost (w : World) (b : Nat) (G : Nat → Prop) (s : St) (k : ByteArray) (e : Ending) (w' : World) : Prop :=
  ∃ G' vt vs, e = .returned (.int .i64 (s.remove k).1) ∧ RAtW w' b G' (s.remove k).2 vt vs ∧ Only G w w' ∧ Grows w G G' ∧ (k ∈ s.all → Own w' vs (s.remove k).2.safe)
theorem shapeK {w : World} {base : Nat} {v : Value} {n : Nat} {xs : List Value} (h : w.ownsRow base 9 1 v n xs) : ∃ a c, v = .slice a n c := by
  rcases h.2 with ⟨e1, e2⟩ | ⟨g, cap, cur, e1, _⟩
  · exact ⟨none, 0, by rw [e1, e2]⟩
  · exact ⟨_, _, e1⟩
/-- Both rows set anew. -/
theorem RAtW.reset {w w' : World} {b : Nat} {G : Nat → Prop} {s : St} {vt vs va vb : Value} {xs ys : List ByteArray} (h : RAtW w b G s vt vs) (hb : Below w.heap.size w w') (ha : w'.ownsRow w.heap.size 9 1 va xs.length (cellsK xs)) (hbv : w'.ownsRow w.heap.size 9 1 vb ys.length (cellsK ys))
    (hap : ∀ g, va.ownBlock = some g → vb.ownBlock ≠ some g) :
    RAtW ((w'.setCell ⟨b, 1, none⟩ va).setCell ⟨b, 2, none⟩ vb) b (fun j => (G j ∨ va.ownBlock = some j) ∨ vb.ownBlock = some j) { s with trial := xs, safe := ys } va vb ∧ Own ((w'.setCell ⟨b, 1, none⟩ va).setCell ⟨b, 2, none⟩ vb) vb ys := by
  have hlt := h.lt b h.gb
  have hza := own_lt ha
  have hzb := own_lt hbv
  have h1 := h.setTrial (v := va) (xs := xs) (fun j hj _ => hb.block j (h.lt j hj)) hb.size (Mem.row_less ha (Nat.zero_le _)) (fun g e => .inr (hza g e).1)
  have hbv1 : (w'.setCell ⟨b, 1, none⟩ va).ownsRow w.heap.size 9 1 vb ys.length (cellsK ys) := row_same hbv fun g e => set_far (by have := (hzb g e).1; simp; omega)
  have hs2 : ∀ j, j ≠ b → ((w'.setCell ⟨b, 1, none⟩ va).setCell ⟨b, 2, none⟩ vb).heap[j]? = (w'.setCell ⟨b, 1, none⟩ va).heap[j]? := fun j hj => set_far hj
  have hz2 : ((w'.setCell ⟨b, 1, none⟩ va).setCell ⟨b, 2, none⟩ vb).heap.size = (w'.setCell ⟨b, 1, none⟩ va).heap.size := set_size _ _ _
  have hbb : vb.ownBlock ≠ some b := fun e => by have := (hzb b e).1; omega
  have hown : Own ((w'.setCell ⟨b, 1, none⟩ va).setCell ⟨b, 2, none⟩ vb) vb ys := row_same (Mem.row_less hbv1 (Nat.zero_le _)) fun g e => hs2 g (fun e1 => hbb (e1 ▸ e))
  refine ⟨⟨Mem.row_set h1.blk 2 vb, row_same h1.rt fun g e => hs2 g (fun e1 => h1.tb (e1 ▸ e)), Lk.of_row hown, .inl h1.gb, fun g e => .inl (h1.gt g e), fun g e => .inr e, hap, hbb, fun j hj => ?_⟩, hown⟩
  rw [hz2]
  exact hj.elim (fun e => h1.lt j e) (fun e => by have := (own_lt hbv1 j e).2; exact this)
theorem without_out {s : St} {k : ByteArray} (h1 : k ∉ s.trial) (h2 : k ∉ s.safe) : k ∉ s.all := by unfold St.all; simp [h1, h2]

set_option maxRecDepth 100000 in
set_option maxHeartbeats 2000000 in
theorem remove_any {w : World} {b : Nat} {G : Nat → Prop} {s : St} (h : RAt w b G s) (k : ByteArray) (hl : s.all.length ≤ 100000000) :
    Calls Tryz.prog 66 #[.pointer (some ⟨b, 0, none⟩), .string k] w (RemPost w b G s k) := by
  obtain ⟨vt, vs, h⟩ := h
  have hl2 : s.trial.length + s.safe.length ≤ 100000000 := by unfold St.all at hl; rwa [List.length_append] at hl
  have c1 := Mem.row_cell h.blk 1
  simp only [List.getElem?_toArray, List.getElem?_cons_zero, List.getElem?_cons_succ] at c1
  have hw1 := without_any (Lk.of_row h.rt) k (by omega)
  unfold WithoutPost at hw1
  obtain ⟨q1, hq1⟩ : ∃ q1, decide (k ∈ s.trial) = q1 := ⟨_, rfl⟩
  obtain ⟨q2, hq2⟩ : ∃ q2, decide (k ∈ s.safe) = q2 := ⟨_, rfl⟩
  rw [hq1] at hw1
  have HQ := Lib.hid (And.intro hq1 hq2)
  have HH := Lib.hid h
  clear h hl hq1 hq2
  go_enter Tryz.func66, Tryz.ntmps66
  go_wp2_with fail
  refine hw1.mono ?_
  rintro e w1 ⟨va, rfl, rowa, hb1⟩
  have h1 := HH.out.below hb1
  have c2 := Mem.row_cell h1.blk 2
  simp only [List.getElem?_toArray, List.getElem?_cons_zero, List.getElem?_cons_succ] at c2
  have hw2 := without_any h1.rs k (by omega)
  unfold WithoutPost at hw2
  rw [HQ.out.2] at hw2
  have hza := own_lt rowa
  obtain ⟨ya, yca, hva⟩ := shapeK rowa
  subst hva
  have H1 := Lib.hid (And.intro rowa (And.intro hb1 hza))
  clear c1 hw1 h1 rowa hb1 hza
  go_wp2_with fail
  refine hw2.mono ?_
  rintro e w2 ⟨vb, rfl, rowb, hb2⟩
  obtain ⟨rowa, hb1, hza⟩ := H1.out
  have hbb := Mem.tr hb1 hb2
  have hzb := own_lt rowb
  have hsz := hb1.size
  obtain ⟨yb, ycb, hvb⟩ := shapeK rowb
  subst hvb
  have hap : ∀ g, (Value.slice ya (without s.trial k).length yca).ownBlock = some g → (Value.slice yb (without s.safe k).length ycb).ownBlock ≠ some g := fun g e e2 => by have := (hza g e).2; have := (hzb g e2).1; omega
  have hre := HH.out.reset hbb (row_same rowa fun g e => hb2.block g (hza g e).2) (Mem.row_less rowb hsz) hap
  have h2 := HH.out.below hbb
  have c1' := Mem.row_cell h2.blk 1
  have c2' := Mem.row_cell h2.blk 2
  have f1' := Mem.row_free h2.blk 1
  have f2' := Mem.row_free h2.blk 2
  simp only [List.getElem?_toArray, List.getElem?_cons_zero, List.getElem?_cons_succ] at c1' c2'
  have hlt := HH.out.lt
  have hyes : k ∈ s.all → RemPost w b G s k (.returned (.int .i64 0)) ((w2.setCell ⟨b, 1, none⟩ (.slice ya (without s.trial k).length yca)).setCell ⟨b, 2, none⟩ (.slice yb (without s.safe k).length ycb)) := fun hk => by
    have e : s.remove k = (0, { s with trial := without s.trial k, safe := without s.safe k }) := by unfold St.remove; rw [if_pos hk]
    unfold RemPost
    rw [e]
    refine ⟨_, _, _, rfl, hre.1, ((Only.of_below (F := G) hbb (fun k h1 h2 => by omega)).setCell (p := ⟨b, 1, none⟩) (.inl HH.out.gb) _).setCell (p := ⟨b, 2, none⟩) (.inl HH.out.gb) _, fun j hj => ?_, fun _ => hre.2⟩
    rcases hj with (e | e) | e
    · exact .inl e
    · exact .inr (hza j e).1
    · exact .inr (by have := (hzb j e).1; omega)
  have hno : k ∉ s.all → RemPost w b G s k (.returned (.int .i64 6)) w2 := fun hk => by
    have e : s.remove k = (6, s) := by unfold St.remove; rw [if_neg hk]
    unfold RemPost
    rw [e]
    exact ⟨G, vt, vs, rfl, h2, Only.of_below hbb (fun k h1 h2 => by omega), Grows.refl _ _, fun h => absurd h hk⟩
  have HF := Lib.hid (And.intro hyes hno)
  clear hw2 c2 hb2 hre h2 hlt hyes hno hap hbb hzb hza hb1 rowa rowb
  have hin : q1 = true → k ∈ s.all := fun e => by have := HQ.out.1; rw [e] at this; unfold St.all; simp at this; simp [this]
  have hin2 : q2 = true → k ∈ s.all := fun e => by have := HQ.out.2; rw [e] at this; unfold St.all; simp at this; simp [this]
  cases q1
  · cases q2
    · have hk : k ∉ s.all := without_out (by simpa using HQ.out.1) (by simpa using HQ.out.2)
      have HR := Lib.hid (HF.out.2 hk)
      clear hin hin2 hk
      go_wp2_with fail
      go_ret
      exact HR.out
    · have HR := Lib.hid (HF.out.1 (hin2 rfl))
      clear hin hin2
      go_wp2_with fail
      go_ret
      exact HR.out
  · have HR := Lib.hid (HF.out.1 (hin rfl))
    clear hin hin2
    go_wp2_with fail
    go_ret
    exact HR.out
end Go.Proofs.YteonjgnnpgpnnaaGreat.RefSlru

/- The document's own list of layer 8: Hit. -/
namespace Go.Proofs.YteonjgnnpgpnnaaGreat.RefSlru
open Go Go.RowKit Go.Proofs.YteonjgnnpgpnnaaGreat.Slru Go.Proofs.YteonjgnnpgpnnaaGreat.Mem

theorem one_lk (w : World) (k : ByteArray) : Lk (w.alloc (.cells #[.string k] 9)) (.slice (some ⟨w.heap.size, 0, none⟩) [k].length 1) [k] := .inr ⟨w.heap.size, 0, 1, rfl, Nat.le_refl _, by simp, fun i x hi => by
    have : i = 0 := by have := (List.getElem?_eq_some_iff.1 hi).1; simp at this; exact this
    subst this
    simp at hi
    subst hi
    exact Mem.box_cell (Mem.new_block w _)⟩
/-- Behind an append of one key onto the safe ones. -/
theorem safe_after {w1 w3 : World} {b : Nat} {G : Nat → Prop} {s : St} {vt vs v' : Value} {k : ByteArray} (h : RAtW w1 b G s vt vs) (hown : Own w3 v' (s.safe ++ [k])) (hg : (w1.alloc (.cells #[.string k] 9)).grownBy w3 vs.ownBlock)
    (hat : v'.ownBlock = vs.ownBlock ∨ v'.ownBlock = some (w1.alloc (.cells #[.string k] 9)).heap.size) :
    (∃ g c, v' = .slice (some ⟨g, 0, none⟩) (s.safe.length + 1) c ∧ s.safe.length + 1 ≤ c) ∧ w3.heap[b]? = some (rlistObj s.most vt vs) ∧ RAtW (w3.setCell ⟨b, 2, none⟩ v') b (fun j => G j ∨ v'.ownBlock = some j) { s with safe := s.safe ++ [k] } vt v' ∧
      Only G w1 (w3.setCell ⟨b, 2, none⟩ v') ∧ Grows w1 G (fun j => G j ∨ v'.ownBlock = some j) := by
  have hs3 : w1.heap.size + 1 ≤ w3.heap.size := by have := hg.size; simp at this; omega
  have hsm : ∀ j, G j → vs.ownBlock ≠ some j → w3.heap[j]? = w1.heap[j]? := fun j hj hn => (hg.block j (by have := h.lt j hj; simp; omega) (Ne.symm hn)).trans (Below.heap_alloc _ _ _ (h.lt j hj))
  have hat' : ∀ g, v'.ownBlock = some g → vs.ownBlock = some g ∨ w1.heap.size ≤ g := fun g e => hat.imp (fun e1 => by rw [← e1]; exact e) (fun e1 => by rw [e1] at e; injection e with e; simp at e; omega)
  refine ⟨?_, (hsm b h.gb h.sb).trans h.blk, h.setSafe hsm (by omega) (Lk.of_row hown) hat', (((Only.refl G w1).alloc _).grown hg (fun g e => .inl (h.gs g e))).setCell (p := ⟨b, 2, none⟩) (.inl h.gb) _, fun j hj => ?_⟩
  · rcases hown.2 with ⟨e1, e2⟩ | ⟨g, cap, cur, e1, _, _, e3, _⟩
    · simp at e2
    · rw [List.length_append] at e1 e3
      exact ⟨g, cap, e1, e3⟩
  · exact hj.elim .inl (fun e => (hat' j e).elim (fun e => .inl (h.gs j e)) .inr)
/-- Behind an append of one key onto those on trial. -/
theorem trial_after {w1 w3 : World} {b : Nat} {G : Nat → Prop} {s : St} {vt vs v' : Value} {k : ByteArray} (h : RAtW w1 b G s vt vs) (hown : Own w3 v' (s.trial ++ [k])) (hg : (w1.alloc (.cells #[.string k] 9)).grownBy w3 vt.ownBlock)
    (hat : v'.ownBlock = vt.ownBlock ∨ v'.ownBlock = some (w1.alloc (.cells #[.string k] 9)).heap.size) :
    (∃ a c, v' = .slice a (s.trial.length + 1) c) ∧ w3.heap[b]? = some (rlistObj s.most vt vs) ∧ RAtW (w3.setCell ⟨b, 1, none⟩ v') b (fun j => G j ∨ v'.ownBlock = some j) { s with trial := s.trial ++ [k] } v' vs ∧
      Only G w1 (w3.setCell ⟨b, 1, none⟩ v') ∧ Grows w1 G (fun j => G j ∨ v'.ownBlock = some j) := by
  have hs3 : w1.heap.size + 1 ≤ w3.heap.size := by have := hg.size; simp at this; omega
  have hsm : ∀ j, G j → vt.ownBlock ≠ some j → w3.heap[j]? = w1.heap[j]? := fun j hj hn => (hg.block j (by have := h.lt j hj; simp; omega) (Ne.symm hn)).trans (Below.heap_alloc _ _ _ (h.lt j hj))
  have hat' : ∀ g, v'.ownBlock = some g → vt.ownBlock = some g ∨ w1.heap.size ≤ g := fun g e => hat.imp (fun e1 => by rw [← e1]; exact e) (fun e1 => by rw [e1] at e; injection e with e; simp at e; omega)
  refine ⟨?_, (hsm b h.gb h.tb).trans h.blk, h.setTrial hsm (by omega) hown hat', (((Only.refl G w1).alloc _).grown hg (fun g e => .inl (h.gt g e))).setCell (p := ⟨b, 1, none⟩) (.inl h.gb) _, fun j hj => ?_⟩
  · rcases hown.2 with ⟨e1, e2⟩ | ⟨g, cap, cur, e1, _⟩
    · simp at e2
    · exact ⟨_, _, by rw [e1, List.length_append]; rfl⟩
  · exact hj.elim .inl (fun e => (hat' j e).elim (fun e => .inl (h.gt j e)) .inr)
theorem moved_yes {s : St} {t f : List ByteArray} {q : ByteArray} (h : s.most < ((q :: f).length : Int)) : s.moved t (q :: f) = { s with trial := t ++ [q], safe := f } := by
  unfold St.moved; rw [if_pos (by simp at h ⊢; omega)]; rfl
theorem moved_no {s : St} {t f : List ByteArray} (h : ¬ s.most < (f.length : Int)) : s.moved t f = { s with trial := t, safe := f } := by
  unfold St.moved; rw [if_neg (by omega)]

set_option maxRecDepth 100000 in
set_option maxHeartbeats 2000000 in
theorem hit_any {w : World} {b : Nat} {G : Nat → Prop} {s : St} (h : RAt w b G s) (k : ByteArray) (hl : s.all.length ≤ 10000000) :
    Calls Tryz.prog 62 #[.pointer (some ⟨b, 0, none⟩), .string k] w (RTurn w b G (s.hit k)) := by
  have hrem := remove_any h k (by omega)
  by_cases hk : k ∈ s.all
  case neg =>
    have e : s.hit k = (6, s) := by unfold St.hit; rw [if_neg hk]
    have e2 : s.remove k = (6, s) := by unfold St.remove; rw [if_neg hk]
    unfold RemPost at hrem
    rw [e2] at hrem
    rw [e]
    clear h hl hk e e2
    go_enter Tryz.func62, Tryz.ntmps62
    go_wp2_with fail
    refine hrem.mono ?_
    rintro e w1 ⟨G1, vt, vs, rfl, h1, ho1, hg1, -⟩
    have HR := Lib.hid (show RTurn w b G (6, s) (.returned (.int .i64 6)) w1 from ⟨G1, rfl, ⟨vt, vs, h1⟩, ho1, hg1⟩)
    clear h1 ho1 hg1
    go_wp2_with fail
    go_ret
    exact HR.out
  have e2 : s.remove k = (0, { s with trial := without s.trial k, safe := without s.safe k }) := by unfold St.remove; rw [if_pos hk]
  have e : s.hit k = (0, s.moved (without s.trial k) (without s.safe k ++ [k])) := by unfold St.hit; rw [if_pos hk]
  unfold RemPost at hrem
  rw [e2] at hrem
  rw [e]
  have hl2 : (without s.trial k).length + (without s.safe k).length ≤ 10000000 := by
    have h1 := without_len s.trial k
    have h2 := without_len s.safe k
    unfold St.all at hl
    rw [List.length_append] at hl
    omega
  generalize without s.trial k = t at *
  generalize without s.safe k = f at *
  clear h hl e e2
  go_enter Tryz.func62, Tryz.ntmps62
  go_wp2_with fail
  refine hrem.mono ?_
  rintro e w1 ⟨G1, vt, vs, rfl, h1, ho1, hg1, hown1⟩
  have hown1 : Own w1 vs f := hown1 hk
  have c1 := Mem.row_cell h1.blk 2
  simp only [List.getElem?_toArray, List.getElem?_cons_zero, List.getElem?_cons_succ] at c1
  have H1 := Lib.hid (And.intro h1 (And.intro ho1 (And.intro hg1 (hown1.alloc (.cells #[.string k] 9)))))
  have hlk := Lib.hid (one_lk w1 k)
  clear hrem h1 ho1 hg1 hown1 hk
  have hafter := Lib.hid (fun (v' : Value) (w3 : World) (hown : Own w3 v' (f ++ [k])) (hg : (w1.alloc (.cells #[.string k] 9)).grownBy w3 vs.ownBlock) (hat : v'.ownBlock = vs.ownBlock ∨ v'.ownBlock = some (w1.alloc (.cells #[.string k] 9)).heap.size) => safe_after H1.out.1 hown hg hat)
  go_upto_region 4 with (fail)
  go_cut [] from 7 to 64 (fun wx => ∃ G4 g c, RAtW wx b G4 { s with trial := t, safe := f ++ [k] } vt (.slice (some ⟨g, 0, none⟩) (f.length + 1) c) ∧ f.length + 1 ≤ c ∧ Only G w wx ∧ Grows w G G4)
  case first =>
    go_wp2_with (at_builtin; refine list_appK _ _ 0 vs _ f [k] rfl rfl rfl rfl H1.out.2.2.2 hlk.out (by simp; omega) (Nat.zero_le _) ?_; intro v' w3 hown hg hat; obtain ⟨⟨yg, yc, rfl, hyc⟩, hb3, hres⟩ := hafter.out v' w3 hown hg hat; have c3 := Mem.row_cell hb3 2; have f3 := Mem.row_free hb3 2; have HR := Lib.hid hres)
    go_meet
    exact ⟨_, yg, yc, HR.out.1, hyc, H1.out.2.1.trans HR.out.2.1 H1.out.2.2.1, H1.out.2.2.1.trans H1.out.2.1.size HR.out.2.2⟩
  case rest =>
    obtain ⟨G4, g, c, h4, hc4, ho4, hg4⟩ := hcut
    have c0 := Mem.row_cell h4.blk 0
    have c2 := Mem.row_cell h4.blk 2
    simp only [List.getElem?_toArray, List.getElem?_cons_zero, List.getElem?_cons_succ] at c0 c2
    clear H1 hlk hafter c1
    have H4 := Lib.hid (And.intro h4 (And.intro ho4 hg4))
    have hL : (f ++ [k]).length = f.length + 1 := by simp
    clear h4 ho4 hg4
    by_cases hx : s.most < ((f.length + 1 : Nat) : Int)
    · have hxd : decide (s.most < ((f.length + 1 : Nat) : Int)) = true := by simpa using hx
      obtain ⟨q, fr, hqf⟩ := List.exists_cons_of_ne_nil (show f ++ [k] ≠ [] by simp)
      have hmv := moved_yes (s := s) (t := t) (q := q) (f := fr) (by rw [← hqf, hL]; exact hx)
      rw [← hqf] at hmv
      have hlk := H4.out.1.rs
      have hcell : ∀ i x, (f ++ [k])[i]? = some x → wc.cell? ⟨g, i, none⟩ = some (.string x) ∧ g < wc.heap.size := fun i x hi => by
        obtain ⟨g', off', e1, h3, e2⟩ := hlk.at hi
        rcases hlk with ⟨e3, _⟩ | ⟨g2, off2, c2, e3, _, h3, h4⟩
        · cases e3
        · injection e3 with e3
          injection e3 with e3
          injection e3 with e3 e4
          subst e3
          have e5 : off2 = 0 := e4.symm
          subst e5
          have := h4 i x hi
          rw [Nat.zero_add] at this
          exact ⟨this, h3⟩
      have q0 := (hcell 0 q (by rw [hqf]; rfl)).1
      have HM := Lib.hid (And.intro hmv (And.intro hqf (And.intro hcell hL)))
      have hf1 : f.length = fr.length := by have := congrArg List.length hqf; simp at this; exact this
      clear hlk hcell hmv hqf hL hx
      have hfl : f.length ≤ 10000000 := by omega
      rw [hf1] at hc4 c2 hxd H4
      have HFL := Lib.hid hf1
      clear hf1 hfl
      obtain ⟨L, hLe⟩ : ∃ L, fr.length + 1 = L := ⟨_, rfl⟩
      rw [hLe] at hc4 c2 hxd H4
      have hc4' : (1 : Int) ≤ c := by omega
      have hL0 : (0 : Int) < L := by omega
      have hL1 : (1 : Int) ≤ L := by omega
      have hL2 : (L : Int) ≤ c := by omega
      have HLE := Lib.hid hLe
      clear hLe
      go_wp2_with fail
      go_quiet (fail)
      go_upto_region 7 with (fail)
      have h5 : RAtW (wc.drewN nq) b G4 { s with trial := t, safe := f ++ [k] } vt (.slice (some ⟨g, 0, none⟩) L c) := H4.out.1.same (fun _ _ => rfl) (Nat.le_refl _)
      have d2 := Mem.row_cell h5.blk 2
      have g2 := Mem.row_free h5.blk 2
      simp only [List.getElem?_toArray, List.getElem?_cons_zero, List.getElem?_cons_succ] at d2
      have H5 := Lib.hid h5
      clear h5
      go_upto_region 8 with (fail)
      obtain ⟨hmv, hqf, hcell, hL⟩ := HM.out
      obtain ⟨va, hva⟩ : ∃ va, (if c = 1 then some (⟨g, 0, none⟩ : Addr) else some ⟨g, 1, none⟩) = va := ⟨_, rfl⟩
      have hLfr : L - 1 = fr.length := by have := HLE.out; omega
      rw [hva, hLfr]
      have hob : (Value.slice va fr.length (c - 1)).ownBlock = some g := by
        rw [← hva]; split <;> rfl
      have hgl : g < wc.heap.size := (hcell 0 q (by rw [hqf]; rfl)).2
      have hlk6 : Lk (wc.drewN nq) (.slice va fr.length (c - 1)) fr := by
        by_cases hc1 : c = 1
        · rw [if_pos hc1] at hva
          subst hva
          have : fr = [] := List.eq_nil_of_length_eq_zero (by have := HLE.out; omega)
          subst this
          exact .inr ⟨g, 0, c - 1, rfl, by simp, hgl, fun i x hi => by simp at hi⟩
        · rw [if_neg hc1] at hva
          subst hva
          refine .inr ⟨g, 1, c - 1, rfl, by have := HLE.out; omega, hgl, fun i x hi => ?_⟩
          have := (hcell (i + 1) x (by rw [hqf]; exact hi)).1
          rw [Nat.add_comm 1 i]
          exact this
      have h6 := H5.out.setSafe (w' := wc.drewN nq) (v := .slice va fr.length (c - 1)) (xs := fr) (fun j _ _ => rfl) (Nat.le_refl _) hlk6 (fun g' e => .inl (by rw [← e, hob]; rfl))
      have ho6 : Only G w ((wc.drewN nq).setCell ⟨b, 2, none⟩ (.slice va fr.length (c - 1))) := (H4.out.2.1.drewN nq).setCell (p := ⟨b, 2, none⟩) (H4.out.2.2 b H4.out.1.gb) _
      have hg6 : Grows w G (fun j => G4 j ∨ (Value.slice va fr.length (c - 1)).ownBlock = some j) := fun j hj => hj.elim (H4.out.2.2 j) (fun e => H4.out.2.2 j (H4.out.1.gs j (by rw [← e, hob]; rfl)))
      have hmv' : s.moved t (f ++ [k]) = { s with trial := t ++ [q], safe := fr } := hmv
      clear hcell hlk6 hgl hva hob hqf hL hmv d2 g2 c0 c2 q0 H5
      generalize (wc.drewN nq).setCell ⟨b, 2, none⟩ (.slice va fr.length (c - 1)) = w6 at *
      have hafter := Lib.hid (fun (v' : Value) (w3 : World) (hown : Own w3 v' (t ++ [q])) (hg : (w6.alloc (.cells #[.string q] 9)).grownBy w3 vt.ownBlock) (hat : v'.ownBlock = vt.ownBlock ∨ v'.ownBlock = some (w6.alloc (.cells #[.string q] 9)).heap.size) => trial_after h6 hown hg hat)
      have c1 := Mem.row_cell h6.blk 1
      simp only [List.getElem?_toArray, List.getElem?_cons_zero, List.getElem?_cons_succ] at c1
      have hlk := Lib.hid (one_lk w6 q)
      have hrow := Lib.hid (h6.rt.alloc (.cells #[.string q] 9))
      have H6 := Lib.hid (And.intro ho6 (And.intro hg6 hmv'))
      clear h6 ho6 hg6 hmv'
      go_wp2_with (at_builtin; refine list_appK _ _ 0 vt _ t [q] rfl rfl rfl rfl hrow.out hlk.out (by simp; omega) (Nat.zero_le _) ?_; intro v' w3 hown hg hat; obtain ⟨⟨yg, yc, rfl⟩, hb3, hres⟩ := hafter.out v' w3 hown hg hat; have c3 := Mem.row_cell hb3 1; have f3 := Mem.row_free hb3 1; have HR := Lib.hid hres)
      go_ret
      rw [H6.out.2.2]
      exact ⟨_, rfl, ⟨_, _, HR.out.1⟩, H6.out.1.trans HR.out.2.1 H6.out.2.1, H6.out.2.1.trans H6.out.1.size HR.out.2.2⟩
    · have hxd : decide (s.most < ((f.length + 1 : Nat) : Int)) = false := by simpa using hx
      have hres : ∀ n, RTurn w b G (0, s.moved t (f ++ [k])) (.returned (.int .i64 0)) (wc.drewN n) := fun n => by
        rw [moved_no (by rw [hL]; exact hx)]
        exact ⟨G4, rfl, ⟨_, _, H4.out.1.same (fun _ _ => rfl) (Nat.le_refl _)⟩, H4.out.2.1.drewN n, H4.out.2.2⟩
      have HR := Lib.hid hres
      clear hres hL hx
      generalize f.length + 1 = L at *
      go_wp2_with fail
      go_quiet (fail)
      go_wp2_with fail
      go_ret
      exact HR.out _
end Go.Proofs.YteonjgnnpgpnnaaGreat.RefSlru

/- The document's own list of layer 8: All, Victim. -/
namespace Go.Proofs.YteonjgnnpgpnnaaGreat.RefSlru
open Go Go.RowKit Go.Proofs.YteonjgnnpgpnnaaGreat.Slru Go.Proofs.YteonjgnnpgpnnaaGreat.Mem

set_option maxRecDepth 100000 in
set_option maxHeartbeats 1000000 in
theorem all_any {w : World} {b : Nat} {G : Nat → Prop} {s : St} (h : RAt w b G s) (hl : s.all.length ≤ 10000000) :
    Calls Tryz.prog 105 #[.pointer (some ⟨b, 0, none⟩)] w (AllPost w s.all) := by
  obtain ⟨vt, vs, h⟩ := h
  have hl2 : s.trial.length + s.safe.length ≤ 10000000 := by unfold St.all at hl; rwa [List.length_append] at hl
  have c1 := Mem.row_cell h.blk 1
  simp only [List.getElem?_toArray, List.getElem?_cons_zero, List.getElem?_cons_succ] at c1
  have HH := Lib.hid h
  have ht := Lib.hid (Lk.of_row h.rt)
  have hlt := h.lt
  clear h hl
  have hafter : ∀ v1 (w1 : World), w1.ownsRow w.heap.size 9 1 v1 ([] ++ s.trial).length (cellsK ([] ++ s.trial)) → w.grownBy w1 none → (v1.ownBlock = none ∨ v1.ownBlock = some w.heap.size) →
      w1.cell? ⟨b, 2, none⟩ = some vs ∧ w1.ownsRow w.heap.size 9 1 v1 s.trial.length (cellsK s.trial) ∧ Below w.heap.size w w1 ∧ Lk w1 vs s.safe := fun v1 w1 hown hg hat => by
    have hb : Below w.heap.size w w1 := (Below.refl _ _).grown hg (Nat.le_refl _) (fun k e => by cases e)
    have h1 := HH.out.below hb
    exact ⟨Mem.row_cell h1.blk 2, by simpa using hown, hb, h1.rs⟩
  have HA := Lib.hid hafter
  clear hafter
  go_enter Tryz.func105, Tryz.ntmps105
  go_wp2_with (at_builtin; first
    | (refine list_appK _ _ w.heap.size (.slice none 0 0) vt [] s.trial rfl rfl rfl rfl (World.ownsRow_nil _ _ _ _) ht.out (by simp; omega) (Nat.le_refl _) ?_; intro v1 w1 hown hg hat; obtain ⟨c2, hown1, hb1, hlk1⟩ := HA.out v1 w1 hown hg hat; have H1 := Lib.hid (And.intro hown1 (And.intro hb1 hlk1)))
    | (refine list_appK _ _ w.heap.size v1 vs s.trial s.safe rfl rfl rfl rfl H1.out.1 H1.out.2.2 (by omega) H1.out.2.1.size ?_; intro v2 w2 hown2 hg2 hat2))
  go_ret
  refine ⟨v2, rfl, hown2, H1.out.2.1.grown hg2 H1.out.2.1.size (fun g e => (own_lt H1.out.1 g e).1)⟩
set_option maxRecDepth 100000 in
set_option maxHeartbeats 1000000 in
theorem victim_any {w : World} {b : Nat} {G : Nat → Prop} {s : St} (h : RAt w b G s) (but : ByteArray) (hl : s.all.length ≤ 10000000) :
    Calls Tryz.prog 84 #[.pointer (some ⟨b, 0, none⟩), .string but] w fun e w' => e = .returned (.tuple #[.string (vic s but).1, .bool (vic s but).2]) ∧ Below w.heap.size w w' := by
  have hall := all_any h hl
  obtain ⟨⟨vk, vb⟩, hv⟩ : ∃ v, vic s but = v := ⟨_, rfl⟩
  rw [hv]
  have HV := Lib.hid hv
  clear h hv
  go_enter Tryz.func84, Tryz.ntmps84
  go_wp2_with fail
  refine hall.mono ?_
  rintro e w1 ⟨va, rfl, rowa, hb1⟩
  have hra := ReadsK.of_row rowa
  obtain ⟨ya, yc, rfl, hac, hrd⟩ := hra
  have HRD := Lib.hid hrd
  have HB := Lib.hid hb1
  clear rowa hall hrd hb1
  go_wp2_with fail
  go_loopg [7] s.all.length (fun g i wr => ∃ m : Nat, i = .int .i64 m ∧ g + m = s.all.length ∧ Hid (∀ x ∈ s.all.take m, x = but) ∧ wr = w1)
  case atStart => exact ⟨0, rfl, by omega, Lib.hid (by simp), rfl⟩
  case round =>
    obtain ⟨m, rfl, hg, HT, rfl⟩ := hrel
    have HG := Lib.hid hg
    clear hg
    by_cases hm : m < s.all.length
    · obtain ⟨km, hkm⟩ : ∃ k, s.all[m]? = some k := ⟨_, List.getElem?_eq_getElem hm⟩
      obtain ⟨ga, rfl, -, c0⟩ := HRD.out m km hkm
      have hmi : (m : Int) < s.all.length := by omega
      have HK := Lib.hid hkm
      clear hkm
      by_cases hkb : km = but
      · have hse := str_eq but
        subst hkb
        go_wp2_with fail
        go_roundg (s.all.length - (m + 1))
        case measure => have := HG.out; omega
        case rel =>
          refine ⟨m + 1, by go_num, by have := HG.out; omega, Lib.hid (fun y hy => ?_), rfl⟩
          rw [List.take_add_one, HK.out] at hy
          rcases List.mem_append.1 hy with hy | hy
          · exact HT.out y hy
          · simpa using hy
      · have hse := str_ne hkb
        have hv := vic_some HK.out HT.out hkb
        rw [HV.out] at hv
        injection hv with hv1 hv2
        have HE := Lib.hid (And.intro hv1 hv2)
        clear hkb hv1 hv2
        go_wp2_with fail
        refine bodyPost_ret (v := .tuple #[.string km, .bool true]) (by simp [results, Tryz.results84, go_sem]) rfl ?_
        exact ⟨by rw [HE.out.1, HE.out.2], HB.out⟩
    · have hml : (s.all.length : Int) ≤ m := by omega
      have hv := vic_none (s := s) (but := but) (by have := HT.out; rwa [List.take_of_length_le (by omega)] at this)
      rw [HV.out] at hv
      injection hv with hv1 hv2
      have HE := Lib.hid (And.intro hv1 hv2)
      clear hv1 hv2
      go_wp2_with fail
      refine bodyPost_ret (v := .tuple #[.string ⟨#[]⟩, .bool false]) (by simp [results, Tryz.results84, go_sem]) rfl ?_
      exact ⟨by rw [HE.out.1, HE.out.2]; rfl, HB.out⟩
end Go.Proofs.YteonjgnnpgpnnaaGreat.RefSlru

/- Layer 11, the document's own shard: where its parts lie. -/
namespace Go.Proofs.YteonjgnnpgpnnaaGreat.RefSh
open Go Go.RowKit Go.Proofs.YteonjgnnpgpnnaaGreat.Mem Go.Proofs.YteonjgnnpgpnnaaGreat.App Go.Proofs.YteonjgnnpgpnnaaGreat.Shard

structure RAd where
  sb : Nat
  mb : Nat
  ob : Nat
  jb : Nat
  fb : Nat
  kb : Nat
  gb : Nat
def rObj (ad : RAd) (vL vd : Value) : Obj := .cells #[vL, .pointer (some ⟨ad.mb, 0, none⟩), .pointer (some ⟨ad.ob, 0, none⟩), .pointer (some ⟨ad.jb, 0, none⟩), vd] 48 (0, 0)
structure RP (W w : World) (N : Nat) (col : Col) (ad : RAd) (s : St) (vL vd : Value) (vv : Nat → Value) : Prop where
  self : w.heap[ad.sb]? = some (rObj ad vL vd)
  csb : col ad.sb = some .self
  row : w.ownsRow 0 79 12 vL s.tab.L.length (cellsE s.ent vv s.tab.L)
  crow : ∀ g, vL.ownBlock = some g → col g = some .table
  vals : ∀ p ∈ s.tab.L, SrcB w (vv p.2) (s.ent p.2).it.val ∧ ∀ g, (vv p.2).ownBlock = some g → col g = some (.ent 0)
  slab : ∃ F r, RefSlab.RAt w ad.mb F r ∧ RefSlab.Link N s.slab r ∧ ∀ k, F k → col k = some .slab
  order : ∃ G, RefSlru.RAt w ad.ob G s.order ∧ ∀ k, G k → col k = some .order
  judge : ∃ F rl, TinyRef.RJ w ad.jb ad.fb F ad.kb ad.gb s.judge rl ∧ ∀ k, TinyRef.All ad.jb F ad.kb ad.gb k → col k = some .judge
  drops : w.ownsRow 0 9 1 vd s.drops.length (cellsS s.drops)
  cd : ∀ g, vd.ownBlock = some g → col g = some .drops
  lt : ∀ k p, col k = some p → W.heap.size ≤ k ∧ k < w.heap.size
  below : Below W.heap.size W w
section
variable {W w w' : World} {N M : Nat} {col col' : Col} {ad : RAd} {s t : St} {vL vd : Value} {vv : Nat → Value} {p : Part}
theorem RP.slabFar (h : RP W w N col ad s vL vd vv) (H : ∀ k, col k = some .slab → w'.heap[k]? = w.heap[k]?) (C : ∀ k q, col k = some q → col' k = some q) (Z : w.heap.size ≤ w'.heap.size) : ∃ F r, RefSlab.RAt w' ad.mb F r ∧ RefSlab.Link N s.slab r ∧ ∀ k, F k → col' k = some .slab := by
  obtain ⟨F, r, h1, h2, h3⟩ := h.slab
  exact ⟨F, r, h1.same (fun k hk => H k (h3 k hk)) Z, h2, fun k hk => C k _ (h3 k hk)⟩
theorem RP.orderFar (h : RP W w N col ad s vL vd vv) (H : ∀ k, col k = some .order → w'.heap[k]? = w.heap[k]?) (C : ∀ k q, col k = some q → col' k = some q) (Z : w.heap.size ≤ w'.heap.size) : ∃ G, RefSlru.RAt w' ad.ob G s.order ∧ ∀ k, G k → col' k = some .order := by
  obtain ⟨F, h1, h3⟩ := h.order
  exact ⟨F, h1.same (fun k hk => H k (h3 k hk)) Z, fun k hk => C k _ (h3 k hk)⟩
theorem RP.judgeFar (h : RP W w N col ad s vL vd vv) (H : ∀ k, col k = some .judge → w'.heap[k]? = w.heap[k]?) (C : ∀ k q, col k = some q → col' k = some q) (Z : w.heap.size ≤ w'.heap.size) : ∃ F rl, TinyRef.RJ w' ad.jb ad.fb F ad.kb ad.gb s.judge rl ∧ ∀ k, TinyRef.All ad.jb F ad.kb ad.gb k → col' k = some .judge := by
  obtain ⟨F, r, h1, h3⟩ := h.judge
  exact ⟨F, r, h1.same (fun k hk => H k (h3 k hk)) Z, fun k hk => C k _ (h3 k hk)⟩
theorem RP.valsFar (h : RP W w N col ad s vL vd vv) (H : ∀ k, col k = some (.ent 0) → w'.heap[k]? = w.heap[k]?) (C : ∀ k q, col k = some q → col' k = some q) (Z : w.heap.size ≤ w'.heap.size) : ∀ p ∈ s.tab.L, SrcB w' (vv p.2) (s.ent p.2).it.val ∧ ∀ g, (vv p.2).ownBlock = some g → col' g = some (.ent 0) := fun p hp => by
  obtain ⟨h1, h2⟩ := h.vals p hp
  exact ⟨h1.same (fun _ g e _ => H g (h2 g e)) Z, fun g e => C g _ (h2 g e)⟩
theorem RP.rowFar (h : RP W w N col ad s vL vd vv) (H : ∀ k, col k = some .table → w'.heap[k]? = w.heap[k]?) : w'.ownsRow 0 79 12 vL s.tab.L.length (cellsE s.ent vv s.tab.L) :=
  row_keep h.row fun g e => H g (h.crow g e)
theorem RP.dropsFar (h : RP W w N col ad s vL vd vv) (H : ∀ k, col k = some .drops → w'.heap[k]? = w.heap[k]?) : w'.ownsRow 0 9 1 vd s.drops.length (cellsS s.drops) :=
  row_keep h.drops fun g e => H g (h.cd g e)
/-- A part of another colour is as it was. -/
theorem RP.far (h : RP W w N col ad s vL vd vv) (ho : Only (Of col p) w w') {q : Part} (hq : q ≠ p) : ∀ k, col k = some q → w'.heap[k]? = w.heap[k]? := fun k hk =>
  ho.same k (h.lt k q hk).2 (fun e => hq (by unfold Of at e; rw [hk] at e; injection e))
theorem RP.recol_of (h : RP W w N col ad s vL vd vv) (k : Nat) (q : Part) (hk : col k = some q) : recol col w w' p k = some q := by rw [recol_old (h.lt k q hk).2]; exact hk
theorem RP.recol_lt (h : RP W w N col ad s vL vd vv) (hz : w.heap.size ≤ w'.heap.size) : ∀ k q, recol col w w' p k = some q → W.heap.size ≤ k ∧ k < w'.heap.size := fun k q hk => by
  unfold recol at hk
  have hW := h.below.size
  by_cases h1 : k < w.heap.size
  · rw [if_pos h1] at hk
    have := h.lt k q hk; omega
  · rw [if_neg h1] at hk
    by_cases h2 : k < w'.heap.size
    · omega
    · rw [if_neg h2] at hk; cases hk
theorem RP.onlyBelow (h : RP W w N col ad s vL vd vv) (ho : Only (Of col p) w w') : Below W.heap.size W w' :=
  Below.trans h.below (ho.below h.below.size (fun k hk => (h.lt k p hk).1))
/-- Something fresh came: it has the colour p. -/
theorem RP.fresh (h : RP W w N col ad s vL vd vv) (hb : Below w.heap.size w w') (p : Part) : RP W w' N (recol col w w' p) ad s vL vd vv := by
  have H : ∀ k q, col k = some q → w'.heap[k]? = w.heap[k]? := fun k q e => hb.block k (h.lt k q e).2
  have C : ∀ k q, col k = some q → recol col w w' p k = some q := h.recol_of
  exact ⟨(H _ _ h.csb).trans h.self, C _ _ h.csb, h.rowFar fun k => H k _, fun g e => C g _ (h.crow g e), h.valsFar (fun k => H k _) C hb.size, h.slabFar (fun k => H k _) C hb.size, h.orderFar (fun k => H k _) C hb.size, h.judgeFar (fun k => H k _) C hb.size,
    h.dropsFar fun k => H k _, fun g e => C g _ (h.cd g e), h.recol_lt hb.size, Mem.tr h.below hb⟩
/-- Something fresh came, of no colour. -/
theorem RP.step (h : RP W w N col ad s vL vd vv) (hb : Below w.heap.size w w') : RP W w' N col ad s vL vd vv := by
  have H : ∀ k q, col k = some q → w'.heap[k]? = w.heap[k]? := fun k q e => hb.block k (h.lt k q e).2
  exact ⟨(H _ _ h.csb).trans h.self, h.csb, h.rowFar fun k => H k _, h.crow, h.valsFar (fun k => H k _) (fun _ _ e => e) hb.size, h.slabFar (fun k => H k _) (fun _ _ e => e) hb.size, h.orderFar (fun k => H k _) (fun _ _ e => e) hb.size, h.judgeFar (fun k => H k _) (fun _ _ e => e) hb.size,
    h.dropsFar fun k => H k _, h.cd, fun k q e => ⟨(h.lt k q e).1, Nat.lt_of_lt_of_le (h.lt k q e).2 hb.size⟩, Mem.tr h.below hb⟩
/-- What is not of its colours is changed. -/
theorem RP.other (h : RP W w N col ad s vL vd vv) {G : Nat → Prop} (ho : Only G w w') (hd : ∀ k, G k → col k = none ∧ W.heap.size ≤ k) : RP W w' N col ad s vL vd vv := by
  have H : ∀ k q, col k = some q → w'.heap[k]? = w.heap[k]? := fun k q e => ho.same k (h.lt k q e).2 (fun e1 => by rw [(hd k e1).1] at e; cases e)
  exact ⟨(H _ _ h.csb).trans h.self, h.csb, h.rowFar fun k => H k _, h.crow, h.valsFar (fun k => H k _) (fun _ _ e => e) ho.size, h.slabFar (fun k => H k _) (fun _ _ e => e) ho.size, h.orderFar (fun k => H k _) (fun _ _ e => e) ho.size, h.judgeFar (fun k => H k _) (fun _ _ e => e) ho.size,
    h.dropsFar fun k => H k _, h.cd, fun k q e => ⟨(h.lt k q e).1, Nat.lt_of_lt_of_le (h.lt k q e).2 ho.size⟩, Below.trans h.below (ho.below h.below.size fun k e => (hd k e).2)⟩
theorem RP.more (h : RP W w N col ad s vL vd vv) (hm : N ≤ M) : RP W w M col ad s vL vd vv := by
  obtain ⟨F, r, h1, h2, h3⟩ := h.slab
  exact { h with slab := ⟨F, r, h1, h2.mono hm, h3⟩ }
/-- Only the pairs, the entries, the slab, the list, the judge, the drops are looked at. -/
theorem RP.congr (h : RP W w N col ad s vL vd vv) (e1 : t.tab.L = s.tab.L) (e2 : t.ent = s.ent) (e3 : t.slab = s.slab) (e4 : t.order = s.order) (e5 : t.judge = s.judge) (e6 : t.drops = s.drops) : RP W w N col ad t vL vd vv := by
  obtain ⟨tt, te, ts, tor, tj, td⟩ := t
  simp only at e1 e2 e3 e4 e5 e6
  subst e2 e3 e4 e5 e6
  exact ⟨h.self, h.csb, by show w.ownsRow 0 _ 12 vL tt.L.length (cellsE s.ent vv tt.L); rw [e1]; exact h.row, h.crow, by show ∀ p ∈ tt.L, _; rw [e1]; exact h.vals, h.slab, h.order, h.judge, h.drops, h.cd, h.lt, h.below⟩
theorem RP.turnSlab (h : RP W w N col ad s vL vd vv) {F F' : Nat → Prop} {t : Slab.St} {r : RefSlab.RSt} (hF : ∀ k, F k → col k = some .slab) (ha : RefSlab.RAt w' ad.mb F' r) (hl : RefSlab.Link M t r) (ho : Only F w w') (hg : Grows w F F') :
    RP W w' M (recol col w w' .slab) ad { s with slab := t } vL vd vv := by
  have hoc : Only (Of col .slab) w w' := ho.mono hF
  have H : ∀ q, q ≠ Part.slab → ∀ k, col k = some q → w'.heap[k]? = w.heap[k]? := fun q hq => h.far hoc hq
  have C : ∀ k q, col k = some q → recol col w w' .slab k = some q := h.recol_of
  exact ⟨(H _ (by decide) _ h.csb).trans h.self, C _ _ h.csb, h.rowFar (H _ (by decide)), fun g e => C g _ (h.crow g e), h.valsFar (H _ (by decide)) C ho.size, ⟨F', r, ha, hl, recol_grow hF hg ha.lt⟩, h.orderFar (H _ (by decide)) C ho.size, h.judgeFar (H _ (by decide)) C ho.size,
    h.dropsFar (H _ (by decide)), fun g e => C g _ (h.cd g e), h.recol_lt ho.size, h.onlyBelow hoc⟩
theorem RP.turnOrder (h : RP W w N col ad s vL vd vv) {F F' : Nat → Prop} {t : Slru.St} (hF : ∀ k, F k → col k = some .order) (ha : RefSlru.RAt w' ad.ob F' t) (ho : Only F w w') (hg : Grows w F F') :
    RP W w' N (recol col w w' .order) ad { s with order := t } vL vd vv := by
  have hoc : Only (Of col .order) w w' := ho.mono hF
  have H : ∀ q, q ≠ Part.order → ∀ k, col k = some q → w'.heap[k]? = w.heap[k]? := fun q hq => h.far hoc hq
  have C : ∀ k q, col k = some q → recol col w w' .order k = some q := h.recol_of
  exact ⟨(H _ (by decide) _ h.csb).trans h.self, C _ _ h.csb, h.rowFar (H _ (by decide)), fun g e => C g _ (h.crow g e), h.valsFar (H _ (by decide)) C ho.size, h.slabFar (H _ (by decide)) C ho.size, ⟨F', ha, recol_grow hF hg ha.lt⟩, h.judgeFar (H _ (by decide)) C ho.size,
    h.dropsFar (H _ (by decide)), fun g e => C g _ (h.cd g e), h.recol_lt ho.size, h.onlyBelow hoc⟩
theorem RP.turnJudge (h : RP W w N col ad s vL vd vv) {F F' : Nat → Prop} {rl : List Nat} {t : Tiny.St} (hF : ∀ k, TinyRef.All ad.jb F ad.kb ad.gb k → col k = some .judge) (ha : TinyRef.RJ w' ad.jb ad.fb F' ad.kb ad.gb t rl) (ho : Only (TinyRef.All ad.jb F ad.kb ad.gb) w w') (hg : Grows w F F') :
    RP W w' N (recol col w w' .judge) ad { s with judge := t } vL vd vv := by
  have hoc : Only (Of col .judge) w w' := ho.mono hF
  have H : ∀ q, q ≠ Part.judge → ∀ k, col k = some q → w'.heap[k]? = w.heap[k]? := fun q hq => h.far hoc hq
  have C : ∀ k q, col k = some q → recol col w w' .judge k = some q := h.recol_of
  have hg2 : Grows w (TinyRef.All ad.jb F ad.kb ad.gb) (TinyRef.All ad.jb F' ad.kb ad.gb) := by
    rintro k (e | e | e | e)
    · exact .inl (.inl e)
    · exact (hg k e).imp (fun e => .inr (.inl e)) id
    · exact .inl (.inr (.inr (.inl e)))
    · exact .inl (.inr (.inr (.inr e)))
  exact ⟨(H _ (by decide) _ h.csb).trans h.self, C _ _ h.csb, h.rowFar (H _ (by decide)), fun g e => C g _ (h.crow g e), h.valsFar (H _ (by decide)) C ho.size, h.slabFar (H _ (by decide)) C ho.size, h.orderFar (H _ (by decide)) C ho.size, ⟨F', rl, ha, recol_grow hF hg2 ha.lt⟩,
    h.dropsFar (H _ (by decide)), fun g e => C g _ (h.cd g e), h.recol_lt ho.size, h.onlyBelow hoc⟩
theorem hz_set (w' : World) (b i : Nat) (v : Value) : (w'.setCell ⟨b, i, none⟩ v).heap.size = w'.heap.size := by simp [World.setCell]
/-- The drops' turn: a row, stored into the shard's own block. -/
theorem RP.turnDrops (h : RP W w N col ad s vL vd vv) {l : List ByteArray} {vd' : Value} (ho : Only (Of col .drops) w w') (hown : w'.ownsRow 0 9 1 vd' l.length (cellsS l)) (hg : ∀ g, vd'.ownBlock = some g → vd.ownBlock = some g ∨ w.heap.size ≤ g) :
    RP W (w'.setCell ⟨ad.sb, 4, none⟩ vd') N (recol col w w' .drops) ad { s with drops := l } vL vd' vv := by
  have hsb := (h.far ho (by decide) _ h.csb).trans h.self
  have hsl := (h.lt _ _ h.csb)
  have hset : ∀ k, k ≠ ad.sb → (w'.setCell ⟨ad.sb, 4, none⟩ vd').heap[k]? = w'.heap[k]? := fun k hk => Below.heap_setCell _ _ _ _ hk
  have hne : ∀ k q, col k = some q → q ≠ .self → k ≠ ad.sb := fun k q e hq e1 => hq (by rw [e1, h.csb] at e; injection e with e; exact e.symm)
  have H : ∀ q, q ≠ .self → q ≠ .drops → ∀ k, col k = some q → (w'.setCell ⟨ad.sb, 4, none⟩ vd').heap[k]? = w.heap[k]? := fun q h1 h2 k e => (hset k (hne k q e h1)).trans (h.far ho h2 k e)
  have C : ∀ k q, col k = some q → recol col w w' .drops k = some q := h.recol_of
  have hvb : ∀ g, vd'.ownBlock = some g → g ≠ ad.sb := fun g e => (hg g e).elim (fun e1 => hne g _ (h.cd g e1) (by decide)) (fun e1 => by omega)
  have Z : w.heap.size ≤ (w'.setCell ⟨ad.sb, 4, none⟩ vd').heap.size := by rw [hz_set]; exact ho.size
  refine ⟨Mem.row_set hsb 4 vd', C _ _ h.csb, h.rowFar (H _ (by decide) (by decide)), fun g e => C g _ (h.crow g e), h.valsFar (H _ (by decide) (by decide)) C Z, h.slabFar (H _ (by decide) (by decide)) C Z, h.orderFar (H _ (by decide) (by decide)) C Z, h.judgeFar (H _ (by decide) (by decide)) C Z,
    row_keep hown fun g e => hset g (hvb g e), fun g e => ?_, fun k q hk => by rw [hz_set]; exact h.recol_lt ho.size k q hk, (h.onlyBelow ho).setCell (p := ⟨ad.sb, 4, none⟩) hsl.1 vd'⟩
  unfold recol
  by_cases h1 : g < w.heap.size
  · rw [if_pos h1]; exact (hg g e).elim (h.cd g) (fun e1 => by omega)
  · rw [if_neg h1, if_pos (own_block_lt hown g e).2]
/-- The row's turn: a fresh row, stored into the shard's own block. -/
theorem RP.turnRow (h : RP W w N col ad s vL vd vv) {L : Tab.Pairs Nat} {tb : Tab.St Nat} {ent : Nat → Ent} {vv' : Nat → Value} {v' : Value} (hb : Below w.heap.size w w') (hL : tb.L = L) (hown : w'.ownsRow w.heap.size 79 12 v' L.length (cellsE ent vv' L))
    (hv : ∀ p ∈ L, SrcB w (vv' p.2) (ent p.2).it.val ∧ ∀ g, (vv' p.2).ownBlock = some g → col g = some (.ent 0)) :
    RP W (w'.setCell ⟨ad.sb, 0, none⟩ v') N (recol col w w' .table) ad { s with tab := tb, ent := ent } v' vd vv' := by
  have hsl := (h.lt _ _ h.csb)
  have hsb := (hb.block _ hsl.2).trans h.self
  have hset : ∀ k, k ≠ ad.sb → (w'.setCell ⟨ad.sb, 0, none⟩ v').heap[k]? = w'.heap[k]? := fun k hk => Below.heap_setCell _ _ _ _ hk
  have hne : ∀ k q, col k = some q → q ≠ .self → k ≠ ad.sb := fun k q e hq e1 => hq (by rw [e1, h.csb] at e; injection e with e; exact e.symm)
  have H : ∀ q, q ≠ .self → ∀ k, col k = some q → (w'.setCell ⟨ad.sb, 0, none⟩ v').heap[k]? = w.heap[k]? := fun q h1 k e => (hset k (hne k q e h1)).trans (hb.block k (h.lt k q e).2)
  have C : ∀ k q, col k = some q → recol col w w' .table k = some q := h.recol_of
  have hvb : ∀ g, v'.ownBlock = some g → g ≠ ad.sb := fun g e e1 => by have := (own_block_lt hown g e).1; omega
  have Z : w.heap.size ≤ (w'.setCell ⟨ad.sb, 0, none⟩ v').heap.size := by rw [hz_set]; exact hb.size
  refine ⟨Mem.row_set hsb 0 v', C _ _ h.csb, ?_, fun g e => ?_, ?_, h.slabFar (H _ (by decide)) C Z, h.orderFar (H _ (by decide)) C Z, h.judgeFar (H _ (by decide)) C Z,
    h.dropsFar (H _ (by decide)), fun g e => C g _ (h.cd g e), fun k q hk => by rw [hz_set]; exact h.recol_lt hb.size k q hk, (Mem.tr h.below hb).setCell (p := ⟨ad.sb, 0, none⟩) hsl.1 v'⟩
  · show ((w'.setCell ⟨ad.sb, 0, none⟩ v')).ownsRow 0 _ 12 v' tb.L.length (cellsE ent vv' tb.L)
    rw [hL]
    exact row_keep (Mem.row_less hown (Nat.zero_le _)) fun g e => hset g (hvb g e)
  · unfold recol
    have h1 := own_block_lt hown g e
    rw [if_neg (by omega), if_pos h1.2]
  · show ∀ p ∈ tb.L, SrcB _ (vv' p.2) (ent p.2).it.val ∧ _
    rw [hL]
    intro p hp
    obtain ⟨h1, h2⟩ := hv p hp
    exact ⟨h1.same (fun _ g e _ => H _ (by decide) g (h2 g e)) Z, fun g e => C g _ (h2 g e)⟩
/-- Cells of one entry are stored where it lies. -/
theorem RP.turnMid (h : RP W w N col ad s vL vd vv) {g n c i off : Nat} {p : ByteArray × Nat} (hv : vL = .slice (some ⟨g, 0, none⟩) n c) (hi : s.tab.L[i]? = some p) (hap : ∀ (k : Nat) (q : ByteArray × Nat), s.tab.L[k]? = some q → q.2 = p.2 → k = i) (x : Ent) (v : Value) (xs : List Value) (hoff : off + xs.length ≤ 12)
    (hx : ∀ j, j < 12 → (x.arr v)[j]? = if off ≤ j ∧ j < off + xs.length then xs[j - off]? else ((s.ent p.2).arr (vv p.2))[j]?) (hs : SrcB w v x.it.val) (hc : ∀ g, v.ownBlock = some g → col g = some (.ent 0)) :
    RP W (w.setCells g (i * 12 + off) xs) N col ad { s with ent := upd s.ent p.2 x } vL vd (upd vv p.2 v) := by
  have hg : col g = some .table := h.crow g (by rw [hv]; rfl)
  have hil := (List.getElem?_eq_some_iff.1 hi).1
  have hset : ∀ k, k ≠ g → (w.setCells g (i * 12 + off) xs).heap[k]? = w.heap[k]? := fun k hk => Mem.set_cells_far xs _ hk
  have hne : ∀ k q, col k = some q → q ≠ .table → k ≠ g := fun k q e hq e1 => hq (by rw [e1, hg] at e; injection e with e; exact e.symm)
  have H : ∀ q, q ≠ .table → ∀ k, col k = some q → (w.setCells g (i * 12 + off) xs).heap[k]? = w.heap[k]? := fun q h1 k e => hset k (hne k q e h1)
  have C : ∀ k q, col k = some q → col k = some q := fun _ _ e => e
  have Z : w.heap.size ≤ (w.setCells g (i * 12 + off) xs).heap.size := by rw [Mem.set_cells_size]; exact Nat.le_refl _
  refine ⟨(H _ (by decide) _ h.csb).trans h.self, h.csb, ?_, h.crow, fun q hq => ?_, h.slabFar (H _ (by decide)) C Z, h.orderFar (H _ (by decide)) C Z, h.judgeFar (H _ (by decide)) C Z,
    h.dropsFar (H _ (by decide)), h.cd, fun k q hk => by rw [Mem.set_cells_size]; exact h.lt k q hk, (Mem.Only.setCells (F := fun k => k = g) (.inl rfl) xs (i * 12 + off) (Only.refl _ w)).below h.below.size (fun k e => by rw [e]; exact (h.lt g _ hg).1) |> Below.trans h.below⟩
  · refine ⟨cellsE_len _, ?_⟩
    rcases h.row.2 with ⟨e, _⟩ | ⟨g', cap', cur, e, h2, h3, h4, h5, h6, h7⟩
    · rw [hv] at e; cases e
    have e9 := e
    rw [hv] at e
    injection e with e e1 e2
    injection e with e
    injection e with e
    subst e; subst e2
    refine .inr ⟨g, c, lay cur (i * 12 + off) xs, e9, h2, Mem.set_cells xs _ cur h3, h4, h5, by rw [Mem.lay_size]; exact h6, ?_⟩
    apply cellsE_ext
    · rw [List.length_take, Array.length_toList, Mem.lay_size]
      have := congrArg List.length h7
      rw [List.length_take, Array.length_toList, cellsE_len] at this
      exact this
    · intro k q j hk hj
      replace hk : s.tab.L[k]? = some q := hk
      have hkl := (List.getElem?_eq_some_iff.1 hk).1
      rw [List.getElem?_take, if_pos (by show k * 12 + j < s.tab.L.length * 12; omega), Array.getElem?_toList]
      have hcur : cur[k * 12 + j]? = ((s.ent q.2).arr (vv q.2))[j]? := by
        have h8 := cellsE_get (ent := s.ent) (vv := vv) s.tab.L k q j hk hj
        rw [← h7, List.getElem?_take, if_pos (by omega), Array.getElem?_toList] at h8
        exact h8
      have hcl : i * 12 + off + xs.length ≤ cur.size := by
        have := congrArg List.length h7
        rw [List.length_take, Array.length_toList, cellsE_len] at this
        omega
      show _ = ((upd s.ent p.2 x q.2).arr (upd vv p.2 v q.2))[j]?
      by_cases hq : q.2 = p.2
      · have hki := hap k q hk hq
        subst hki
        rw [hq, upd_same, upd_same, hx j hj]
        rw [hq] at hcur
        by_cases hjo : off ≤ j ∧ j < off + xs.length
        · rw [if_pos hjo, Mem.lay_in xs _ _ _ hcl (by omega) (by omega), show k * 12 + j - (k * 12 + off) = j - off from by omega]
        · rw [if_neg hjo, Mem.lay_out xs _ _ _ (by omega), hcur]
      · rw [upd_other _ _ hq, upd_other _ _ hq]
        have hki : k ≠ i := fun e => hq (by rw [e, hi] at hk; injection hk with hk; rw [hk])
        rw [Mem.lay_out xs _ _ _ (by omega), hcur]
  · show SrcB _ (upd vv p.2 v q.2) (upd s.ent p.2 x q.2).it.val ∧ ∀ g, (upd vv p.2 v q.2).ownBlock = some g → _
    by_cases e : q.2 = p.2
    · rw [e, upd_same, upd_same]
      exact ⟨hs.same (fun _ g e _ => H _ (by decide) g (hc g e)) Z, hc⟩
    · rw [upd_other _ _ e, upd_other _ _ e]
      exact h.valsFar (H _ (by decide)) C Z q hq
end
/-- A document's shard that a run holds. -/
def RAt (W w : World) (N b : Nat) (col : Col) (s : St) : Prop := ∃ ad vL vd vv, ad.sb = b ∧ RP W w N col ad s vL vd vv
def RTurn (W w : World) (N b : Nat) (col : Col) (s : St) (w' : World) : Prop := ∃ col', RAt W w' N b col' s ∧ Fr col col' w w'
section
variable {W w w' : World} {N M b : Nat} {col : Col} {s t : St}
theorem RAt.step (h : RAt W w N b col s) (hb : Below w.heap.size w w') : RAt W w' N b col s := by
  obtain ⟨ad, vL, vd, vv, e, h⟩ := h
  exact ⟨ad, vL, vd, vv, e, h.step hb⟩
theorem RAt.more (h : RAt W w N b col s) (hm : N ≤ M) : RAt W w M b col s := by
  obtain ⟨ad, vL, vd, vv, e, h⟩ := h
  exact ⟨ad, vL, vd, vv, e, h.more hm⟩
theorem RAt.congr (h : RAt W w N b col s) (e1 : t.tab.L = s.tab.L) (e2 : t.ent = s.ent) (e3 : t.slab = s.slab) (e4 : t.order = s.order) (e5 : t.judge = s.judge) (e6 : t.drops = s.drops) : RAt W w N b col t := by
  obtain ⟨ad, vL, vd, vv, e, h⟩ := h
  exact ⟨ad, vL, vd, vv, e, h.congr e1 e2 e3 e4 e5 e6⟩
theorem RAt.lt (h : RAt W w N b col s) : ∀ k, col k ≠ none → W.heap.size ≤ k ∧ k < w.heap.size := by
  obtain ⟨ad, vL, vd, vv, e, h⟩ := h
  intro k hk
  rcases hc : col k with _ | p
  · exact absurd hc hk
  · exact h.lt k p hc
theorem RTurn.more (h : RTurn W w N b col s w') (hm : N ≤ M) : RTurn W w M b col s w' := by
  obtain ⟨c, a, f⟩ := h
  exact ⟨c, a.more hm, f⟩
theorem RTurn.step {w2 : World} (h : RTurn W w N b col s w') (hb : Below w'.heap.size w' w2) : RTurn W w N b col s w2 := by
  obtain ⟨c, a, f⟩ := h
  exact ⟨c, a.step hb, f.trans (Fr.below hb)⟩
theorem RTurn.congr (h : RTurn W w N b col s w') (e1 : t.tab.L = s.tab.L) (e2 : t.ent = s.ent) (e3 : t.slab = s.slab) (e4 : t.order = s.order) (e5 : t.judge = s.judge) (e6 : t.drops = s.drops) : RTurn W w N b col t w' := by
  obtain ⟨c, a, f⟩ := h
  exact ⟨c, a.congr e1 e2 e3 e4 e5 e6, f⟩
end
end Go.Proofs.YteonjgnnpgpnnaaGreat.RefSh

/- Layer 11, the document's own shard: at; its parts' calls. -/
namespace Go.Proofs.YteonjgnnpgpnnaaGreat.RefSh
open Go Go.RowKit Go.Proofs.YteonjgnnpgpnnaaGreat.Mem Go.Proofs.YteonjgnnpgpnnaaGreat.App Go.Proofs.YteonjgnnpgpnnaaGreat.Shard

theorem toList_data (b : ByteArray) : b.toList = b.data.toList := by
  have h : ∀ (n i : Nat) (r : List UInt8), b.size - i = n → ByteArray.toList.loop b i r = r.reverse ++ b.data.toList.drop i := by
    intro n
    induction n with
    | zero =>
      intro i r hn
      unfold ByteArray.toList.loop
      have h1 : ¬ i < b.size := by omega
      rw [if_neg h1, List.drop_eq_nil_of_le (by have h9 : b.data.toList.length = b.size := (by simp); omega), List.append_nil]
    | succ n ih =>
      intro i r hn
      have h1 : i < b.size := by omega
      unfold ByteArray.toList.loop
      rw [if_pos h1, ih (i + 1) _ (by omega)]
      have h2 : i < b.data.toList.length := by simpa using h1
      rw [List.drop_eq_getElem_cons h2]
      have h3 : b.get! i = b.data.toList[i] := by
        have e1 : b.get! i = b.data[i]! := rfl
        rw [e1, getElem!_pos b.data i h1]
        simp
      rw [h3]; simp
  have := h (b.size - 0) 0 [] rfl
  simpa [ByteArray.toList] using this
/-- The row behind the shard's value: nothing, or from its block's begin. -/
theorem RP.shape {W w : World} {N : Nat} {col : Col} {ad : RAd} {s : St} {vL vd : Value} {vv : Nat → Value} (h : RP W w N col ad s vL vd vv) : ∃ a c, vL = .slice a s.tab.L.length c ∧ s.tab.L.length ≤ c ∧
    ∀ i p, s.tab.L[i]? = some p → ∃ g, a = some ⟨g, 0, none⟩ ∧ ∀ j, j < 12 → w.cell? ⟨g, i * 12 + j, none⟩ = ((s.ent p.2).arr (vv p.2))[j]? ∧ w.frozen? ⟨g, i * 12 + j, none⟩ = false := by
  rcases h.row.2 with ⟨e1, e2⟩ | ⟨g, cap, cur, e1, _, e2, e3, _, e4, e5⟩
  · have : s.tab.L = [] := List.eq_nil_of_length_eq_zero (by omega)
    rw [this]
    exact ⟨none, 0, by rw [e1]; rfl, Nat.le_refl _, fun i k hi => by simp at hi⟩
  · refine ⟨some ⟨g, 0, none⟩, cap, e1, e3, fun i p hi => ⟨g, rfl, fun j hj => ⟨?_, Mem.row_free e2 _⟩⟩⟩
    have hil := (List.getElem?_eq_some_iff.1 hi).1
    have h8 := cellsE_get (ent := s.ent) (vv := vv) s.tab.L i p j hi hj
    rw [← e5, List.getElem?_take, if_pos (by omega), Array.getElem?_toList] at h8
    exact (Mem.row_cell e2 _).trans h8
section
variable {W w : World} {N b : Nat} {col : Col} {ad : RAd} {s : St} {vL vd : Value} {vv : Nat → Value}
set_option maxRecDepth 100000 in
set_option maxHeartbeats 1000000 in
theorem at_any (h : RP W w N col ad s vL vd vv) (hr : Tab.Rising s.tab.L) (hkey : ∀ p ∈ s.tab.L, (s.ent p.2).it.key = p.1) (k : ByteArray) (hl : s.tab.L.length ≤ 1000000000) :
    Calls Tryz.prog 55 #[.pointer (some ⟨ad.sb, 0, none⟩), .string k] w fun e w' => e = .returned (.tuple #[.int .i64 (place s.tab.L k : Nat), .bool (Tab.get s.tab.L k).isSome]) ∧ ∃ d, w' = w.drewN d := by
  obtain ⟨a, c, rfl, hc, hcell⟩ := h.shape
  have c0 : w.cell? ⟨ad.sb, 0, none⟩ = some (.slice a s.tab.L.length c) := Mem.row_cell h.self 0
  have hpg := Lib.hid (place_get hr k)
  have hHC : Hid (∀ i p, s.tab.L[i]? = some p → ∃ g, a = some ⟨g, 0, none⟩ ∧ w.cell? ⟨g, i * 12, none⟩ = some (.string p.1)) := Lib.hid fun i p hi => by
    obtain ⟨g, e, h1⟩ := hcell i p hi
    refine ⟨g, e, ?_⟩
    have := (h1 0 (by omega)).1
    rw [Nat.add_zero] at this
    rw [this, ← hkey p (List.mem_of_getElem? hi)]
    rfl
  clear h hcell hkey
  generalize s.tab.L = L at *
  go_enter Tryz.func55, Tryz.ntmps55
  go_wp2_with fail
  go_loopg [6] L.length (fun g i wr => ∃ m : Nat, i = .int .i64 m ∧ g + m = L.length ∧ Hid (∀ j p, j < m → L[j]? = some p → Tab.ltK p.1 k = true) ∧ wr = w)
  case atStart => exact ⟨0, rfl, by omega, Lib.hid (fun j p h => absurd h (by omega)), rfl⟩
  case round =>
    obtain ⟨m, rfl, hg, hs, rfl⟩ := hrel
    have HG := Lib.hid hg
    clear hg
    by_cases hm : m < L.length
    · obtain ⟨⟨k0, v0⟩, hk0⟩ : ∃ q, L[m]? = some q := ⟨_, List.getElem?_eq_getElem hm⟩
      obtain ⟨g, rfl, cc0⟩ := hHC.out m _ hk0
      have hmi : (m : Int) < L.length := by omega
      have HK := Lib.hid hk0
      clear hk0
      by_cases hlt : Tab.ltK k0 k = true
      · have hbl : Op.bytesLess k0.toList k.toList = true := by rw [toList_data, toList_data]; exact hlt
        go_wp2_with fail
        go_roundg (L.length - (m + 1))
        case measure => have := HG.out; omega
        case rel =>
          refine ⟨m + 1, by go_num, by have := HG.out; omega, Lib.hid (fun j p hj hp => ?_), rfl⟩
          by_cases e : j = m
          · subst e; rw [HK.out] at hp; injection hp with hp; subst hp; exact hlt
          · exact hs.out j p (by omega) hp
      · have hbl : Op.bytesLess k0.toList k.toList = false := by rw [toList_data, toList_data]; unfold Tab.ltK at hlt; simpa using hlt
        have hpl : place L k = m := place_eq (by omega) hs.out (fun p hp => by rw [HK.out] at hp; injection hp with hp; subst hp; simpa using hlt)
        rw [hpl] at hpg
        have hd : decide (m < L.length) = true := decide_eq_true hm
        have hd2 : decide ((m : Int) < L.length) = true := decide_eq_true hmi
        have HPL := Lib.hid hpl
        clear hlt hpl
        by_cases hkk : k0 = k
        · subst hkk
          have hf : (Tab.get L k0).isSome = true := by
            rcases hpg.out with ⟨u, _, e, _⟩ | ⟨e, _⟩
            · rw [e]; rfl
            · exact absurd rfl (e _ HK.out)
          have HE := Lib.hid hf
          have hse := Slru.str_eq k0
          clear hf
          go_wp2_with fail
          go_quiet (fail)
          go_wp2_with fail
          refine bodyPost_ret (v := .tuple #[.int .i64 m, .bool true]) (by simp [results, Tryz.results55, go_sem]) rfl ?_
          exact ⟨by rw [HPL.out, HE.out], _, rfl⟩
        · have hf : (Tab.get L k).isSome = false := by
            rcases hpg.out with ⟨u, e2, e, _⟩ | ⟨_, e, _⟩
            · rw [HK.out] at e2; injection e2 with e2; injection e2 with e2; exact absurd e2 hkk
            · rw [e]; rfl
          have HE := Lib.hid hf
          have hse := Slru.str_ne hkk
          clear hf hkk
          go_wp2_with fail
          go_quiet (fail)
          go_wp2_with fail
          refine bodyPost_ret (v := .tuple #[.int .i64 m, .bool false]) (by simp [results, Tryz.results55, go_sem]) rfl ?_
          exact ⟨by rw [HPL.out, HE.out], _, rfl⟩
    · have hml : (L.length : Int) ≤ m := by omega
      have hd : decide (m < L.length) = false := decide_eq_false hm
      have hd2 : decide ((m : Int) < L.length) = false := decide_eq_false (by omega)
      have hme : m = L.length := by have := HG.out; omega
      have hpl : place L k = m := place_eq (by omega) hs.out (fun p hp => by rw [hme] at hp; simp at hp)
      rw [hpl] at hpg
      have hf : (Tab.get L k).isSome = false := by
        rcases hpg.out with ⟨u, e2, e, _⟩ | ⟨_, e, _⟩
        · rw [hme] at e2; simp at e2
        · rw [e]; rfl
      have HE := Lib.hid hf
      have HPL := Lib.hid hpl
      clear hme hf hpl hm
      go_wp2_with fail
      go_quiet (fail)
      go_wp2_with fail
      refine bodyPost_ret (v := .tuple #[.int .i64 m, .bool false]) (by simp [results, Tryz.results55, go_sem]) rfl ?_
      exact ⟨by rw [HPL.out, HE.out], _, rfl⟩

/-! ### the parts' calls -/
theorem RP.free (h : RP W w N col ad s vL vd vv) (hg : Slab.Good N s.slab) (hN : N ≤ 1000000) (c n : Int) :
    Calls Tryz.prog 56 #[.pointer (some ⟨ad.mb, 0, none⟩), .agg #[.int .i64 c, .int .i64 n]] w fun e w' => ∃ col', e = .returned (.int .i64 (s.slab.free (c, n)).1) ∧ RP W w' (N + 1) col' ad { s with slab := (s.slab.free (c, n)).2 } vL vd vv ∧ Fr col col' w w' ∧ ∀ k p, col k = some p → col' k = some p ∧ (p ≠ .slab → w'.heap[k]? = w.heap[k]?) := by
  obtain ⟨F, r, h1, h2, h3⟩ := h.slab
  obtain ⟨b1, b2, -⟩ := h2.bounds hg hN
  refine (RefSlab.free_any h1 b1 b2 c n).mono ?_
  rintro e w' ⟨F', rfl, ha, ho, hgr⟩
  obtain ⟨e1, l1⟩ := h2.free hg (c, n)
  exact ⟨_, by rw [e1], h.turnSlab h3 ha l1 ho hgr, Fr.of h3 ho, fun k p e => ⟨h.recol_of k p e, fun hp => h.far (ho.mono h3) hp k e⟩⟩
theorem RP.take (h : RP W w N col ad s vL vd vv) (hg : Slab.Good N s.slab) (hN : N ≤ 1000000) (size : Int) :
    Calls Tryz.prog 57 #[.pointer (some ⟨ad.mb, 0, none⟩), .int .i64 size] w fun e w' => ∃ col', e = .returned (.tuple #[.agg #[.int .i64 (s.slab.take size).1.1.1, .int .i64 (s.slab.take size).1.1.2], .int .i64 (s.slab.take size).1.2]) ∧ RP W w' (N + 1) col' ad { s with slab := (s.slab.take size).2 } vL vd vv ∧ Fr col col' w w' ∧ ∀ k p, col k = some p → col' k = some p ∧ (p ≠ .slab → w'.heap[k]? = w.heap[k]?) := by
  obtain ⟨F, r, h1, h2, h3⟩ := h.slab
  obtain ⟨b1, b2, b3, b4⟩ := h2.bounds hg hN
  refine (RefSlab.take_any h1 b1 b2 b3 b4 size).mono ?_
  rintro e w' ⟨c, n, err, r', F', rfl, ha, ho, hgr, ht⟩
  obtain ⟨e1, l1⟩ := h2.take hg ht
  exact ⟨_, by rw [e1], h.turnSlab h3 ha l1 ho hgr, Fr.of h3 ho, fun k p e => ⟨h.recol_of k p e, fun hp => h.far (ho.mono h3) hp k e⟩⟩
theorem RP.fits (h : RP W w N col ad s vL vd vv) (hg : Slab.Good N s.slab) (hN : N ≤ 1000000) (size less : Int) (hl : -9223372036854775808 ≤ less ∧ less ≤ 9223372036854775807) :
    Calls Tryz.prog 83 #[.pointer (some ⟨ad.mb, 0, none⟩), .int .i64 size, .int .i64 less] w fun e w' => e = .returned (.bool (s.slab.fits size less)) ∧ ∃ n, w' = w.drewN n := by
  obtain ⟨F, r, h1, h2, h3⟩ := h.slab
  obtain ⟨b1, b2, b3, b4⟩ := h2.bounds hg hN
  rw [← h2.fits hg]
  exact RefSlab.fits_any h1 b1 size less hl
theorem RP.used (h : RP W w N col ad s vL vd vv) (hg : Slab.Good N s.slab) (hN : N ≤ 1000000) :
    Calls Tryz.prog 12 #[.pointer (some ⟨ad.mb, 0, none⟩)] w fun e w' => e = .returned (.int .i64 s.slab.used) ∧ w = w' := by
  obtain ⟨F, r, h1, h2, h3⟩ := h.slab
  obtain ⟨b1, b2, b3, b4⟩ := h2.bounds hg hN
  rw [← h2.used hg]
  exact RefSlab.used_any h1 b1
theorem RP.oremove (h : RP W w N col ad s vL vd vv) (hl : s.order.all.length ≤ 10000000) (k : ByteArray) :
    Calls Tryz.prog 66 #[.pointer (some ⟨ad.ob, 0, none⟩), .string k] w fun e w' => ∃ col', e = .returned (.int .i64 (s.order.remove k).1) ∧ RP W w' N col' ad { s with order := (s.order.remove k).2 } vL vd vv ∧ Fr col col' w w' := by
  obtain ⟨F, h1, h3⟩ := h.order
  refine (RefSlru.remove_any h1 k (by omega)).mono ?_
  rintro e w' ⟨F', vt, vs, rfl, ha, ho, hgr, -⟩
  exact ⟨_, rfl, h.turnOrder h3 ⟨vt, vs, ha⟩ ho hgr, Fr.of h3 ho⟩
theorem RP.oadd (h : RP W w N col ad s vL vd vv) (hl : s.order.all.length ≤ 10000000) (k : ByteArray) :
    Calls Tryz.prog 58 #[.pointer (some ⟨ad.ob, 0, none⟩), .string k] w fun e w' => ∃ col', e = .returned (.int .i64 (s.order.add k).1) ∧ RP W w' N col' ad { s with order := (s.order.add k).2 } vL vd vv ∧ Fr col col' w w' := by
  obtain ⟨F, h1, h3⟩ := h.order
  refine (RefSlru.add_any h1 k (by omega)).mono ?_
  rintro e w' ⟨F', rfl, ha, ho, hgr⟩
  exact ⟨_, rfl, h.turnOrder h3 ha ho hgr, Fr.of h3 ho⟩
theorem RP.ohit (h : RP W w N col ad s vL vd vv) (hl : s.order.all.length ≤ 10000000) (k : ByteArray) :
    Calls Tryz.prog 62 #[.pointer (some ⟨ad.ob, 0, none⟩), .string k] w fun e w' => ∃ col', e = .returned (.int .i64 (s.order.hit k).1) ∧ RP W w' N col' ad { s with order := (s.order.hit k).2 } vL vd vv ∧ Fr col col' w w' := by
  obtain ⟨F, h1, h3⟩ := h.order
  refine (RefSlru.hit_any h1 k hl).mono ?_
  rintro e w' ⟨F', rfl, ha, ho, hgr⟩
  exact ⟨_, rfl, h.turnOrder h3 ha ho hgr, Fr.of h3 ho⟩
theorem RP.victim (h : RP W w N col ad s vL vd vv) (hl : s.order.all.length ≤ 10000000) (k : ByteArray) :
    Calls Tryz.prog 84 #[.pointer (some ⟨ad.ob, 0, none⟩), .string k] w fun e w' => e = .returned (.tuple #[.string (Slru.vic s.order k).1, .bool (Slru.vic s.order k).2]) ∧ Below w.heap.size w w' := by
  obtain ⟨F, h1, h3⟩ := h.order
  exact RefSlru.victim_any h1 k hl
theorem RP.touch (h : RP W w N col ad s vL vd vv) (k : ByteArray) (hk : k.size ≤ maxLen) :
    Calls Tryz.prog 61 #[.pointer (some ⟨ad.jb, 0, none⟩), .string k] w fun e w' => ∃ col', e = .returned (.tuple #[]) ∧ RP W w' N col' ad { s with judge := s.judge.touch k.data.toList } vL vd vv ∧ Fr col col' w w' := by
  obtain ⟨F, rl, h1, h3⟩ := h.judge
  refine (TinyRef.touch_any h1 k hk).mono ?_
  rintro e w' ⟨F', rl', rfl, ha, ho, hgr⟩
  exact ⟨_, rfl, h.turnJudge h3 ha ho hgr, Fr.of h3 ho⟩
theorem RP.admit (h : RP W w N col ad s vL vd vv) (k l : ByteArray) (hk : k.size ≤ maxLen) (hl : l.size ≤ maxLen) :
    Calls Tryz.prog 85 #[.pointer (some ⟨ad.jb, 0, none⟩), .string k, .string l] w fun e w' => e = .returned (.bool (s.judge.admit k.data.toList l.data.toList)) ∧ ∃ n, w' = w.drewN n := by
  obtain ⟨F, rl, h1, h3⟩ := h.judge
  exact TinyRef.admit_any h1 k l hk hl
end
end Go.Proofs.YteonjgnnpgpnnaaGreat.RefSh

/- Layer 11, the document's own shard: Drops, Use, Remove, drop. -/
namespace Go.Proofs.YteonjgnnpgpnnaaGreat.RefSh
open Go Go.RowKit Go.Proofs.YteonjgnnpgpnnaaGreat.Mem Go.Proofs.YteonjgnnpgpnnaaGreat.App Go.Proofs.YteonjgnnpgpnnaaGreat.Shard

theorem infoE : (Tryz.prog.info? 79).map (fun i => (i.zero, i.size, i.bytes)) = some (some (.agg #[.string ⟨#[]⟩, .slice none 0 0, .int .u32 0, .int .i64 0, .int .u64 0, .int .i64 0, .int .u64 0, .bool false, .bool false, .bool false, .int .i64 0, .int .i64 0]), 12, 104) := by kernel_rfl
theorem infoS : (Tryz.prog.info? 9).map (fun i => (i.zero, i.size, i.bytes)) = some (some (.string ⟨#[]⟩), 1, 16) := by kernel_rfl
theorem src_str (w : World) (k : ByteArray) : Src (w.alloc (.cells #[.string k] 9)) 1 (.slice (some ⟨w.heap.size, 0, none⟩) 1 1) 1 [.string k] := by
  have hn := Mem.new_block w (.cells #[.string k] 9)
  refine .inr ⟨w.heap.size, 0, 1, rfl, rfl, by simp, fun j u hu => ?_⟩
  have := Mem.row_cell hn j
  rw [Nat.zero_add, this]
  simpa using hu
theorem src_none {w w' : World} {B g c : Nat} (hb : Below B w w') (hg : g < w.heap.size) : Src w' 12 (.slice (some ⟨g, 0, none⟩) 0 c) 0 [] := .inr ⟨g, 0, c, rfl, rfl, Nat.lt_of_lt_of_le hg hb.size, fun j u hu => by simp at hu⟩
theorem fr_set {col col' : Col} {w w' : World} (h : Fr col col' w w') {b : Nat} (hb : col b ≠ none) (i : Nat) (v : Value) : Fr col col' w (w'.setCell ⟨b, i, none⟩ v) := ⟨h.1.setCell (p := ⟨b, i, none⟩) (.inl hb) v, h.2⟩
section
variable {W w : World} {N b : Nat} {col : Col} {ad : RAd} {s : St} {vL vd : Value} {vv : Nat → Value}
/-- The row's beginning and its rest, as append reads them. -/
theorem RP.parts (h : RP W w N col ad s vL vd vv) {g n c : Nat} (hv : vL = .slice (some ⟨g, 0, none⟩) n c) : ∀ m c', m ≤ s.tab.L.length → Src w 12 (.slice (some ⟨g, 0, none⟩) m c') m (cellsE s.ent vv (s.tab.L.take m)) ∧ Src w 12 (.slice (some ⟨g, m * 12, none⟩) (s.tab.L.length - m) c') (s.tab.L.length - m) (cellsE s.ent vv (s.tab.L.drop m)) := by
  rcases h.row.2 with ⟨e1, e2⟩ | ⟨g', cap, cur, e1, _, e2, e3, _, e4, e5⟩
  · rw [hv] at e1; cases e1
  rw [hv] at e1
  injection e1 with e1
  injection e1 with e1
  injection e1 with e1
  subst e1
  intro m c' hm
  have hlt := (Array.getElem?_eq_some_iff.1 e2).1
  have hcell : ∀ j x, j < s.tab.L.length * 12 → (cellsE s.ent vv s.tab.L)[j]? = some x → w.cell? ⟨g, j, none⟩ = some x := fun j x hj hx => by
    rw [← e5, List.getElem?_take, if_pos hj, Array.getElem?_toList] at hx
    exact (Mem.row_cell e2 j).trans hx
  constructor
  · refine .inr ⟨g, 0, c', rfl, by rw [cellsE_len, List.length_take, Nat.min_eq_left hm], hlt, fun j u hu => ?_⟩
    have hj := (List.getElem?_eq_some_iff.1 hu).1
    rw [cellsE_len, List.length_take, Nat.min_eq_left hm] at hj
    rw [cellsE_take, List.getElem?_take, if_pos hj] at hu
    rw [Nat.zero_add]
    exact hcell j u (by omega) hu
  · refine .inr ⟨g, m * 12, c', rfl, by rw [cellsE_len, List.length_drop], hlt, fun j u hu => ?_⟩
    have hj := (List.getElem?_eq_some_iff.1 hu).1
    rw [cellsE_len, List.length_drop] at hj
    rw [cellsE_drop, List.getElem?_drop] at hu
    exact hcell _ u (by omega) hu
theorem RP.one (h : RP W w N col ad s vL vd vv) : ∀ (L : Tab.Pairs Nat), (∀ p ∈ L, p ∈ s.tab.L) → ∀ u ∈ cellsE s.ent vv L, u.oneCell' = true := fun _ hL => one_cellsE fun p hp => src_one' (h.vals p (hL p hp)).1
theorem mem_parts {L : Tab.Pairs Nat} {m n : Nat} {p : ByteArray × Nat} (hp : p ∈ L.take m ++ L.drop n) : p ∈ L := by
  rcases List.mem_append.1 hp with h | h
  · exact List.mem_of_mem_take h
  · exact List.mem_of_mem_drop h
theorem used_any (h : RAt W w N b col s) (hg : Slab.Good N s.slab) (hN : N ≤ 1000000) : ∃ mb, w.cell? ⟨b, 1, none⟩ = some (.pointer (some ⟨mb, 0, none⟩)) ∧ Calls Tryz.prog 12 #[.pointer (some ⟨mb, 0, none⟩)] w fun e w' => e = .returned (.int .i64 s.slab.used) ∧ w = w' := by
  obtain ⟨ad, vL, vd, vv, rfl, h⟩ := h
  exact ⟨_, Mem.row_cell h.self 1, h.used hg hN⟩
/-- Drops: the row is handed over. -/
theorem drops_any (h : RAt W w N b col s) : Calls Tryz.prog 16 #[.pointer (some ⟨b, 0, none⟩)] w fun e w' => ∃ v, e = .returned v ∧ RTurn W w N b col { s with drops := [] } w' ∧ w'.ownsRow W.heap.size 9 1 v s.drops.length (cellsS s.drops) := by
  obtain ⟨ad, vL, vd, vv, rfl, h⟩ := h
  have c4 : w.cell? ⟨ad.sb, 4, none⟩ = some vd := Mem.row_cell h.self 4
  have f4 := Mem.row_free h.self 4
  obtain ⟨a, c, hv⟩ := Src.shape (Src.of_row h.drops)
  subst hv
  have HH := Lib.hid h
  clear h
  go_enter Tryz.func16, Tryz.ntmps16
  go_wp2_with fail
  go_ret
  have h := HH.out
  refine ⟨_, rfl, ⟨_, ⟨ad, vL, _, vv, rfl, h.turnDrops (Only.refl _ _) (l := []) (vd' := .slice none 0 0) (World.ownsRow_nil _ _ _ _) (fun g e => by cases e)⟩, (Only.refl _ _).setCell (p := ⟨ad.sb, 4, none⟩) (.inl (by rw [h.csb]; simp)) _, fun k hk => ?_⟩, ?_⟩
  · replace hk : recol col w w .drops k ≠ none := hk
    unfold recol at hk
    by_cases h1 : k < w.heap.size
    · rw [if_pos h1] at hk; exact .inl hk
    · exact .inr (by omega)
  refine row_keep ⟨h.drops.1, ?_⟩ fun g e => Below.heap_setCell _ _ _ _ (fun e1 => ?_)
  · rcases h.drops.2 with h1 | ⟨g, cap, cur, h1, h2, h3⟩
    · exact .inl h1
    · exact .inr ⟨g, cap, cur, h1, (h.lt _ _ (h.cd g (by rw [h1]; rfl))).1, h3⟩
  · have h1 := h.cd g e
    rw [show g = ad.sb from e1, h.csb] at h1
    cases h1
theorem use_any (h : RAt W w N b col s) (k : ByteArray) (hk : k.size ≤ maxLen) (hl : s.order.all.length ≤ 10000000) : Calls Tryz.prog 29 #[.pointer (some ⟨b, 0, none⟩), .string k] w fun e w' => e = .returned (.tuple #[]) ∧ RTurn W w N b col { s with judge := s.judge.touch k.data.toList, order := (s.order.hit k).2 } w' := by
  obtain ⟨ad, vL, vd, vv, rfl, h⟩ := h
  have c3 : w.cell? ⟨ad.sb, 3, none⟩ = some (.pointer (some ⟨ad.jb, 0, none⟩)) := Mem.row_cell h.self 3
  have ht := h.touch k hk
  clear h
  go_enter Tryz.func29, Tryz.ntmps29
  go_wp2_with fail
  refine ht.mono ?_
  rintro e w1 ⟨col1, rfl, h1, f1⟩
  have d2 : w1.cell? ⟨ad.sb, 2, none⟩ = some (.pointer (some ⟨ad.ob, 0, none⟩)) := Mem.row_cell h1.self 2
  have hh := h1.ohit (by show s.order.all.length ≤ _; exact hl) k
  have H1 := Lib.hid f1
  clear ht h1 c3 f1
  go_wp2_with fail
  refine hh.mono ?_
  rintro e w2 ⟨col2, rfl, h2, f2⟩
  have H2 := Lib.hid (And.intro h2 (H1.out.trans f2))
  clear hh h2 f2
  go_wp2_with fail
  go_end0
  exact ⟨rfl, _, ⟨ad, vL, vd, vv, rfl, H2.out.1⟩, H2.out.2⟩
set_option maxRecDepth 100000 in
set_option maxHeartbeats 4000000 in
theorem remove_any (h : RAt W w N b col s) {n : Nat} (hi : Inv n N s) (hn : n ≤ 100000) (hN : N ≤ 900000) (k : ByteArray) :
    Calls Tryz.prog 33 #[.pointer (some ⟨b, 0, none⟩), .string k] w fun e w' => e = .returned (.bool (s.remove k).1) ∧ RTurn W w (N + 1) b col (s.remove k).2 w' := by
  obtain ⟨i0, hi0, hz0, hz1, hz2⟩ := info_parts infoE
  obtain ⟨ad, vL, vd, vv, rfl, h⟩ := h
  have hlen := hi.len
  have hat := at_any h hi.rise (fun p hp => (hi.ents p hp).1) k (by omega)
  have hpl := place_le s.tab.L k
  have hpg := place_get hi.rise k
  obtain ⟨m, hm⟩ : ∃ m, place s.tab.L k = m := ⟨_, rfl⟩
  rw [hm] at hat hpg hpl
  have HH := Lib.hid (And.intro h hi)
  clear h hm hi
  rcases hpg with ⟨x, e1, e2, -, e4⟩ | ⟨-, e2, -, e4⟩
  · rw [e2] at hat
    have hrm : s.remove k = (true, { s with tab := s.tab.tick.del k, slab := (s.slab.free (s.ent x).chunk).2, order := (s.order.remove k).2 }) := by unfold St.remove; rw [e2]
    obtain ⟨⟨c1, c2⟩, hck⟩ : ∃ c, (s.ent x).chunk = c := ⟨_, rfl⟩
    rw [hck] at hrm
    rw [hrm]
    have HE := Lib.hid (And.intro e1 (And.intro e4 hck))
    clear e2 e4 hrm
    go_enter Tryz.func33, Tryz.ntmps33
    go_wp2_with fail
    refine hat.mono ?_
    rintro e w1 ⟨rfl, d, hw1⟩
    have hb1 : Below w.heap.size w w1 := by rw [hw1]; exact Mem.dn (Below.refl _ _) _
    have h1 := (HH.out.1.step hb1).step (Below.drew (Below.refl _ w1))
    have h1' := HH.out.1.step hb1
    obtain ⟨a, c, hv, hc, hcell⟩ := h1'.shape
    obtain ⟨g, rfl, hcl⟩ := hcell m _ e1
    subst hv
    have c0 : w1.cell? ⟨ad.sb, 0, none⟩ = some (.slice (some ⟨g, 0, none⟩) s.tab.L.length c) := Mem.row_cell h1'.self 0
    have b1 : w1.cell? ⟨ad.sb, 1, none⟩ = some (.pointer (some ⟨ad.mb, 0, none⟩)) := Mem.row_cell h1'.self 1
    have d10 : w1.cell? ⟨g, m * 12 + 10, none⟩ = some (.int .i64 c1) := by rw [(hcl 10 (by omega)).1]; show some (Value.int .i64 (s.ent x).chunk.1) = _; rw [hck]
    have d11 : w1.cell? ⟨g, m * 12 + 11, none⟩ = some (.int .i64 c2) := by rw [(hcl 11 (by omega)).1]; show some (Value.int .i64 (s.ent x).chunk.2) = _; rw [hck]
    have hml := (List.getElem?_eq_some_iff.1 e1).1
    have hmi : (m : Int) < s.tab.L.length := by omega
    have hfree := h1.free HH.out.2.slab (by omega) c1 c2
    have HF1 := Lib.hid ((Fr.below (col := col) hb1).trans (Fr.below (col := col) (Below.drew (Below.refl _ w1))))
    clear hat hw1 hcell hcl h1 h1' hb1
    have hm0 : (0 : Int) ≤ m := by omega
    clear hck e1
    go_wp2_with fail
    refine wp_region_still_tail 12 (by kernel_rfl) (by kernel_rfl) ?_
    simp only [List.take_succ_cons, List.take_zero, List.drop_succ_cons, List.drop_zero]
    repeat still_step
    refine wpStill_nil ?_
    change wpList _ _ _ _ _ w1.drew
    go_wp2_with fail
    refine hfree.mono ?_
    rintro e w3 ⟨col3, rfl, h3, f3, -⟩
    have g2 : w3.cell? ⟨ad.sb, 2, none⟩ = some (.pointer (some ⟨ad.ob, 0, none⟩)) := Mem.row_cell h3.self 2
    have hrem := h3.oremove (by show s.order.all.length ≤ _; have := HH.out.2.olen; omega) k
    have HF3 := Lib.hid (HF1.out.trans f3)
    clear hfree h3 f3 c0 b1 d10 d11
    go_wp2_with fail
    refine hrem.mono ?_
    rintro e w4 ⟨col4, rfl, h4, f4⟩
    have c4 : w4.cell? ⟨ad.sb, 0, none⟩ = some (.slice (some ⟨g, 0, none⟩) s.tab.L.length c) := Mem.row_cell h4.self 0
    have hsrc := h4.parts rfl
    obtain ⟨r, hr⟩ : ∃ r, s.tab.L.length = m + 1 + r := ⟨s.tab.L.length - (m + 1), by omega⟩
    have hgl := (h4.lt g _ (h4.crow g rfl)).2
    have hbl := (h4.lt _ _ h4.csb).2
    have H4 := Lib.hid (And.intro h4 (HF3.out.trans f4))
    have HSRC : Hid (∀ m c', m ≤ s.tab.L.length → Src w4 12 (.slice (some ⟨g, 0, none⟩) m c') m (cellsE s.ent vv (s.tab.L.take m)) ∧ Src w4 12 (.slice (some ⟨g, m * 12, none⟩) (s.tab.L.length - m) c') (s.tab.L.length - m) (cellsE s.ent vv (s.tab.L.drop m))) := Lib.hid hsrc
    have HONE : Hid (∀ (L : Tab.Pairs Nat), (∀ p ∈ L, p ∈ s.tab.L) → ∀ u ∈ cellsE s.ent vv L, u.oneCell' = true) := Lib.hid h4.one
    have HL := Lib.hid (And.intro hgl hbl)
    have hSrc : ∀ w', Below w4.heap.size w4 w' → Src w' 12 (.slice (some ⟨g, (m + 1) * 12, none⟩) r (c - (m + 1))) r (cellsE s.ent vv (s.tab.L.drop (m + 1))) := fun w' hb => by
      have := ((HSRC.out (m + 1) (c - (m + 1)) hml).2).below hb
      rw [show s.tab.L.length - (m + 1) = r from by omega] at this
      exact this
    have HSS := Lib.hid hSrc
    have hmc : m + 1 ≤ c := by omega
    have hmi1 : (m : Int) + 1 ≤ s.tab.L.length := by omega
    have hmi2 : (m : Int) ≤ s.tab.L.length := by omega
    have hlr : s.tab.L.length ≤ 100000 := by omega
    clear hrem h4 f4 g2 hsrc hgl hbl hSrc
    by_cases hcm : c = m + 1
    · subst hcm
      have hr0 : r = 0 := by omega
      subst hr0
      go_wp2_with (first
          | (at_builtin; refine wpList_append_src (.tmp 42) (.tmp 49) _ _ _ _ i0 _ 12 104 w4.heap.size v5 _ m 0 (cellsE s.ent vv (s.tab.L.take m)) [] rfl rfl Tryz.underlying42 Tryz.underlying42 hi0 hz0 hz1 hz2 rfl (by decide) rfl rfl H5.out.1 (src_none (c := 0) H5.out.2 HL.out.1) (by simp) (by unfold maxLen; omega) (by omega) H5.out.2.size ?_; intro v7 w7 hown7 hgr7 hat7; obtain ⟨y7, z7, hv7⟩ := Src.shape (Src.of_row hown7); rw [hv7] at hown7 ⊢; clear hv7; have H7 := Lib.hid (And.intro hown7 (H5.out.2.grown hgr7 H5.out.2.size (fun g e => (own_block_lt H5.out.1 g e).1))); have c7 : w7.cell? ⟨ad.sb, 0, none⟩ = some (.slice (some ⟨g, 0, none⟩) s.tab.L.length (m + 1)) := (H7.out.2.cell (p := ⟨ad.sb, 0, none⟩) HL.out.2).trans c4; have f7 : w7.frozen? ⟨ad.sb, 0, none⟩ = false := (World.frozen?_of_block (H7.out.2.block ad.sb HL.out.2)).trans (Mem.row_free H4.out.1.self 0); clear hown7 hgr7 hat7 c5)
          | (at_builtin; refine wpList_append_src _ (.tmp 40) _ _ _ _ i0 _ 12 104 w4.heap.size _ _ 0 m [] (cellsE s.ent vv (s.tab.L.take m)) rfl rfl Tryz.underlying42 Tryz.underlying42 hi0 hz0 hz1 hz2 rfl (by decide) rfl rfl (World.ownsRow_nil _ _ _ _) ((HSRC.out m (m + 1) (by omega)).1) (HONE.out _ fun p hp => List.mem_of_mem_take hp) (by unfold maxLen; omega) (by omega) (Nat.le_refl _) ?_; intro v5 w5 hown5 hgr5 hat5; rw [Nat.zero_add, List.nil_append] at hown5; have H5 := Lib.hid (And.intro hown5 ((Below.refl _ w4).grown hgr5 (Nat.le_refl _) (fun g e => by cases e))); have c5 : w5.cell? ⟨ad.sb, 0, none⟩ = some (.slice (some ⟨g, 0, none⟩) s.tab.L.length (m + 1)) := (H5.out.2.cell (p := ⟨ad.sb, 0, none⟩) HL.out.2).trans c4; clear hown5 hgr5 hat5)
          | fail)
      go_ret
      have hq := H7.out.1
      have hw := H7.out.2
      rw [List.append_nil] at hq
      refine ⟨rfl, _, ⟨ad, _, vd, vv, rfl, H4.out.1.turnRow (L := s.tab.L.take m ++ s.tab.L.drop (m + 1)) (tb := s.tab.tick.del k) (ent := s.ent) (vv' := vv) hw HE.out.2.1 ?_ (fun p hp => H4.out.1.vals p (mem_parts hp))⟩, fr_set (H4.out.2.trans (Fr.of (p := .table) (fun k e => e) (Only.of_below hw (fun k h1 h2 => by omega)))) (by rw [HH.out.1.csb]; simp) 0 _⟩
      rw [List.drop_of_length_le (by omega), List.append_nil, List.length_take, Nat.min_eq_left hpl]
      exact hq
    · go_wp2_with (first
          | (at_builtin; refine wpList_append_src (.tmp 42) (.tmp 49) _ _ _ _ i0 _ 12 104 w4.heap.size v5 _ m r (cellsE s.ent vv (s.tab.L.take m)) (cellsE s.ent vv (s.tab.L.drop (m + 1))) rfl rfl Tryz.underlying42 Tryz.underlying42 hi0 hz0 hz1 hz2 rfl (by decide) rfl rfl H5.out.1 (HSS.out _ H5.out.2) (HONE.out _ fun p hp => List.mem_of_mem_drop hp) (by unfold maxLen; omega) (by omega) H5.out.2.size ?_; intro v7 w7 hown7 hgr7 hat7; obtain ⟨y7, z7, hv7⟩ := Src.shape (Src.of_row hown7); rw [hv7] at hown7 ⊢; clear hv7; have H7 := Lib.hid (And.intro hown7 (H5.out.2.grown hgr7 H5.out.2.size (fun g e => (own_block_lt H5.out.1 g e).1))); have c7 : w7.cell? ⟨ad.sb, 0, none⟩ = some (.slice (some ⟨g, 0, none⟩) s.tab.L.length c) := (H7.out.2.cell (p := ⟨ad.sb, 0, none⟩) HL.out.2).trans c4; have f7 : w7.frozen? ⟨ad.sb, 0, none⟩ = false := (World.frozen?_of_block (H7.out.2.block ad.sb HL.out.2)).trans (Mem.row_free H4.out.1.self 0); clear hown7 hgr7 hat7 c5)
          | (at_builtin; refine wpList_append_src _ (.tmp 40) _ _ _ _ i0 _ 12 104 w4.heap.size _ _ 0 m [] (cellsE s.ent vv (s.tab.L.take m)) rfl rfl Tryz.underlying42 Tryz.underlying42 hi0 hz0 hz1 hz2 rfl (by decide) rfl rfl (World.ownsRow_nil _ _ _ _) ((HSRC.out m c (by omega)).1) (HONE.out _ fun p hp => List.mem_of_mem_take hp) (by unfold maxLen; omega) (by omega) (Nat.le_refl _) ?_; intro v5 w5 hown5 hgr5 hat5; rw [Nat.zero_add, List.nil_append] at hown5; have H5 := Lib.hid (And.intro hown5 ((Below.refl _ w4).grown hgr5 (Nat.le_refl _) (fun g e => by cases e))); have c5 : w5.cell? ⟨ad.sb, 0, none⟩ = some (.slice (some ⟨g, 0, none⟩) s.tab.L.length c) := (H5.out.2.cell (p := ⟨ad.sb, 0, none⟩) HL.out.2).trans c4; clear hown5 hgr5 hat5)
          | fail)
      go_ret
      have hq := H7.out.1
      have hw := H7.out.2
      refine ⟨rfl, _, ⟨ad, _, vd, vv, rfl, H4.out.1.turnRow (L := s.tab.L.take m ++ s.tab.L.drop (m + 1)) (tb := s.tab.tick.del k) (ent := s.ent) (vv' := vv) hw HE.out.2.1 ?_ (fun p hp => H4.out.1.vals p (mem_parts hp))⟩, fr_set (H4.out.2.trans (Fr.of (p := .table) (fun k e => e) (Only.of_below hw (fun k h1 h2 => by omega)))) (by rw [HH.out.1.csb]; simp) 0 _⟩
      rw [List.length_append, List.length_take, Nat.min_eq_left hpl, List.length_drop, cellsE_app, show s.tab.L.length - (m + 1) = r from by omega]
      exact hq
  · rw [e2] at hat
    have hrm : s.remove k = (false, { s with tab := s.tab.tick }) := by unfold St.remove; rw [e2]
    rw [hrm]
    have HE := Lib.hid e4
    clear e2 e4 hrm
    go_enter Tryz.func33, Tryz.ntmps33
    go_wp2_with fail
    refine hat.mono ?_
    rintro e w1 ⟨rfl, d, hw1⟩
    have hb1 : Below w.heap.size w w1 := by rw [hw1]; exact Mem.dn (Below.refl _ _) _
    have H1 := Lib.hid (And.intro (HH.out.1.step hb1) (Fr.below (col := col) hb1))
    clear hat hw1 hb1
    go_wp2_with fail
    go_ret
    exact ⟨rfl, _, RAt.more (N := N) (RAt.congr (s := s) (t := { s with tab := s.tab.tick }) ⟨ad, vL, vd, vv, rfl, H1.out.1⟩ rfl rfl rfl rfl rfl rfl) (Nat.le_succ N), H1.out.2⟩
set_option maxRecDepth 100000 in
set_option maxHeartbeats 2000000 in
theorem drop_any (h : RAt W w N b col s) {n : Nat} (hi : Inv n N s) (hn : n ≤ 100000) (hN : N ≤ 900000) (k : ByteArray) :
    Calls Tryz.prog 60 #[.pointer (some ⟨b, 0, none⟩), .string k] w fun e w' => e = .returned (.tuple #[]) ∧ RTurn W w (N + 1) b col (s.drop k) w' := by
  obtain ⟨i0, hi0, hz0, hz1, hz2⟩ := info_parts infoS
  have hr := remove_any h hi hn hN k
  have hd : (s.remove k).2.drops.length ≤ 1000000 := by rw [remove_drops]; have := hi.dl; omega
  have hcs : col b = some .self := by obtain ⟨ad, vL, vd, vv, rfl, h⟩ := h; exact h.csb
  unfold St.drop
  generalize s.remove k = y at *
  obtain ⟨q, t⟩ := y
  replace hd : t.drops.length ≤ 1000000 := hd
  have HC := Lib.hid hcs
  clear h hi hcs
  go_enter Tryz.func60, Tryz.ntmps60
  go_wp2_with fail
  refine hr.mono ?_
  rintro e w1 ⟨rfl, col1, ⟨ad, vL, vd, vv, rfl, h1⟩, fr1⟩
  replace h1 : RP W w1 (N + 1) col1 ad t vL vd vv := h1
  have c4 : w1.cell? ⟨ad.sb, 4, none⟩ = some vd := Mem.row_cell h1.self 4
  have H1 := Lib.hid h1
  have hfin : ∀ v' w', w'.ownsRow 0 9 1 v' (t.drops.length + 1) (cellsS t.drops ++ [.string k]) → (w1.alloc (.cells #[.string k] 9)).grownBy w' vd.ownBlock → (v'.ownBlock = vd.ownBlock ∨ v'.ownBlock = some (w1.heap.size + 1)) →
      Hid (RTurn W w (N + 1) ad.sb col { t with drops := t.drops ++ [k] } (w'.setCell ⟨ad.sb, 4, none⟩ v')) ∧ w'.cell? ⟨ad.sb, 4, none⟩ = some vd ∧ w'.frozen? ⟨ad.sb, 4, none⟩ = false := fun v' w' hown hg hat => by
    have hoa : Only (Of col1 .drops) w1 (w1.alloc (.cells #[.string k] 9)) := (Only.refl _ _).alloc _
    have ho : Only (Of col1 .drops) w1 w' := hoa.grown hg (fun g e => .inl (H1.out.cd g e))
    have hsb : w'.heap[ad.sb]? = w1.heap[ad.sb]? := H1.out.far ho (by decide) _ H1.out.csb
    refine ⟨Lib.hid ⟨_, ⟨ad, vL, v', vv, rfl, H1.out.turnDrops ho (by rw [List.length_append, cellsS, List.map_append]; exact hown) (fun g e => ?_)⟩, fr_set (fr1.trans (Fr.of (p := .drops) (fun k hk => hk) ho)) (by rw [HC.out]; simp) 4 v'⟩, (World.cell?_of_block hsb).trans c4, (World.frozen?_of_block hsb).trans (Mem.row_free H1.out.self 4)⟩
    rcases hat with h | h
    · exact .inl (h ▸ e)
    · rw [h] at e; injection e with e; exact .inr (by omega)
  have HF := Lib.hid hfin
  clear hr h1 hfin
  go_wp2_with (first
    | (at_builtin; refine wpList_append_src (.tmp 11) (.tmp 13) _ _ _ _ i0 _ 1 16 0 vd _ t.drops.length 1 (cellsS t.drops) [.string k] rfl rfl Tryz.underlying46 Tryz.underlying46 hi0 hz0 hz1 hz2 rfl (by decide) rfl rfl (H1.out.drops.alloc _) (src_str w1 k) (by simp [Value.oneCell']) (by unfold maxLen; omega) (by omega) (Nat.zero_le _) ?_; intro v3 w3 hown3 hgr3 hat3; obtain ⟨y3, z3, hv3⟩ := Src.shape (Src.of_row hown3); obtain ⟨HA, c5, f5⟩ := HF.out v3 w3 hown3 hgr3 (by simpa using hat3); rw [hv3] at HA ⊢; clear hown3 hgr3 hat3 hv3 c4)
    | fail)
  go_end0
  exact ⟨rfl, HA.out⟩
end
end Go.Proofs.YteonjgnnpgpnnaaGreat.RefSh

/- The document's Live (layer 10's reference) is the plain one. -/
namespace Go.Proofs.YteonjgnnpgpnnaaGreat.Shard
set_option maxRecDepth 100000
open Go Go.RowKit Go.Proofs.YteonjgnnpgpnnaaGreat.Mem
theorem elder_not (sec seq fs fq : Int) : (!elder sec seq fs fq) = (decide (fs < sec) || (sec == fs && decide (fq ≤ seq))) := by
  unfold elder
  by_cases h1 : sec < fs
  · have h2 : ¬ fs < sec := by omega
    have h3 : ¬ sec = fs := by omega
    simp [h1, h2, h3]
  · by_cases h2 : sec = fs
    · subst h2
      simp
      by_cases h3 : seq < fq
      · have : ¬ fq ≤ seq := by omega
        simp [h3, this]
      · have : fq ≤ seq := by omega
        simp [h3, this]
    · have h3 : fs < sec := by omega
      simp [h1, h2, h3]
theorem rlive_any (it : Item) (v : Value) (env : Env) (w : World) :
    Calls Tryz.prog 59 #[.agg (it.arr v), .agg env.arr] w fun e w' => e = .returned (.bool (it.live env)) ∧ Below w.heap.size w w' := by
  have hb2 : Below w.heap.size w ((w.alloc (.cells (it.arr v) 34)).alloc (.cells env.arr 36)) := Mem.al (Mem.al (Below.refl _ _) _) _
  have HB := Lib.hid hb2
  clear hb2
  unfold Item.live
  by_cases h1 : it.exp ≠ 0 ∧ it.exp ≤ env.now
  · rw [if_pos h1]
    have hd1 : (it.exp != 0) = true := by simpa using h1.1
    have hd2 : decide (it.exp ≤ env.now) = true := decide_eq_true h1.2
    unfold Item.arr Env.arr at *
    clear h1
    go_enter Tryz.func59, Tryz.ntmps59
    go_wp2
    go_ret
    exact ⟨rfl, HB.out⟩
  rw [if_neg h1]
  have hA : (it.exp != 0) = false ∨ ((it.exp != 0) = true ∧ decide (it.exp ≤ env.now) = false) := by
    by_cases h : it.exp = 0
    · exact .inl (by simp [h])
    · exact .inr ⟨by simpa using h, decide_eq_false fun e => h1 ⟨h, e⟩⟩
  clear h1
  by_cases h2 : env.flush ≠ 0 ∧ env.flush ≤ env.now
  · rw [if_pos h2, elder_not]
    have hd3 : (env.flush == 0) = false := by simpa using h2.1
    have hd4 : decide (env.now < env.flush) = false := decide_eq_false (by omega)
    have hB : decide (env.flush < it.sec) = true ∨ (decide (env.flush < it.sec) = false ∧ (it.sec == env.flush) = false) ∨ (decide (env.flush < it.sec) = false ∧ (it.sec == env.flush) = true) := by
      cases decide (env.flush < it.sec) <;> cases (it.sec == env.flush) <;> simp
    unfold Item.arr Env.arr at *
    clear h2
    rcases hA with hd1 | ⟨hd1, hd2⟩ <;> rcases hB with hd5 | ⟨hd5, hd6⟩ | ⟨hd5, hd6⟩
    all_goals
      go_enter Tryz.func59, Tryz.ntmps59
      go_wp2
      go_ret
      exact ⟨by simp [*], HB.out⟩
  · rw [if_neg h2]
    have hC : (env.flush == 0) = true ∨ ((env.flush == 0) = false ∧ decide (env.now < env.flush) = true) := by
      by_cases h : env.flush = 0
      · exact .inl (by simp [h])
      · exact .inr ⟨by simpa using h, decide_eq_true (by have h3 : ¬ env.flush ≤ env.now := fun e => h2 ⟨h, e⟩; omega)⟩
    unfold Item.arr Env.arr at *
    clear h2
    rcases hA with hd1 | ⟨hd1, hd2⟩ <;> rcases hC with hd3 | ⟨hd3, hd4⟩
    all_goals
      go_enter Tryz.func59, Tryz.ntmps59
      go_wp2
      go_ret
      exact ⟨rfl, HB.out⟩
end Go.Proofs.YteonjgnnpgpnnaaGreat.Shard

