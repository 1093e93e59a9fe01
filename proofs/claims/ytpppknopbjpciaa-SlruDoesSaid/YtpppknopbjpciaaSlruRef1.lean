/- The document's own list of layer 8: where it lies; without, has. -/
import Derived.Test.YtpppknopbjpciaaSlru11
import Derived.Deep.AppendLies
import Derived.Laws.OwnMore
namespace Go.Proofs.Ytpppknopbjpciaa.RefSlru
open Go Go.RowKit Go.Proofs.Ytpppknopbjpciaa.Slru Go.Proofs.Ytpppknopbjpciaa.Mem

/-- Keys that lie behind a slice's value, from wherever it begins. -/
def Lk (w : World) (v : Value) (xs : List ByteArray) : Prop := (v = .slice none 0 0 ∧ xs = []) ∨
  ∃ g off c, v = .slice (some ⟨g, off, none⟩) xs.length c ∧ xs.length ≤ c ∧ g < w.heap.size ∧ ∀ i k, xs[i]? = some k → w.cell? ⟨g, off + i, none⟩ = some (.string k)
theorem own_lt {w : World} {base : Nat} {e : TypeId} {size n : Nat} {v : Value} {xs : List Value} (h : w.ownsRow base e size v n xs) : ∀ g, v.ownBlock = some g → base ≤ g ∧ g < w.heap.size := fun g e => by
  rcases h.2 with ⟨e1, _⟩ | ⟨g', cap, cur, e1, h2, e2, _⟩
  · rw [e1] at e; cases e
  · rw [e1] at e
    have : g' = g := by simpa [Value.ownBlock] using e
    subst this
    exact ⟨h2, (Array.getElem?_eq_some_iff.1 e2).1⟩
theorem row_same {w w' : World} {base : Nat} {e : TypeId} {size n : Nat} {v : Value} {xs : List Value} (h : w.ownsRow base e size v n xs) (hs : ∀ g, v.ownBlock = some g → w'.heap[g]? = w.heap[g]?) : w'.ownsRow base e size v n xs := by
  refine ⟨h.1, ?_⟩
  rcases h.2 with h1 | ⟨g, cap, cur, h1, h2, h3, h4⟩
  · exact .inl h1
  · exact .inr ⟨g, cap, cur, h1, h2, (hs g (by rw [h1]; rfl)).trans h3, h4⟩
theorem Lk.of_row {w : World} {base : Nat} {v : Value} {xs : List ByteArray} (h : w.ownsRow base 9 1 v xs.length (cellsK xs)) : Lk w v xs := by
  rcases h.2 with ⟨e1, e2⟩ | ⟨g, cap, cur, e1, _, e2, e3, _, e4, e5⟩
  · exact .inl ⟨e1, List.eq_nil_of_length_eq_zero (by omega)⟩
  · refine .inr ⟨g, 0, cap, e1, e3, (Array.getElem?_eq_some_iff.1 e2).1, fun i k hi => ?_⟩
    rw [Nat.zero_add, Mem.row_cell e2 i]
    have hil := (List.getElem?_eq_some_iff.1 hi).1
    have h1 : (cur.toList.take (xs.length * 1))[i]? = some (.string k) := by rw [e5, cellsK, List.getElem?_map, hi]; rfl
    rw [List.getElem?_take, if_pos (by omega)] at h1
    simpa using h1
theorem Lk.same {w w' : World} {v : Value} {xs : List ByteArray} (h : Lk w v xs) (hs : ∀ g, v.ownBlock = some g → w'.heap[g]? = w.heap[g]?) (hz : w.heap.size ≤ w'.heap.size) : Lk w' v xs := by
  rcases h with h | ⟨g, off, c, rfl, h2, h3, h4⟩
  · exact .inl h
  · exact .inr ⟨g, off, c, rfl, h2, Nat.lt_of_lt_of_le h3 hz, fun i k hi => (World.cell?_of_block (hs g rfl)).trans (h4 i k hi)⟩
theorem Lk.lt {w : World} {v : Value} {xs : List ByteArray} (h : Lk w v xs) : ∀ g, v.ownBlock = some g → g < w.heap.size := fun g e => by
  rcases h with ⟨rfl, _⟩ | ⟨g', off, c, rfl, h2, h3, h4⟩
  · cases e
  · have : g' = g := by simpa [Value.ownBlock] using e
    omega
theorem Lk.below {w w' : World} {v : Value} {xs : List ByteArray} (h : Lk w v xs) (hb : Below w.heap.size w w') : Lk w' v xs := h.same (fun g e => hb.block g (h.lt g e)) hb.size
/-- A known list's slice: its address, by what it holds. -/
theorem Lk.shape {w : World} {v : Value} {xs : List ByteArray} (h : Lk w v xs) : ∃ a c, v = .slice a xs.length c ∧ xs.length ≤ c := by
  rcases h with ⟨rfl, rfl⟩ | ⟨g, off, c, rfl, h2, _⟩
  · exact ⟨none, 0, rfl, Nat.le_refl _⟩
  · exact ⟨_, c, rfl, h2⟩
theorem Lk.at {w : World} {a : Option Addr} {n c : Nat} {xs : List ByteArray} (h : Lk w (.slice a n c) xs) {i : Nat} {k : ByteArray} (hi : xs[i]? = some k) : ∃ g off, a = some ⟨g, off, none⟩ ∧ g < w.heap.size ∧ w.cell? ⟨g, off + i, none⟩ = some (.string k) := by
  rcases h with ⟨_, rfl⟩ | ⟨g, off, c', e, _, h3, h4⟩
  · simp at hi
  · injection e with e
    exact ⟨g, off, e, h3, h4 i k hi⟩
theorem grown_refl (w : World) (row : Option Nat) : w.grownBy w row := ⟨rfl, rfl, rfl, Nat.le_refl _, fun _ _ _ => rfl⟩
theorem addr_add (g off j : Nat) : (⟨g, off, none⟩ : Addr).add j = ⟨g, off + j, none⟩ := by
  unfold Addr.add
  by_cases h : j = 0
  · subst h; rfl
  · rw [if_neg h]
theorem one_cellsK (xs : List ByteArray) : ∀ u ∈ cellsK xs, u.oneCell' = true := fun u hu => by
  simp only [cellsK, List.mem_map] at hu
  obtain ⟨k, _, rfl⟩ := hu
  rfl
theorem cellsK_app (xs ys : List ByteArray) : cellsK (xs ++ ys) = cellsK xs ++ cellsK ys := by simp [cellsK]
/-- append of keys that lie somewhere onto keys of the call's own, at a plain region. -/
theorem list_appK {w : World} {ops : Array Oper} {rest : List Oper} {o : Oper} {a : Act} {Q : Exit → Act → World → Prop} (s x : Operand) (base : Nat) (v y : Value) (xs ys : List ByteArray) (hgd : o.guard = none)
    (ho : o.op = .call { callee := .builtin .append, args := #[s, x], argTypes := #[31, 31] }) (hs : a.eval s = v) (hx : a.eval x = y)
    (hown : w.ownsRow base 9 1 v xs.length (cellsK xs)) (hr : Lk w y ys) (hb : xs.length + ys.length ≤ 1000000000000) (hbase : base ≤ w.heap.size)
    (hK : ∀ v' w', w'.ownsRow base 9 1 v' (xs ++ ys).length (cellsK (xs ++ ys)) → w.grownBy w' v.ownBlock → (v'.ownBlock = v.ownBlock ∨ v'.ownBlock = some w.heap.size) → wpList Try.prog ops Q rest (a.put o.dst v') w') :
    wpList Try.prog ops Q (o :: rest) a w := by
  obtain ⟨i0, hi, hz0, hz1, hz2⟩ := info_parts infoStr
  refine wpList_plain hgd fun K hKK => ?_
  rcases hr with ⟨e1, rfl⟩ | ⟨g, off, c, e1, h2, h3, h4⟩
  · have hrun := run_append_owned_none (P := Try.prog) (w := w) base 31 o.type 9 i0 1 Try.underlying31 hi v xs.length (cellsK xs) hown
    unfold Oper.wp
    simp [execOp, ho, resolve, invoke, builtin, hs, hx, e1, hrun, Result.andThen]
    exact hKK _ _ (hK v w (by rw [List.append_nil]; exact hown) (grown_refl _ _) (.inl rfl))
  · obtain ⟨v', w', hrun, h5, h6, _, h7⟩ := run_append_own_at (P := Try.prog) w base 31 o.type 9 i0 _ 1 16 Try.underlying31 hi hz0 hz1 hz2 rfl (by decide) v xs.length (cellsK xs) hown ⟨g, off, none⟩ ys.length c (cellsK ys) (by simp [cellsK])
      (fun j u hu => by
        rw [addr_add]
        rw [cellsK, List.getElem?_map] at hu
        rcases hk : ys[j]? with _ | k
        · rw [hk] at hu; cases hu
        · rw [hk] at hu; injection hu with hu; subst hu; exact h4 j k hk) (one_cellsK ys) (by unfold maxLen; omega) (by omega) hbase
    unfold Oper.wp
    simp [execOp, ho, resolve, invoke, builtin, hs, hx, e1, hrun, Result.andThen]
    exact hKK _ _ (hK v' w' (by rw [List.length_append, cellsK_app]; exact h5) h6 h7)

def WithoutPost (w : World) (xs : List ByteArray) (k : ByteArray) (e : Ending) (w' : World) : Prop :=
  ∃ v, e = .returned (.tuple #[v, .bool (decide (k ∈ xs))]) ∧ w'.ownsRow w.heap.size 9 1 v (without xs k).length (cellsK (without xs k)) ∧ Below w.heap.size w w'
set_option maxHeartbeats 1000000 in
theorem without_any {w : World} {v : Value} {xs : List ByteArray} (h : Lk w v xs) (k : ByteArray) (hl : xs.length ≤ 100000000) :
    Calls Try.prog 29 #[v, .string k] w (WithoutPost w xs k) := by
  obtain ⟨i0, hi, hz0, hz1, hz2⟩ := info_parts infoStr
  obtain ⟨a, c, rfl, hc⟩ := h.shape
  have HH := Lib.hid h
  clear h
  go_enter Try.func29, Try.ntmps29
  go_wp2_with fail
  go_loopg [6, 7, 8] xs.length (fun g vw vh i wr => ∃ (m : Nat), i = .int .i64 m ∧ g + m = xs.length ∧ vh = .bool (decide (k ∈ xs.take m)) ∧ Hid (Below w.heap.size w wr ∧ wr.ownsRow w.heap.size 9 1 vw (without (xs.take m) k).length (cellsK (without (xs.take m) k))))
  case atStart => exact ⟨0, rfl, by omega, by simp, Lib.hid ⟨Below.refl _ _, World.ownsRow_nil _ _ _ _⟩⟩
  case round =>
    obtain ⟨m, rfl, hg, rfl, HB⟩ := hrel
    have HG := Lib.hid hg
    clear hg
    obtain ⟨yw, yx, hvw⟩ : ∃ a c, u6 = .slice a (without (xs.take m) k).length c := by
      rcases HB.out.2.2 with ⟨e1, e2⟩ | ⟨g, cap, cur, e1, _⟩
      · exact ⟨none, 0, by rw [e1, e2]⟩
      · exact ⟨_, _, e1⟩
    subst hvw
    have hwm : (without (xs.take m) k).length ≤ 100000000 := by
      have h1 := without_len (xs.take m) k
      have h2 : (xs.take m).length ≤ xs.length := by rw [List.length_take]; omega
      omega
    obtain ⟨q, hq⟩ : ∃ q, decide (k ∈ xs.take m) = q := ⟨_, rfl⟩
    have HQ := Lib.hid hq
    rw [hq]
    clear hq
    by_cases hm : m < xs.length
    · obtain ⟨km, hkm⟩ : ∃ k, xs[m]? = some k := ⟨_, List.getElem?_eq_getElem hm⟩
      obtain ⟨ga, off, rfl, hga, c0⟩ := (HH.out.below HB.out.1).at hkm
      have hmi : (m : Int) < xs.length := by omega
      have htk : xs.take (m + 1) = xs.take m ++ [km] := by rw [List.take_add_one, hkm]; rfl
      clear hkm hga
      by_cases hkk : km = k
      · have hnx : without (xs.take (m + 1)) k = without (xs.take m) k := by
          rw [htk, without_app, show without [km] k = [] from by unfold without; simp [hkk], List.append_nil]
        have hse := str_eq k
        have hin : decide (k ∈ xs.take (m + 1)) = true := by rw [htk]; simp [hkk]
        have HN := Lib.hid (And.intro hnx hin)
        clear htk hnx hin
        subst hkk
        go_wp2_with fail
        go_roundg (xs.length - (m + 1))
        case measure => have := HG.out; omega
        case rel => exact ⟨m + 1, by go_num, by have := HG.out; omega, by rw [HN.out.2], Lib.hid (by rw [HN.out.1]; exact HB.out)⟩
      · have hnx : without (xs.take (m + 1)) k = without (xs.take m) k ++ [km] := by
          rw [htk, without_app, show without [km] k = [km] from by unfold without; simp [hkk]]
        have hin : decide (k ∈ xs.take (m + 1)) = q := by rw [← HQ.out, htk]; simp; exact fun e => absurd e.symm hkk
        have hse := str_ne hkk
        have HN := Lib.hid (And.intro hnx hin)
        have HO := Lib.hid (HB.out.2.alloc (.cells #[.string km] 9))
        have hzw : w.heap.size ≤ wr.heap.size := HB.out.1.size
        clear htk hnx hkk hin
        go_wp2_with (at_builtin; refine wpList_append_lies _ rfl _ _ _ rfl w.heap.size 9 i0 _ 1 16 Try.underlying31 hi hz0 hz1 hz2 rfl (by decide) _ (without (xs.take m) k).length (cellsK (without (xs.take m) k)) rfl HO.out ⟨wr.heap.size, 0, none⟩ 1 1 [.string km] rfl rfl (World.news_of_block (Mem.new_block wr _)) (by simp [Value.oneCell']) (by decide) (by unfold maxLen; omega) (by omega) (by simp; omega) (wr.heap.size + 1) (by simp) ?_; intro gg cap w6 hown hgrow hat hlt)
        go_roundg (xs.length - (m + 1))
        case measure => have := HG.out; omega
        case rel =>
          refine ⟨m + 1, by go_num, by have := HG.out; omega, by rw [HN.out.2], Lib.hid ⟨?_, ?_⟩⟩
          · exact (HB.out.1.alloc hzw _).grown hgrow (by simp; omega) (fun g e => (own_lt HB.out.2 g e).1)
          · rw [HN.out.1, List.length_append, cellsK, List.map_append]; exact hown
    · have hml : (xs.length : Int) ≤ m := by omega
      have hB := HB.out
      have hq := HQ.out
      rw [List.take_of_length_le (by omega)] at hB hq
      rw [List.take_of_length_le (by omega)]
      have HE := Lib.hid (And.intro hB hq)
      clear hB hq HB HQ hwm
      go_wp2_with fail
      refine bodyPost_ret (v := .tuple #[.slice yw (without xs k).length yx, .bool q]) (by simp [results, Try.results29, go_sem]) rfl ?_
      exact ⟨_, by rw [HE.out.2], HE.out.1.2, HE.out.1.1⟩
end Go.Proofs.Ytpppknopbjpciaa.RefSlru
