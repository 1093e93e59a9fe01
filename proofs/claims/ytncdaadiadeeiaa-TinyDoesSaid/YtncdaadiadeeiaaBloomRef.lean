/- The document's own filter of layer 4: the places that are set, as a list; its walks. -/
import Derived.Test.YtncdaadiadeeiaaBloom4
import Derived.Test.YtncdaadiadeeiaaBloom5
import Derived.Test.YtncdaadiadeeiaaSketchRef
import Derived.Deep.AppendLies
namespace Go.Proofs.Ytncdaadiadeeiaa.BloomRef
open Go Go.RowKit Go.Proofs.Ytncdaadiadeeiaa.Mem Go.Proofs.Ytncdaadiadeeiaa.Bloom

def enc (l : List Nat) : List Value := l.map fun (p : Nat) => Value.int .i64 (p : Nat)
structure RAtW (w : World) (b : Nat) (F : Nat → Prop) (seed : Int) (l : List Nat) (v : Value) : Prop where
  blk : w.heap[b]? = some (.cells #[.int .u64 seed, v] 53 (0, 0))
  row : w.ownsRow 0 3 1 v l.length (enc l)
  fb : F b
  fr : ∀ g, v.ownBlock = some g → F g
  lt : ∀ k, F k → k < w.heap.size
def RAt (w : World) (b : Nat) (F : Nat → Prop) (seed : Int) (l : List Nat) : Prop := ∃ v, RAtW w b F seed l v
theorem row_same {w w' : World} {base : Nat} {e : TypeId} {size n : Nat} {v : Value} {xs : List Value} (h : w.ownsRow base e size v n xs) (hs : ∀ g, v.ownBlock = some g → w'.heap[g]? = w.heap[g]?) : w'.ownsRow base e size v n xs := by
  refine ⟨h.1, ?_⟩
  rcases h.2 with h1 | ⟨g, cap, cur, h1, h2, h3, h4⟩
  · exact .inl h1
  · exact .inr ⟨g, cap, cur, h1, h2, (hs g (by rw [h1]; rfl)).trans h3, h4⟩
theorem row_not {w : World} {e t : TypeId} {size n k : Nat} {v : Value} {xs : List Value} {cs : Array Value} (h : w.ownsRow 0 e size v n xs) (hk : w.heap[k]? = some (.cells cs t (0, 0))) (hne : e ≠ t) : v.ownBlock ≠ some k := fun e1 => by
  rcases h.2 with ⟨q, _⟩ | ⟨g1, cap, cur, q, _, b1, _⟩
  · rw [q] at e1; cases e1
  · rw [q] at e1
    have : g1 = k := by simpa [Value.ownBlock] using e1
    subst this
    rw [b1] at hk
    injection hk with hk
    injection hk with _ hk
    exact hne hk
section
variable {w w' : World} {b : Nat} {F : Nat → Prop} {seed : Int} {l : List Nat} {v v' : Value}
theorem RAtW.same (h : RAtW w b F seed l v) (hs : ∀ k, F k → w'.heap[k]? = w.heap[k]?) (hz : w.heap.size ≤ w'.heap.size) : RAtW w' b F seed l v :=
  ⟨(hs _ h.fb).trans h.blk, row_same h.row fun g e => hs g (h.fr g e), h.fb, h.fr, fun k hk => Nat.lt_of_lt_of_le (h.lt k hk) hz⟩
theorem RAt.same (h : RAt w b F seed l) (hs : ∀ k, F k → w'.heap[k]? = w.heap[k]?) (hz : w.heap.size ≤ w'.heap.size) : RAt w' b F seed l := by
  obtain ⟨v, h⟩ := h
  exact ⟨v, h.same hs hz⟩
theorem RAt.lt (h : RAt w b F seed l) : ∀ k, F k → k < w.heap.size := by obtain ⟨_, h⟩ := h; exact h.lt
theorem RAt.fb (h : RAt w b F seed l) : F b := by obtain ⟨_, h⟩ := h; exact h.fb
theorem RAt.below (h : RAt w b F seed l) (hb : Below w.heap.size w w') : RAt w' b F seed l := h.same (fun k hk => hb.block k (h.lt k hk)) hb.size
theorem RAt.only (h : RAt w b F seed l) {G : Nat → Prop} (ho : Only G w w') (hd : ∀ k, F k → ¬ G k) : RAt w' b F seed l := h.same (fun k hk => ho.same k (h.lt k hk) (hd k hk)) ho.size
/-- A new list. -/
theorem RAtW.turn {l' : List Nat} (h : RAtW w b F seed l v) (hs : ∀ k, F k → v.ownBlock ≠ some k → w'.heap[k]? = w.heap[k]?) (hz : w.heap.size ≤ w'.heap.size) (hown : w'.ownsRow 0 3 1 v' l'.length (enc l'))
    (hat : ∀ g, v'.ownBlock = some g → v.ownBlock = some g ∨ w.heap.size ≤ g) : RAtW (w'.setCell ⟨b, 1, none⟩ v') b (fun j => F j ∨ v'.ownBlock = some j) seed l' v' := by
  have hvb : v.ownBlock ≠ some b := row_not h.row h.blk (by decide)
  have hnb : v'.ownBlock ≠ some b := fun e => (hat b e).elim hvb (fun e1 => by have := h.lt b h.fb; omega)
  refine ⟨Mem.row_set ((hs b h.fb hvb).trans h.blk) 1 v', row_same hown fun g e => Below.heap_setCell _ _ _ _ (fun e1 => hnb (by rw [e, e1])), .inl h.fb, fun g e => .inr e, fun k hk => ?_⟩
  rw [show (w'.setCell ⟨b, 1, none⟩ v').heap.size = w'.heap.size from by simp [World.setCell]]
  rcases hk with e | e
  · exact Nat.lt_of_lt_of_le (h.lt k e) hz
  · rcases hown.2 with ⟨q, _⟩ | ⟨g1, cap, cur, q, _, b1, _⟩
    · rw [q] at e; cases e
    · rw [q] at e
      have : g1 = k := by simpa [Value.ownBlock] using e
      subst this
      exact (Array.getElem?_eq_some_iff.1 b1).1
end
theorem row_at {w : World} {v : Value} {xs : List Nat} (h : w.ownsRow 0 3 1 v xs.length (enc xs)) {k : Nat} {c : Nat} (hk : xs[k]? = some c) :
    ∃ g cap, v = .slice (some ⟨g, 0, none⟩) xs.length cap ∧ w.cell? ⟨g, k, none⟩ = some (.int .i64 (c : Nat)) := by
  have hkl := (List.getElem?_eq_some_iff.1 hk).1
  obtain ⟨n, hn⟩ : ∃ n, xs.length = n + 1 := ⟨xs.length - 1, by omega⟩
  have ho := h
  rw [hn] at ho
  obtain ⟨g, cap, cur, e1, _, e2, _, _, e3⟩ := Mem.row_block ho
  exact ⟨g, cap, by rw [hn]; exact e1, (Mem.row_cell e2 _).trans (e3 _ _ (by simp [enc, hk]))⟩
theorem row_shape {w : World} {v : Value} {xs : List Nat} (h : w.ownsRow 0 3 1 v xs.length (enc xs)) : ∃ a cap, v = .slice a xs.length cap := by
  rcases h.2 with ⟨e1, e2⟩ | ⟨g, cap, cur, e1, _⟩
  · exact ⟨none, 0, by rw [e1, e2]⟩
  · exact ⟨_, _, e1⟩
set_option maxHeartbeats 1000000 in
theorem is_any {w : World} {b : Nat} {F : Nat → Prop} {seed : Int} {l : List Nat} (h : RAt w b F seed l) (hl : l.length ≤ 1000000) (p : Nat) (hp : p < 512) :
    Calls Try.prog 56 #[.pointer (some ⟨b, 0, none⟩), .int .i64 p] w fun e w' => e = .returned (.bool (decide (p ∈ l))) ∧ w = w' := by
  obtain ⟨v, h⟩ := h
  obtain ⟨ya, yc, hv⟩ := row_shape h.row
  have c1 : w.cell? ⟨b, 1, none⟩ = some v := Mem.row_cell h.blk 1
  have HR := Lib.hid h.row
  clear h
  subst hv
  go_enter Try.func56, Try.ntmps56
  go_wp2
  go_loopg [5] l.length (fun g i wr => ∃ j : Nat, i = .int .i64 j ∧ g + j = l.length ∧ p ∉ l.take j ∧ wr = w)
  case atStart => exact ⟨0, rfl, by omega, by simp, rfl⟩
  case round =>
    obtain ⟨j, rfl, hg, hno, rfl⟩ := hrel
    have HG := Lib.hid (And.intro hg hno)
    by_cases hj : j < l.length
    · obtain ⟨c, hc⟩ : ∃ q, l[j]? = some q := ⟨_, List.getElem?_eq_getElem hj⟩
      obtain ⟨g', cap', hya, z0⟩ := row_at HR.out hc
      injection hya with hya hle hyc
      clear hle
      subst hya hyc
      have hji : (j : Int) < l.length := by omega
      have htk : l.take (j + 1) = l.take j ++ [c] := by rw [List.take_add_one, hc]; rfl
      have HT := Lib.hid (And.intro htk hc)
      clear hg hno htk hc
      by_cases hcp : c = p
      · subst hcp
        go_wp2
        go_ret
        exact ⟨by simp [List.mem_of_getElem? HT.out.2], rfl⟩
      · have hcb : ((c : Int) == p) = false := by simp; omega
        have HN := Lib.hid hcp
        clear hcp
        go_wp2
        go_roundg (l.length - (j + 1))
        case measure => have := HG.out.1; omega
        case rel => exact ⟨j + 1, by go_num, by have := HG.out.1; omega, by rw [HT.out.1]; simp; exact ⟨HG.out.2, fun e => HN.out e.symm⟩, rfl⟩
    · have hjs : (l.length : Int) ≤ j := by omega
      have hno' : p ∉ l := by rw [List.take_of_length_le (by omega)] at hno; exact hno
      have HN := Lib.hid hno'
      clear hg hno hno'
      go_wp2
      go_ret
      exact ⟨by simp [HN.out], rfl⟩
set_option maxHeartbeats 400000 in
theorem place_any (seed : Int) (s : ByteArray) (hs : s.size ≤ maxLen) {i : Nat} (hi : i < 3) (w : World) :
    Calls Try.prog 55 #[.int .u64 seed, .string s, .int .i64 i] w fun e w' => e = .returned (.int .i64 (pl seed s.data.toList i : Nat)) ∧ w = w' := by
  have hof := fun w => SketchRef.of_nth seed s i hs w
  have hbel := fun w => HashRef.below_any (Hash.nthI seed s.data.toList i) 512 (Hash.nthI_range _ _ _).1 (Hash.nthI_range _ _ _).2 (by omega) w
  rw [pl_int] at hbel
  go_enter Try.func55, Try.ntmps55
  go_wp2_with (first | (go_at_call 60; refine (hof _).mono ?_; rintro e w' ⟨rfl, rfl⟩) | (go_at_call 59; refine (hbel _).mono ?_; rintro e w' ⟨rfl, rfl⟩))
  go_ret
  exact ⟨rfl, rfl⟩
def rhas (seed : Int) (s : List UInt8) (l : List Nat) : Bool := (List.range 3).all fun i => decide (pl seed s i ∈ l)
theorem rhas_iff (seed : Int) (s : List UInt8) (l : List Nat) : rhas seed s l = true ↔ ∀ i, i < 3 → pl seed s i ∈ l := by
  unfold rhas
  rw [List.all_eq_true]
  simp only [List.mem_range, decide_eq_true_eq]
set_option maxHeartbeats 1000000 in
theorem has_any {w : World} {b : Nat} {F : Nat → Prop} {seed : Int} {l : List Nat} (h : RAt w b F seed l) (hl : l.length ≤ 1000000) (s : ByteArray) (hs : s.size ≤ maxLen) :
    Calls Try.prog 36 #[.pointer (some ⟨b, 0, none⟩), .string s] w fun e w' => e = .returned (.bool (rhas seed s.data.toList l)) ∧ w = w' := by
  have H := Lib.hid h
  have c0 : w.cell? ⟨b, 0, none⟩ = some (.int .u64 seed) := by obtain ⟨v, h⟩ := h; exact Mem.row_cell h.blk 0
  clear h
  go_enter Try.func36, Try.ntmps36
  go_wp2
  go_loopg [5] 3 (fun g i wr => ∃ j : Nat, i = .int .i64 j ∧ g + j = 3 ∧ (∀ i, i < j → pl seed s.data.toList i ∈ l) ∧ wr = w)
  case atStart => exact ⟨0, rfl, by omega, fun i hi => by omega, rfl⟩
  case round =>
    obtain ⟨j, rfl, hg, hyes, rfl⟩ := hrel
    have HG := Lib.hid (And.intro hg hyes)
    clear hyes
    by_cases hj : j < 3
    · have hji : (j : Int) < 3 := by omega
      have hp := pl_lt seed s.data.toList j
      have hpl := fun w => place_any seed s hs hj w
      have his := is_any H.out hl (pl seed s.data.toList j) hp
      obtain ⟨q, hq⟩ : ∃ q, decide (pl seed s.data.toList j ∈ l) = q := ⟨_, rfl⟩
      rw [hq] at his
      have HQ := Lib.hid hq
      clear hq hg
      obtain ⟨p, hpp⟩ : ∃ p, pl seed s.data.toList j = p := ⟨_, rfl⟩
      rw [hpp] at his hp
      rw [hpp] at hpl
      clear hpp
      cases q
      · go_wp2_with (first | (go_at_call 55; refine (hpl _).mono ?_; rintro e w' ⟨rfl, rfl⟩) | (go_at_call 56; refine his.mono ?_; rintro e w' ⟨rfl, rfl⟩))
        go_ret
        have hf : rhas seed s.data.toList l = false := by
          cases hh : rhas seed s.data.toList l
          · rfl
          · have h1 := (rhas_iff _ _ _).1 hh j hj
            have h2 := HQ.out
            simp [h1] at h2
        exact ⟨by rw [hf]; rfl, rfl⟩
      · go_wp2_with (first | (go_at_call 55; refine (hpl _).mono ?_; rintro e w' ⟨rfl, rfl⟩) | (go_at_call 56; refine his.mono ?_; rintro e w' ⟨rfl, rfl⟩))
        go_roundg (3 - (j + 1))
        case measure => have := HG.out.1; omega
        case rel =>
          refine ⟨j + 1, by go_num, by have := HG.out.1; omega, fun i hi => ?_, rfl⟩
          by_cases h : i = j
          · subst h; exact of_decide_eq_true HQ.out
          · exact HG.out.2 i (by omega)
    · have hj3 : j = 3 := by omega
      subst hj3
      clear hg
      go_wp2
      go_ret
      exact ⟨by rw [(rhas_iff _ _ _).2 HG.out.2]; rfl, rfl⟩
/-- The list behind n places. -/
def radds (seed : Int) (s : List UInt8) (l : List Nat) : Nat → List Nat
  | 0 => l
  | n + 1 => if pl seed s n ∈ radds seed s l n then radds seed s l n else radds seed s l n ++ [pl seed s n]
theorem radds_len (seed : Int) (s : List UInt8) (l : List Nat) (n : Nat) : (radds seed s l n).length ≤ l.length + n := by
  induction n with
  | zero => simp [radds]
  | succ n ih =>
    unfold radds
    split
    · omega
    · rw [List.length_append, List.length_singleton]; omega
def AddPost (w : World) (b : Nat) (F : Nat → Prop) (seed : Int) (l : List Nat) (s : List UInt8) (e : Ending) (w' : World) : Prop :=
  ∃ F', e = .returned (.bool (rhas seed s l)) ∧ RAt w' b F' seed (radds seed s l 3) ∧ Only F w w' ∧ Grows w F F'
set_option maxRecDepth 20000 in
set_option maxHeartbeats 2000000 in
theorem add_any {w : World} {b : Nat} {F : Nat → Prop} {seed : Int} {l : List Nat} (h : RAt w b F seed l) (hl : l.length ≤ 900000) (s : ByteArray) (hs : s.size ≤ maxLen) :
    Calls Try.prog 35 #[.pointer (some ⟨b, 0, none⟩), .string s] w (AddPost w b F seed l s.data.toList) := by
  obtain ⟨i0, hi, hz0, hz1, hz2⟩ := info_parts SketchRef.infoInt
  have hhas := has_any h (by omega) s hs
  have H := Lib.hid h
  clear h
  go_enter Try.func35, Try.ntmps35
  go_wp2_with fail
  refine hhas.mono ?_
  rintro e w1 ⟨rfl, rfl⟩
  clear hhas
  go_wp2_with fail
  go_loopg [6] 3 (fun g i wr => ∃ (j : Nat) (F' : Nat → Prop), i = .int .i64 j ∧ g + j = 3 ∧ Hid (RAt wr b F' seed (radds seed s.data.toList l j) ∧ Only F w wr ∧ Grows w F F'))
  case atStart => exact ⟨0, F, rfl, by omega, Lib.hid ⟨H.out, Only.refl _ _, Grows.refl _ _⟩⟩
  case round =>
    obtain ⟨j, F1, rfl, hg, HR⟩ := hrel
    by_cases hj : j < 3
    · have hji : (j : Int) < 3 := by omega
      obtain ⟨v, h⟩ := HR.out.1
      have c0 : wr.cell? ⟨b, 0, none⟩ = some (.int .u64 seed) := Mem.row_cell h.blk 0
      have c1 : wr.cell? ⟨b, 1, none⟩ = some v := Mem.row_cell h.blk 1
      have f1 := Mem.row_free h.blk 1
      have hp := pl_lt seed s.data.toList j
      have hpl := fun w => place_any seed s hs hj w
      have hlen := radds_len seed s.data.toList l j
      have hnext : radds seed s.data.toList l (j + 1) = if pl seed s.data.toList j ∈ radds seed s.data.toList l j then radds seed s.data.toList l j else radds seed s.data.toList l j ++ [pl seed s.data.toList j] := rfl
      obtain ⟨lj, hlj⟩ : ∃ lj, radds seed s.data.toList l j = lj := ⟨_, rfl⟩
      rw [hlj] at h hlen hnext
      have his := is_any (⟨v, h⟩ : RAt wr b F1 seed lj) (by omega) (pl seed s.data.toList j) hp
      obtain ⟨p, hpp⟩ : ∃ p, pl seed s.data.toList j = p := ⟨_, rfl⟩
      rw [hpp] at his hp hnext
      rw [hpp] at hpl
      obtain ⟨q, hq⟩ : ∃ q, decide (p ∈ lj) = q := ⟨_, rfl⟩
      rw [hq] at his
      have HG := Lib.hid (And.intro hg (And.intro hnext (And.intro hlj hq)))
      have HA := Lib.hid h
      clear hg hnext hlj hq hpp h
      cases q
      · go_wp2_with (first
          | (go_at_call 55; refine (hpl _).mono ?_; rintro e w' ⟨rfl, rfl⟩)
          | (go_at_call 56; refine his.mono ?_; rintro e w' ⟨rfl, rfl⟩)
          | (at_builtin; refine wpList_append_lies _ rfl _ _ _ rfl 0 3 i0 _ 1 8 Try.underlying38 hi hz0 hz1 hz2 rfl (by decide) v lj.length (enc lj) rfl (row_same HA.out.row fun g e => Below.heap_alloc _ _ _ (HA.out.lt g (HA.out.fr g e))) ⟨wr.heap.size, 0, none⟩ 1 1 [.int .i64 (p : Nat)] rfl rfl (World.news_of_block (Mem.new_block wr _)) (by simp [Value.oneCell']) (by decide) (by unfold maxLen; omega) (by omega) (Nat.zero_le _) (wr.heap.size + 1) (by simp) ?_; intro gg cap w6 hown hgrow hat hlt; have f6 : w6.frozen? ⟨b, 1, none⟩ = false := Mem.row_free ((hgrow.block b (by have := HA.out.lt b HA.out.fb; simp; omega) (fun e => row_not HA.out.row HA.out.blk (by decide) e.symm)).trans ((Below.heap_alloc _ _ _ (HA.out.lt b HA.out.fb)).trans HA.out.blk)) 1; have c6 : w6.cell? ⟨b, 1, none⟩ = some v := Mem.row_cell ((hgrow.block b (by have := HA.out.lt b HA.out.fb; simp; omega) (fun e => row_not HA.out.row HA.out.blk (by decide) e.symm)).trans ((Below.heap_alloc _ _ _ (HA.out.lt b HA.out.fb)).trans HA.out.blk)) 1))
        go_roundg (3 - (j + 1))
        case measure => have := HG.out.1; omega
        case rel =>
          have hnew : radds seed s.data.toList l (j + 1) = lj ++ [p] := by
            rw [HG.out.2.1, if_neg (fun e => by have := HG.out.2.2.2; simp [e] at this)]
          have hown' : w6.ownsRow 0 3 1 (.slice (some ⟨gg, 0, none⟩) (lj.length + 1) cap) (lj ++ [p]).length (enc (lj ++ [p])) := by
            rw [List.length_append, List.length_singleton]
            have : enc (lj ++ [p]) = enc lj ++ [.int .i64 (p : Nat)] := by simp [enc]
            rw [this]
            exact hown
          have hat' : ∀ x, (Value.slice (some ⟨gg, 0, none⟩) (lj.length + 1) cap).ownBlock = some x → v.ownBlock = some x ∨ wr.heap.size ≤ x := fun x e => by
            have : gg = x := by simpa [Value.ownBlock] using e
            subst this
            exact hat.imp id (fun e => by omega)
          have hz : wr.heap.size ≤ w6.heap.size := Nat.le_trans (by simp) hgrow.size
          have hR := HA.out.turn (w' := w6) (fun k hk hv => (hgrow.block k (by have := HA.out.lt k hk; simp; omega) (fun e => hv e.symm)).trans (Below.heap_alloc _ _ _ (HA.out.lt k hk))) hz hown' hat'
          have hO : Only F1 wr (w6.setCell ⟨b, 1, none⟩ (.slice (some ⟨gg, 0, none⟩) (lj.length + 1) cap)) :=
            (((Only.refl F1 wr).alloc _).grown hgrow (fun x e => .inl (HA.out.fr x e))).setCell (.inl HA.out.fb) _
          have hGr : Grows wr F1 (fun x => F1 x ∨ (Value.slice (some ⟨gg, 0, none⟩) (lj.length + 1) cap).ownBlock = some x) := fun x hx => by
            rcases hx with hx | hx
            · exact .inl hx
            · exact (hat' x hx).imp (HA.out.fr x) id
          exact ⟨j + 1, _, by go_num, by have := HG.out.1; omega, Lib.hid ⟨by rw [hnew]; exact ⟨_, hR⟩, HR.out.2.1.trans hO HR.out.2.2, HR.out.2.2.trans HR.out.2.1.size hGr⟩⟩
      · go_wp2_with (first
          | (go_at_call 55; refine (hpl _).mono ?_; rintro e w' ⟨rfl, rfl⟩)
          | (go_at_call 56; refine his.mono ?_; rintro e w' ⟨rfl, rfl⟩))
        go_roundg (3 - (j + 1))
        case measure => have := HG.out.1; omega
        case rel =>
          have hnew : radds seed s.data.toList l (j + 1) = radds seed s.data.toList l j := by
            rw [HG.out.2.1, if_pos (of_decide_eq_true HG.out.2.2.2), HG.out.2.2.1]
          exact ⟨j + 1, F1, by go_num, by have := HG.out.1; omega, Lib.hid (by rw [hnew]; exact HR.out)⟩
    · have hj3 : j = 3 := by omega
      subst hj3
      clear hg
      go_wp2
      go_ret
      exact ⟨F1, rfl, HR.out⟩

/-! ### the two filters are one -/
def Link (k : St) (l : List Nat) : Prop := l.Nodup ∧ (∀ p ∈ l, p < 512) ∧ ∀ p, p ∈ l ↔ bit k.w p = true
theorem Link.new (seed : Int) : Link (new seed) [] := ⟨List.nodup_nil, fun p hp => (by cases hp), fun p => by simp [Bloom.new, bit]⟩
theorem Link.clear (k : St) : Link k.clear [] := ⟨List.nodup_nil, fun p hp => (by cases hp), fun p => by simp [St.clear, bit]⟩
theorem Link.has {k : St} {l : List Nat} (h : Link k l) (s : List UInt8) : rhas k.seed s l = k.has s := by
  unfold St.has
  rw [Bool.eq_iff_iff, rhas_iff, hasTo_iff]
  exact ⟨fun e i hi => (h.2.2 _).1 (e i hi), fun e i hi => (h.2.2 _).2 (e i hi)⟩
theorem Link.step {seed : Int} {w : Nat → Nat} {l : List Nat} (h : Link ⟨seed, w⟩ l) (s : List UInt8) (n : Nat) : Link ⟨seed, adds seed s w n⟩ (radds seed s l n) := by
  induction n with
  | zero => exact h
  | succ n ih =>
    obtain ⟨h1, h2, h3⟩ := ih
    have hb : ∀ q, bit (adds seed s w (n + 1)) q = (bit (adds seed s w n) q || decide (q = pl seed s n)) := fun q => bit_setB _ _ _
    have hr : radds seed s l (n + 1) = if pl seed s n ∈ radds seed s l n then radds seed s l n else radds seed s l n ++ [pl seed s n] := rfl
    rw [hr]
    by_cases hm : pl seed s n ∈ radds seed s l n
    · rw [if_pos hm]
      refine ⟨h1, h2, fun p => ?_⟩
      simp only [hb, Bool.or_eq_true, decide_eq_true_eq]
      rw [h3 p]
      constructor
      · exact .inl
      · rintro (e | rfl)
        · exact e
        · exact (h3 _).1 hm
    · rw [if_neg hm]
      refine ⟨?_, fun p hp => ?_, fun p => ?_⟩
      · rw [List.nodup_append]
        exact ⟨h1, by simp, fun a ha b hb e => by rw [List.mem_singleton] at hb; subst hb; subst e; exact hm ha⟩
      · rcases List.mem_append.1 hp with e | e
        · exact h2 p e
        · rw [List.mem_singleton] at e; subst e; exact pl_lt _ _ _
      · simp only [hb, Bool.or_eq_true, decide_eq_true_eq, List.mem_append, List.mem_singleton]
        rw [h3 p]
theorem Link.add {k : St} {l : List Nat} (h : Link k l) (s : List UInt8) : Link (k.add s) (radds k.seed s l 3) := Link.step h s 3
theorem Link.len {k : St} {l : List Nat} (h : Link k l) : k.ones = l.length := by
  unfold St.ones ones
  rw [List.countP_eq_length_filter]
  refine (List.Perm.length_eq ?_).symm
  rw [List.perm_ext_iff_of_nodup h.1 (List.Pairwise.filter _ List.nodup_range)]
  intro p
  rw [List.mem_filter, List.mem_range, h.2.2 p]
  exact ⟨fun e => ⟨h.2.1 p ((h.2.2 p).2 e), e⟩, fun e => e.2⟩
theorem Link.small {k : St} {l : List Nat} (h : Link k l) : l.length ≤ 512 := by
  rw [← h.len]; exact ones_le _ _
end Go.Proofs.Ytncdaadiadeeiaa.BloomRef
