/- Layer 9, plain: texts in rising order, and what they have; buckets, and what lies in them. -/
import Derived.Test.YtekcogoijlbmnaaSpecHash
import Derived.Lib.Bytealg
namespace Go.Proofs.Ytekcogoijlbmnaa.Tab
open Go

/-! ### the order of texts -/
theorem bl_irrefl : ∀ l : List UInt8, Op.bytesLess l l = false
  | [] => rfl
  | a :: l => by
    have h : ¬ a < a := UInt8.lt_irrefl a
    simp [Op.bytesLess, h, bl_irrefl l]
theorem bl_trans : ∀ a b c : List UInt8, Op.bytesLess a b = true → Op.bytesLess b c = true → Op.bytesLess a c = true
  | _, [], _, h, _ => by cases ‹List UInt8› <;> simp [Op.bytesLess] at h
  | _, _ :: _, [], _, h => by simp [Op.bytesLess] at h
  | [], _ :: _, _ :: _, _, _ => rfl
  | x :: a, y :: b, z :: c, h1, h2 => by
    simp only [Op.bytesLess, Bool.or_eq_true, decide_eq_true_eq, Bool.and_eq_true, beq_iff_eq] at *
    rcases h1 with h1 | ⟨rfl, h1⟩
    · rcases h2 with h2 | ⟨rfl, h2⟩
      · exact .inl (UInt8.lt_trans h1 h2)
      · exact .inl h1
    · rcases h2 with h2 | ⟨rfl, h2⟩
      · exact .inl h2
      · exact .inr ⟨rfl, bl_trans a b c h1 h2⟩
theorem bl_tri : ∀ a b : List UInt8, Op.bytesLess a b = false → Op.bytesLess b a = false → a = b
  | [], [], _, _ => rfl
  | [], _ :: _, h, _ => by simp [Op.bytesLess] at h
  | _ :: _, [], _, h => by simp [Op.bytesLess] at h
  | x :: a, y :: b, h1, h2 => by
    simp only [Op.bytesLess, Bool.or_eq_false_iff, decide_eq_false_iff_not, Bool.and_eq_false_imp, beq_iff_eq] at h1 h2
    have e : x = y := UInt8.le_antisymm (UInt8.not_lt.1 h2.1) (UInt8.not_lt.1 h1.1)
    subst e
    rw [bl_tri a b (h1.2 rfl) (h2.2 rfl)]

def ltK (a b : ByteArray) : Bool := Op.bytesLess a.data.toList b.data.toList
theorem ltK_irrefl (a : ByteArray) : ltK a a = false := bl_irrefl _
theorem ltK_trans {a b c : ByteArray} (h : ltK a b = true) (h' : ltK b c = true) : ltK a c = true := bl_trans _ _ _ h h'
theorem ltK_asymm {a b : ByteArray} (h : ltK a b = true) : ltK b a = false := by
  cases h' : ltK b a
  · rfl
  · have := ltK_trans h h'
    rw [ltK_irrefl] at this; cases this
theorem ltK_ne {a b : ByteArray} (h : ltK a b = true) : a ≠ b := fun e => by rw [e, ltK_irrefl] at h; cases h
theorem ltK_tri {a b : ByteArray} (h : ltK a b = false) (h' : ltK b a = false) : a = b := by
  have := bl_tri _ _ h h'
  obtain ⟨⟨a⟩⟩ := a
  obtain ⟨⟨b⟩⟩ := b
  simp at this
  rw [this]
theorem ltK_total {a b : ByteArray} (h : ltK a b = false) (hne : a ≠ b) : ltK b a = true := by
  cases h' : ltK b a
  · exact absurd (ltK_tri h h') hne
  · rfl

/-! ### pairs by rising texts -/
section
variable {β : Type}
abbrev Pairs (β : Type) := List (ByteArray × β)
def Rising (L : Pairs β) : Prop := L.Pairwise fun p q => ltK p.1 q.1 = true
def get : Pairs β → ByteArray → Option β
  | [], _ => none
  | p :: l, k => if p.1 = k then some p.2 else get l k
def put : Pairs β → ByteArray → β → Pairs β
  | [], k, v => [(k, v)]
  | p :: l, k, v => if p.1 = k then (k, v) :: l else if ltK k p.1 then (k, v) :: p :: l else p :: put l k v
def del (L : Pairs β) (k : ByteArray) : Pairs β := L.filter fun p => decide (p.1 ≠ k)

theorem Rising.nodup {L : Pairs β} (h : Rising L) : (L.map (·.1)).Nodup := by
  unfold Rising at h
  unfold List.Nodup
  rw [List.pairwise_map]
  exact h.imp fun h => ltK_ne h
theorem get_none {L : Pairs β} {k : ByteArray} : get L k = none ↔ k ∉ L.map (·.1) := by
  induction L with
  | nil => simp [get]
  | cons p l ih =>
    simp only [get, List.map_cons, List.mem_cons, not_or]
    by_cases h : p.1 = k
    · simp [h]
    · rw [if_neg h, ih]; simp [Ne.symm h]
theorem get_mem {L : Pairs β} (hn : (L.map (·.1)).Nodup) {k : ByteArray} {v : β} : get L k = some v ↔ (k, v) ∈ L := by
  induction L with
  | nil => simp [get]
  | cons p l ih =>
    have hn' := List.nodup_cons.1 hn
    simp only [get, List.mem_cons]
    by_cases h : p.1 = k
    · rw [if_pos h]
      constructor
      · intro e; injection e with e; left; rw [← h, ← e]
      · rintro (e | e)
        · rw [← e]
        · exact absurd (List.mem_map_of_mem (f := (·.1)) e) (h ▸ hn'.1)
    · rw [if_neg h, ih hn'.2]
      constructor
      · exact .inr
      · rintro (e | e)
        · exact absurd (by rw [← e]) h
        · exact e
theorem get_isSome {L : Pairs β} {k : ByteArray} : (get L k).isSome = true ↔ k ∈ L.map (·.1) := by
  rcases h : get L k with _ | v
  · have := get_none.1 h; simpa using this
  · simp only [Option.isSome_some, true_iff]
    apply Classical.byContradiction
    intro e
    rw [get_none.2 e] at h; cases h
theorem mem_put {L : Pairs β} (h : Rising L) (k : ByteArray) (v : β) (p : ByteArray × β) : p ∈ put L k v ↔ p = (k, v) ∨ (p ∈ L ∧ p.1 ≠ k) := by
  induction L with
  | nil => simp [put]
  | cons q l ih =>
    have h1 := List.pairwise_cons.1 h
    simp only [put]
    by_cases hk : q.1 = k
    · rw [if_pos hk]
      simp only [List.mem_cons]
      constructor
      · rintro (e | e)
        · exact .inl e
        · exact .inr ⟨.inr e, fun e' => by have := h1.1 p e; rw [hk, e', ltK_irrefl] at this; cases this⟩
      · rintro (e | ⟨rfl | e, hne⟩)
        · exact .inl e
        · exact absurd hk hne
        · exact .inr e
    · rw [if_neg hk]
      by_cases hl : ltK k q.1 = true
      · rw [if_pos hl]
        simp only [List.mem_cons]
        constructor
        · rintro (e | e | e)
          · exact .inl e
          · exact .inr ⟨.inl e, e ▸ hk⟩
          · exact .inr ⟨.inr e, fun e' => by have := ltK_trans hl (h1.1 p e); rw [e', ltK_irrefl] at this; cases this⟩
        · rintro (e | ⟨e | e, _⟩)
          · exact .inl e
          · exact .inr (.inl e)
          · exact .inr (.inr e)
      · rw [if_neg hl]
        simp only [List.mem_cons, ih h1.2]
        constructor
        · rintro (e | e | ⟨e, e'⟩)
          · exact .inr ⟨.inl e, e ▸ hk⟩
          · exact .inl e
          · exact .inr ⟨.inr e, e'⟩
        · rintro (e | ⟨e | e, e'⟩)
          · exact .inr (.inl e)
          · exact .inl e
          · exact .inr (.inr ⟨e, e'⟩)
theorem rising_put {L : Pairs β} (h : Rising L) (k : ByteArray) (v : β) : Rising (put L k v) := by
  induction L with
  | nil => exact List.pairwise_singleton _ _
  | cons q l ih =>
    have h1 := List.pairwise_cons.1 h
    simp only [put]
    by_cases hk : q.1 = k
    · rw [if_pos hk]; exact List.pairwise_cons.2 ⟨fun p hp => by have := h1.1 p hp; rw [hk] at this; exact this, h1.2⟩
    · rw [if_neg hk]
      by_cases hl : ltK k q.1 = true
      · rw [if_pos hl]
        refine List.pairwise_cons.2 ⟨fun p hp => ?_, h⟩
        rcases List.mem_cons.1 hp with rfl | hp
        · exact hl
        · exact ltK_trans hl (h1.1 p hp)
      · rw [if_neg hl]
        refine List.pairwise_cons.2 ⟨fun p hp => ?_, ih h1.2⟩
        rcases (mem_put h1.2 k v p).1 hp with rfl | ⟨hp, _⟩
        · exact ltK_total (by simpa using hl) (Ne.symm hk)
        · exact h1.1 p hp
theorem rising_del {L : Pairs β} (h : Rising L) (k : ByteArray) : Rising (del L k) := h.sublist List.filter_sublist
theorem mem_del {L : Pairs β} {k : ByteArray} {p : ByteArray × β} : p ∈ del L k ↔ p ∈ L ∧ p.1 ≠ k := by simp [del]
theorem get_put {L : Pairs β} (h : Rising L) (k k' : ByteArray) (v : β) : get (put L k v) k' = if k' = k then some v else get L k' := by
  by_cases e : k' = k
  · rw [if_pos e, e]; exact (get_mem (rising_put h k v).nodup).2 ((mem_put h k v _).2 (.inl rfl))
  · rw [if_neg e]
    rcases hg : get L k' with _ | u
    · rw [get_none] at hg ⊢
      intro hm
      obtain ⟨p, hp, rfl⟩ := List.mem_map.1 hm
      rcases (mem_put h k v p).1 hp with rfl | ⟨hp, _⟩
      · exact e rfl
      · exact hg (List.mem_map_of_mem hp)
    · rw [get_mem (rising_put h k v).nodup]
      exact (mem_put h k v _).2 (.inr ⟨(get_mem h.nodup).1 hg, e⟩)
theorem get_del {L : Pairs β} (h : Rising L) (k k' : ByteArray) : get (del L k) k' = if k' = k then none else get L k' := by
  by_cases e : k' = k
  · rw [if_pos e, get_none, e]
    intro hm
    obtain ⟨p, hp, e⟩ := List.mem_map.1 hm
    exact (mem_del.1 hp).2 e
  · rw [if_neg e]
    rcases hg : get L k' with _ | u
    · rw [get_none] at hg ⊢
      intro hm
      obtain ⟨p, hp, rfl⟩ := List.mem_map.1 hm
      exact hg (List.mem_map_of_mem (mem_del.1 hp).1)
    · rw [get_mem (rising_del h k).nodup]
      exact mem_del.2 ⟨(get_mem h.nodup).1 hg, e⟩
theorem put_len {L : Pairs β} (k : ByteArray) (v : β) : (put L k v).length ≤ L.length + 1 ∧ L.length ≤ (put L k v).length := by
  induction L with
  | nil => simp [put]
  | cons q l ih =>
    simp only [put]
    split
    · simp
    · split
      · simp
      · simp only [List.length_cons]; omega
theorem put_len_new {L : Pairs β} (h : Rising L) {k : ByteArray} (v : β) (hk : k ∉ L.map (·.1)) : (put L k v).length = L.length + 1 := by
  induction L with
  | nil => rfl
  | cons q l ih =>
    have h1 := List.pairwise_cons.1 h
    simp only [List.map_cons, List.mem_cons, not_or] at hk
    simp only [put]
    rw [if_neg (Ne.symm hk.1)]
    split
    · rfl
    · simp only [List.length_cons]; rw [ih h1.2 hk.2]
theorem put_len_old {L : Pairs β} (h : Rising L) {k : ByteArray} (v : β) (hk : k ∈ L.map (·.1)) : (put L k v).length = L.length := by
  induction L with
  | nil => simp at hk
  | cons q l ih =>
    have h1 := List.pairwise_cons.1 h
    simp only [List.map_cons, List.mem_cons] at hk
    simp only [put]
    by_cases e : q.1 = k
    · rw [if_pos e]; rfl
    · rw [if_neg e]
      have hm : k ∈ l.map (·.1) := hk.elim (fun e' => absurd e'.symm e) id
      obtain ⟨p, hp, rfl⟩ := List.mem_map.1 hm
      rw [if_neg (by rw [ltK_asymm (h1.1 p hp)]; simp)]
      simp only [List.length_cons]; rw [ih h1.2 hm]
theorem del_none {L : Pairs β} {k : ByteArray} (hk : k ∉ L.map (·.1)) : del L k = L := by
  unfold del
  rw [List.filter_eq_self]
  intro p hp
  exact decide_eq_true fun e => hk (e ▸ List.mem_map_of_mem hp)
theorem del_len {L : Pairs β} (h : Rising L) {k : ByteArray} (hk : k ∈ L.map (·.1)) : (del L k).length + 1 = L.length := by
  induction L with
  | nil => simp at hk
  | cons q l ih =>
    have h1 := List.pairwise_cons.1 h
    simp only [List.map_cons, List.mem_cons] at hk
    by_cases e : q.1 = k
    · have hn : k ∉ l.map (·.1) := fun hm => by
        obtain ⟨p, hp, rfl⟩ := List.mem_map.1 hm
        have := h1.1 p hp
        rw [e, ltK_irrefl] at this; cases this
      have : del (q :: l) k = l := by
        have h2 := del_none hn
        unfold del at h2 ⊢
        rw [List.filter_cons, if_neg (by simp [e]), h2]
      rw [this]; rfl
    · have hm : k ∈ l.map (·.1) := hk.elim (fun e' => absurd e'.symm e) id
      have : del (q :: l) k = q :: del l k := by unfold del; rw [List.filter_cons, if_pos (by simp [e])]
      rw [this, List.length_cons, ih h1.2 hm]; rfl
theorem del_len_le (L : Pairs β) (k : ByteArray) : (del L k).length ≤ L.length := List.length_filter_le ..
theorem rising_ext : ∀ {L M : Pairs β}, Rising L → Rising M → (∀ p, p ∈ L ↔ p ∈ M) → L = M
  | [], [], _, _, _ => rfl
  | [], q :: _, _, _, h => by have := (h q).2 (by simp); simp at this
  | p :: _, [], _, _, h => by have := (h p).1 (by simp); simp at this
  | p :: l, q :: m, hl, hm, h => by
    have h1 := List.pairwise_cons.1 hl
    have h2 := List.pairwise_cons.1 hm
    have e : p = q := by
      rcases List.mem_cons.1 ((h p).1 (by simp)) with e | e
      · exact e
      · rcases List.mem_cons.1 ((h q).2 (by simp)) with e' | e'
        · exact e'.symm
        · have a := h2.1 p e
          have b := h1.1 q e'
          rw [ltK_asymm a] at b; cases b
    subst e
    have hr : ∀ {x}, x ∈ l ↔ x ∈ m := fun {x} => by
      constructor
      · intro hx
        rcases List.mem_cons.1 ((h x).1 (by simp [hx])) with e | e
        · exact absurd (h1.1 x hx) (by rw [e, ltK_irrefl]; simp)
        · exact e
      · intro hx
        rcases List.mem_cons.1 ((h x).2 (by simp [hx])) with e | e
        · exact absurd (h2.1 x hx) (by rw [e, ltK_irrefl]; simp)
        · exact e
    rw [rising_ext h1.2 h2.2 fun x => hr]

/-! ### the table as the document has it -/
structure St (β : Type) where
  L : Pairs β
  buckets : Nat
  left : Nat
def new : St β := ⟨[], 8, 0⟩
def St.tick (s : St β) : St β := { s with left := s.left - 1 }
def St.grown (s : St β) : St β := if 2 * s.buckets < s.L.length ∧ s.left = 0 then ⟨s.L, 2 * s.buckets, s.buckets⟩ else s
def St.put (s : St β) (k : ByteArray) (v : β) : St β := St.grown ⟨Tab.put s.L k v, s.buckets, s.left - 1⟩
def St.del (s : St β) (k : ByteArray) : St β := ⟨Tab.del s.L k, s.buckets, s.left - 1⟩
@[simp] theorem tick_L (s : St β) : s.tick.L = s.L := rfl
@[simp] theorem del_L (s : St β) (k : ByteArray) : (s.del k).L = Tab.del s.L k := rfl
@[simp] theorem put_L (s : St β) (k : ByteArray) (v : β) : (s.put k v).L = Tab.put s.L k v := by unfold St.put St.grown; split <;> rfl

/-! ### buckets -/
structure Con (β : Type) where
  E : Nat
  N : Nat
  left : Nat
  bs : Nat → Pairs β
def upd (bs : Nat → Pairs β) (k : Nat) (x : Pairs β) : Nat → Pairs β := fun j => if j = k then x else bs j
@[simp] theorem upd_same (bs : Nat → Pairs β) (k : Nat) (x : Pairs β) : upd bs k x k = x := by simp [upd]
theorem upd_other (bs : Nat → Pairs β) {k j : Nat} (x : Pairs β) (h : j ≠ k) : upd bs k x j = bs j := by simp [upd, h]
def Con.idx (H : ByteArray → Nat) (c : Con β) (k : ByteArray) : Nat := if 0 < c.left ∧ c.E - c.left ≤ H k % c.E then H k % c.E else c.E + H k % c.N
def Con.set (c : Con β) (k : Nat) (x : Pairs β) : Con β := { c with bs := upd c.bs k x }
def Con.push (H : ByteArray → Nat) (c : Con β) (p : ByteArray × β) : Con β := c.set (c.E + H p.1 % c.N) (c.bs (c.E + H p.1 % c.N) ++ [p])
def Con.pop (c : Con β) : Con β := { c with left := c.left - 1, bs := upd c.bs (c.E - c.left) [] }
def Con.step (H : ByteArray → Nat) (c : Con β) : Con β := if c.left = 0 then c else (c.bs (c.E - c.left)).foldl (Con.push H) c.pop
def Con.grow (c : Con β) : Con β := ⟨c.N, 2 * c.N, c.N, fun j => if j < c.N then c.bs (c.E + j) else []⟩

structure Abs (H : ByteArray → Nat) (c : Con β) (L : Pairs β) : Prop where
  rise : Rising L
  home : ∀ k p, p ∈ c.bs k → k = c.idx H p.1
  nd : ∀ k, ((c.bs k).map (·.1)).Nodup
  mem : ∀ p, p ∈ L ↔ p ∈ c.bs (c.idx H p.1)
  le : c.left ≤ c.E
  pos : 0 < c.N

section
variable {H : ByteArray → Nat} {c : Con β} {L : Pairs β}
theorem idx_lt (h : c.left ≤ c.E) (hp : 0 < c.N) (k : ByteArray) : c.idx H k < c.E + c.N := by
  unfold Con.idx
  split
  · rename_i h1
    have := Nat.mod_lt (H k) (show 0 < c.E by omega)
    omega
  · have := Nat.mod_lt (H k) hp
    omega
theorem Abs.idx_lt (h : Abs H c L) (k : ByteArray) : c.idx H k < c.E + c.N := Tab.idx_lt h.le h.pos k
theorem Abs.out (h : Abs H c L) {k : Nat} (hk : c.E + c.N ≤ k) : c.bs k = [] := by
  rcases hb : c.bs k with _ | ⟨p, l⟩
  · rfl
  · have := h.home k p (by rw [hb]; simp)
    have := h.idx_lt p.1
    omega
theorem push_fold (l : Pairs β) : ∀ c : Con β, (l.foldl (Con.push H) c).E = c.E ∧ (l.foldl (Con.push H) c).N = c.N ∧ (l.foldl (Con.push H) c).left = c.left ∧
    ∀ j, (l.foldl (Con.push H) c).bs j = c.bs j ++ l.filter fun p => decide (c.E + H p.1 % c.N = j) := by
  induction l with
  | nil => intro c; exact ⟨rfl, rfl, rfl, fun j => by simp⟩
  | cons p l ih =>
    intro c
    obtain ⟨h1, h2, h3, h4⟩ := ih (c.push H p)
    refine ⟨h1, h2, h3, fun j => ?_⟩
    rw [List.foldl_cons, h4 j, List.filter_cons]
    show upd c.bs (c.E + H p.1 % c.N) _ j ++ l.filter (fun p => decide (c.E + H p.1 % c.N = j)) = _
    by_cases hj : c.E + H p.1 % c.N = j
    · subst hj
      rw [upd_same, if_pos (by simp)]
      simp
    · rw [upd_other _ _ (Ne.symm hj), if_neg (by simpa using hj)]
theorem step_shape (c : Con β) : (c.step H).E = c.E ∧ (c.step H).N = c.N ∧ (c.step H).left = c.left - 1 := by
  unfold Con.step
  by_cases h : c.left = 0
  · rw [if_pos h]; exact ⟨rfl, rfl, by omega⟩
  · rw [if_neg h]
    obtain ⟨h1, h2, h3, _⟩ := push_fold (H := H) (c.bs (c.E - c.left)) c.pop
    exact ⟨h1, h2, h3⟩
theorem Abs.step (h : Abs H c L) : Abs H (c.step H) L := by
  by_cases h0 : c.left = 0
  · have : c.step H = c := by unfold Con.step; rw [if_pos h0]
    rw [this]; exact h
  obtain ⟨hE, hN, hl⟩ := step_shape (H := H) c
  have hle := h.le
  have hb : ∀ j, (c.step H).bs j = (if j = c.E - c.left then [] else c.bs j) ++ (c.bs (c.E - c.left)).filter fun p => decide (c.E + H p.1 % c.N = j) := fun j => by
    unfold Con.step
    rw [if_neg h0]
    exact (push_fold (H := H) (c.bs (c.E - c.left)) c.pop).2.2.2 j
  have hidx : ∀ k, (c.step H).idx H k = if c.idx H k = c.E - c.left then c.E + H k % c.N else c.idx H k := fun k => by
    unfold Con.idx
    rw [hE, hN, hl]
    have hm := Nat.mod_lt (H k) (show 0 < c.E by omega)
    by_cases h1 : c.E - c.left ≤ H k % c.E
    · rw [if_pos (show 0 < c.left ∧ _ from ⟨by omega, h1⟩)]
      by_cases h2 : H k % c.E = c.E - c.left
      · rw [if_pos h2, if_neg (by omega)]
      · rw [if_neg h2, if_pos (by omega)]
    · rw [if_neg (show ¬ (0 < c.left ∧ _) from fun e => h1 e.2), if_neg (by omega), if_neg (by omega)]
  have hmem : ∀ p j, p ∈ (c.step H).bs j ↔ (j ≠ c.E - c.left ∧ p ∈ c.bs j) ∨ (p ∈ c.bs (c.E - c.left) ∧ c.E + H p.1 % c.N = j) := fun p j => by
    rw [hb, List.mem_append, List.mem_filter]
    by_cases hj : j = c.E - c.left
    · simp [hj]
    · simp [hj]
  have hpos := h.pos
  refine ⟨h.rise, fun k p hp => ?_, fun k => ?_, fun p => ?_, by rw [hl, hE]; omega, by rw [hN]; exact hpos⟩
  · rw [hidx]
    rcases (hmem p k).1 hp with ⟨h1, h2⟩ | ⟨h1, h2⟩
    · have := h.home k p h2
      rw [← this, if_neg h1]
    · have := h.home _ p h1
      rw [← this, if_pos rfl, h2]
  · rw [hb, List.map_append, List.nodup_append]
    refine ⟨by split; exact List.nodup_nil; exact h.nd k, (h.nd _).sublist (List.Sublist.map _ List.filter_sublist), ?_⟩
    rintro a ha b hb' rfl
    obtain ⟨p, hp, rfl⟩ := List.mem_map.1 ha
    obtain ⟨q, hq, e⟩ := List.mem_map.1 hb'
    split at hp
    · simp at hp
    · rename_i hk
      have h1 := h.home k p hp
      have h2 := h.home _ q (List.mem_filter.1 hq).1
      rw [e] at h2
      exact hk (h1.trans h2.symm)
  · rw [h.mem p, hmem, hidx]
    by_cases e : c.idx H p.1 = c.E - c.left
    · rw [if_pos e, e]
      constructor
      · exact fun hp => .inr ⟨hp, rfl⟩
      · rintro (⟨h1, h2⟩ | ⟨h1, _⟩)
        · have := h.home _ p h2
          rw [e] at this; exact absurd this h1
        · exact h1
    · rw [if_neg e]
      constructor
      · exact fun hp => .inl ⟨e, hp⟩
      · rintro (⟨_, h2⟩ | ⟨h1, _⟩)
        · exact h2
        · exact absurd (h.home _ p h1).symm e
/-- One bucket changes. -/
theorem Abs.setBucket (h : Abs H c L) (k : ByteArray) {x : Pairs β} {M : Pairs β} (hM : Rising M) (hx : ∀ p ∈ x, p.1 = k ∨ p ∈ c.bs (c.idx H k)) (hn : (x.map (·.1)).Nodup)
    (hm : ∀ p, p ∈ M ↔ (if c.idx H p.1 = c.idx H k then p ∈ x else p ∈ L)) : Abs H (c.set (c.idx H k) x) M := by
  have hi : ∀ k', (c.set (c.idx H k) x).idx H k' = c.idx H k' := fun _ => rfl
  refine ⟨hM, fun j p hp => ?_, fun j => ?_, fun p => ?_, h.le, h.pos⟩
  · rw [hi]
    by_cases hj : j = c.idx H k
    · subst hj
      have hp' : p ∈ x := by simpa [Con.set] using hp
      rcases hx p hp' with e | e
      · rw [e]
      · exact h.home _ p e
    · exact h.home _ p (by simpa [Con.set, upd_other _ _ hj] using hp)
  · by_cases hj : j = c.idx H k
    · subst hj; simpa [Con.set] using hn
    · simpa [Con.set, upd_other _ _ hj] using h.nd j
  · rw [hi, hm]
    by_cases hj : c.idx H p.1 = c.idx H k
    · rw [if_pos hj]; simp [Con.set, hj]
    · rw [if_neg hj, h.mem]; simp [Con.set, upd_other _ _ hj]
theorem Abs.find (h : Abs H c L) (k : ByteArray) : k ∈ (c.bs (c.idx H k)).map (·.1) ↔ k ∈ L.map (·.1) := by
  constructor
  · intro hk
    obtain ⟨p, hp, rfl⟩ := List.mem_map.1 hk
    exact List.mem_map_of_mem ((h.mem p).2 hp)
  · intro hk
    obtain ⟨p, hp, rfl⟩ := List.mem_map.1 hk
    exact List.mem_map_of_mem ((h.mem p).1 hp)
theorem Abs.add (h : Abs H c L) {k : ByteArray} (v : β) (hk : k ∉ L.map (·.1)) : Abs H (c.set (c.idx H k) (c.bs (c.idx H k) ++ [(k, v)])) (put L k v) := by
  have hk' : k ∉ (c.bs (c.idx H k)).map (·.1) := fun e => hk ((h.find k).1 e)
  refine h.setBucket k (rising_put h.rise k v) (fun p hp => ?_) ?_ (fun p => ?_)
  · rcases List.mem_append.1 hp with e | e
    · exact .inr e
    · exact .inl (by simp at e; rw [e])
  · rw [List.map_append, List.nodup_append]
    refine ⟨h.nd _, by simp, ?_⟩
    rintro a ha b hb rfl
    have : a = k := by simpa using hb
    exact hk' (this ▸ ha)
  · rw [mem_put h.rise]
    by_cases hj : c.idx H p.1 = c.idx H k
    · rw [if_pos hj, List.mem_append, h.mem, hj]
      constructor
      · rintro (e | ⟨e, _⟩)
        · exact .inr (by simp [e])
        · exact .inl e
      · rintro (e | e)
        · exact .inr ⟨e, fun e' => hk' (List.mem_map.2 ⟨p, e, e'⟩)⟩
        · exact .inl (by simpa using e)
    · rw [if_neg hj]
      constructor
      · rintro (e | ⟨e, _⟩)
        · rw [e] at hj; exact absurd rfl hj
        · exact e
      · exact fun e => .inr ⟨e, fun e' => hj (by rw [e'])⟩
theorem nodup_key {x : Pairs β} (hn : (x.map (·.1)).Nodup) {i : Nat} {p q : ByteArray × β} (hi : x[i]? = some p) (hq : q ∈ x) (hk : q.1 = p.1) : q = p := by
  obtain ⟨j, hj⟩ := List.mem_iff_getElem?.1 hq
  have h1 : (x.map (·.1))[i]? = some p.1 := by rw [List.getElem?_map, hi]; rfl
  have h2 : (x.map (·.1))[j]? = some p.1 := by rw [List.getElem?_map, hj, ← hk]; rfl
  have : i = j := (List.getElem?_inj (List.getElem?_eq_some_iff.1 h1).1 hn).1 (h1.trans h2.symm)
  subst this
  rw [hi] at hj; injection hj with hj; exact hj.symm
theorem mem_set_iff {x : Pairs β} {i : Nat} {p u : ByteArray × β} (hn : (x.map (·.1)).Nodup) (hi : x[i]? = some p) (q : ByteArray × β) : q ∈ x.set i u ↔ q = u ∨ (q ∈ x ∧ q.1 ≠ p.1) := by
  have hil := (List.getElem?_eq_some_iff.1 hi).1
  constructor
  · intro hq
    obtain ⟨j, hj⟩ := List.mem_iff_getElem?.1 hq
    rw [List.getElem?_set] at hj
    split at hj
    · rename_i e
      subst e
      first | (rw [if_pos hil] at hj; injection hj with hj; exact .inl hj.symm) | (injection hj with hj; exact .inl hj.symm)
    · rename_i e
      refine .inr ⟨List.mem_of_getElem? hj, fun e' => e ?_⟩
      have h1 : (x.map (·.1))[i]? = some p.1 := by rw [List.getElem?_map, hi]; rfl
      have h2 : (x.map (·.1))[j]? = some p.1 := by rw [List.getElem?_map, hj, ← e']; rfl
      exact (List.getElem?_inj (List.getElem?_eq_some_iff.1 h1).1 hn).1 (h1.trans h2.symm)
  · rintro (rfl | ⟨hq, hne⟩)
    · exact List.mem_iff_getElem?.2 ⟨i, by rw [List.getElem?_set]; simp [hil]⟩
    · obtain ⟨j, hj⟩ := List.mem_iff_getElem?.1 hq
      refine List.mem_iff_getElem?.2 ⟨j, ?_⟩
      rw [List.getElem?_set, if_neg (fun e => hne (by subst e; rw [hi] at hj; injection hj with hj; rw [hj]))]
      exact hj
theorem Abs.change (h : Abs H c L) {k : ByteArray} {i : Nat} {u : β} (v : β) (hi : (c.bs (c.idx H k))[i]? = some (k, u)) : Abs H (c.set (c.idx H k) ((c.bs (c.idx H k)).set i (k, v))) (put L k v) := by
  have hms := mem_set_iff (u := (k, v)) (h.nd (c.idx H k)) hi
  refine h.setBucket k (rising_put h.rise k v) (fun p hp => ?_) ?_ (fun p => ?_)
  · rcases (hms p).1 hp with e | ⟨e, _⟩
    · exact .inl (by rw [e])
    · exact .inr e
  · have : ((c.bs (c.idx H k)).set i (k, v)).map (·.1) = (c.bs (c.idx H k)).map (·.1) := by
      rw [List.map_set]
      have h1 : ((c.bs (c.idx H k)).map (·.1))[i]? = some k := by rw [List.getElem?_map, hi]; rfl
      refine List.ext_getElem? fun j => ?_
      rw [List.getElem?_set]
      split
      · rename_i e; subst e
        rw [h1]; simp; exact (List.getElem?_eq_some_iff.1 hi).1
      · rfl
    rw [this]; exact h.nd _
  · rw [mem_put h.rise]
    by_cases hj : c.idx H p.1 = c.idx H k
    · rw [if_pos hj, hms, h.mem, hj]
    · rw [if_neg hj]
      constructor
      · rintro (e | ⟨e, _⟩)
        · rw [e] at hj; exact absurd rfl hj
        · exact e
      · exact fun e => .inr ⟨e, fun e' => hj (by rw [e'])⟩
theorem mem_erase_iff {x : Pairs β} {i : Nat} {p : ByteArray × β} (hn : (x.map (·.1)).Nodup) (hi : x[i]? = some p) (q : ByteArray × β) : q ∈ x.eraseIdx i ↔ q ∈ x ∧ q.1 ≠ p.1 := by
  obtain ⟨hl, e⟩ := List.getElem?_eq_some_iff.1 hi
  rw [List.mem_eraseIdx_iff_getElem?]
  constructor
  · rintro ⟨j, hne, hj⟩
    refine ⟨List.mem_of_getElem? hj, fun e' => hne ?_⟩
    have h1 : (x.map (·.1))[i]? = some p.1 := by rw [List.getElem?_map, hi]; rfl
    have h2 : (x.map (·.1))[j]? = some p.1 := by rw [List.getElem?_map, hj, ← e']; rfl
    exact ((List.getElem?_inj (List.getElem?_eq_some_iff.1 h1).1 hn).1 (h1.trans h2.symm)).symm
  · rintro ⟨hq, hne⟩
    obtain ⟨j, hj⟩ := List.mem_iff_getElem?.1 hq
    exact ⟨j, fun e' => hne (by subst e'; rw [hi] at hj; injection hj with hj; rw [hj]), hj⟩
theorem Abs.erase (h : Abs H c L) {k : ByteArray} {i : Nat} {u : β} (hi : (c.bs (c.idx H k))[i]? = some (k, u)) : Abs H (c.set (c.idx H k) ((c.bs (c.idx H k)).eraseIdx i)) (del L k) := by
  have hms := mem_erase_iff (h.nd (c.idx H k)) hi
  refine h.setBucket k (rising_del h.rise k) (fun p hp => .inr ((hms p).1 hp).1) ?_ (fun p => ?_)
  · exact (h.nd _).sublist (List.Sublist.map _ (List.eraseIdx_sublist _ _))
  · rw [mem_del]
    by_cases hj : c.idx H p.1 = c.idx H k
    · rw [if_pos hj, hms, h.mem, hj]
    · rw [if_neg hj]
      exact ⟨fun e => e.1, fun e => ⟨e, fun e' => hj (by rw [e'])⟩⟩
theorem Abs.grow (h : Abs H c L) (h0 : c.left = 0) : Abs H c.grow L := by
  have hpos := h.pos
  have hold : ∀ k, c.idx H k = c.E + H k % c.N := fun k => by unfold Con.idx; rw [if_neg (by omega)]
  have hnew : ∀ k, c.grow.idx H k = H k % c.N := fun k => by
    show (if 0 < c.N ∧ c.N - c.N ≤ H k % c.N then H k % c.N else _) = _
    rw [if_pos ⟨hpos, by omega⟩]
  refine ⟨h.rise, fun k p hp => ?_, fun k => ?_, fun p => ?_, Nat.le_refl _, by show 0 < 2 * c.N; omega⟩
  · rw [hnew]
    replace hp : p ∈ (if k < c.N then c.bs (c.E + k) else []) := hp
    split at hp
    · have := h.home _ p hp
      rw [hold] at this; omega
    · simp at hp
  · show ((if k < c.N then c.bs (c.E + k) else []).map (·.1)).Nodup
    split
    · exact h.nd _
    · exact List.nodup_nil
  · rw [h.mem, hnew, hold]
    show _ ↔ p ∈ (if H p.1 % c.N < c.N then c.bs (c.E + H p.1 % c.N) else [])
    rw [if_pos (Nat.mod_lt _ hpos)]
/-- All pairs that lie in buckets. -/
def Con.flat (c : Con β) : Pairs β := (List.range (c.E + c.N)).flatMap c.bs
theorem flat_keys : ∀ (n : Nat), (h : Abs H c L) → (((List.range n).flatMap c.bs).map (·.1)).Nodup := fun n h => by
  induction n with
  | zero => simp
  | succ n ih =>
    rw [List.range_succ, List.flatMap_append, List.map_append, List.nodup_append]
    refine ⟨ih, by simpa using h.nd n, ?_⟩
    rintro a ha b hb rfl
    obtain ⟨p, hp, rfl⟩ := List.mem_map.1 ha
    obtain ⟨q, hq, e⟩ := List.mem_map.1 hb
    obtain ⟨j, hj, hp⟩ := List.mem_flatMap.1 hp
    have h1 := h.home j p hp
    have h2 := h.home n q (by simpa using hq)
    rw [e, ← h1] at h2
    have := List.mem_range.1 hj
    omega
theorem Abs.flat_mem (h : Abs H c L) (p : ByteArray × β) : p ∈ c.flat ↔ p ∈ L := by
  unfold Con.flat
  rw [List.mem_flatMap, h.mem]
  constructor
  · rintro ⟨j, _, hp⟩
    rw [← h.home j p hp]; exact hp
  · exact fun hp => ⟨_, List.mem_range.2 (h.idx_lt p.1), hp⟩
theorem nodup_of_keys {l : Pairs β} (h : (l.map (·.1)).Nodup) : l.Nodup := List.Pairwise.imp (fun h e => h (by rw [e])) (List.pairwise_map.1 h)
theorem Abs.flat_len [DecidableEq β] (h : Abs H c L) : c.flat.length = L.length := by
  refine List.Perm.length_eq ((List.perm_ext_iff_of_nodup ?_ ?_).2 h.flat_mem)
  · exact nodup_of_keys (flat_keys _ h)
  · exact nodup_of_keys h.rise.nodup
/-- What is sorted of it is L. -/
theorem Abs.sorted (h : Abs H c L) {M : Pairs β} (hM : Rising M) (hp : M.Perm c.flat) : M = L :=
  rising_ext hM h.rise fun p => (hp.mem_iff).trans (h.flat_mem p)
theorem abs_new (H : ByteArray → Nat) : Abs H (⟨0, 8, 0, fun _ => []⟩ : Con β) [] :=
  ⟨List.Pairwise.nil, fun _ _ h => by simp at h, fun _ => by simp, fun p => by simp, Nat.le_refl _, Nat.zero_lt_succ 7⟩
end
end
end Go.Proofs.Ytekcogoijlbmnaa.Tab
