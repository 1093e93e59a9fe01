/- Layer 8: the walks of Remove, Hit. -/
import Derived.Test.YtpppknopbjpciaaSlru5
import Derived.Deep.RegionHeld3
namespace Go.Proofs.Ytpppknopbjpciaa.Slru
open Go Go.RowKit Go.Proofs.Ytpppknopbjpciaa.Mem

theorem key_uniq {xs : List Nd} (h : (xs.map (·.2)).Nodup) {p q : Nd} (hp : p ∈ xs) (hq : q ∈ xs) (e : p.2 = q.2) : p = q := by
  induction xs with
  | nil => cases hp
  | cons x xs ih =>
    have hn := List.nodup_cons.1 h
    rcases List.mem_cons.1 hp with h1 | h1
    · rcases List.mem_cons.1 hq with h2 | h2
      · rw [h1, h2]
      · exact absurd (show x.2 ∈ xs.map (·.2) by rw [← h1, e]; exact List.mem_map_of_mem h2) hn.1
    · rcases List.mem_cons.1 hq with h2 | h2
      · exact absurd (show x.2 ∈ xs.map (·.2) by rw [← h2, ← e]; exact List.mem_map_of_mem h1) hn.1
      · exact ih hn.2 h1 h2
theorem back_in {A A1 : List Nd} {n : Nat} {k : ByteArray} (hk : (A.map (·.2)).Nodup) (hm : (n, k) ∈ A) (h : ∀ p, p ∈ A1 ↔ p ∈ A ∧ p.2 ≠ k) (p : Nd) : (p ∈ A1 ∨ p = (n, k)) ↔ p ∈ A := by
  constructor
  · rintro (e | rfl)
    · exact ((h p).1 e).1
    · exact hm
  · intro e
    by_cases e2 : p.2 = k
    · exact .inr (key_uniq hk e hm e2)
    · exact .inl ((h p).2 ⟨e, e2⟩)
theorem len_pulled {ts ss ts1 ss1 : List Nd} {k : ByteArray} (hk : k ∈ (ts ++ ss).map (·.2)) (ht : ts1.map (·.2) = without (ts.map (·.2)) k) (hs : ss1.map (·.2) = without (ss.map (·.2)) k) : (ts1 ++ ss1).length + 1 ≤ (ts ++ ss).length := by
  have e1 := congrArg List.length ht
  have e2 := congrArg List.length hs
  have e3 := without_lt hk
  rw [List.map_append, without_app, List.length_append, List.length_append] at e3
  simp only [List.length_map] at e1 e2 e3
  rw [List.length_append, List.length_append]
  omega
section
variable {w w' : World} {b mb n : Nat} {F : Nat → Prop} {s s' : St} {ts ss ts1 ss1 : List Nd} {ps : List (ByteArray × Value)} {k : ByteArray}
theorem AtW.map_kept (h : AtW w b F s mb ts ss ps) (ho : Only (fun j => j = b ∨ j ∈ (ts ++ ss).map (·.1)) w w') : Maps.Is Value.string w' mb ps :=
  h.map.same (ho.same mb (h.lt mb h.fm) fun e => e.elim (fun e => h.map_off.1 e) (fun e => h.map_off.2 e))
/-- The rows turned, with the nodes that there were. -/
theorem AtW.turned (h : AtW w b F s mb ts ss ps) (hr : Rows w' b mb s'.most ts1 ss1) (ho : Only (fun j => j = b ∨ j ∈ (ts ++ ss).map (·.1)) w w') (hi : ∀ p, p ∈ ts1 ++ ss1 ↔ p ∈ ts ++ ss)
    (ht : ts1.map (·.2) = s'.trial) (hs : ss1.map (·.2) = s'.safe) (hk : s'.all.Nodup) : AtW w' b F s' mb ts1 ss1 ps :=
  ⟨hr, h.map_kept ho, fun k v => by rw [h.look]; constructor <;> rintro ⟨n, hn, rfl⟩ <;> exact ⟨n, by first | exact (hi _).2 hn | exact (hi _).1 hn, rfl⟩, h.pnd, ht, hs, hk, h.fb, h.fm,
    fun j hj => by
      obtain ⟨p, hp, rfl⟩ := List.mem_map.1 hj
      exact h.fn _ (List.mem_map_of_mem ((hi p).1 hp)), fun j hj => Nat.lt_of_lt_of_le (h.lt j hj) ho.size⟩
theorem AtW.only (h : AtW w b F s mb ts ss ps) (ho : Only (fun j => j = b ∨ j ∈ (ts ++ ss).map (·.1)) w w') : Only F w w' := ho.mono fun j hj => hj.elim (fun e => e ▸ h.fb) (h.fn j)
theorem AtW.kn (h : AtW w b F s mb ts ss ps) : ((ts ++ ss).map (·.2)).Nodup := by rw [← h.all]; exact h.knd
theorem AtW.ln (h : AtW w b F s mb ts ss ps) : (ts ++ ss).length = s.all.length := by rw [h.all]; simp
/-- A key taken out. -/
theorem AtW.removed (h : AtW w b F s mb ts ss ps) {o : Obj} {w1 : World} (hr : Rows w1 b mb s.most ts1 ss1) (ho : Only (fun j => j = b ∨ j ∈ (ts ++ ss).map (·.1)) w w1) (hi : ∀ p, p ∈ ts1 ++ ss1 ↔ p ∈ ts ++ ss ∧ p.2 ≠ k)
    (ht : ts1.map (·.2) = without (ts.map (·.2)) k) (hs : ss1.map (·.2) = without (ss.map (·.2)) k) (hm : Maps.Is Value.string (w1.putObj mb o) mb (Maps.del ps k)) :
    AtW (w1.putObj mb o) b F { s with trial := without s.trial k, safe := without s.safe k } mb ts1 ss1 (Maps.del ps k) := by
  have hsub : ∀ j, j ∈ (ts1 ++ ss1).map (·.1) → j ∈ (ts ++ ss).map (·.1) := fun j hj => by
    obtain ⟨p, hp, rfl⟩ := List.mem_map.1 hj
    exact List.mem_map_of_mem ((hi p).1 hp).1
  refine ⟨hr.same fun j hj => World.putObj_heap_other (fun e => hj.elim (fun e2 => h.map_off.1 (e ▸ e2)) (fun e2 => h.map_off.2 (hsub _ (e ▸ e2)))), hm, fun k' v => ?_, h.pnd.sublist ((del_sub ps k).map _), by rw [ht, h.tr], by rw [hs, h.sf], ?_, h.fb, h.fm, fun j hj => h.fn j (hsub j hj), fun j hj => by rw [World.putObj_size]; exact Nat.lt_of_lt_of_le (h.lt j hj) ho.size⟩
  · rw [get_del h.pnd]
    by_cases e : k' = k
    · rw [if_pos e, e]
      constructor
      · intro e2; cases e2
      · rintro ⟨n, hn, _⟩
        exact absurd rfl ((hi _).1 hn).2
    · rw [if_neg e, h.look]
      constructor
      · rintro ⟨n, hn, rfl⟩; exact ⟨n, (hi _).2 ⟨hn, e⟩, rfl⟩
      · rintro ⟨n, hn, rfl⟩; exact ⟨n, ((hi _).1 hn).1, rfl⟩
  · show (without s.trial k ++ without s.safe k).Nodup
    rw [← without_app]
    exact without_nodup k h.knd
end

set_option maxHeartbeats 2000000 in
theorem remove_any {w : World} {b : Nat} {F : Nat → Prop} {s : St} (h : At w b F s) (k : ByteArray) (hl : s.all.length ≤ 9223372036854775807) :
    Calls Try.prog 18 #[.pointer (some ⟨b, 0, none⟩), .string k] w (TurnPost w b F (s.remove k)) := by
  have hat := h
  obtain ⟨mb, ts, ss, ps, h⟩ := h
  have c1 := Mem.row_cell h.rows.blk 1
  simp only [listArr, List.getElem?_toArray, List.getElem?_cons_zero, List.getElem?_cons_succ] at c1
  have hlk0 := Maps.run_lookup strLaw Try.underlying45 zeroNode h.map k
  by_cases hk : k ∈ s.all
  · obtain ⟨n, hm, hg⟩ := h.get_some hk
    rw [hg] at hlk0
    have hlk : ∀ _ : True, (Instr.lookup 45 (.map (some mb)) (.string k) false).run Try.prog w = .ok (.pointer (some ⟨n, 0, none⟩)) w := fun _ => hlk0
    have e : s.remove k = (0, { s with trial := without s.trial k, safe := without s.safe k }) := by unfold St.remove; rw [if_pos hk]
    have hcall := pull_any h.rows h.kn hm (by rw [h.ln]; exact hl)
    have HH := Lib.hid h
    have HE := Lib.hid e
    clear h hlk0 hk hm hg e hat hl
    go_enter Try.func18, Try.ntmps18
    go_wp2_with fail
    refine hcall.mono ?_
    rintro e w1 ⟨rfl, ts1, ss1, hr, ht, hs, -, -, hi, ho⟩
    have c1' := Mem.row_cell hr.blk 1
    simp only [listArr, List.getElem?_toArray, List.getElem?_cons_zero, List.getElem?_cons_succ] at c1'
    obtain ⟨o, hdel, hIs⟩ := Maps.run_delete (w := w1) strLaw Try.underlying45 (HH.out.map_kept ho) k 0 9
    have hdel' : ∀ _ : True, (Builtin.delete_ #[45, 9] 0 #[.map (some mb), .string k]).run Try.prog w1 = .ok (.tuple #[]) (w1.putObj mb o) := fun _ => hdel
    have hres : TurnPost w b F (s.remove k) (.returned (.int .i64 0)) (w1.putObj mb o) := by
      rw [HE.out]
      exact ⟨F, rfl, ⟨_, _, _, _, HH.out.removed hr ho hi ht hs hIs⟩, (HH.out.only ho).putObj (.inl HH.out.fm) o, Grows.refl _ _⟩
    have HR := Lib.hid hres
    clear hr ht hs hi ho hdel hIs hres hlk hcall
    go_wp2_with fail
    go_ret
    exact HR.out
  · have hg := h.get_none hk
    rw [hg] at hlk0
    have hlk : ∀ _ : True, (Instr.lookup 45 (.map (some mb)) (.string k) false).run Try.prog w = .ok (.pointer none) w := fun _ => hlk0
    have e : s.remove k = (6, s) := by unfold St.remove; rw [if_neg hk]
    have HF := Lib.hid (show TurnPost w b F (s.remove k) (.returned (.int .i64 6)) w by rw [e]; exact ⟨F, rfl, hat, Only.refl _ _, Grows.refl _ _⟩)
    clear h hlk0 hk hg e hat hl
    go_enter Try.func18, Try.ntmps18
    go_wp2_with fail
    go_ret
    exact HF.out

/-- Taken out, and put at the end: the rows as they are in the midst of a hit. -/
structure Mid (w : World) (b : Nat) (F : Nat → Prop) (s : St) (mb : Nat) (ts ss : List Nd) (ps : List (ByteArray × Value)) (k : ByteArray) (w' : World) (ts1 ss1 : List Nd) : Prop where
  at_ : AtW w b F s mb ts ss ps
  rows : Rows w' b mb s.most ts1 ss1
  only : Only (fun j => j = b ∨ j ∈ (ts ++ ss).map (·.1)) w w'
  mem : ∀ p, p ∈ ts1 ++ ss1 ↔ p ∈ ts ++ ss
  tr : ts1.map (·.2) = without s.trial k
  sf : ss1.map (·.2) = without s.safe k ++ [k]
  kin : k ∈ s.all
section
variable {w w' : World} {b mb n : Nat} {F : Nat → Prop} {s : St} {ts ss ts1 ss1 : List Nd} {ps : List (ByteArray × Value)} {k : ByteArray}
theorem Mid.drew (h : Mid w b F s mb ts ss ps k w' ts1 ss1) : Mid w b F s mb ts ss ps k w'.drew ts1 ss1 := ⟨h.at_, h.rows.same fun _ _ => rfl, h.only.drew, h.mem, h.tr, h.sf, h.kin⟩
theorem Mid.kn (h : Mid w b F s mb ts ss ps k w' ts1 ss1) : ((ts1 ++ ss1).map (·.2)).Nodup := by
  rw [List.map_append, h.tr, h.sf, ← List.append_assoc, ← without_app]
  exact List.nodup_append.2 ⟨without_nodup k h.at_.knd, by simp, fun a ha c hc => by
    have : c = k := by simpa using hc
    subst this
    exact (without_mem.1 ha).2⟩
theorem Mid.hit0 (h : Mid w b F s mb ts ss ps k w' ts1 ss1) (hx : ¬ max s.most 0 < (ss1.length : Int)) : TurnPost w b F (s.hit k) (.returned (.int .i64 0)) w' := by
  have hlen : ss1.length = (without s.safe k ++ [k]).length := by rw [← h.sf]; simp
  have e : s.hit k = (0, { s with trial := without s.trial k, safe := without s.safe k ++ [k] }) := by
    unfold St.hit St.moved; rw [if_pos h.kin, if_neg (by rw [← hlen]; exact hx)]
  rw [e]
  refine ⟨F, rfl, ⟨mb, ts1, ss1, ps, h.at_.turned (s' := { s with trial := without s.trial k, safe := without s.safe k ++ [k] }) h.rows h.only h.mem h.tr h.sf ?_⟩, h.at_.only h.only, Grows.refl _ _⟩
  have := h.kn
  rw [List.map_append, h.tr, h.sf] at this
  exact this
theorem Mid.hit1 {q : Nat} {kq : ByteArray} {ts2 ss2 : List Nd} (h : Mid w b F s mb ts ss ps k w' ts1 ((q, kq) :: ss1)) (hx : max s.most 0 < (((q, kq) :: ss1).length : Int)) {w2 : World} (hr : Rows w2 b mb s.most (ts2 ++ [(q, kq)]) ss2)
    (ho : Only (fun j => j = b ∨ j ∈ (ts ++ ss).map (·.1)) w w2) (hm : ∀ p, p ∈ ts2 ++ ss2 ↔ p ∈ ts1 ++ ((q, kq) :: ss1) ∧ p.2 ≠ kq) (ht : ts2.map (·.2) = without (ts1.map (·.2)) kq) (hs : ss2.map (·.2) = without (((q, kq) :: ss1).map (·.2)) kq) :
    TurnPost w b F (s.hit k) (.returned (.int .i64 0)) w2 := by
  have hkn := h.kn
  have hsf := h.sf
  have hlen : ((q, kq) :: ss1).length = (without s.safe k ++ [k]).length := by rw [← h.sf]; simp
  have e : s.hit k = (0, { s with trial := without s.trial k ++ (without s.safe k ++ [k]).take 1, safe := (without s.safe k ++ [k]).drop 1 }) := by
    unfold St.hit St.moved; rw [if_pos h.kin, if_pos (by rw [← hlen]; exact hx)]
  rw [List.map_append, List.map_cons, List.nodup_append, List.nodup_cons] at hkn
  have hqt : kq ∉ ts1.map (·.2) := fun e => hkn.2.2 kq e kq (by simp) rfl
  rw [without_none hqt, h.tr] at ht
  have hs2 : ss2.map (·.2) = ss1.map (·.2) := by
    rw [hs]
    have := without_split (l := []) (r := ss1.map (·.2)) (k := kq) (by simpa using hkn.2.1)
    simpa using this
  have e2 : without s.safe k ++ [k] = kq :: ss1.map (·.2) := by rw [← hsf]; rfl
  rw [e2] at e
  simp only [List.take_succ_cons, List.take_zero, List.drop_succ_cons, List.drop_zero] at e
  rw [e]
  have hmem : ∀ p, p ∈ ts2 ++ [(q, kq)] ++ ss2 ↔ p ∈ ts ++ ss := fun p => by
    rw [← h.mem p, ← back_in h.kn (n := q) (k := kq) (by simp) hm p]
    simp only [List.mem_append, List.mem_cons, List.not_mem_nil, or_false]
    constructor
    · rintro ((e | e) | e)
      · exact .inl (.inl e)
      · exact .inr e
      · exact .inl (.inr e)
    · rintro ((e | e) | e)
      · exact .inl (.inl e)
      · exact .inr e
      · exact .inl (.inr e)
  refine ⟨F, rfl, ⟨mb, ts2 ++ [(q, kq)], ss2, ps, h.at_.turned (s' := { s with trial := without s.trial k ++ [kq], safe := ss1.map (·.2) }) hr ho hmem (by rw [List.map_append, ht]; rfl) hs2 ?_⟩, h.at_.only ho, Grows.refl _ _⟩
  show ((without s.trial k ++ [kq]) ++ ss1.map (·.2)).Nodup
  have := h.kn
  rw [List.map_append, h.tr, List.map_cons] at this
  rw [List.append_assoc]
  exact this
end
set_option maxHeartbeats 2000000 in
theorem hit_any {w : World} {b : Nat} {F : Nat → Prop} {s : St} (h : At w b F s) (k : ByteArray) (hl : s.all.length ≤ 9223372036854775807) :
    Calls Try.prog 11 #[.pointer (some ⟨b, 0, none⟩), .string k] w (TurnPost w b F (s.hit k)) := by
  have hat := h
  obtain ⟨mb, ts, ss, ps, h⟩ := h
  have c1 := Mem.row_cell h.rows.blk 1
  simp only [listArr, List.getElem?_toArray, List.getElem?_cons_zero, List.getElem?_cons_succ] at c1
  have hlk0 := Maps.run_lookup strLaw Try.underlying45 zeroNode h.map k
  by_cases hk : k ∈ s.all
  case neg =>
    have hg := h.get_none hk
    rw [hg] at hlk0
    have hlk : ∀ _ : True, (Instr.lookup 45 (.map (some mb)) (.string k) false).run Try.prog w = .ok (.pointer none) w := fun _ => hlk0
    have e : s.hit k = (6, s) := by unfold St.hit; rw [if_neg hk]
    have HF := Lib.hid (show TurnPost w b F (s.hit k) (.returned (.int .i64 6)) w by rw [e]; exact ⟨F, rfl, hat, Only.refl _ _, Grows.refl _ _⟩)
    clear h hlk0 hk hg e hat hl
    go_enter Try.func11, Try.ntmps11
    go_wp2_with fail
    go_ret
    exact HF.out
  obtain ⟨n, hm, hg⟩ := h.get_some hk
  rw [hg] at hlk0
  have hlk : ∀ _ : True, (Instr.lookup 45 (.map (some mb)) (.string k) false).run Try.prog w = .ok (.pointer (some ⟨n, 0, none⟩)) w := fun _ => hlk0
  have hlen : (ts ++ ss).length ≤ 9223372036854775807 := by rw [h.ln]; exact hl
  have hcall := pull_any h.rows h.kn hm (by omega)
  have HH := Lib.hid (And.intro h (And.intro hk (And.intro hm hlen)))
  clear h hlk0 hk hm hg hat hl hlen
  go_enter Try.func11, Try.ntmps11
  go_wp2_with fail
  refine hcall.mono ?_
  rintro e w1 ⟨rfl, ts1, ss1, hr, ht, hs, hn1, ⟨ua, uc, ura, hnode⟩, hi, ho⟩
  have hsub : ∀ j, j ∈ (ts1 ++ ss1).map (·.1) → j ∈ (ts ++ ss).map (·.1) := fun j hj => by
    obtain ⟨p, hp, rfl⟩ := List.mem_map.1 hj
    exact List.mem_map_of_mem ((hi p).1 hp).1
  have hl1 : (ts1 ++ ss1).length + 1 ≤ 9223372036854775807 := by
    have := len_pulled (by rw [← HH.out.1.all]; exact HH.out.2.1) ht hs
    have := HH.out.2.2.2
    omega
  have hcall2 := put_safe hr hnode hn1 (by omega)
  have H1 := Lib.hid (And.intro ht (And.intro hs (And.intro hi (And.intro ho (And.intro hsub hl1)))))
  clear hcall hr ht hs hn1 hnode hi ho hsub hl1 hlk
  go_wp2_with fail
  refine hcall2.mono ?_
  rintro e w2 ⟨rfl, hr2, ho2⟩
  have hM : Mid w b F s mb ts ss ps k w2 ts1 (ss1 ++ [(n, k)]) := by
    obtain ⟨ht, hs, hi, ho, hsub, _⟩ := H1.out
    obtain ⟨h, hk, hm, _⟩ := HH.out
    have hb := back_in h.kn hm hi
    have hn : n ∈ (ts ++ ss).map (·.1) := List.mem_map.2 ⟨_, hm, rfl⟩
    refine ⟨h, hr2, ho.trans (ho2.mono fun j hj => ?_) (Grows.refl _ _), fun p => ?_, by rw [ht, h.tr], by rw [List.map_append, hs, h.sf]; rfl, hk⟩
    · rcases hj with e | e | e
      · exact .inl e
      · exact .inr (e ▸ hn)
      · exact .inr (hsub j e)
    · rw [← hb p]
      simp only [List.mem_append, List.mem_cons, List.not_mem_nil, or_false]
      constructor
      · rintro (e | e | e)
        · exact .inl (.inl e)
        · exact .inl (.inr e)
        · exact .inr e
      · rintro ((e | e) | e)
        · exact .inl e
        · exact .inr (.inl e)
        · exact .inr (.inr e)
  obtain ⟨ss2, hss2⟩ : ∃ ss2, ss1 ++ [(n, k)] = ss2 := ⟨_, rfl⟩
  have hne : ss2 ≠ [] := by rw [← hss2]; simp
  have hl2 : ss2.length ≤ 9223372036854775807 := by rw [← hss2]; have := H1.out.2.2.2.2.2; simp at this ⊢; omega
  have hl3 : (ts1 ++ ss2).length ≤ 9223372036854775807 := by rw [← hss2]; have := H1.out.2.2.2.2.2; simp at this ⊢; omega
  rw [hss2] at hM
  have c0 := Mem.row_cell hM.rows.blk 0
  have c5 := Mem.row_cell hM.rows.blk 5
  have c7 := Mem.row_cell hM.rows.blk 7
  simp only [listArr, List.getElem?_toArray, List.getElem?_cons_zero, List.getElem?_cons_succ] at c0 c5 c7
  obtain ⟨⟨q, kq⟩, rest, hq⟩ := List.exists_cons_of_ne_nil hne
  subst hq
  replace c5 : w2.cell? ⟨b, 5, none⟩ = some (.pointer (some ⟨q, 0, none⟩)) := c5
  have HM := Lib.hid hM
  have HL := Lib.hid (And.intro hl2 hl3)
  clear hcall2 hr2 ho2 hM H1 hne hl2 hl3 hss2
  obtain ⟨L, hL⟩ : ∃ L : Nat, ((q, kq) :: rest).length = L := ⟨_, rfl⟩
  rw [hL] at c7
  have HLL := Lib.hid hL
  clear hL
  have hpull := pull_any HM.out.drew.rows HM.out.drew.kn (n := q) (k := kq) (by simp) (by have := HL.out.2; omega)
  by_cases hx : max s.most 0 < (L : Int)
  · have HX := Lib.hid hx
    have hx1 : s.most < (L : Int) := by omega
    have hx2 : (0 : Int) < (L : Int) := by omega
    have hx3 : 0 < L := by omega
    clear hx
    go_wp2_with fail
    go_region_held3 (fun W' : World => W'.cell? ⟨b, 7, none⟩ = some (.int .i64 (L : Nat)) ∧ W'.cell? ⟨b, 0, none⟩ = some (.int .i64 s.most)) (exact ⟨c7, c0⟩) (fail)
    all_goals go_wp2_with fail
    all_goals (
      refine hpull.mono ?_
      rintro e w3 ⟨rfl, ts2, ss2, hr3, ht3, hs3, hn3, ⟨ua', uc', ura', hnode3⟩, hi3, ho3⟩
      have hl4 : (ts2 ++ ss2).length + 1 ≤ 9223372036854775807 := by
        have := len_pulled (by simp) ht3 hs3
        have := HL.out.2
        omega
      have hpush := put_trial hr3 hnode3 hn3 hl4
      have hG : ∀ j, j ∈ (ts1 ++ (q, kq) :: rest).map (·.1) → j ∈ (ts ++ ss).map (·.1) := fun j hj => by
        obtain ⟨p, hp, rfl⟩ := List.mem_map.1 hj
        exact List.mem_map_of_mem ((HM.out.mem p).1 hp)
      have ho3' : Only (fun j => j = b ∨ j ∈ (ts ++ ss).map (·.1)) w w3 := HM.out.drew.only.trans (ho3.mono fun j hj => hj.imp id (hG j)) (Grows.refl _ _)
      have hq2 : q ∈ (ts ++ ss).map (·.1) := hG q (by simp)
      have hG2 : ∀ j, j ∈ (ts2 ++ ss2).map (·.1) → j ∈ (ts ++ ss).map (·.1) := fun j hj => by
        obtain ⟨p, hp, rfl⟩ := List.mem_map.1 hj
        exact hG _ (List.mem_map_of_mem ((hi3 p).1 hp).1)
      have H3 := Lib.hid (And.intro ht3 (And.intro hs3 (And.intro hi3 (And.intro ho3' (And.intro hq2 hG2)))))
      clear hr3 ht3 hs3 hn3 hnode3 hi3 ho3 hl4 ho3' hq2 hG2 hpull hG c0 c5 c7
      go_wp2_with fail
      refine hpush.mono ?_
      rintro e w4 ⟨rfl, hr4, ho4⟩
      have hres := HM.out.drew.hit1 (by rw [HLL.out]; exact HX.out) hr4 (H3.out.2.2.2.1.trans (ho4.mono fun j hj => by
        rcases hj with e | e | e
        · exact .inl e
        · exact .inr (e ▸ H3.out.2.2.2.2.1)
        · exact .inr (H3.out.2.2.2.2.2 j e)) (Grows.refl _ _)) H3.out.2.2.1 H3.out.1 H3.out.2.1
      have HR := Lib.hid hres
      clear hr4 ho4 hres hpush
      go_wp2_with fail
      go_ret
      exact HR.out)
  · have HX := Lib.hid hx
    have hL1 : 1 ≤ L := by rw [← HLL.out]; simp
    have hx1 : (L : Int) ≤ s.most := by omega
    have hx2 : (0 : Int) < s.most := by omega
    clear hx
    go_wp2_with fail
    go_region_held3 (fun W' : World => W'.cell? ⟨b, 7, none⟩ = some (.int .i64 (L : Nat)) ∧ W'.cell? ⟨b, 0, none⟩ = some (.int .i64 s.most)) (exact ⟨c7, c0⟩) (fail)
    all_goals (
      first | (exfalso; omega) | skip
      go_wp2_with fail
      go_ret
      exact HM.out.drew.hit0 (by rw [HLL.out]; exact Int.not_lt.2 HX.out))
end Go.Proofs.Ytpppknopbjpciaa.Slru
