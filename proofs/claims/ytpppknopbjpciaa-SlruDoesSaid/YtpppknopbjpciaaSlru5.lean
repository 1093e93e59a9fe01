/- Layer 8: the walks of Add, Remove. -/
import Derived.Test.YtpppknopbjpciaaSlru4
namespace Go.Proofs.Ytpppknopbjpciaa.Slru
open Go Go.RowKit Go.Proofs.Ytpppknopbjpciaa.Mem

def TurnPost (w : World) (b : Nat) (F : Nat → Prop) (y : Int × St) (e : Ending) (w' : World) : Prop := ∃ F', e = .returned (.int .i64 y.1) ∧ At w' b F' y.2 ∧ Only F w w' ∧ Grows w F F'
theorem node_lt {w : World} {b : Nat} {F : Nat → Prop} {s : St} {mb : Nat} {ts ss : List Nd} {ps : List (ByteArray × Value)} (h : AtW w b F s mb ts ss ps) : w.heap.size ∉ (ts ++ ss).map (·.1) := fun e => Nat.lt_irrefl _ (h.lt _ (h.fn _ e))

set_option maxHeartbeats 2000000 in
theorem add_any {w : World} {b : Nat} {F : Nat → Prop} {s : St} (h : At w b F s) (k : ByteArray) (hl : s.all.length + 1 ≤ 9223372036854775807) :
    Calls Try.prog 12 #[.pointer (some ⟨b, 0, none⟩), .string k] w (TurnPost w b F (s.add k)) := by
  have hat := h
  obtain ⟨mb, ts, ss, ps, h⟩ := h
  have c1 := Mem.row_cell h.rows.blk 1
  simp only [listArr, List.getElem?_toArray, List.getElem?_cons_zero, List.getElem?_cons_succ] at c1
  have hlk0 := Maps.run_lookup strLaw Try.underlying45 zeroNode h.map k
  by_cases hk : k ∈ s.all
  · obtain ⟨n, hm, hg⟩ := h.get_some hk
    rw [hg] at hlk0
    have hlk : ∀ _ : True, (Instr.lookup 45 (.map (some mb)) (.string k) false).run Try.prog w = .ok (.pointer (some ⟨n, 0, none⟩)) w := fun _ => hlk0
    have e : s.add k = (7, s) := by unfold St.add; rw [if_pos hk]
    have HF := Lib.hid (show TurnPost w b F (s.add k) (.returned (.int .i64 7)) w by rw [e]; exact ⟨F, rfl, hat, Only.refl _ _, Grows.refl _ _⟩)
    clear h hlk0 hk hm hg e hat hl
    go_enter Try.func12, Try.ntmps12
    go_wp2_with fail
    go_ret
    exact HF.out
  · have hg := h.get_none hk
    rw [hg] at hlk0
    have hlk : ∀ _ : True, (Instr.lookup 45 (.map (some mb)) (.string k) false).run Try.prog w = .ok (.pointer none) w := fun _ => hlk0
    obtain ⟨w1, hw1⟩ : ∃ w1, w.alloc (.cells #[.string k, .pointer none, .pointer none, .pointer none] 54) = w1 := ⟨_, rfl⟩
    have hs1 : ∀ j, j < w.heap.size → w1.heap[j]? = w.heap[j]? := fun j hj => by rw [← hw1]; exact Below.heap_alloc _ _ _ hj
    have hz1 : w1.heap.size = w.heap.size + 1 := by rw [← hw1]; simp
    have hn1 : w1.heap[w.heap.size]? = some (.cells #[.string k, .pointer none, .pointer none, .pointer none] 54 (0, 0)) := by rw [← hw1]; exact Mem.new_block w _
    have ho1 : Only F w w1 := by rw [← hw1]; exact (Only.refl _ _).alloc _
    have h1 := h.same (w' := w1) (fun j hj => hs1 j (h.lt j hj)) (by omega)
    obtain ⟨o, hmu, hIs⟩ := Maps.run_update (w := w1) strLaw Try.underlying45 h1.map k (.pointer (some ⟨w.heap.size, 0, none⟩))
    have hmu' : ∀ _ : True, (Instr.mapUpdate 45 (.map (some mb)) (.string k) (.pointer (some ⟨w.heap.size, 0, none⟩))).run Try.prog w1 = .ok () (w1.putObj mb o) := fun _ => hmu
    have hmo := h.map_off
    have hbl : b < w.heap.size := h.lt b h.fb
    have hml : mb < w.heap.size := h.lt mb h.fm
    have c1' := Mem.row_cell h1.rows.blk 1
    simp only [listArr, List.getElem?_toArray, List.getElem?_cons_zero, List.getElem?_cons_succ] at c1'
    have hR2 : Rows (w1.putObj mb o) b mb s.most ts ss := h1.rows.same fun j hj => World.putObj_heap_other (fun e => hj.elim (fun e2 => hmo.1 (e ▸ e2)) (fun e2 => hmo.2 (e ▸ e2)))
    have hn2 : (w1.putObj mb o).heap[w.heap.size]? = some (.cells #[.string k, .pointer none, .pointer none, .pointer none] 54 (0, 0)) := (World.putObj_heap_other (by omega)).trans hn1
    have hlen : (ts ++ ss).length + 1 ≤ 9223372036854775807 := by have := h.all; rw [this] at hl; simpa using hl
    have hcall := put_trial hR2 hn2 (node_lt h) hlen
    have ho2 : Only F w (w1.putObj mb o) := ho1.putObj (.inl h.fm) o
    have hz2 : (w1.putObj mb o).heap.size = w.heap.size + 1 := by rw [World.putObj_size, hz1]
    have HH := Lib.hid (And.intro h (And.intro hIs (And.intro hg (And.intro hk (And.intro ho2 hmo)))))
    clear hlk0 hg hk hat hl h h1 hmu hIs hmo hR2 hn2 ho1 ho2 hn1 hs1 hlen hbl hml
    go_enter Try.func12, Try.ntmps12
    go_upto_region 4 with (fail)
    go_wp2_with fail
    refine hcall.mono ?_
    rintro e w4 ⟨rfl, h4, o4⟩
    obtain ⟨h, hIs, hg, hk, ho2, hmo⟩ := HH.out
    have hps : Maps.set ps k (.pointer (some ⟨w.heap.size, 0, none⟩)) = ps ++ [(k, .pointer (some ⟨w.heap.size, 0, none⟩))] := set_new _ hg
    have hm4 : Maps.Is Value.string w4 mb (Maps.set ps k (.pointer (some ⟨w.heap.size, 0, none⟩))) := by
      refine hIs.same (o4.same mb (by have := h.lt mb h.fm; omega) fun e => ?_)
      rcases e with e | e | e
      · exact hmo.1 e
      · have := h.lt mb h.fm; omega
      · exact hmo.2 e
    have hz4 : w.heap.size + 1 ≤ w4.heap.size := by have := o4.size; omega
    have hka : k ∉ (ts ++ ss).map (·.2) := by rw [← h.all]; exact hk
    have hat4 : AtW w4 b (fun j => F j ∨ j = w.heap.size) { s with trial := s.trial ++ [k] } mb (ts ++ [(w.heap.size, k)]) ss (Maps.set ps k (.pointer (some ⟨w.heap.size, 0, none⟩))) := by
      refine ⟨h4, hm4, fun k' v => ?_, ?_, by rw [List.map_append, h.tr]; rfl, h.sf, ?_, .inl h.fb, .inl h.fm, fun j hj => ?_, fun j hj => ?_⟩
      · rw [get_set]
        by_cases e : k' = k
        · rw [if_pos e, e]
          constructor
          · intro e2; injection e2 with e2; exact ⟨_, by simp, e2.symm⟩
          · rintro ⟨n, hn, rfl⟩
            have : n = w.heap.size := by
              simp only [List.mem_append, List.mem_cons, List.not_mem_nil, or_false] at hn
              rcases hn with (hn | hn) | hn
              · exact absurd (List.mem_map.2 ⟨_, List.mem_append.2 (.inl hn), rfl⟩) hka
              · injection hn
              · exact absurd (List.mem_map.2 ⟨_, List.mem_append.2 (.inr hn), rfl⟩) hka
            rw [this]
        · rw [if_neg e, h.look]
          constructor
          · rintro ⟨n, hn, rfl⟩
            exact ⟨n, by simp only [List.mem_append] at hn ⊢; exact hn.elim (fun e => .inl (.inl e)) .inr, rfl⟩
          · rintro ⟨n, hn, rfl⟩
            refine ⟨n, ?_, rfl⟩
            simp only [List.mem_append, List.mem_cons, List.not_mem_nil, or_false] at hn ⊢
            rcases hn with (hn | hn) | hn
            · exact .inl hn
            · injection hn with _ hn; exact absurd hn e
            · exact .inr hn
      · rw [hps, List.map_append]
        exact List.nodup_append.2 ⟨h.pnd, by simp, fun a ha c hc => by
          have : c = k := by simpa using hc
          subst this
          exact fun e => get_none hg (e ▸ ha)⟩
      · have hp : (k :: s.all).Perm (s.trial ++ [k] ++ s.safe) := by
          unfold St.all
          rw [List.append_assoc]
          exact (List.perm_middle (a := k) (l₁ := s.trial) (l₂ := s.safe)).symm
        exact (hp.nodup_iff).1 (List.nodup_cons.2 ⟨hk, h.knd⟩)
      · simp only [List.map_append, List.mem_append, List.map_cons, List.map_nil, List.mem_cons, List.not_mem_nil, or_false] at hj
        rcases hj with (hj | hj) | hj
        · exact .inl (h.fn j (by simp only [List.map_append, List.mem_append]; exact .inl hj))
        · exact .inr hj
        · exact .inl (h.fn j (by simp only [List.map_append, List.mem_append]; exact .inr hj))
      · exact hj.elim (fun e => by have := h.lt j e; omega) (fun e => by omega)
    have hres : TurnPost w b F (s.add k) (.returned (.int .i64 0)) w4 := by
      have e : s.add k = (0, { s with trial := s.trial ++ [k] }) := by unfold St.add; rw [if_neg hk]
      rw [e]
      refine ⟨_, rfl, ⟨_, _, _, _, hat4⟩, ho2.trans o4 fun j hj => ?_, fun j hj => hj.elim .inl (fun e => .inr (by omega))⟩
      rcases hj with e | e | e
      · exact .inl (e ▸ h.fb)
      · exact .inr (by omega)
      · exact .inl (h.fn j e)
    have HR := Lib.hid hres
    clear h4 o4 hres hat4 hm4
    go_wp2_with fail
    go_ret
    exact HR.out
end Go.Proofs.Ytpppknopbjpciaa.Slru
