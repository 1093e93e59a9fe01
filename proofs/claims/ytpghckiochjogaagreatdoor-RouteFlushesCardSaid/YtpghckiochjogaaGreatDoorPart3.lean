/- Part3: ShardP, ShardQ, ExecS, Append, Item2, Exec1, ExecN, ExecP, ExecI, ShardC, Slru1, Slru2, one behind the other. -/
import Derived.Test.YtpghckiochjogaaGreatDoorPart2
import Derived.Lib.ParseIntB
import Derived.Lib.ItoaNum
import Derived.Test.YtpghckiochjogaaGreatDoorPart1
import Derived.Deep.AppendLies
import Derived.Laws.OwnMore
import Derived.WalkKit
import Derived.RegionTactic
import Derived.Deep.WholeRow
import Derived.Laws.CopyOwn
import Derived.Lib.ParseIntBCases
import Derived.Lib.ItoaLen
import Derived.Test.YtpghckiochjogaaGreatDoorProg
import Derived.StillTailTactics
import Derived.Deep.Cut
import Derived.Lib.Hide
import Derived.Deep.CutRange
/- Layer 11, plain: room, Store, Update, and what stays true of a shard. -/
namespace Go.Proofs.YtpghckiochjogaaGreatDoor.Shard
open Go
theorem remove_ent (s : St) (k : ByteArray) : (s.remove k).2.ent = s.ent := by unfold St.remove; split <;> rfl
theorem remove_drops (s : St) (k : ByteArray) : (s.remove k).2.drops = s.drops := by unfold St.remove; split <;> rfl
theorem remove_L (s : St) (k : ByteArray) (hr : Tab.Rising s.tab.L) : (s.remove k).2.tab.L = Tab.del s.tab.L k := by
  unfold St.remove
  rcases hg : Tab.get s.tab.L k with _ | x
  · show s.tab.L = _
    refine (List.filter_eq_self.2 fun p hp => ?_).symm
    refine decide_eq_true fun e => ?_
    have := (Tab.get_mem hr.nodup (k := k) (v := p.2)).2 (by rw [← e]; exact hp)
    rw [hg] at this; cases this
  · rfl
theorem find_ent (s : St) (k : ByteArray) (env : Env) : (s.find k env).2.ent = s.ent := by
  unfold St.find
  split
  · split
    · rfl
    · show (s.tick.remove k).2.ent = s.ent
      rw [remove_ent]; rfl
  · rfl
theorem find_some {s : St} {k : ByteArray} {env : Env} {x : Nat} (h : (s.find k env).1 = some x) : Tab.get s.tab.L k = some x ∧ (s.ent x).it.live env = true ∧ (s.find k env).2 = s.tick := by
  unfold St.find at h ⊢
  rcases hg : Tab.get s.tab.L k with _ | y
  · rw [hg] at h; cases h
  · rw [hg] at h
    simp only at h ⊢
    by_cases hl : (s.ent y).it.live env = true
    · rw [if_pos hl] at h ⊢
      injection h with h
      subst h
      exact ⟨rfl, hl, rfl⟩
    · rw [if_neg hl] at h; cases h
theorem find_none {s : St} {k : ByteArray} {env : Env} (h : (s.find k env).1 = none) : (Tab.get s.tab.L k = none ∧ (s.find k env).2 = s.tick) ∨ (∃ x, Tab.get s.tab.L k = some x ∧ (s.ent x).it.live env = false ∧ (s.find k env).2 = s.tick.drop k) := by
  unfold St.find at h ⊢
  rcases hg : Tab.get s.tab.L k with _ | y
  · exact .inl ⟨rfl, rfl⟩
  · rw [hg] at h
    simp only at h ⊢
    by_cases hl : (s.ent y).it.live env = true
    · rw [if_pos hl] at h; cases h
    · rw [if_neg hl]
      exact .inr ⟨y, rfl, by simpa using hl, rfl⟩
structure Inv (n N : Nat) (s : St) : Prop where
  slab : Slab.Good N s.slab
  rise : Tab.Rising s.tab.L
  keys : ∀ k, k ∈ s.order.all ↔ k ∈ s.tab.L.map (·.1)
  ond : s.order.all.Nodup
  ents : ∀ p ∈ s.tab.L, (s.ent p.2).it.key = p.1 ∧ p.1.size ≤ 2048 ∧ (s.ent p.2).it.size ≤ 2048 ∧ (s.ent p.2).chunk.1 = (Slab.classN (s.ent p.2).it.size : Nat)
  mem : s.slab.inn.Perm (s.tab.L.map fun p => (s.ent p.2).chunk)
  len : s.tab.L.length ≤ n
  dl : s.drops.length ≤ N
section
variable {n m N M : Nat} {s : St}
theorem Inv.mono (h : Inv n N s) (h1 : n ≤ m) (h2 : N ≤ M) : Inv m M s := ⟨h.slab.mono h2, h.rise, h.keys, h.ond, h.ents, h.mem, Nat.le_trans h.len h1, Nat.le_trans h.dl h2⟩
theorem Inv.olen (h : Inv n N s) : s.order.all.length = s.tab.L.length := by
  have := ((List.perm_ext_iff_of_nodup h.ond h.rise.nodup).2 h.keys).length_eq
  simpa using this
theorem Inv.tick (h : Inv n N s) : Inv n N s.tick := ⟨h.slab, h.rise, h.keys, h.ond, h.ents, h.mem, h.len, h.dl⟩
theorem Inv.emptied (h : Inv n N s) : Inv n N { s with drops := [] } := ⟨h.slab, h.rise, h.keys, h.ond, h.ents, h.mem, h.len, Nat.zero_le _⟩
theorem without_app (l m : List ByteArray) (k : ByteArray) : Slru.without (l ++ m) k = Slru.without l k ++ Slru.without m k := by unfold Slru.without; exact List.filter_append ..
theorem mem_without {l : List ByteArray} {k x : ByteArray} : x ∈ Slru.without l k ↔ x ∈ l ∧ x ≠ k := by unfold Slru.without; simp
theorem oremove_all {o : Slru.St} {k : ByteArray} (h : k ∈ o.all) : (o.remove k).2.all = Slru.without o.all k := by
  unfold Slru.St.remove
  rw [if_pos h]
  show Slru.without o.trial k ++ Slru.without o.safe k = _
  rw [← without_app]; rfl
theorem Rising.nd {L : Tab.Pairs Nat} (h : Tab.Rising L) : L.Nodup := by
  unfold Tab.Rising at h
  exact h.imp fun {a b} h (e : a = b) => Tab.ltK_ne h (by rw [e])
theorem del_perm {L : Tab.Pairs Nat} (h : Tab.Rising L) {k : ByteArray} {x : Nat} (hm : (k, x) ∈ L) : L.Perm ((k, x) :: Tab.del L k) := by
  refine (List.perm_ext_iff_of_nodup (Rising.nd h) (List.nodup_cons.2 ⟨fun e => (Tab.mem_del.1 e).2 rfl, (Rising.nd h).sublist List.filter_sublist⟩)).2 fun p => ?_
  rw [List.mem_cons, Tab.mem_del]
  constructor
  · intro hp
    by_cases e : p.1 = k
    · refine .inl ?_
      have h1 := (Tab.get_mem h.nodup (k := k) (v := x)).2 hm
      have h2 := (Tab.get_mem h.nodup (k := k) (v := p.2)).2 (by rw [← e]; exact hp)
      rw [h1] at h2
      injection h2 with h2
      rw [h2, ← e]
    · exact .inr ⟨hp, e⟩
  · rintro (rfl | hp)
    · exact hm
    · exact hp.1
theorem Inv.rest (h : Inv n N s) {k : ByteArray} {x : Nat} (hm : (k, x) ∈ s.tab.L) : (s.ent x).chunk ∈ s.slab.inn ∧ (s.slab.inn.erase (s.ent x).chunk).Perm ((Tab.del s.tab.L k).map fun p => (s.ent p.2).chunk) := by
  have hp := h.mem.trans ((del_perm h.rise hm).map fun p => (s.ent p.2).chunk)
  refine ⟨hp.mem_iff.2 (by simp), ?_⟩
  have := hp.erase (s.ent x).chunk
  simpa using this
theorem Inv.remove (h : Inv n N s) (k : ByteArray) : Inv n (N + 1) (s.remove k).2 := by
  unfold St.remove
  rcases hg : Tab.get s.tab.L k with _ | x
  · exact h.tick.mono (Nat.le_refl _) (by omega)
  · have hm := (Tab.get_mem h.rise.nodup).1 hg
    obtain ⟨h1, h2⟩ := h.rest hm
    have hk : k ∈ s.order.all := (h.keys k).2 (List.mem_map.2 ⟨_, hm, rfl⟩)
    obtain ⟨-, f1, -⟩ := Slab.free_in h1
    refine ⟨h.slab.free _, Tab.rising_del h.rise k, fun j => ?_, ?_, fun p hp => h.ents p (Tab.mem_del.1 hp).1, ?_, Nat.le_trans (List.length_filter_le _ _) h.len, Nat.le_succ_of_le h.dl⟩
    · show j ∈ (s.order.remove k).2.all ↔ j ∈ (Tab.del s.tab.L k).map (·.1)
      rw [oremove_all hk, mem_without, h.keys]
      simp only [List.mem_map, Tab.mem_del]
      constructor
      · rintro ⟨⟨p, hp, rfl⟩, hne⟩; exact ⟨p, ⟨hp, hne⟩, rfl⟩
      · rintro ⟨p, ⟨hp, hne⟩, rfl⟩; exact ⟨⟨p, hp, rfl⟩, hne⟩
    · show (s.order.remove k).2.all.Nodup
      rw [oremove_all hk]
      exact h.ond.sublist List.filter_sublist
    · show (s.slab.free (s.ent x).chunk).2.inn.Perm _
      rw [f1]; exact h2
theorem Inv.drop (h : Inv n N s) (k : ByteArray) : Inv n (N + 1) (s.drop k) := by
  have h1 := h.remove k
  have e := remove_drops s k
  exact ⟨h1.slab, h1.rise, h1.keys, h1.ond, h1.ents, h1.mem, h1.len, by show ((s.remove k).2.drops ++ [k]).length ≤ _; rw [e, List.length_append]; have := h.dl; simp; omega⟩
theorem Inv.find (h : Inv n N s) (k : ByteArray) (env : Env) : Inv n (N + 1) (s.find k env).2 := by
  unfold St.find
  split
  · split
    · exact h.tick.mono (Nat.le_refl _) (by omega)
    · exact h.tick.drop k
  · exact h.tick.mono (Nat.le_refl _) (by omega)
end
def St.room (it : Item) (old : Bool) (less : Int) (env : Env) : Nat → St → Int × St
  | 0, s => (5, s)
  | f + 1, s => if s.slab.fits it.size less = true then (0, s) else
    match s.order.victim it.key with
    | none => (5, s)
    | some v => match Tab.get s.tab.L v with
      | none => (5, s)
      | some x => if old = true ∨ (s.ent x).it.live env = false then St.room it old less env f (s.tick.drop v)
        else if s.judge.admit it.key.data.toList v.data.toList = true then St.room it old less env f (s.tick.drop v) else (8, s.tick)
def St.less (s : St) (old : Option Nat) : Int := match old with
  | some x => Slab.bytesI (s.ent x).chunk.1
  | none => 0
def St.fill (s : St) (x : Nat) (it : Item) : St := { s with slab := (s.slab.take it.size).2, ent := upd s.ent x ⟨it, (s.slab.take it.size).1.1⟩ }
def St.freed (s : St) (x : Nat) : St := { s with slab := (s.slab.free (s.ent x).chunk).2 }
def St.added (s : St) (k : ByteArray) (x : Nat) : St := { s with tab := s.tab.put k x, order := (s.order.add k).2 }
def St.stored (s : St) (old : Option Nat) (fresh : Nat) (it : Item) : St := match old with
  | some x => (s.freed x).fill x it
  | none => (s.added it.key fresh).fill fresh it
def St.store (s : St) (fresh : Nat) (it : Item) (env : Env) : Int × St :=
  if Slab.classN it.size = 6 then (4, s) else
    if (St.room it (s.find it.key env).1.isSome ((s.find it.key env).2.less (s.find it.key env).1) env ((s.find it.key env).2.order.all.length + 1) (s.find it.key env).2).1 = 0 then
      (0, (St.room it (s.find it.key env).1.isSome ((s.find it.key env).2.less (s.find it.key env).1) env ((s.find it.key env).2.order.all.length + 1) (s.find it.key env).2).2.stored (s.find it.key env).1 fresh it)
    else St.room it (s.find it.key env).1.isSome ((s.find it.key env).2.less (s.find it.key env).1) env ((s.find it.key env).2.order.all.length + 1) (s.find it.key env).2
def St.update (s : St) (it : Item) : Int × St := match Tab.get s.tab.L it.key with
  | none => (6, s.tick)
  | some x => if (s.ent x).it.val.length = it.val.length then (0, { s.tick with ent := upd s.ent x ⟨it, (s.ent x).chunk⟩ }) else (1, s.tick)
section
variable {n m N M : Nat} {s : St} {it : Item} {old : Bool} {less : Int} {env : Env}
theorem room_cases (f : Nat) (s : St) : (s.slab.fits it.size less = true ∧ St.room it old less env (f + 1) s = (0, s)) ∨ (s.slab.fits it.size less = false ∧ s.order.victim it.key = none ∧ St.room it old less env (f + 1) s = (5, s)) ∨
    (s.slab.fits it.size less = false ∧ ∃ v, s.order.victim it.key = some v ∧ v ≠ it.key ∧ v ∈ s.order.all ∧ ((Tab.get s.tab.L v = none ∧ St.room it old less env (f + 1) s = (5, s)) ∨ ∃ x, Tab.get s.tab.L v = some x ∧
      (((old = true ∨ (s.ent x).it.live env = false ∨ s.judge.admit it.key.data.toList v.data.toList = true) ∧ St.room it old less env (f + 1) s = St.room it old less env f (s.tick.drop v)) ∨
       (old = false ∧ (s.ent x).it.live env = true ∧ s.judge.admit it.key.data.toList v.data.toList = false ∧ St.room it old less env (f + 1) s = (8, s.tick))))) := by
  rw [St.room]
  by_cases hf : s.slab.fits it.size less = true
  · exact .inl ⟨hf, by rw [if_pos hf]⟩
  rw [if_neg hf]
  have hf' : s.slab.fits it.size less = false := by simpa using hf
  rcases hv : s.order.victim it.key with _ | v
  · exact .inr (.inl ⟨hf', rfl, rfl⟩)
  refine .inr (.inr ⟨hf', v, rfl, ?_, ?_, ?_⟩)
  · have := List.find?_some hv; simpa using this
  · exact List.mem_of_find?_eq_some hv
  · simp only
    rcases hg : Tab.get s.tab.L v with _ | x
    · exact .inl ⟨rfl, rfl⟩
    · refine .inr ⟨x, rfl, ?_⟩
      simp only
      by_cases h1 : old = true ∨ (s.ent x).it.live env = false
      · rw [if_pos h1]; exact .inl ⟨h1.elim .inl (fun h => .inr (.inl h)), rfl⟩
      · rw [if_neg h1]
        by_cases h2 : s.judge.admit it.key.data.toList v.data.toList = true
        · rw [if_pos h2]; exact .inl ⟨.inr (.inr h2), rfl⟩
        · rw [if_neg h2]
          refine .inr ⟨?_, ?_, by simpa using h2, rfl⟩
          · cases old <;> simp_all
          · cases hl : (s.ent x).it.live env <;> simp_all
theorem room_ind {P : Nat → St → Prop} (htick : ∀ f s, P f s → P f s.tick) (hdown : ∀ f s, P (f + 1) s → P f s)
    (hdrop : ∀ f s v x, P (f + 1) s → s.slab.fits it.size less = false → v ≠ it.key → v ∈ s.order.all → Tab.get s.tab.L v = some x → P f (s.tick.drop v)) : ∀ f s, P f s → P 0 (St.room it old less env f s).2
  | 0, s, h => h
  | f + 1, s, h => by
    have hz : ∀ f s, P f s → P 0 s := fun f => by
      induction f with
      | zero => exact fun s h => h
      | succ f ih => exact fun s h => ih s (hdown f s h)
    rcases room_cases (it := it) (old := old) (less := less) (env := env) f s with ⟨_, e⟩ | ⟨_, _, e⟩ | ⟨hf, v, hv, hne, hm, ⟨_, e⟩ | ⟨x, hx, ⟨_, e⟩ | ⟨_, _, _, e⟩⟩⟩
    · rw [e]; exact hz _ _ h
    · rw [e]; exact hz _ _ h
    · rw [e]; exact hz _ _ h
    · rw [e]; exact room_ind htick hdown hdrop f _ (hdrop f s v x h hf hne hm hx)
    · rw [e]; exact hz _ _ (htick _ _ h)
theorem Inv.room (h : Inv n N s) (f : Nat) : Inv n (N + f) (St.room it old less env f s).2 := by
  have := room_ind (it := it) (old := old) (less := less) (env := env) (P := fun g t => g ≤ f ∧ Inv n (N + (f - g)) t) (fun g t ht => ⟨ht.1, ht.2.tick⟩) (fun g t ht => ⟨by omega, ht.2.mono (Nat.le_refl _) (by omega)⟩)
    (fun g t v x ht _ _ _ _ => ⟨by omega, (ht.2.tick.drop v).mono (Nat.le_refl _) (by omega)⟩) f s ⟨Nat.le_refl _, by rw [Nat.sub_self]; exact h⟩
  exact this.2.mono (Nat.le_refl _) (by omega)
theorem room_fits : ∀ (f : Nat) (s : St), (St.room it old less env f s).1 = 0 → (St.room it old less env f s).2.slab.fits it.size less = true
  | 0, s, h => by cases h
  | f + 1, s, h => by
    rcases room_cases (it := it) (old := old) (less := less) (env := env) f s with ⟨h1, e⟩ | ⟨_, _, e⟩ | ⟨hf, v, hv, hne, hm, ⟨_, e⟩ | ⟨x, hx, ⟨_, e⟩ | ⟨_, _, _, e⟩⟩⟩
    · rw [e]; exact h1
    · rw [e] at h; cases h
    · rw [e] at h; cases h
    · rw [e] at h ⊢; exact room_fits f _ h
    · rw [e] at h; cases h
theorem drop_ent (s : St) (k : ByteArray) : (s.drop k).ent = s.ent := remove_ent s k
theorem drop_L (s : St) (k : ByteArray) (hr : Tab.Rising s.tab.L) : (s.drop k).tab.L = Tab.del s.tab.L k := remove_L s k hr
theorem room_ent (f : Nat) (s : St) : (St.room it old less env f s).2.ent = s.ent :=
  room_ind (it := it) (old := old) (less := less) (env := env) (P := fun _ t => t.ent = s.ent) (fun _ _ h => h) (fun _ _ h => h) (fun _ t v _ h _ _ _ _ => (drop_ent t.tick v).trans h) f s rfl
theorem room_key (f : Nat) (s : St) (hr : Tab.Rising s.tab.L) : Tab.Rising (St.room it old less env f s).2.tab.L ∧ (∀ p : ByteArray × Nat, p ∈ (St.room it old less env f s).2.tab.L → p ∈ s.tab.L) ∧ (∀ p : ByteArray × Nat, p.1 = it.key → p ∈ s.tab.L → p ∈ (St.room it old less env f s).2.tab.L) :=
  room_ind (it := it) (old := old) (less := less) (env := env) (P := fun _ t => Tab.Rising t.tab.L ∧ (∀ p : ByteArray × Nat, p ∈ t.tab.L → p ∈ s.tab.L) ∧ (∀ p : ByteArray × Nat, p.1 = it.key → p ∈ s.tab.L → p ∈ t.tab.L)) (fun _ _ h => h) (fun _ _ h => h)
    (fun _ t v _ ⟨h1, h2, h3⟩ _ hne _ _ => by
      rw [drop_L t.tick v h1]
      exact ⟨Tab.rising_del h1 v, fun p hp => h2 p (Tab.mem_del.1 hp).1, fun p e hp => Tab.mem_del.2 ⟨h3 p e hp, fun e1 => hne (e1.symm.trans e)⟩⟩) f s ⟨hr, fun _ h => h, fun _ _ h => h⟩
theorem fits_true {t : Slab.St} {size less : Int} (h : t.fits size less = true) : Slab.classN size < 6 ∧ 0 ≤ less ∧ less ≤ t.used ∧ t.used - less + Slab.bytesI (Slab.classN size) ≤ t.budget := by
  unfold Slab.St.fits at h
  exact of_decide_eq_true h
theorem take_ok {t : Slab.St} (h : Slab.Good N t) {size : Int} (h6 : Slab.classN size < 6) (hu : t.used + Slab.bytesI (Slab.classN size) ≤ t.budget) : ∃ nn, (t.take size).1 = ((((Slab.classN size : Nat) : Int), nn), 0) ∧ (t.take size).2.inn = t.inn ++ [(((Slab.classN size : Nat) : Int), nn)] ∧ (t.take size).2.used = t.used + Slab.bytesI (Slab.classN size) ∧ (t.take size).2.budget = t.budget := by
  obtain ⟨cc, nn, ee, h1, ⟨h2, -⟩ | ⟨h2, h3, h4, h5, h6', h7, h8, h9⟩⟩ := h.take_two size
  · exfalso
    rcases Slab.take_cases t size with ⟨e6, _⟩ | ⟨_, hx, _⟩ | ⟨_, _, e⟩
    · omega
    · omega
    · rw [e] at h1
      injection h1 with _ h1
      rw [← h1] at h2
      rcases h2 with h2 | h2 <;> cases h2
  · subst h4 h2
    exact ⟨nn, h1, h7, h8, h9⟩
theorem put_perm {L : Tab.Pairs Nat} (h : Tab.Rising L) {k : ByteArray} {x : Nat} (hk : k ∉ L.map (·.1)) : (Tab.put L k x).Perm ((k, x) :: L) := by
  refine (List.perm_ext_iff_of_nodup (Rising.nd (Tab.rising_put h k x)) (List.nodup_cons.2 ⟨fun e => hk (List.mem_map.2 ⟨_, e, rfl⟩), Rising.nd h⟩)).2 fun p => ?_
  rw [Tab.mem_put h, List.mem_cons]
  exact ⟨fun e => e.elim .inl (fun e => .inr e.1), fun e => e.elim .inl (fun e => .inr ⟨e, fun e1 => hk (List.mem_map.2 ⟨p, e, e1⟩)⟩)⟩
theorem size_class {z : Int} (h : Slab.classN z < 6) : z ≤ 2048 := by
  unfold Slab.classN at h
  repeat' split at h
  all_goals omega
theorem map_upd {L : Tab.Pairs Nat} {f : Nat → Ent} {x : Nat} {v : Ent} (h : ∀ p ∈ L, p.2 ≠ x) : (L.map fun p => (upd f x v p.2).chunk) = L.map fun p => (f p.2).chunk :=
  List.map_congr_left fun p hp => by rw [upd_other _ _ (h p hp)]
theorem Inv.fillNew (h : Inv n N s) {x : Nat} (hx : ∀ p ∈ s.tab.L, p.2 ≠ x) (hk : it.key ∉ s.tab.L.map (·.1)) (hks : it.key.size ≤ 2000000) (h6 : Slab.classN it.size < 6) (hu : s.slab.used + Slab.bytesI (Slab.classN it.size) ≤ s.slab.budget) :
    Inv (n + 1) (N + 1) ((s.added it.key x).fill x it) := by
  obtain ⟨nn, h1, h2, h3, h4⟩ := take_ok h.slab h6 hu
  have hka : it.key ∉ s.order.all := fun e => hk ((h.keys _).1 e)
  have hall : (s.order.add it.key).2.all.Perm (it.key :: s.order.all) := by
    unfold Slru.St.add
    rw [if_neg hka]
    show ((s.order.trial ++ [it.key]) ++ s.order.safe).Perm _
    rw [List.append_assoc]
    exact List.perm_middle
  have hL : ((s.added it.key x).fill x it).tab.L = Tab.put s.tab.L it.key x := Tab.put_L _ _ _
  refine ⟨h.slab.take it.size, by rw [hL]; exact Tab.rising_put h.rise _ _, fun j => ?_, hall.nodup_iff.2 (List.nodup_cons.2 ⟨hka, h.ond⟩), fun p hp => ?_, ?_, ?_, Nat.le_succ_of_le h.dl⟩
  · rw [hL, ((put_perm h.rise hk).map (·.1)).mem_iff]
    show j ∈ (s.order.add it.key).2.all ↔ _
    rw [hall.mem_iff, List.mem_cons, List.map_cons, List.mem_cons, h.keys]
  · rw [hL, Tab.mem_put h.rise] at hp
    show (upd s.ent x _ p.2).it.key = p.1 ∧ _ ∧ (upd s.ent x _ p.2).it.size ≤ 2048 ∧ (upd s.ent x _ p.2).chunk.1 = (Slab.classN (upd s.ent x _ p.2).it.size : Nat)
    rcases hp with rfl | ⟨hp, _⟩
    · rw [upd_same]
      refine ⟨rfl, (by show it.key.size ≤ 2048; have := size_class h6; unfold Item.size at this; omega), size_class h6, ?_⟩
      show (s.slab.take it.size).1.1.1 = _
      rw [h1]
    · rw [upd_other _ _ (hx p hp)]; exact h.ents p hp
  · rw [hL]
    show (s.slab.take it.size).2.inn.Perm ((Tab.put s.tab.L it.key x).map fun p => (upd s.ent x ⟨it, (s.slab.take it.size).1.1⟩ p.2).chunk)
    refine List.Perm.trans ?_ ((put_perm h.rise hk).map _).symm
    rw [List.map_cons, map_upd hx, h2, h1]
    simp only [upd_same]
    exact (List.perm_append_singleton _ _).trans (h.mem.cons _)
  · rw [hL, Tab.put_len_new h.rise x hk]; have := h.len; omega
theorem Inv.apart (h : Inv n N s) {k : ByteArray} {x : Nat} (hm : (k, x) ∈ s.tab.L) : ∀ p ∈ Tab.del s.tab.L k, p.2 ≠ x := fun p hp e => by
  rw [Tab.mem_del] at hp
  have h1 := (h.ents p hp.1).1
  have h2 := (h.ents _ hm).1
  simp only at h2
  rw [e, h2] at h1
  exact hp.2 h1.symm
theorem Inv.fillOld (h : Inv n N s) {x : Nat} (hm : (it.key, x) ∈ s.tab.L) (h6 : Slab.classN it.size < 6) (hu : s.slab.used - Slab.bytesI (s.ent x).chunk.1 + Slab.bytesI (Slab.classN it.size) ≤ s.slab.budget) :
    Inv n (N + 2) ((s.freed x).fill x it) := by
  obtain ⟨g1, g2⟩ := h.rest hm
  obtain ⟨-, f1, f2, f3⟩ := Slab.free_in g1
  obtain ⟨nn, h1, h2, h3, h4⟩ := take_ok (h.slab.free (s.ent x).chunk) h6 (by rw [f2, f3]; exact hu)
  have hap := h.apart hm
  refine ⟨(h.slab.free _).take it.size, h.rise, h.keys, h.ond, fun p hp => ?_, ?_, h.len, Nat.le_trans h.dl (by omega)⟩
  · show (upd s.ent x ⟨it, ((s.slab.free (s.ent x).chunk).2.take it.size).1.1⟩ p.2).it.key = p.1 ∧ _ ∧ (upd s.ent x ⟨it, ((s.slab.free (s.ent x).chunk).2.take it.size).1.1⟩ p.2).it.size ≤ 2048 ∧ (upd s.ent x ⟨it, ((s.slab.free (s.ent x).chunk).2.take it.size).1.1⟩ p.2).chunk.1 = (Slab.classN (upd s.ent x ⟨it, ((s.slab.free (s.ent x).chunk).2.take it.size).1.1⟩ p.2).it.size : Nat)
    have h0 := h.ents p hp
    by_cases e : p.2 = x
    · rw [e, upd_same]
      have hk := (h.ents _ hm).1
      simp only at hk
      rw [e, hk] at h0
      exact ⟨h0.1, h0.2.1, size_class h6, by rw [h1]⟩
    · rw [upd_other _ _ e]; exact h0
  · show ((s.slab.free (s.ent x).chunk).2.take it.size).2.inn.Perm (s.tab.L.map fun p => (upd s.ent x ⟨it, ((s.slab.free (s.ent x).chunk).2.take it.size).1.1⟩ p.2).chunk)
    refine List.Perm.trans ?_ ((del_perm h.rise hm).map _).symm
    rw [List.map_cons, map_upd hap, h2, f1, h1]
    simp only [upd_same]
    exact (List.perm_append_singleton _ _).trans (g2.cons _)
theorem less_at (s t : St) (he : t.ent = s.ent) (o : Option Nat) : t.less o = s.less o := by unfold St.less; rw [he]
theorem Inv.stored (h : Inv n N s) (hks : it.key.size ≤ 2000000) {old : Option Nat} {fresh : Nat} (hold : ∀ x, old = some x → (it.key, x) ∈ s.tab.L) (hnew : old = none → it.key ∉ s.tab.L.map (·.1)) (hf : ∀ p ∈ s.tab.L, p.2 ≠ fresh) (hfit : s.slab.fits it.size (s.less old) = true) :
    Inv (n + 1) (N + 2) (s.stored old fresh it) := by
  obtain ⟨h6, h0, h1, h2⟩ := fits_true hfit
  cases old with
  | some x => exact (h.fillOld (hold x rfl) h6 (by simpa [St.less] using h2)).mono (by omega) (Nat.le_refl _)
  | none => exact (h.fillNew hf (hnew rfl) hks h6 (by simpa [St.less] using h2)).mono (Nat.le_refl _) (by omega)
theorem get_none {L : Tab.Pairs Nat} (h : Tab.Rising L) {k : ByteArray} (hg : Tab.get L k = none) : k ∉ L.map (·.1) := fun hm => by
  obtain ⟨p, hp, rfl⟩ := List.mem_map.1 hm
  have := (Tab.get_mem h.nodup (k := p.1) (v := p.2)).2 hp
  rw [hg] at this; cases this
theorem find_key (h : Inv n N s) (k : ByteArray) (env : Env) : (∀ x, (s.find k env).1 = some x → (k, x) ∈ (s.find k env).2.tab.L) ∧ ((s.find k env).1 = none → k ∉ (s.find k env).2.tab.L.map (·.1)) ∧ (∀ p, p ∈ (s.find k env).2.tab.L → p ∈ s.tab.L) := by
  refine ⟨fun x hx => ?_, fun hx => ?_, fun p hp => ?_⟩
  · obtain ⟨h1, h2, h3⟩ := find_some hx
    rw [h3]
    exact (Tab.get_mem h.rise.nodup).1 h1
  · rcases find_none hx with ⟨h1, h2⟩ | ⟨x, h1, h2, h3⟩
    · rw [h2]; exact get_none h.rise h1
    · rw [h3, drop_L s.tick k h.rise]
      intro hm
      obtain ⟨p, hp, rfl⟩ := List.mem_map.1 hm
      exact (Tab.mem_del.1 hp).2 rfl
  · rcases hx : (s.find k env).1 with _ | x
    · rcases find_none hx with ⟨h1, h2⟩ | ⟨x, h1, h2, h3⟩
      · rw [h2] at hp; exact hp
      · rw [h3, drop_L s.tick k h.rise] at hp; exact (Tab.mem_del.1 hp).1
    · obtain ⟨h1, h2, h3⟩ := find_some hx
      rw [h3] at hp; exact hp
theorem Inv.store (h : Inv n N s) (hks : it.key.size ≤ 2000000) {fresh : Nat} (hf : ∀ p ∈ s.tab.L, p.2 ≠ fresh) : Inv (n + 1) (N + n + 4) (s.store fresh it env).2 := by
  unfold St.store
  by_cases h6 : Slab.classN it.size = 6
  · rw [if_pos h6]; exact h.mono (by omega) (by omega)
  rw [if_neg h6]
  have h1 := h.find it.key env
  obtain ⟨k1, k2, k3⟩ := find_key h it.key env
  have hlen := h1.olen
  have hl1 := h1.len
  generalize s.find it.key env = y at *
  have h2 := h1.room (it := it) (old := y.1.isSome) (less := y.2.less y.1) (env := env) (y.2.order.all.length + 1)
  have hft := room_fits (it := it) (old := y.1.isSome) (less := y.2.less y.1) (env := env) (y.2.order.all.length + 1) y.2
  have hke := room_key (it := it) (old := y.1.isSome) (less := y.2.less y.1) (env := env) (y.2.order.all.length + 1) y.2 h1.rise
  have hen := room_ent (it := it) (old := y.1.isSome) (less := y.2.less y.1) (env := env) (y.2.order.all.length + 1) y.2
  generalize St.room it y.1.isSome (y.2.less y.1) env (y.2.order.all.length + 1) y.2 = z at *
  by_cases h0 : z.1 = 0
  · rw [if_pos h0]
    refine (h2.stored hks (fun x e => hke.2.2 _ rfl (k1 x e)) (fun e hm => ?_) (fun p hp => hf p (k3 p (hke.2.1 p hp))) (by rw [less_at y.2 z.2 hen]; exact hft h0)).mono (Nat.le_refl _) (by omega)
    obtain ⟨p, hp, e1⟩ := List.mem_map.1 hm
    exact k2 e (List.mem_map.2 ⟨p, hke.2.1 p hp, e1⟩)
  · rw [if_neg h0]
    exact h2.mono (by omega) (by omega)
theorem Inv.update (h : Inv n N s) (it : Item) : Inv n N (s.update it).2 := by
  unfold St.update
  rcases hg : Tab.get s.tab.L it.key with _ | x
  · exact h.tick
  · simp only
    have hm := (Tab.get_mem h.rise.nodup).1 hg
    by_cases hl : (s.ent x).it.val.length = it.val.length
    · rw [if_pos hl]
      have hz : it.size = (s.ent x).it.size := by
        have hk := (h.ents _ hm).1
        simp only at hk
        unfold Item.size
        rw [hk, hl]
      refine ⟨h.slab, h.rise, h.keys, h.ond, fun p hp => ?_, ?_, h.len, h.dl⟩
      · have h0 := h.ents p hp
        show (upd s.ent x ⟨it, (s.ent x).chunk⟩ p.2).it.key = p.1 ∧ _ ∧ (upd s.ent x ⟨it, (s.ent x).chunk⟩ p.2).it.size ≤ 2048 ∧ (upd s.ent x ⟨it, (s.ent x).chunk⟩ p.2).chunk.1 = (Slab.classN (upd s.ent x ⟨it, (s.ent x).chunk⟩ p.2).it.size : Nat)
        by_cases e : p.2 = x
        · rw [e, upd_same]
          have hk := (h.ents _ hm).1
          simp only at hk
          rw [e, hk] at h0
          exact ⟨h0.1, h0.2.1, by rw [hz]; exact h0.2.2.1, by rw [hz]; exact h0.2.2.2⟩
        · rw [upd_other _ _ e]; exact h0
      · refine h.mem.trans (List.Perm.of_eq (List.map_congr_left fun p hp => ?_))
        show _ = (upd s.ent x ⟨it, (s.ent x).chunk⟩ p.2).chunk
        by_cases e : p.2 = x
        · rw [e, upd_same]
        · rw [upd_other _ _ e]
    · rw [if_neg hl]; exact h.tick
end
end Go.Proofs.YtpghckiochjogaaGreatDoor.Shard

/- Layer 11, plain: what a store comes to; budgets; drops. -/
namespace Go.Proofs.YtpghckiochjogaaGreatDoor.Shard
open Go
def St.new (seed budget protect : Int) : St := ⟨Tab.new, fun _ => ⟨⟨ByteArray.empty, [], 0, 0, 0, 0, 0, false, false, false⟩, (0, 0)⟩, Slab.new budget, Slru.new protect, Tiny.new seed, []⟩
theorem Inv.new (seed budget protect : Int) (h : -9223372036854775808 ≤ budget ∧ budget ≤ 9223372036854775807) : Inv 0 0 (St.new seed budget protect) :=
  ⟨Slab.Good.new budget h, List.Pairwise.nil, fun k => ⟨fun h => (by cases h), fun h => (by cases h)⟩, List.nodup_nil, fun p h => (by cases h), List.Perm.refl _, Nat.le_refl _, Nat.le_refl _⟩
section
variable {n m N M : Nat} {s t : St} {it : Item} {old : Option Nat} {less : Int} {env : Env} {fresh : Nat} {B : Int} {k : ByteArray}
structure Ready (n N : Nat) (it : Item) (old : Option Nat) (t : St) : Prop where
  inv : Inv n N t
  hold : ∀ x, old = some x → (it.key, x) ∈ t.tab.L
  hnew : old = none → it.key ∉ t.tab.L.map (·.1)
  fits : t.slab.fits it.size (t.less old) = true
def St.roomed (s : St) (it : Item) (env : Env) : Int × St := St.room it (s.find it.key env).1.isSome ((s.find it.key env).2.less (s.find it.key env).1) env ((s.find it.key env).2.order.all.length + 1) (s.find it.key env).2
theorem store_two (h : Inv n N s) (it : Item) (env : Env) (fresh : Nat) : (Slab.classN it.size = 6 ∧ s.store fresh it env = (4, s)) ∨
    (Slab.classN it.size < 6 ∧ Inv n (N + n + 2) (s.roomed it env).2 ∧ (∀ p, p ∈ (s.roomed it env).2.tab.L → p ∈ s.tab.L) ∧
      (((s.roomed it env).1 = 0 ∧ Ready n (N + n + 2) it (s.find it.key env).1 (s.roomed it env).2 ∧ s.store fresh it env = (0, (s.roomed it env).2.stored (s.find it.key env).1 fresh it)) ∨
       ((s.roomed it env).1 ≠ 0 ∧ s.store fresh it env = s.roomed it env))) := by
  have hc := Slab.class_six it.size
  have e0 : s.store fresh it env = if Slab.classN it.size = 6 then (4, s) else if (s.roomed it env).1 = 0 then (0, (s.roomed it env).2.stored (s.find it.key env).1 fresh it) else s.roomed it env := rfl
  rw [e0]
  by_cases h6 : Slab.classN it.size = 6
  · rw [if_pos h6]; exact .inl ⟨h6, rfl⟩
  rw [if_neg h6]
  refine .inr ⟨by omega, ?_⟩
  unfold St.roomed
  have h1 := h.find it.key env
  obtain ⟨k1, k2, k3⟩ := find_key h it.key env
  have hlen := h1.olen
  have hl1 := h1.len
  generalize s.find it.key env = y at *
  have h2 := h1.room (it := it) (old := y.1.isSome) (less := y.2.less y.1) (env := env) (y.2.order.all.length + 1)
  have hft := room_fits (it := it) (old := y.1.isSome) (less := y.2.less y.1) (env := env) (y.2.order.all.length + 1) y.2
  have hke := room_key (it := it) (old := y.1.isSome) (less := y.2.less y.1) (env := env) (y.2.order.all.length + 1) y.2 h1.rise
  have hen := room_ent (it := it) (old := y.1.isSome) (less := y.2.less y.1) (env := env) (y.2.order.all.length + 1) y.2
  generalize St.room it y.1.isSome (y.2.less y.1) env (y.2.order.all.length + 1) y.2 = z at *
  have h3 : Inv n (N + n + 2) z.2 := h2.mono (Nat.le_refl _) (by omega)
  refine ⟨h3, fun p hp => k3 p (hke.2.1 p hp), ?_⟩
  by_cases h0 : z.1 = 0
  · rw [if_pos h0]
    refine .inl ⟨h0, ⟨h3, fun x e => hke.2.2 _ rfl (k1 x e), fun e hm => ?_, by rw [less_at y.2 z.2 hen]; exact hft h0⟩, rfl⟩
    obtain ⟨p, hp, e1⟩ := List.mem_map.1 hm
    exact k2 e (List.mem_map.2 ⟨p, hke.2.1 p hp, e1⟩)
  · rw [if_neg h0]; exact .inr ⟨h0, rfl⟩
theorem Ready.there (h : Ready n N it old t) : ∃ y, (it.key, y) ∈ (t.stored old fresh it).tab.L ∧ ((t.stored old fresh it).ent y).it = it := by
  cases old with
  | some x =>
    refine ⟨x, h.hold x rfl, ?_⟩
    show (upd t.ent x _ x).it = it
    rw [upd_same]
  | none =>
    refine ⟨fresh, ?_, ?_⟩
    · show _ ∈ (t.tab.put it.key fresh).L
      rw [Tab.put_L, Tab.mem_put h.inv.rise]
      exact .inl rfl
    · show (upd t.ent fresh _ fresh).it = it
      rw [upd_same]
structure Cap (B : Int) (s : St) : Prop where
  budget : s.slab.budget = B
  used : s.slab.used ≤ max B 0
theorem slab_free_le (x : Slab.St) (c : Int × Int) : (x.free c).2.budget = x.budget ∧ (x.free c).2.used ≤ x.used := by
  unfold Slab.St.free
  split
  · have := (Slab.bytes_range c.1).1
    exact ⟨rfl, by show x.used - _ ≤ x.used; omega⟩
  · exact ⟨rfl, Int.le_refl _⟩
theorem Cap.new (seed budget protect : Int) : Cap budget (St.new seed budget protect) := ⟨rfl, by show (0 : Int) ≤ _; omega⟩
theorem Cap.tick (h : Cap B s) : Cap B s.tick := ⟨h.budget, h.used⟩
theorem Cap.remove (h : Cap B s) (k : ByteArray) : Cap B (s.remove k).2 := by
  unfold St.remove
  split
  · rename_i x _
    obtain ⟨h1, h2⟩ := slab_free_le s.slab (s.ent x).chunk
    exact ⟨h1.trans h.budget, Int.le_trans h2 h.used⟩
  · exact h.tick
theorem Cap.drop (h : Cap B s) (k : ByteArray) : Cap B (s.drop k) := ⟨(h.remove k).budget, (h.remove k).used⟩
theorem Cap.find (h : Cap B s) (k : ByteArray) (env : Env) : Cap B (s.find k env).2 := by
  unfold St.find
  split
  · split
    · exact h.tick
    · exact h.tick.drop k
  · exact h.tick
def cnt (l : List ByteArray) (k : ByteArray) : Nat := (l.filter fun x => decide (x = k)).length
end
end Go.Proofs.YtpghckiochjogaaGreatDoor.Shard

/- Layer 12, plain: what a command does to a shard. -/
namespace Go.Proofs.YtpghckiochjogaaGreatDoor.Exec
open Go Go.Proofs.YtpghckiochjogaaGreatDoor.Shard
structure Cmd where
  op : Int
  key : ByteArray
  val : List UInt8
  flags : Int
  exp : Int
  cas : Int
  delta : Int
  initial : Int
  makes : Bool
  sets : Bool
structure Res where
  status : Int
  val : List UInt8
  flags : Int
  cas : Int
  ttl : Int
  number : Int
  stale : Bool
  won : Bool
  lost : Bool
deriving DecidableEq
def Cmd.arr (c : Cmd) (v : Value) : Array Value := #[.int .i64 c.op, .string c.key, v, .int .u32 c.flags, .int .i64 c.exp, .int .u64 c.cas, .int .u64 c.delta, .int .u64 c.initial, .bool c.makes, .bool c.sets]
def Res.arr (r : Res) (v : Value) : Array Value := #[.int .i64 r.status, v, .int .u32 r.flags, .int .u64 r.cas, .int .i64 r.ttl, .int .u64 r.number, .bool r.stale, .bool r.won, .bool r.lost]
def only (k : Int) : Res := ⟨k, [], 0, 0, 0, 0, false, false, false⟩
def atS (exp now : Int) : Int := if exp = 0 then 0 else if exp < 0 then max now 1 else if exp ≤ 2592000 then IntKind.i64.wrap (max now 1 + exp) else exp
def ttlS (it : Shard.Item) (now : Int) : Int := if it.exp = 0 then -1 else if it.exp ≤ now then 0 else IntKind.i64.wrap (it.exp - now)
def view (it : Shard.Item) (env : Env) : Res := ⟨0, it.val, it.flags, it.cas, ttlS it env.now, 0, it.stale, false, false⟩
def freshI (c : Cmd) (env : Env) (v : List UInt8) (flags exp : Int) : Shard.Item := ⟨c.key, v, flags, exp, IntKind.u64.wrap (env.seq + 1), env.now, env.seq, false, false, false⟩
def storeR (it : Shard.Item) (z : Int) : Res := if z = 0 then { only 2 with cas := it.cas } else if z = 8 then only 3 else only 9
def doStore (env : Env) (it : Shard.Item) (f : Nat) (s : St) : Res × St := (storeR it (s.store f it env).1, (s.store f it env).2)
def showS (n : Nat) : List UInt8 := Lib.decDigits n
def decS (l : List UInt8) : Option Nat := if 40 < l.length ∨ l.head? = some 43 then none else match Lib.parseUintB 64 l with
  | .ok v => some v
  | _ => none
def number (c : Cmd) (env : Env) (n : Nat) (flags exp : Int) (f : Nat) (s : St) : Res × St :=
  if (doStore env (freshI c env (showS n) flags exp) f s).1.status = 2 then ({ (doStore env (freshI c env (showS n) flags exp) f s).1 with status := 7, number := n }, (doStore env (freshI c env (showS n) flags exp) f s).2) else doStore env (freshI c env (showS n) flags exp) f s
def winI (c : Cmd) (env : Env) : Shard.Item := freshI c env [] 0 (atS c.exp env.now)
def win (c : Cmd) (env : Env) (f : Nat) (s : St) : Res × St :=
  if (doStore env (winI c env) f s).1.status = 2 then ({ view { winI c env with won := true } env with won := true }, ((doStore env (winI c env) f s).2.update { winI c env with won := true }).2) else (only 1, (doStore env (winI c env) f s).2)
def without (c : Cmd) (env : Env) (f : Nat) (s : St) : Res × St :=
  if c.op = 5 ∨ c.op = 6 ∨ c.op = 7 then (only 3, s)
  else if c.op = 3 ∧ c.cas ≠ 0 then (only 1, s)
  else if c.op = 3 ∨ c.op = 4 then doStore env (freshI c env c.val c.flags (atS c.exp env.now)) f s
  else if (c.op = 10 ∨ c.op = 11) ∧ c.makes = true then number c env c.initial.toNat 0 (atS c.exp env.now) f s
  else if c.op = 12 ∧ c.makes = true then win c env f s
  else (only 1, s)
def metaI (c : Cmd) (env : Env) (it : Shard.Item) : Shard.Item := if c.sets then { it with exp := atS c.exp env.now } else it
def metaS (c : Cmd) (env : Env) (it : Shard.Item) (s : St) : Res × St :=
  ({ view (metaI c env it) env with lost := it.won, won := it.stale && !it.won }, (s.update { metaI c env it with seen := true, won := it.won || it.stale }).2)
def reckon (c : Cmd) (env : Env) (it : Shard.Item) (f : Nat) (s : St) : Res × St := match decS it.val with
  | none => (only 8, s)
  | some n => if 20 < it.val.length then (only 8, s) else if c.op = 10 then number c env (IntKind.u64.wrap (n + c.delta)).toNat it.flags it.exp f s else number c env (n - min n c.delta.toNat) it.flags it.exp f s
def join (c : Cmd) (env : Env) (it : Shard.Item) (a b : List UInt8) (f : Nat) (s : St) : Res × St :=
  if 1000 < a.length + b.length then (only 9, s) else doStore env (freshI c env (a ++ b) it.flags it.exp) f s
def staleI (c : Cmd) (env : Env) (it : Shard.Item) : Shard.Item := { it with stale := true, won := false, cas := IntKind.u64.wrap (env.seq + 1), exp := if c.sets then atS c.exp env.now else it.exp }
def withI (c : Cmd) (env : Env) (it : Shard.Item) (f : Nat) (s : St) : Res × St :=
  if c.op = 0 then (view { it with seen := true } env, (s.update { it with seen := true }).2)
  else if c.op = 1 then (view { it with seen := true, exp := atS c.exp env.now } env, (s.update { it with seen := true, exp := atS c.exp env.now }).2)
  else if c.op = 2 then (only 6, (s.update { it with exp := atS c.exp env.now }).2)
  else if c.op = 12 then metaS c env it s
  else if c.op = 4 then (only 3, s)
  else if c.cas ≠ 0 ∧ c.cas ≠ it.cas then (only 4, s)
  else if c.op = 3 ∨ c.op = 5 then doStore env (freshI c env c.val c.flags (atS c.exp env.now)) f s
  else if c.op = 6 then join c env it it.val c.val f s
  else if c.op = 7 then join c env it c.val it.val f s
  else if c.op = 9 then (only 5, (s.update (staleI c env it)).2)
  else if c.op = 8 then (only 5, (s.remove c.key).2)
  else reckon c env it f s
def keyed (op : Int) : Bool := decide (0 ≤ op ∧ op ≤ 12)
def used (s : St) (k : ByteArray) : St := { s with judge := s.judge.touch k.data.toList, order := (s.order.hit k).2 }
def run (c : Cmd) (env : Env) (f : Nat) (s : St) : Res × St :=
  if c.op = 15 then (only 11, s)
  else if keyed c.op = false then (only 10, s)
  else match (s.find c.key env).1 with
    | none => without c env f (used (s.find c.key env).2 c.key)
    | some x => withI c env (s.ent x).it f (used (s.find c.key env).2 c.key)
end Go.Proofs.YtpghckiochjogaaGreatDoor.Exec

/- append of whatever lies behind a slice (of none of it, too) onto a row of the call's own. -/
namespace Go.Proofs.YtpghckiochjogaaGreatDoor.App
open Go Go.RowKit
def Src (w : World) (size : Nat) (y : Value) (m : Nat) (ys : List Value) : Prop := (y = .slice none 0 0 ∧ ys = [] ∧ m = 0) ∨
  ∃ g off c, y = .slice (some ⟨g, off, none⟩) m c ∧ ys.length = m * size ∧ g < w.heap.size ∧ ∀ j u, ys[j]? = some u → w.cell? ⟨g, off + j, none⟩ = some u
theorem Src.same {w w' : World} {size m : Nat} {y : Value} {ys : List Value} (h : Src w size y m ys) (hs : ∀ g, y.ownBlock = some g → w'.heap[g]? = w.heap[g]?) (hz : w.heap.size ≤ w'.heap.size) : Src w' size y m ys := by
  rcases h with h | ⟨g, off, c, rfl, h1, h2, h3⟩
  · exact .inl h
  · exact .inr ⟨g, off, c, rfl, h1, Nat.lt_of_lt_of_le h2 hz, fun j u hu => (World.cell?_of_block (hs g rfl)).trans (h3 j u hu)⟩
theorem Src.lt {w : World} {size m : Nat} {y : Value} {ys : List Value} (h : Src w size y m ys) : ∀ g, y.ownBlock = some g → g < w.heap.size := fun g e => by
  rcases h with ⟨rfl, _⟩ | ⟨g', off, c, rfl, _, h2, _⟩
  · cases e
  · have : g' = g := by simpa [Value.ownBlock] using e
    omega
theorem Src.below {w w' : World} {size m : Nat} {y : Value} {ys : List Value} (h : Src w size y m ys) (hb : Below w.heap.size w w') : Src w' size y m ys := h.same (fun g e => hb.block g (h.lt g e)) hb.size
theorem Src.of_row {w : World} {base size n : Nat} {e : TypeId} {v : Value} {xs : List Value} (h : w.ownsRow base e size v n xs) : Src w size v n xs := by
  rcases h.2 with ⟨e1, e2⟩ | ⟨g, cap, cur, e1, _, e2, e3, _, e4, e5⟩
  · refine .inl ⟨e1, List.eq_nil_of_length_eq_zero ?_, e2⟩
    rw [h.1, e2, Nat.zero_mul]
  · refine .inr ⟨g, 0, cap, e1, h.1, (Array.getElem?_eq_some_iff.1 e2).1, fun j u hu => ?_⟩
    rw [Nat.zero_add, Mem.row_cell e2 j]
    have hj := (List.getElem?_eq_some_iff.1 hu).1
    rw [h.1] at hj
    rw [← e5, List.getElem?_take, if_pos hj, Array.getElem?_toList] at hu
    exact hu
theorem Src.shape {w : World} {size m : Nat} {y : Value} {ys : List Value} (h : Src w size y m ys) : ∃ a c, y = .slice a m c := by
  rcases h with ⟨rfl, _, rfl⟩ | ⟨g, off, c, rfl, _⟩
  · exact ⟨none, 0, rfl⟩
  · exact ⟨_, c, rfl⟩
theorem grown_refl (w : World) (row : Option Nat) : w.grownBy w row := ⟨rfl, rfl, rfl, Nat.le_refl _, fun _ _ _ => rfl⟩
theorem addr_add (g off j : Nat) : (⟨g, off, none⟩ : Addr).add j = ⟨g, off + j, none⟩ := by
  unfold Addr.add
  by_cases h : j = 0
  · subst h; rfl
  · rw [if_neg h]
theorem own_block_lt {w : World} {base : Nat} {e : TypeId} {size n : Nat} {v : Value} {xs : List Value} (h : w.ownsRow base e size v n xs) : ∀ g, v.ownBlock = some g → base ≤ g ∧ g < w.heap.size := fun g e => by
  rcases h.2 with ⟨e1, _⟩ | ⟨g', cap, cur, e1, h2, e2, _⟩
  · rw [e1] at e; cases e
  · rw [e1] at e
    have : g' = g := by simpa [Value.ownBlock] using e
    subst this
    exact ⟨h2, (Array.getElem?_eq_some_iff.1 e2).1⟩
theorem append_types {P : Program} {t t' ty e e' : TypeId} {v y : Value} {w : World} (ht : P.underlying t = some (.slice e)) (ht' : P.underlying t' = some (.slice e')) : (Builtin.append_ #[t, t'] ty #[v, y]).run P w = (Builtin.append_ #[t, t] ty #[v, y]).run P w := by
  cases v <;> simp [Builtin.append_, run_underlying ht, run_underlying ht']
theorem wpList_append_src {P : Program} {w : World} {ops : Array Oper} {rest : List Oper} {o : Oper} {a : Act} {Q : Exit → Act → World → Prop} (s x : Operand) (t t' e e' : TypeId) (i : TypeInfo) (z : Value) (size bytes base : Nat) (v y : Value) (n m : Nat) (xs ys : List Value) (hgd : o.guard = none)
    (ho : o.op = .call { callee := .builtin .append, args := #[s, x], argTypes := #[t, t'] }) (ht : P.underlying t = some (.slice e)) (ht' : P.underlying t' = some (.slice e')) (hi : P.info? e = some i) (hz : i.zero = some z) (hsize : i.size = size) (hby : i.bytes = bytes) (hzs : z.cells.size = size) (hsz : 0 < size)
    (hs : a.eval s = v) (hx : a.eval x = y) (hown : w.ownsRow base e size v n xs) (hr : Src w size y m ys) (h1 : ∀ u ∈ ys, u.oneCell' = true) (h63 : n + m ≤ maxLen) (hbytes : (n + m) * bytes ≤ 140737488355328) (hbase : base ≤ w.heap.size)
    (hK : ∀ v' w', w'.ownsRow base e size v' (n + m) (xs ++ ys) → w.grownBy w' v.ownBlock → (v'.ownBlock = v.ownBlock ∨ v'.ownBlock = some w.heap.size) → wpList P ops Q rest (a.put o.dst v') w') :
    wpList P ops Q (o :: rest) a w := by
  have hrun0 := append_types (P := P) (ty := o.type) (v := v) (y := y) (w := w) ht ht'
  refine wpList_plain hgd fun K hKK => ?_
  rcases hr with ⟨e1, rfl, rfl⟩ | ⟨g, off, c, e1, h2, h3, h4⟩
  · have hrun := run_append_owned_none (P := P) (w := w) base t o.type e i size ht hi v n xs hown
    rw [← e1, ← hrun0] at hrun
    unfold Oper.wp
    simp [execOp, ho, resolve, invoke, builtin, hs, hx, hrun, Result.andThen]
    exact hKK _ _ (hK v w (by rw [List.append_nil]; exact hown) (grown_refl _ _) (.inl rfl))
  · obtain ⟨v', w', hrun, h5, h6, _, h7⟩ := run_append_own_at (P := P) w base t o.type e i z size bytes ht hi hz hsize hby hzs hsz v n xs hown ⟨g, off, none⟩ m c ys h2
      (fun j u hu => by rw [addr_add]; exact h4 j u hu) h1 h63 hbytes hbase
    rw [← e1, ← hrun0] at hrun
    unfold Oper.wp
    simp [execOp, ho, resolve, invoke, builtin, hs, hx, hrun, Result.andThen]
    exact hKK _ _ (hK v' w' h5 h6 h7)
end Go.Proofs.YtpghckiochjogaaGreatDoor.App

/- slices.Clone of bytes; an item with a value of its own. -/
namespace Go.Proofs.YtpghckiochjogaaGreatDoor.Shard
open Go Go.RowKit Go.Proofs.YtpghckiochjogaaGreatDoor.Mem Go.Proofs.YtpghckiochjogaaGreatDoor.App
theorem row_keep {w w' : World} {base : Nat} {e : TypeId} {size n : Nat} {v : Value} {xs : List Value} (h : w.ownsRow base e size v n xs) (hs : ∀ g, v.ownBlock = some g → w'.heap[g]? = w.heap[g]?) : w'.ownsRow base e size v n xs := by
  refine ⟨h.1, ?_⟩
  rcases h.2 with h1 | ⟨g, cap, cur, h1, h2, h3, h4⟩
  · exact .inl h1
  · exact .inr ⟨g, cap, cur, h1, h2, (hs g (by rw [h1]; rfl)).trans h3, h4⟩
def cellsB (xs : List UInt8) : List Value := xs.map fun b => .int .u8 (b.toNat : Nat)
theorem one_cellsB (xs : List UInt8) : ∀ u ∈ cellsB xs, u.oneCell' = true := fun u hu => by
  simp only [cellsB, List.mem_map] at hu
  obtain ⟨k, _, rfl⟩ := hu
  rfl
theorem infoByte : (Tryz.prog.info? 5).map (fun i => (i.zero, i.size, i.bytes)) = some (some (.int .u8 0), 1, 1) := by kernel_rfl
abbrev OwnB (w : World) (base : Nat) (v : Value) (xs : List UInt8) : Prop := w.ownsRow base 5 1 v xs.length (cellsB xs)
def SrcB (w : World) (v : Value) (xs : List UInt8) : Prop := (xs = [] ∧ ∃ a c, v = .slice (some a) 0 c) ∨ Src w 1 v xs.length (cellsB xs)
theorem SrcB.of_row {w : World} {base : Nat} {v : Value} {xs : List UInt8} (h : OwnB w base v xs) : SrcB w v xs := .inr (Src.of_row h)
theorem SrcB.shape {w : World} {v : Value} {xs : List UInt8} (h : SrcB w v xs) : ∃ a c, v = .slice a xs.length c := by
  rcases h with ⟨rfl, a, c, rfl⟩ | h
  · exact ⟨_, c, rfl⟩
  · exact h.shape
theorem SrcB.same {w w' : World} {v : Value} {xs : List UInt8} (h : SrcB w v xs) (hs : xs ≠ [] → ∀ g, v.ownBlock = some g → g < w.heap.size → w'.heap[g]? = w.heap[g]?) (hz : w.heap.size ≤ w'.heap.size) : SrcB w' v xs := by
  rcases h with h | h
  · exact .inl h
  by_cases hx : xs = []
  · subst hx
    rcases h with h | ⟨g, off, c, rfl, _⟩
    · exact .inr (.inl h)
    · exact .inl ⟨rfl, _, _, rfl⟩
  · exact .inr (h.same (fun g e => hs hx g e (h.lt g e)) hz)
theorem SrcB.below {w w' : World} {v : Value} {xs : List UInt8} (h : SrcB w v xs) (hb : Below w.heap.size w w') : SrcB w' v xs := h.same (fun _ g _ hg => hb.block g hg) hb.size
theorem wpList_append_none {P : Program} {w : World} {ops : Array Oper} {rest : List Oper} {o : Oper} {a : Act} {Q : Exit → Act → World → Prop} (s x : Operand) (t t' e e' : TypeId) (i : TypeInfo) (z : Value) (size bytes base : Nat) (v : Value) (y : Addr) (c : Nat) (n : Nat) (xs : List Value) (hgd : o.guard = none)
    (ho : o.op = .call { callee := .builtin .append, args := #[s, x], argTypes := #[t, t'] }) (ht : P.underlying t = some (.slice e)) (ht' : P.underlying t' = some (.slice e')) (hi : P.info? e = some i) (hz : i.zero = some z) (hsize : i.size = size) (hby : i.bytes = bytes) (hzs : z.cells.size = size) (hsz : 0 < size)
    (hs : a.eval s = v) (hx : a.eval x = .slice (some y) 0 c) (hown : w.ownsRow base e size v n xs) (h63 : n + 0 ≤ maxLen) (hbytes : (n + 0) * bytes ≤ 140737488355328) (hbase : base ≤ w.heap.size)
    (hK : ∀ v' w', w'.ownsRow base e size v' (n + 0) (xs ++ []) → w.grownBy w' v.ownBlock → (v'.ownBlock = v.ownBlock ∨ v'.ownBlock = some w.heap.size) → wpList P ops Q rest (a.put o.dst v') w') :
    wpList P ops Q (o :: rest) a w := by
  have hrun0 := append_types (P := P) (ty := o.type) (v := v) (y := .slice (some y) 0 c) (w := w) ht ht'
  refine wpList_plain hgd fun K hKK => ?_
  obtain ⟨v', w', hrun, h5, h6, _, h7⟩ := run_append_own_at (P := P) w base t o.type e i z size bytes ht hi hz hsize hby hzs hsz v n xs hown y 0 c [] (by simp)
    (fun j u hu => by simp at hu) (fun u hu => by simp at hu) h63 hbytes hbase
  rw [← hrun0] at hrun
  unfold Oper.wp
  simp [execOp, ho, resolve, invoke, builtin, hs, hx, hrun, Result.andThen]
  exact hKK _ _ (hK v' w' h5 h6 h7)
theorem own_empty (w : World) : (w.alloc (.cells #[] 5)).ownsRow w.heap.size 5 1 (.slice (some ⟨w.heap.size, 0, none⟩) 0 0) 0 [] :=
  ⟨rfl, .inr ⟨w.heap.size, 0, #[], rfl, Nat.le_refl _, Mem.new_block w _, Nat.le_refl _, Nat.zero_le _, rfl, rfl⟩⟩
theorem own_le (w : World) : ∀ g, (Value.slice (some ⟨w.heap.size, 0, none⟩) 0 0).ownBlock = some g → w.heap.size ≤ g := fun g e => by
  have e9 : w.heap.size = g := by simpa [Value.ownBlock] using e
  omega
set_option maxRecDepth 100000 in
theorem clone_any {w : World} {v : Value} {xs : List UInt8} (h : SrcB w v xs) (hl : xs.length ≤ 100000000) :
    Calls Tryz.prog 70 #[v] w fun e w' => ∃ v', e = .returned v' ∧ OwnB w' w.heap.size v' xs ∧ Below w.heap.size w w' := by
  obtain ⟨i0, hi, hz0, hz1, hz2⟩ := info_parts infoByte
  rcases h with ⟨rfl, ⟨g, off, sp⟩, c, rfl⟩ | h
  · have he : ∀ w : World, (binOp .eql 30 (.slice (some ⟨g, off, sp⟩) 0 c) (.slice none 0 0)).run Tryz.prog w = .ok (.bool false) w := fun _ => rfl
    go_enter Tryz.func70, Tryz.ntmps70
    go_wp2_with (at_builtin; refine wpList_append_none _ _ _ _ _ _ i0 _ 1 1 w.heap.size _ ⟨g, off, sp⟩ c 0 [] rfl rfl Tryz.underlying30 Tryz.underlying30 hi hz0 hz1 hz2 rfl (by decide) rfl rfl (own_empty w) (by unfold maxLen; omega) (by omega) (by simp) ?_; intro v3 w3 hown3 hgr3 hat3; have H3 := Lib.hid (And.intro hown3 ((Mem.al (Below.refl w.heap.size w) (.cells #[] 5)).grown hgr3 (by simp) (own_le w))); clear hown3 hgr3 hat3)
    go_ret
    exact ⟨_, rfl, H3.out.1, H3.out.2⟩
  have HH := Lib.hid h
  rcases h with ⟨rfl, e1, e2⟩ | ⟨g, off, c, rfl, e1, e2, e3⟩
  · have hx : xs = [] := List.eq_nil_of_length_eq_zero e2
    subst hx
    clear e1 e2 HH
    have he : ∀ w : World, (binOp .eql 30 (.slice none 0 0) (.slice none 0 0)).run Tryz.prog w = .ok (.bool true) w := fun _ => rfl
    go_enter Tryz.func70, Tryz.ntmps70
    go_wp2_with fail
    go_ret
    exact ⟨_, rfl, World.ownsRow_nil _ _ _ _, Below.refl _ _⟩
  · have HL := Lib.hid e2
    clear e1 e2 e3
    have he : ∀ w : World, (binOp .eql 30 (.slice (some ⟨g, off, none⟩) xs.length c) (.slice none 0 0)).run Tryz.prog w = .ok (.bool false) w := fun _ => rfl
    go_enter Tryz.func70, Tryz.ntmps70
    go_wp2_with (at_builtin; refine wpList_append_src _ _ _ _ _ _ i0 _ 1 1 w.heap.size _ _ 0 xs.length [] (cellsB xs) rfl rfl Tryz.underlying30 Tryz.underlying30 hi hz0 hz1 hz2 rfl (by decide) rfl rfl (own_empty w) (HH.out.below (Mem.al (Below.refl _ _) _)) (one_cellsB _) (by unfold maxLen; omega) (by omega) (by simp) ?_; intro v3 w3 hown3 hgr3 hat3; have H3 := Lib.hid (And.intro hown3 ((Mem.al (Below.refl w.heap.size w) (.cells #[] 5)).grown hgr3 (by simp) (own_le w))); clear hown3 hgr3 hat3)
    go_ret
    have hq := H3.out.1
    rw [Nat.zero_add, List.nil_append] at hq
    exact ⟨_, rfl, hq, H3.out.2⟩
theorem item_size (it : Item) (v : Value) : (Tryz.prog.info? 51).map (·.size) = some (it.arr v).size := by
  rw [show (it.arr v).size = 10 from rfl]; kernel_rfl
theorem item_one (it : Item) {w : World} {base : Nat} {v : Value} (h : OwnB w base v it.val) : (it.arr v).all (·.oneCell') = true := by
  unfold Item.arr
  rw [List.all_toArray]
  rcases h.2 with ⟨e, _⟩ | ⟨g, cap, cur, e, _⟩ <;> rw [e] <;> simp [Value.oneCell']
def zeroI : Array Value := #[.string ⟨#[]⟩, .slice none 0 0, .int .u32 0, .int .i64 0, .int .u64 0, .int .i64 0, .int .u64 0, .bool false, .bool false, .bool false]
set_option maxRecDepth 100000 in
theorem owned_any {w : World} {v : Value} (it : Item) (h : SrcB w v it.val) (hl : it.val.length ≤ 100000000) :
    Calls Tryz.prog 48 #[.agg (it.arr v)] w fun e w' => ∃ v', e = .returned (.agg (it.arr v')) ∧ OwnB w' w.heap.size v' it.val ∧ Below w.heap.size w w' := by
  have hb2 : Below w.heap.size w ((w.alloc (.cells (it.arr v) 51)).alloc (.cells zeroI 51)) := Mem.al (Mem.al (Below.refl _ _) _) _
  have n1 : ((w.alloc (.cells (it.arr v) 51)).alloc (.cells zeroI 51)).heap[w.heap.size]? = some (.cells (it.arr v) 51 (0, 0)) := Mem.new_later (Mem.new_block w _) _
  have n2 : ((w.alloc (.cells (it.arr v) 51)).alloc (.cells zeroI 51)).heap[w.heap.size + 1]? = some (.cells zeroI 51 (0, 0)) := Mem.new_block2 w _ _
  have hcl := clone_any (h.below hb2) hl
  have hsz : ((w.alloc (.cells (it.arr v) 51)).alloc (.cells zeroI 51)).heap.size = w.heap.size + 2 := by simp
  have HB := Lib.hid hb2
  have HN := Lib.hid (And.intro n1 (And.intro n2 hsz))
  clear hb2 n1 n2 h hsz
  unfold Item.arr zeroI at hcl
  unfold Item.arr
  go_enter Tryz.func48, Tryz.ntmps48
  go_wp2_with fail
  refine hcl.mono ?_
  rintro e w2 ⟨v0, rfl, hown, hb⟩
  obtain ⟨ya, yc, hv'⟩ := Src.shape (Src.of_row hown)
  subst hv'
  have m1 : w2.heap[w.heap.size]? = some (.cells (it.arr v) 51 (0, 0)) := (hb.block _ (by simp; omega)).trans HN.out.1
  have m2 : w2.heap[w.heap.size + 1]? = some (.cells zeroI 51 (0, 0)) := (hb.block _ (by simp)).trans HN.out.2.1
  have c1 : w2.cell? ⟨w.heap.size, 1, none⟩ = some v := Mem.row_cell m1 1
  have f1 := Mem.row_free m1 1
  have k1 : (w2.setCell ⟨w.heap.size, 1, none⟩ (.slice ya it.val.length yc)).heap[w.heap.size]? = some (.cells (it.arr (.slice ya it.val.length yc)) 51 (0, 0)) := Mem.row_set m1 1 _
  have k2 : (w2.setCell ⟨w.heap.size, 1, none⟩ (.slice ya it.val.length yc)).heap[w.heap.size + 1]? = some (.cells zeroI 51 (0, 0)) := (Below.heap_setCell _ _ _ _ (by simp)).trans m2
  have HM := Lib.hid (And.intro hown (And.intro hb (And.intro k1 k2)))
  clear hcl hown hb m1 m2 k1 k2
  go_wp2_with (first
    | (refine wpList_store_row rfl 51 _ _ rfl (w.heap.size + 1) (it.arr (.slice ya it.val.length yc)) rfl rfl 51 zeroI HM.out.2.2.2 (item_size it _) rfl (item_one it HM.out.1) ?_)
    | (refine wpList_load_row rfl 51 _ rfl w.heap.size rfl 51 (it.arr (.slice ya it.val.length yc)) (0, 0) _ HM.out.2.2.1 Tryz.underlying51 rfl (item_size it _) ?_)
    | fail)
  obtain ⟨hown, hb, k1, k2⟩ := HM.out
  have hrow := setRow_heap _ _ _ (it.arr (.slice ya it.val.length yc)) _ _ k2
  refine bodyPost_ret (results_cell_row Tryz.results48 _ _ (w.heap.size + 1) _ _ _ _ rfl hrow Tryz.underlying51 rfl (item_size it _)) rfl ?_
  have hfar : ∀ g, (Value.slice ya it.val.length yc).ownBlock = some g → w.heap.size + 2 ≤ g := fun g e => by
    have := (own_block_lt hown g e).1
    simp at this; omega
  refine ⟨_, rfl, ?_, below_setRow ((HB.out.trans (hb.mono (by simp; omega))).setCell (p := ⟨w.heap.size, 1, none⟩) (Nat.le_refl _) _) (by omega) _⟩
  have hle := Mem.row_less hown (show w.heap.size ≤ _ by simp; omega)
  refine row_keep hle fun g e => ?_
  have := hfar g e
  exact (setRow_other _ _ _ _ (by omega)).trans (Below.heap_setCell _ _ _ _ (by show g ≠ w.heap.size; omega))
end Go.Proofs.YtpghckiochjogaaGreatDoor.Shard

/- Layers 10 and 12: At, TTL; only, at, view, fresh, Keyed. -/
namespace Go.Proofs.YtpghckiochjogaaGreatDoor.Exec
set_option maxRecDepth 100000
open Go Go.RowKit Go.Proofs.YtpghckiochjogaaGreatDoor.Mem Go.Proofs.YtpghckiochjogaaGreatDoor.App Go.Proofs.YtpghckiochjogaaGreatDoor.Shard
theorem wrap_i64 (n : Int) : IntKind.i64.wrap n = wrap64 n := by
  unfold IntKind.wrap wrap64
  simp only [IntKind.signed, IntKind.bits, Bool.true_and]
  split <;> rename_i h <;> simp at h <;> omega
structure CmdOk (c : Cmd) : Prop where
  key : c.key.size ≤ 300
  val : c.val.length ≤ 2000
  exp : -9223372036854775808 ≤ c.exp ∧ c.exp ≤ 9223372036854775807
  cas : 0 ≤ c.cas ∧ c.cas ≤ 18446744073709551615
  delta : 0 ≤ c.delta ∧ c.delta ≤ 18446744073709551615
  initial : 0 ≤ c.initial ∧ c.initial ≤ 18446744073709551615
structure EnvOk (env : Env) : Prop where
  now : -9223372036854775808 ≤ env.now ∧ env.now ≤ 9223372036854775807
  seq : 0 ≤ env.seq ∧ env.seq ≤ 18446744073709551615
def rarr (b : Nat) (c : Cmd) (v : Value) (env : Env) : Array Value := #[.pointer (some ⟨b, 0, none⟩), .int .i64 c.op, .string c.key, v, .int .u32 c.flags, .int .i64 c.exp, .int .u64 c.cas, .int .u64 c.delta, .int .u64 c.initial, .bool c.makes, .bool c.sets, .int .i64 env.now, .int .u64 env.seq, .int .i64 env.flush, .int .u64 env.flushSeq]
theorem at_item (exp now : Int) (w : World) : Calls Tryz.prog 37 #[.int .i64 exp, .int .i64 now] w fun e w' => e = .returned (.int .i64 (atS exp now)) ∧ w = w' := by
  obtain ⟨m, hm⟩ : ∃ m, max now 1 = m := ⟨_, rfl⟩
  have hM : (1 ≤ now ∧ m = now) ∨ (¬ 1 ≤ now ∧ m = 1) := by omega
  unfold atS
  rw [wrap_i64, hm]
  clear hm
  by_cases h0 : exp = 0
  · subst h0
    rw [if_pos rfl]
    rcases hM with ⟨hn, rfl⟩ | ⟨hn, rfl⟩
    all_goals
      go_enter Tryz.func37, Tryz.ntmps37
      go_wp2
      go_ret
      exact ⟨rfl, rfl⟩
  have e0 : (exp == 0) = false := by simpa using h0
  rw [if_neg h0]
  by_cases h1 : exp < 0
  · rw [if_pos h1]
    have d1 : decide (exp < 0) = true := decide_eq_true h1
    clear h0
    rcases hM with ⟨hn, rfl⟩ | ⟨hn, rfl⟩
    all_goals
      go_enter Tryz.func37, Tryz.ntmps37
      go_wp2
      go_ret
      exact ⟨rfl, rfl⟩
  have d1 : decide (exp < 0) = false := decide_eq_false h1
  rw [if_neg h1]
  by_cases h2 : exp ≤ 2592000
  · rw [if_pos h2]
    have d2 : decide (exp ≤ 2592000) = true := decide_eq_true h2
    clear h0 h1
    rcases hM with ⟨hn, rfl⟩ | ⟨hn, rfl⟩
    all_goals
      go_enter Tryz.func37, Tryz.ntmps37
      go_wp2
      go_ret
      exact ⟨rfl, rfl⟩
  · rw [if_neg h2]
    have d2 : decide (exp ≤ 2592000) = false := decide_eq_false h2
    clear h0 h1
    rcases hM with ⟨hn, rfl⟩ | ⟨hn, rfl⟩
    all_goals
      go_enter Tryz.func37, Tryz.ntmps37
      go_wp2
      go_ret
      exact ⟨rfl, rfl⟩
theorem ttl_any (it : Shard.Item) (v : Value) (now : Int) (w : World) : Calls Tryz.prog 115 #[.agg (it.arr v), .int .i64 now] w fun e w' => e = .returned (.int .i64 (ttlS it now)) ∧ Below w.heap.size w w' := by
  have hb2 : Below w.heap.size w (w.alloc (.cells (it.arr v) 51)) := Mem.al (Below.refl _ _) _
  have HB := Lib.hid hb2
  clear hb2
  unfold ttlS
  rw [wrap_i64]
  by_cases h0 : it.exp = 0
  · rw [if_pos h0]
    have e0 : (it.exp == 0) = true := by simpa using h0
    unfold Item.arr at *
    clear h0
    go_enter Tryz.func115, Tryz.ntmps115
    go_wp2
    go_ret
    exact ⟨rfl, HB.out⟩
  have e0 : (it.exp == 0) = false := by simpa using h0
  rw [if_neg h0]
  by_cases h1 : it.exp ≤ now
  · rw [if_pos h1]
    have d1 : decide (it.exp ≤ now) = true := decide_eq_true h1
    unfold Item.arr at *
    clear h0
    go_enter Tryz.func115, Tryz.ntmps115
    go_wp2
    go_ret
    exact ⟨rfl, HB.out⟩
  · rw [if_neg h1]
    have d1 : decide (it.exp ≤ now) = false := decide_eq_false h1
    unfold Item.arr at *
    clear h0
    go_enter Tryz.func115, Tryz.ntmps115
    go_wp2
    go_ret
    exact ⟨rfl, HB.out⟩
def zeroR : Array Value := #[.int .i64 0, .slice none 0 0, .int .u32 0, .int .u64 0, .int .i64 0, .int .u64 0, .bool false, .bool false, .bool false]
theorem res_size (r : Res) (v : Value) : (Tryz.prog.info? 37).map (·.size) = some (r.arr v).size := by
  rw [show (r.arr v).size = 9 from rfl]; kernel_rfl
theorem res_one (r : Res) (a : Option Addr) (n k : Nat) : (r.arr (.slice a n k)).all (·.oneCell') = true := by
  unfold Res.arr
  rw [List.all_toArray]
  simp [Value.oneCell']
set_option maxHeartbeats 1000000 in
theorem only_any (k : Int) (w : World) : Calls Tryz.prog 32 #[.int .i64 k] w fun e w' => e = .returned (.agg ((only k).arr (.slice none 0 0))) ∧ Below w.heap.size w w' := by
  have n1 : (w.alloc (.cells zeroR 37)).heap[w.heap.size]? = some (.cells zeroR 37 (0, 0)) := Mem.new_block w _
  have hb := Mem.al (Below.refl w.heap.size w) (.cells zeroR 37)
  have HB := Lib.hid (And.intro n1 hb)
  clear n1 hb
  go_enter Tryz.func32, Tryz.ntmps32
  go_wp2_with (first
    | (refine wpList_store_row rfl 37 _ _ rfl w.heap.size ((only k).arr (.slice none 0 0)) rfl rfl 37 zeroR HB.out.1 (res_size _ _) rfl (res_one _ _ _ _) ?_)
    | fail)
  have hrow := setRow_heap _ _ _ ((only k).arr (.slice none 0 0)) _ _ HB.out.1
  refine bodyPost_ret (results_cell_row Tryz.results32 _ _ w.heap.size _ _ _ _ rfl hrow Tryz.underlying37 rfl (res_size _ _)) rfl ?_
  exact ⟨rfl, below_setRow HB.out.2 (Nat.le_refl _) _⟩
theorem keyed_any (op : Int) (w : World) : Calls Tryz.prog 20 #[.int .i64 op] w fun e w' => e = .returned (.bool (keyed op)) ∧ w = w' := by
  unfold keyed
  by_cases h0 : 0 ≤ op
  · by_cases h1 : op ≤ 12
    · have hd : decide (0 ≤ op ∧ op ≤ 12) = true := decide_eq_true ⟨h0, h1⟩
      rw [hd]
      go_enter Tryz.func20, Tryz.ntmps20
      go_wp2
      go_ret
      exact ⟨rfl, rfl⟩
    · have hd : decide (0 ≤ op ∧ op ≤ 12) = false := decide_eq_false fun e => h1 e.2
      rw [hd]
      go_enter Tryz.func20, Tryz.ntmps20
      go_wp2
      go_ret
      exact ⟨rfl, rfl⟩
  · have hd : decide (0 ≤ op ∧ op ≤ 12) = false := decide_eq_false fun e => h0 e.1
    rw [hd]
    go_enter Tryz.func20, Tryz.ntmps20
    go_wp2
    go_ret
    exact ⟨rfl, rfl⟩
theorem at_any (b : Nat) (c : Cmd) (v : Value) (env : Env) (w : World) : Calls Tryz.prog 53 #[.agg (rarr b c v env)] w fun e w' => e = .returned (.int .i64 (atS c.exp env.now)) ∧ Below w.heap.size w w' := by
  have hb2 : Below w.heap.size w (w.alloc (.cells (rarr b c v env) 86)) := Mem.al (Below.refl _ _) _
  have hat := fun w' => at_item c.exp env.now w'
  have HB := Lib.hid hb2
  clear hb2
  unfold rarr at *
  go_enter Tryz.func53, Tryz.ntmps53
  go_wp2_with fail
  refine (hat _).mono ?_
  rintro e w' ⟨rfl, rfl⟩
  go_wp2_with fail
  go_ret
  exact ⟨rfl, HB.out⟩
end Go.Proofs.YtpghckiochjogaaGreatDoor.Exec

/- Layer 12, plain: a number's digits are read as the number. -/
namespace Go.Proofs.YtpghckiochjogaaGreatDoor.Exec
open Go Go.Lib
theorem show_len (n : Nat) (h : n < 18446744073709551616) : 1 ≤ (showS n).length ∧ (showS n).length ≤ 20 := by
  unfold showS
  rw [decDigits_length]
  exact ⟨nDigits_pos n, nDigits_le20 n h⟩
theorem dec_lt {l : List UInt8} {n : Nat} (h : decS l = some n) : n < 18446744073709551616 ∧ l.length ≤ 40 := by
  unfold decS at h
  split at h
  · cases h
  · rename_i h1
    refine ⟨?_, by omega⟩
    rw [parseUintB_64] at h
    split at h
    · rename_i v hv
      injection h with h
      subst h
      exact parseMag_lt hv
    · cases h
end Go.Proofs.YtpghckiochjogaaGreatDoor.Exec

/- Layer 12, plain: what a key has behind a command. -/
namespace Go.Proofs.YtpghckiochjogaaGreatDoor.Exec
open Go Go.Proofs.YtpghckiochjogaaGreatDoor.Shard
theorem room_code (it : Shard.Item) (old : Bool) (less : Int) (env : Env) : ∀ (f : Nat) (s : St), (St.room it old less env f s).1 = 0 ∨ (St.room it old less env f s).1 = 5 ∨ (St.room it old less env f s).1 = 8
  | 0, s => .inr (.inl rfl)
  | f + 1, s => by
    rcases room_cases (it := it) (old := old) (less := less) (env := env) f s with ⟨h1, e⟩ | ⟨_, _, e⟩ | ⟨hf, v, hv, hne, hm, ⟨_, e⟩ | ⟨x, hx, ⟨_, e⟩ | ⟨_, _, _, e⟩⟩⟩
    · rw [e]; exact .inl rfl
    · rw [e]; exact .inr (.inl rfl)
    · rw [e]; exact .inr (.inl rfl)
    · rw [e]; exact room_code it old less env f _
    · rw [e]; exact .inr (.inr rfl)
def has (s : St) (k : ByteArray) : Option Shard.Item := (Tab.get s.tab.L k).map fun x => (s.ent x).it
section
variable {n N : Nat} {s : St} {k k' : ByteArray} {env : Env} {it : Shard.Item}
theorem has_mem (h : Inv n N s) : has s k = some it ↔ ∃ x, (k, x) ∈ s.tab.L ∧ (s.ent x).it = it := by
  unfold has
  rw [Option.map_eq_some_iff]
  constructor
  · rintro ⟨x, h1, h2⟩
    exact ⟨x, (Tab.get_mem h.rise.nodup).1 h1, h2⟩
  · rintro ⟨x, h1, h2⟩
    exact ⟨x, (Tab.get_mem h.rise.nodup).2 h1, h2⟩
theorem has_key (h : Inv n N s) (hi : has s k = some it) : it.key = k ∧ k.size ≤ 2048 ∧ it.size ≤ 2048 := by
  obtain ⟨x, h1, h2⟩ := (has_mem h).1 hi
  have := h.ents _ h1
  rw [← h2]
  exact ⟨this.1, this.2.1, this.2.2.1⟩
theorem has_tick (s : St) (k : ByteArray) : has s.tick k = has s k := rfl
theorem has_remove (h : Inv n N s) (k k' : ByteArray) : has (s.remove k).2 k' = if k' = k then none else has s k' := by
  unfold has
  rw [remove_ent, remove_L s k h.rise, Tab.get_del h.rise]
  split <;> rfl
theorem has_drop (h : Inv n N s) (k k' : ByteArray) : has (s.drop k) k' = if k' = k then none else has s k' := has_remove h k k'
def seen (s : St) (k : ByteArray) (env : Env) : Option Shard.Item := (has s k).filter fun it => it.live env
theorem seen_eq (s : St) (k : ByteArray) (env : Env) : seen s k env = ((s.find k env).1).map fun x => (s.ent x).it := by
  unfold seen has St.find
  rcases hg : Tab.get s.tab.L k with _ | x
  · rfl
  · simp only [Option.map_some, Option.filter_some]
    by_cases hl : (s.ent x).it.live env = true
    · rw [if_pos hl, if_pos hl]; rfl
    · rw [if_neg hl, if_neg hl]; rfl
theorem has_find (h : Inv n N s) (k : ByteArray) (env : Env) (k' : ByteArray) : has (s.find k env).2 k' = if k' = k then seen s k env else has s k' := by
  rw [seen_eq]
  rcases hf : (s.find k env).1 with _ | x
  · rcases find_none hf with ⟨h1, h2⟩ | ⟨x, h1, h2, h3⟩
    · rw [h2, has_tick]
      split
      · rename_i e; subst e; unfold has; rw [h1]
        try rfl
      · rfl
    · rw [h3, has_drop h.tick, has_tick]
      rfl
  · obtain ⟨h1, h2, h3⟩ := find_some hf
    rw [h3, has_tick]
    split
    · rename_i e; subst e; unfold has; rw [h1]
    · rfl
theorem run_eq (c : Cmd) (env : Env) (f : Nat) (s : St) (h15 : c.op ≠ 15) (hk : keyed c.op = true) :
    run c env f s = match seen s c.key env with
      | none => without c env f (used (s.find c.key env).2 c.key)
      | some it => withI c env it f (used (s.find c.key env).2 c.key) := by
  unfold run
  rw [if_neg h15, if_neg (by rw [hk]; simp), seen_eq]
  rcases hf : (s.find c.key env).1 with _ | x <;> rfl
theorem has_store (h : Inv n N s) {f : Nat} (h0 : (s.store f it env).1 = 0) (hks : it.key.size ≤ 2000000) (hf : ∀ p ∈ s.tab.L, p.2 ≠ f) : has (s.store f it env).2 it.key = some it := by
  have hi := h.store (it := it) (env := env) hks hf
  rw [has_mem hi]
  rcases store_two h it env f with ⟨_, e⟩ | ⟨_, _, _, ⟨_, hr, e⟩ | ⟨h1, e⟩⟩
  · rw [e] at h0; cases h0
  · rw [e]; exact hr.there
  · rw [e] at h0; exact absurd h0 h1
theorem store_code (h : Inv n N s) (it : Shard.Item) (env : Env) (f : Nat) : (s.store f it env).1 = 0 ∨ (s.store f it env).1 = 4 ∨ (s.store f it env).1 = 5 ∨ (s.store f it env).1 = 8 := by
  have hc := room_code it (s.find it.key env).1.isSome ((s.find it.key env).2.less (s.find it.key env).1) env ((s.find it.key env).2.order.all.length + 1) (s.find it.key env).2
  rcases store_two h it env f with ⟨_, e⟩ | ⟨_, _, _, ⟨_, hr, e⟩ | ⟨h1, e⟩⟩
  · rw [e]; exact .inr (.inl rfl)
  · rw [e]; exact .inl rfl
  · rw [e]
    rcases hc with hc | hc | hc
    · exact absurd hc h1
    · exact .inr (.inr (.inl hc))
    · exact .inr (.inr (.inr hc))
theorem has_update (h : Inv n N s) {a : Shard.Item} (ha : has s it.key = some a) (hl : a.val.length = it.val.length) (k' : ByteArray) : has (s.update it).2 k' = if k' = it.key then some it else has s k' := by
  obtain ⟨x, hx, hxa⟩ := Option.map_eq_some_iff.1 (show (Tab.get s.tab.L it.key).map (fun x => (s.ent x).it) = some a from ha)
  have hu : s.update it = (0, { s.tick with ent := upd s.ent x ⟨it, (s.ent x).chunk⟩ }) := by
    unfold St.update
    rw [hx]
    simp only
    rw [if_pos (by rw [hxa]; exact hl)]
  rw [hu]
  show (Tab.get s.tab.L k').map (fun y => (upd s.ent x ⟨it, (s.ent x).chunk⟩ y).it) = _
  have hm := (Tab.get_mem h.rise.nodup).1 hx
  by_cases e : k' = it.key
  · subst e
    rw [hx, if_pos rfl]
    simp only [Option.map_some, upd_same]
  · rw [if_neg e]
    unfold has
    rcases hg : Tab.get s.tab.L k' with _ | y
    · rfl
    · have hy := (Tab.get_mem h.rise.nodup).1 hg
      have hne : y ≠ x := fun e1 => h.apart hm (k', y) (Tab.mem_del.2 ⟨hy, e⟩) e1
      simp only [Option.map_some, upd_other _ _ hne]
theorem Inv.used (h : Inv n N s) (k : ByteArray) : Inv n N (used s k) := by
  have hall : (s.order.hit k).2.all.Perm s.order.all := by
    unfold Slru.St.hit
    by_cases hm : k ∈ s.order.all
    · rw [if_pos hm]
      have hp : (Slru.without s.order.trial k ++ (Slru.without s.order.safe k ++ [k])).Perm s.order.all := by
        rw [← List.append_assoc, ← without_app]
        refine (List.perm_append_singleton k _).trans ?_
        refine (List.perm_ext_iff_of_nodup (List.nodup_cons.2 ⟨fun e => (mem_without.1 e).2 rfl, h.ond.sublist List.filter_sublist⟩) h.ond).2 fun x => ?_
        rw [List.mem_cons, mem_without]
        constructor
        · rintro (rfl | hx)
          · exact hm
          · exact hx.1
        · intro hx
          by_cases e : x = k
          · exact .inl e
          · exact .inr ⟨hx, e⟩
      unfold Slru.St.moved
      split
      · refine List.Perm.trans ?_ hp
        show ((Slru.without s.order.trial k ++ (Slru.without s.order.safe k ++ [k]).take 1) ++ (Slru.without s.order.safe k ++ [k]).drop 1).Perm _
        rw [List.append_assoc, List.take_append_drop]
      · exact hp
    · rw [if_neg hm]
  exact ⟨h.slab, h.rise, fun j => by show j ∈ (s.order.hit k).2.all ↔ _; rw [hall.mem_iff]; exact h.keys j, hall.nodup_iff.2 h.ond, h.ents, h.mem, h.len, h.dl⟩
end
end Go.Proofs.YtpghckiochjogaaGreatDoor.Exec

/- Layer 12, plain: what stays true of a shard behind a command. -/
namespace Go.Proofs.YtpghckiochjogaaGreatDoor.Exec
open Go Go.Proofs.YtpghckiochjogaaGreatDoor.Shard
section
variable {n N : Nat} {s : St} {c : Cmd} {env : Env} {it : Shard.Item} {f : Nat}
theorem fresh_ex (L : Tab.Pairs Nat) : ∃ f, ∀ p ∈ L, p.2 ≠ f := by
  have : ∃ f, ∀ p ∈ L, p.2 < f := by
    induction L with
    | nil => exact ⟨0, fun p hp => by cases hp⟩
    | cons q L ih =>
      obtain ⟨f, hf⟩ := ih
      refine ⟨max f (q.2 + 1), fun p hp => ?_⟩
      rcases List.mem_cons.1 hp with rfl | hp
      · omega
      · have := hf p hp; omega
  obtain ⟨f, hf⟩ := this
  exact ⟨f, fun p hp => Nat.ne_of_lt (hf p hp)⟩
end
end Go.Proofs.YtpghckiochjogaaGreatDoor.Exec

/- Layer 11: the colours of blocks; what a turn leaves alone. -/
namespace Go.Proofs.YtpghckiochjogaaGreatDoor.Shard
open Go Go.RowKit Go.Proofs.YtpghckiochjogaaGreatDoor.Mem Go.Proofs.YtpghckiochjogaaGreatDoor.App
inductive Part where
  | self | table | slab | order | judge | drops
  | ent (n : Nat)
deriving DecidableEq
def Ent.arr (x : Ent) (v : Value) : Array Value := #[.string x.it.key, v, .int .u32 x.it.flags, .int .i64 x.it.exp, .int .u64 x.it.cas, .int .i64 x.it.sec, .int .u64 x.it.seq, .bool x.it.stale, .bool x.it.won, .bool x.it.seen, .int .i64 x.chunk.1, .int .i64 x.chunk.2]
def cellsS (l : List ByteArray) : List Value := l.map Value.string
abbrev Col := Nat → Option Part
def recol (col : Col) (w w' : World) (p : Part) : Col := fun k => if k < w.heap.size then col k else if k < w'.heap.size then some p else none
def Of (col : Col) (p : Part) : Nat → Prop := fun k => col k = some p
section
variable {w w' : World} {col : Col} {p : Part}
theorem recol_old {k : Nat} (hk : k < w.heap.size) : recol col w w' p k = col k := if_pos hk
theorem recol_grow {F F' : Nat → Prop} (hF : ∀ k, F k → col k = some p) (hg : Grows w F F') (hlt : ∀ k, F' k → k < w'.heap.size) : ∀ k, F' k → recol col w w' p k = some p := fun k hk => by
  unfold recol
  by_cases h : k < w.heap.size
  · rw [if_pos h]
    exact (hg k hk).elim (hF k) (fun e => by omega)
  · rw [if_neg h, if_pos (hlt k hk)]
end
def Fr (col col' : Col) (w w' : World) : Prop := Only (fun k => col k ≠ none) w w' ∧ Grows w (fun k => col k ≠ none) (fun k => col' k ≠ none)
section
variable {w w' w'' : World} {col col' col'' : Col} {p : Part}
theorem Fr.refl (col : Col) (w : World) : Fr col col w w := ⟨Only.refl _ _, Grows.refl _ _⟩
theorem Fr.trans (h : Fr col col' w w') (h' : Fr col' col'' w' w'') : Fr col col'' w w'' :=
  ⟨h.1.trans h'.1 h.2, fun k hk => (h'.2 k hk).elim (h.2 k) (fun e => .inr (Nat.le_trans h.1.size e))⟩
theorem Fr.of {F : Nat → Prop} (hF : ∀ k, F k → col k = some p) (ho : Only F w w') : Fr col (recol col w w' p) w w' := by
  refine ⟨ho.mono fun k hk => by rw [hF k hk]; simp, fun k hk => ?_⟩
  replace hk : recol col w w' p k ≠ none := hk
  unfold recol at hk
  by_cases h1 : k < w.heap.size
  · rw [if_pos h1] at hk; exact .inl hk
  · exact .inr (by omega)
theorem Fr.below (hb : Below w.heap.size w w') : Fr col col w w' := ⟨Only.of_below hb (fun k h1 h2 => by omega), Grows.refl _ _⟩
theorem Fr.keep (h : Fr col col' w w') {k : Nat} (hk : k < w.heap.size) (hc : col k = none) : w'.heap[k]? = w.heap[k]? := h.1.same k hk (fun e => e hc)
end
end Go.Proofs.YtpghckiochjogaaGreatDoor.Shard

/- Layer 8: where a list lies; a node is put behind its row. -/
namespace Go.Proofs.YtpghckiochjogaaGreatDoor.Slru
open Go Go.RowKit Go.Proofs.YtpghckiochjogaaGreatDoor.Mem
def pt (o : Option Nat) : Value := .pointer (o.map fun n => ⟨n, 0, none⟩)
def nodeObj (k : ByteArray) (a n : Option Nat) (ra : Addr) : Obj := .cells #[.string k, pt a, pt n, .pointer (some ra)] 188 (0, 0)
def listArr (most : Int) (mb : Nat) (ts ss : List Nd) : Array Value := #[.int .i64 most, .map (some mb), pt (fst ts), pt (lst ts), .int .i64 (ts.length : Nat), pt (fst ss), pt (lst ss), .int .i64 (ss.length : Nat)]
def listObj (most : Int) (mb : Nat) (ts ss : List Nd) : Obj := .cells (listArr most mb ts ss) 113 (0, 0)
def Chain (w : World) (ra : Addr) (xs : List Nd) : Prop := ChainB (fun n k a c => w.heap[n]? = some (nodeObj k a c ra)) xs
section
variable {w w' : World} {ra : Addr} {xs : List Nd} {b n mb : Nat} {most : Int} {ts ss : List Nd}
theorem Chain.at_mem (h : Chain w ra xs) {j : Nat} (hj : j ∈ xs.map (·.1)) : ∃ k a c, w.heap[j]? = some (nodeObj k a c ra) := by
  obtain ⟨⟨m, k⟩, hm, rfl⟩ := List.mem_map.1 hj
  obtain ⟨l, r, e⟩ := List.append_of_mem hm
  exact ⟨_, _, _, h l m k r e⟩
theorem Chain.ne (h : Chain w ra xs) (hb : w.heap[b]? = some (listObj most mb ts ss)) : b ∉ xs.map (·.1) := fun hj => by
  obtain ⟨k, a, c, e⟩ := h.at_mem hj
  rw [hb] at e
  injection e with e
  injection e with _ e
  exact absurd e (by decide)
theorem Chain.same (h : Chain w ra xs) (hs : ∀ j ∈ xs.map (·.1), w'.heap[j]? = w.heap[j]?) : Chain w' ra xs := ChainB.same h fun j hj _ _ _ e => (hs j hj).trans e
end
theorem set_far {w : World} {p : Addr} {v : Value} {j : Nat} (h : j ≠ p.block) : (w.setCell p v).heap[j]? = w.heap[j]? := Below.heap_setCell _ _ _ _ h
def RowPost (w : World) (b o : Nat) (obj : Obj) (xs ys : List Nd) (n : Nat) (e : Ending) (w' : World) : Prop :=
  e = .returned (.tuple #[]) ∧ w'.heap[b]? = some obj ∧ Chain w' ⟨b, o, none⟩ ys ∧ Only (fun j => j = b ∨ j = n ∨ j ∈ xs.map (·.1)) w w'
set_option maxRecDepth 100000 in
set_option maxHeartbeats 2000000 in
theorem push_trial {w : World} {b n mb : Nat} {most : Int} {ts ss : List Nd} {k : ByteArray} {u1 u2 u3 : Value} (hb : w.heap[b]? = some (listObj most mb ts ss)) (hc : Chain w ⟨b, 2, none⟩ ts) (hnd : (ts.map (·.1)).Nodup)
    (hn : w.heap[n]? = some (.cells #[.string k, u1, u2, u3] 188 (0, 0))) (hnt : n ∉ ts.map (·.1)) (hlen : ts.length + 1 ≤ 9223372036854775807) :
    Calls Tryz.prog 75 #[.pointer (some ⟨b, 2, none⟩), .pointer (some ⟨n, 0, none⟩)] w (RowPost w b 2 (listObj most mb (ts ++ [(n, k)]) ss) ts (ts ++ [(n, k)]) n) := by
  have hbn : n ≠ b := fun e => by
    subst e
    rw [hb] at hn
    injection hn with e
    injection e with _ e
    exact absurd e (by decide)
  have hbt := hc.ne hb
  have HC := Lib.hid (And.intro hc (And.intro hnd (And.intro hnt hbt)))
  have hb3 := Mem.row_cell hb 3
  have m1 := Mem.row_cell hn 1
  have m2 := Mem.row_cell hn 2
  have m3 := Mem.row_cell hn 3
  have n1 := Mem.row_free hn 1
  have n2 := Mem.row_free hn 2
  have n3 := Mem.row_free hn 3
  simp only [listArr, List.getElem?_toArray, List.getElem?_cons_zero, List.getElem?_cons_succ] at hb3 m1 m2 m3
  obtain ⟨la, hla⟩ : ∃ la, lst ts = la := ⟨_, rfl⟩
  rw [hla] at hb3
  obtain ⟨xa, hxa⟩ : ∃ xa, la.map (fun n => (⟨n, 0, none⟩ : Addr)) = xa := ⟨_, rfl⟩
  have hpa : pt la = .pointer xa := by rw [← hxa]; rfl
  rw [hpa] at hb3
  have HX := Lib.hid hpa
  clear hxa hpa
  have HN := Lib.hid hn
  have HB := Lib.hid hb
  clear hb hn hc hnd hnt hbt
  go_enter Tryz.func75, Tryz.ntmps75
  go_upto_region 1 with (fail)
  have k1 : (((w.setCell ⟨n, 1, none⟩ (.pointer xa)).setCell ⟨n, 2, none⟩ (.pointer none)).setCell ⟨n, 3, none⟩ (.pointer (some ⟨b, 2, none⟩))).heap[n]? = some (nodeObj k la none ⟨b, 2, none⟩) := by
    rw [← HX.out]
    exact Mem.row_set (Mem.row_set (Mem.row_set HN.out 1 _) 2 _) 3 _
  have o1 : ∀ j, j ≠ n → (((w.setCell ⟨n, 1, none⟩ (.pointer xa)).setCell ⟨n, 2, none⟩ (.pointer none)).setCell ⟨n, 3, none⟩ (.pointer (some ⟨b, 2, none⟩))).heap[j]? = w.heap[j]? := fun j hj => (set_far hj).trans ((set_far hj).trans (set_far hj))
  have on1 : Only (fun j => j = b ∨ j = n ∨ j ∈ ts.map (·.1)) w (((w.setCell ⟨n, 1, none⟩ (.pointer xa)).setCell ⟨n, 2, none⟩ (.pointer none)).setCell ⟨n, 3, none⟩ (.pointer (some ⟨b, 2, none⟩))) :=
    (((Only.refl _ w).setCell (p := ⟨n, 1, none⟩) (.inl (.inr (.inl rfl))) _).setCell (p := ⟨n, 2, none⟩) (.inl (.inr (.inl rfl))) _).setCell (p := ⟨n, 3, none⟩) (.inl (.inr (.inl rfl))) _
  generalize ((w.setCell ⟨n, 1, none⟩ (.pointer xa)).setCell ⟨n, 2, none⟩ (.pointer none)).setCell ⟨n, 3, none⟩ (.pointer (some ⟨b, 2, none⟩)) = w1 at *
  have hb1 := (o1 b (Ne.symm hbn)).trans HB.out
  have c2 := Mem.row_cell hb1 2
  have c3 := Mem.row_cell hb1 3
  have c4 := Mem.row_cell hb1 4
  have f2 := Mem.row_free hb1 2
  have f3 := Mem.row_free hb1 3
  have f4 := Mem.row_free hb1 4
  simp only [listArr, List.getElem?_toArray, List.getElem?_cons_zero, List.getElem?_cons_succ] at c2 c3 c4
  have hw : IntKind.i64.wrap ((ts.length : Int) + 1) = (ts.length : Int) + 1 := by rw [IntKind.wrap_i64]; omega
  rw [hla] at c3
  have H1 := Lib.hid (And.intro k1 (And.intro o1 (And.intro on1 hb1)))
  have HA := Lib.hid hla
  clear k1 o1 on1 hb1 hb3 n1 n2 n3 m1 m2 m3
  rcases snoc_cases ts with hts | ⟨l, ⟨p, kp⟩, hts⟩
  · have hla2 := HA.out
    rw [hts] at hla2
    simp at hla2
    subst hla2
    have HT := Lib.hid hts
    clear hts hlen
    simp only [pt, Option.map_none] at c3
    go_wp2_with fail
    go_end0
    have q := Mem.row_set (Mem.row_set (Mem.row_set H1.out.2.2.2 2 (.pointer (some ⟨n, 0, none⟩))) 3 (.pointer (some ⟨n, 0, none⟩))) 4 (.int .i64 ((ts.length : Int) + 1))
    have hts := HT.out
    subst hts
    refine ⟨rfl, q, ChainB.push HC.out.1 HC.out.2.1 ?_ (fun l p e => by simp at e) (fun j hj _ _ _ _ _ => by simp at hj), ((H1.out.2.2.1.setCell (p := ⟨b, 2, none⟩) (.inl (.inl rfl)) _).setCell (p := ⟨b, 3, none⟩) (.inl (.inl rfl)) _).setCell (p := ⟨b, 4, none⟩) (.inl (.inl rfl)) _⟩
    exact (set_far hbn).trans ((set_far hbn).trans ((set_far hbn).trans H1.out.1))
  · have hla2 := HA.out
    rw [hts] at hla2
    simp at hla2
    subst hla2
    have hpt : p ∈ ts.map (·.1) := by rw [hts]; simp
    have hpb : p ≠ b := fun e => HC.out.2.2.2 (e ▸ hpt)
    have hpn : p ≠ n := fun e => HC.out.2.2.1 (e ▸ hpt)
    have hp1 := (H1.out.2.1 p hpn).trans (HC.out.1 l p kp [] hts)
    have g2 := Mem.row_free hp1 2
    have d2 := Mem.row_cell hp1 2
    simp only [List.getElem?_toArray, List.getElem?_cons_zero, List.getElem?_cons_succ] at d2
    have HP := Lib.hid (And.intro hts (And.intro hpt (And.intro hpn hp1)))
    have hbp : b ≠ p := Ne.symm hpb
    clear hts hlen hpt hpn hp1
    simp only [pt, Option.map_some] at c3
    go_wp2_with fail
    go_end0
    have hb2 := (set_far (w := w1) (p := ⟨p, 2, none⟩) (v := .pointer (some ⟨n, 0, none⟩)) hbp).trans H1.out.2.2.2
    have q := Mem.row_set (Mem.row_set hb2 3 (.pointer (some ⟨n, 0, none⟩))) 4 (.int .i64 ((ts.length : Int) + 1))
    have hfar : ∀ j, j ≠ b → (((w1.setCell ⟨p, 2, none⟩ (.pointer (some ⟨n, 0, none⟩))).setCell ⟨b, 3, none⟩ (.pointer (some ⟨n, 0, none⟩))).setCell ⟨b, 4, none⟩ (.int .i64 ((ts.length : Int) + 1))).heap[j]? = (w1.setCell ⟨p, 2, none⟩ (.pointer (some ⟨n, 0, none⟩))).heap[j]? := fun j hj => (set_far hj).trans (set_far hj)
    refine ⟨rfl, ?_, ChainB.push HC.out.1 HC.out.2.1 ?_ (fun l2 p2 e => ?_) (fun j hj h2 k a c h3 => ?_), ((H1.out.2.2.1.setCell (p := ⟨p, 2, none⟩) (.inl (.inr (.inr HP.out.2.1))) _).setCell (p := ⟨b, 3, none⟩) (.inl (.inl rfl)) _).setCell (p := ⟨b, 4, none⟩) (.inl (.inl rfl)) _⟩
    · rw [q]
      unfold listObj listArr
      rw [fst_left ts [(n, k)] (by rw [HP.out.1]; simp), lst_app, List.length_append]
      rfl
    · rw [HA.out]
      exact (hfar n hbn).trans ((set_far (Ne.symm HP.out.2.2.1)).trans H1.out.1)
    · have := e.symm.trans HP.out.1
      obtain ⟨rfl, e2⟩ := List.append_inj' this rfl
      injection e2 with e2
      subst e2
      exact (hfar p hpb).trans (Mem.row_set HP.out.2.2.2 2 _)
    · have hjb : j ≠ b := fun e => HC.out.2.2.2 (e ▸ hj)
      have hjn : j ≠ n := fun e => HC.out.2.2.1 (e ▸ hj)
      have hjp : j ≠ p := fun e => h2 (by rw [e]; exact HA.out)
      exact (hfar j hjb).trans ((set_far hjp).trans ((H1.out.2.1 j hjn).trans h3))
set_option maxRecDepth 100000 in
set_option maxHeartbeats 2000000 in
theorem push_safe {w : World} {b n mb : Nat} {most : Int} {ts ss : List Nd} {k : ByteArray} {u1 u2 u3 : Value} (hb : w.heap[b]? = some (listObj most mb ts ss)) (hc : Chain w ⟨b, 5, none⟩ ss) (hnd : (ss.map (·.1)).Nodup)
    (hn : w.heap[n]? = some (.cells #[.string k, u1, u2, u3] 188 (0, 0))) (hnt : n ∉ ss.map (·.1)) (hlen : ss.length + 1 ≤ 9223372036854775807) :
    Calls Tryz.prog 75 #[.pointer (some ⟨b, 5, none⟩), .pointer (some ⟨n, 0, none⟩)] w (RowPost w b 5 (listObj most mb ts (ss ++ [(n, k)])) ss (ss ++ [(n, k)]) n) := by
  have hbn : n ≠ b := fun e => by
    subst e
    rw [hb] at hn
    injection hn with e
    injection e with _ e
    exact absurd e (by decide)
  have hbt := hc.ne hb
  have HC := Lib.hid (And.intro hc (And.intro hnd (And.intro hnt hbt)))
  have hb3 := Mem.row_cell hb 6
  have m1 := Mem.row_cell hn 1
  have m2 := Mem.row_cell hn 2
  have m3 := Mem.row_cell hn 3
  have n1 := Mem.row_free hn 1
  have n2 := Mem.row_free hn 2
  have n3 := Mem.row_free hn 3
  simp only [listArr, List.getElem?_toArray, List.getElem?_cons_zero, List.getElem?_cons_succ] at hb3 m1 m2 m3
  obtain ⟨la, hla⟩ : ∃ la, lst ss = la := ⟨_, rfl⟩
  rw [hla] at hb3
  obtain ⟨xa, hxa⟩ : ∃ xa, la.map (fun n => (⟨n, 0, none⟩ : Addr)) = xa := ⟨_, rfl⟩
  have hpa : pt la = .pointer xa := by rw [← hxa]; rfl
  rw [hpa] at hb3
  have HX := Lib.hid hpa
  clear hxa hpa
  have HN := Lib.hid hn
  have HB := Lib.hid hb
  clear hb hn hc hnd hnt hbt
  go_enter Tryz.func75, Tryz.ntmps75
  go_upto_region 1 with (fail)
  have k1 : (((w.setCell ⟨n, 1, none⟩ (.pointer xa)).setCell ⟨n, 2, none⟩ (.pointer none)).setCell ⟨n, 3, none⟩ (.pointer (some ⟨b, 5, none⟩))).heap[n]? = some (nodeObj k la none ⟨b, 5, none⟩) := by
    rw [← HX.out]
    exact Mem.row_set (Mem.row_set (Mem.row_set HN.out 1 _) 2 _) 3 _
  have o1 : ∀ j, j ≠ n → (((w.setCell ⟨n, 1, none⟩ (.pointer xa)).setCell ⟨n, 2, none⟩ (.pointer none)).setCell ⟨n, 3, none⟩ (.pointer (some ⟨b, 5, none⟩))).heap[j]? = w.heap[j]? := fun j hj => (set_far hj).trans ((set_far hj).trans (set_far hj))
  have on1 : Only (fun j => j = b ∨ j = n ∨ j ∈ ss.map (·.1)) w (((w.setCell ⟨n, 1, none⟩ (.pointer xa)).setCell ⟨n, 2, none⟩ (.pointer none)).setCell ⟨n, 3, none⟩ (.pointer (some ⟨b, 5, none⟩))) :=
    (((Only.refl _ w).setCell (p := ⟨n, 1, none⟩) (.inl (.inr (.inl rfl))) _).setCell (p := ⟨n, 2, none⟩) (.inl (.inr (.inl rfl))) _).setCell (p := ⟨n, 3, none⟩) (.inl (.inr (.inl rfl))) _
  generalize ((w.setCell ⟨n, 1, none⟩ (.pointer xa)).setCell ⟨n, 2, none⟩ (.pointer none)).setCell ⟨n, 3, none⟩ (.pointer (some ⟨b, 5, none⟩)) = w1 at *
  have hb1 := (o1 b (Ne.symm hbn)).trans HB.out
  have c2 := Mem.row_cell hb1 5
  have c3 := Mem.row_cell hb1 6
  have c4 := Mem.row_cell hb1 7
  have f2 := Mem.row_free hb1 5
  have f3 := Mem.row_free hb1 6
  have f4 := Mem.row_free hb1 7
  simp only [listArr, List.getElem?_toArray, List.getElem?_cons_zero, List.getElem?_cons_succ] at c2 c3 c4
  have hw : IntKind.i64.wrap ((ss.length : Int) + 1) = (ss.length : Int) + 1 := by rw [IntKind.wrap_i64]; omega
  rw [hla] at c3
  have H1 := Lib.hid (And.intro k1 (And.intro o1 (And.intro on1 hb1)))
  have HA := Lib.hid hla
  clear k1 o1 on1 hb1 hb3 n1 n2 n3 m1 m2 m3
  rcases snoc_cases ss with hts | ⟨l, ⟨p, kp⟩, hts⟩
  · have hla2 := HA.out
    rw [hts] at hla2
    simp at hla2
    subst hla2
    have HT := Lib.hid hts
    clear hts hlen
    simp only [pt, Option.map_none] at c3
    go_wp2_with fail
    go_end0
    have q := Mem.row_set (Mem.row_set (Mem.row_set H1.out.2.2.2 5 (.pointer (some ⟨n, 0, none⟩))) 6 (.pointer (some ⟨n, 0, none⟩))) 7 (.int .i64 ((ss.length : Int) + 1))
    have hts := HT.out
    subst hts
    refine ⟨rfl, q, ChainB.push HC.out.1 HC.out.2.1 ?_ (fun l p e => by simp at e) (fun j hj _ _ _ _ _ => by simp at hj), ((H1.out.2.2.1.setCell (p := ⟨b, 5, none⟩) (.inl (.inl rfl)) _).setCell (p := ⟨b, 6, none⟩) (.inl (.inl rfl)) _).setCell (p := ⟨b, 7, none⟩) (.inl (.inl rfl)) _⟩
    exact (set_far hbn).trans ((set_far hbn).trans ((set_far hbn).trans H1.out.1))
  · have hla2 := HA.out
    rw [hts] at hla2
    simp at hla2
    subst hla2
    have hpt : p ∈ ss.map (·.1) := by rw [hts]; simp
    have hpb : p ≠ b := fun e => HC.out.2.2.2 (e ▸ hpt)
    have hpn : p ≠ n := fun e => HC.out.2.2.1 (e ▸ hpt)
    have hp1 := (H1.out.2.1 p hpn).trans (HC.out.1 l p kp [] hts)
    have g2 := Mem.row_free hp1 2
    have d2 := Mem.row_cell hp1 2
    simp only [List.getElem?_toArray, List.getElem?_cons_zero, List.getElem?_cons_succ] at d2
    have HP := Lib.hid (And.intro hts (And.intro hpt (And.intro hpn hp1)))
    have hbp : b ≠ p := Ne.symm hpb
    clear hts hlen hpt hpn hp1
    simp only [pt, Option.map_some] at c3
    go_wp2_with fail
    go_end0
    have hb2 := (set_far (w := w1) (p := ⟨p, 2, none⟩) (v := .pointer (some ⟨n, 0, none⟩)) hbp).trans H1.out.2.2.2
    have q := Mem.row_set (Mem.row_set hb2 6 (.pointer (some ⟨n, 0, none⟩))) 7 (.int .i64 ((ss.length : Int) + 1))
    have hfar : ∀ j, j ≠ b → (((w1.setCell ⟨p, 2, none⟩ (.pointer (some ⟨n, 0, none⟩))).setCell ⟨b, 6, none⟩ (.pointer (some ⟨n, 0, none⟩))).setCell ⟨b, 7, none⟩ (.int .i64 ((ss.length : Int) + 1))).heap[j]? = (w1.setCell ⟨p, 2, none⟩ (.pointer (some ⟨n, 0, none⟩))).heap[j]? := fun j hj => (set_far hj).trans (set_far hj)
    refine ⟨rfl, ?_, ChainB.push HC.out.1 HC.out.2.1 ?_ (fun l2 p2 e => ?_) (fun j hj h2 k a c h3 => ?_), ((H1.out.2.2.1.setCell (p := ⟨p, 2, none⟩) (.inl (.inr (.inr HP.out.2.1))) _).setCell (p := ⟨b, 6, none⟩) (.inl (.inl rfl)) _).setCell (p := ⟨b, 7, none⟩) (.inl (.inl rfl)) _⟩
    · rw [q]
      unfold listObj listArr
      rw [fst_left ss [(n, k)] (by rw [HP.out.1]; simp), lst_app, List.length_append]
      rfl
    · rw [HA.out]
      exact (hfar n hbn).trans ((set_far (Ne.symm HP.out.2.2.1)).trans H1.out.1)
    · have := e.symm.trans HP.out.1
      obtain ⟨rfl, e2⟩ := List.append_inj' this rfl
      injection e2 with e2
      subst e2
      exact (hfar p hpb).trans (Mem.row_set HP.out.2.2.2 2 _)
    · have hjb : j ≠ b := fun e => HC.out.2.2.2 (e ▸ hj)
      have hjn : j ≠ n := fun e => HC.out.2.2.1 (e ▸ hj)
      have hjp : j ≠ p := fun e => h2 (by rw [e]; exact HA.out)
      exact (hfar j hjb).trans ((set_far hjp).trans ((H1.out.2.1 j hjn).trans h3))
end Go.Proofs.YtpghckiochjogaaGreatDoor.Slru

/- Layer 8: a node is taken out of its row. -/
namespace Go.Proofs.YtpghckiochjogaaGreatDoor.Slru
open Go Go.RowKit Go.Proofs.YtpghckiochjogaaGreatDoor.Mem
set_option maxRecDepth 100000 in
set_option maxHeartbeats 2000000 in
theorem pull_trial {w : World} {b n mb : Nat} {most : Int} {l r zs : List Nd} {k : ByteArray} (hb : w.heap[b]? = some (listObj most mb (l ++ (n, k) :: r) zs)) (hc : Chain w ⟨b, 2, none⟩ (l ++ (n, k) :: r)) (hnd : ((l ++ (n, k) :: r).map (·.1)).Nodup)
    (hlen : (l ++ (n, k) :: r).length ≤ 9223372036854775807) :
    Calls Tryz.prog 74 #[.pointer (some ⟨n, 0, none⟩)] w fun e w' => RowPost w b 2 (listObj most mb (l ++ r) zs) (l ++ (n, k) :: r) (l ++ r) n e w' ∧ w'.heap[n]? = w.heap[n]? := by
  have hbt := hc.ne hb
  have hn := hc l n k r rfl
  have hnb : n ≠ b := fun e => hbt (by rw [← e]; simp)
  have q1 := Mem.row_cell hn 1
  have q2 := Mem.row_cell hn 2
  have q3 := Mem.row_cell hn 3
  simp only [List.getElem?_toArray, List.getElem?_cons_zero, List.getElem?_cons_succ] at q1 q2 q3
  have HC := Lib.hid (And.intro hc (And.intro hnd (And.intro hbt (And.intro hb hn))))
  have hL : (l ++ (n, k) :: r).length = (l ++ r).length + 1 := by simp; omega
  have hlw : IntKind.i64.wrap (((l ++ (n, k) :: r).length : Nat) - (1 : Int)) = ((l ++ r).length : Nat) := by rw [IntKind.wrap_i64, hL]; omega
  have HL := Lib.hid hL
  have HW := Lib.hid (And.intro hlen hlw)
  clear hc hnd hbt hb hn hlw hlen hL
  obtain ⟨xl, hxl⟩ : ∃ xl, (lst l).map (fun n => (⟨n, 0, none⟩ : Addr)) = xl := ⟨_, rfl⟩
  obtain ⟨xr, hxr⟩ : ∃ xr, (fst r).map (fun n => (⟨n, 0, none⟩ : Addr)) = xr := ⟨_, rfl⟩
  have hpl : pt (lst l) = .pointer xl := by rw [← hxl]; rfl
  have hpr : pt (fst r) = .pointer xr := by rw [← hxr]; rfl
  rw [hpl] at q1
  rw [hpr] at q2
  have HX := Lib.hid (And.intro hpl (And.intro hpr (And.intro hxl hxr)))
  clear hpl hpr hxl hxr
  go_enter Tryz.func74, Tryz.ntmps74
  go_upto_if 11 with (fail)
  go_cut [] from 7 to 57 (fun wx => wx.heap[b]? = some (.cells ((listArr most mb (l ++ (n, k) :: r) zs).setIfInBounds 2 (pt (fst (l ++ r)))) 113 (0, 0)) ∧
    (∀ l' p, l = l' ++ [p] → wx.heap[p.1]? = some (nodeObj p.2 (lst l') (fst r) ⟨b, 2, none⟩)) ∧ (∀ j, j ≠ b → lst l ≠ some j → wx.heap[j]? = w.heap[j]?) ∧
    Only (fun j => j = b ∨ j = n ∨ j ∈ (l ++ (n, k) :: r).map (·.1)) w wx)
  case first =>
    rcases snoc_cases l with hl | ⟨l', ⟨p, kp⟩, hl⟩
    · subst hl
      have hxn : none = xl := HX.out.2.2.1
      subst hxn
      have c0 := Mem.row_cell HC.out.2.2.2.1 2
      have f0 := Mem.row_free HC.out.2.2.2.1 2
      simp only [listArr, List.getElem?_toArray, List.getElem?_cons_zero, List.getElem?_cons_succ] at c0
      go_wp2_with fail
      go_meet
      have hr : ∀ v, pt (fst r) = v → (w.setCell ⟨b, 2, none⟩ v).heap[b]? = some (.cells ((listArr most mb ([] ++ (n, k) :: r) zs).setIfInBounds 2 (pt (fst ([] ++ r)))) 113 (0, 0)) := fun v hv => by
        subst hv; exact Mem.row_set HC.out.2.2.2.1 2 _
      exact ⟨hr _ HX.out.2.1, fun l' p e => by simp at e, fun j hj _ => set_far hj, (Only.refl _ w).setCell (p := ⟨b, 2, none⟩) (.inl (.inl rfl)) _⟩
    · subst hl
      have hxn : some ⟨p, 0, none⟩ = xl := by rw [← HX.out.2.2.1, lst_app]; rfl
      subst hxn
      have hpm : p ∈ ((l' ++ [(p, kp)]) ++ (n, k) :: r).map (·.1) := by simp
      have hpb : p ≠ b := fun e => HC.out.2.2.1 (e ▸ hpm)
      have hp := HC.out.1 l' p kp ((n, k) :: r) (by simp)
      have c0 := Mem.row_cell hp 2
      have f0 := Mem.row_free hp 2
      simp only [List.getElem?_toArray, List.getElem?_cons_zero, List.getElem?_cons_succ] at c0
      have HP := Lib.hid (And.intro hpm (And.intro hpb hp))
      clear hpm hpb hp
      go_wp2_with fail
      refine wp_region_still_tail 10 (by kernel_rfl) (by kernel_rfl) ?_
      simp only [List.take_succ_cons, List.take_zero, List.drop_succ_cons, List.drop_zero]
      repeat still_step
      refine wpStill_nil ?_
      change wpList _ _ _ _ _ w.drew
      go_wp2_with fail
      go_meet
      have hr : ∀ v, pt (fst r) = v → ((w.setCell ⟨p, 2, none⟩ v).drew.heap[p]? = some (nodeObj kp (lst l') (fst r) ⟨b, 2, none⟩)) := fun v hv => by
        rw [← hv]; exact Mem.row_set HP.out.2.2 2 _
      refine ⟨?_, fun l2 p2 e => ?_, fun j hj h2 => set_far (fun e => h2 (by rw [lst_app, e])), ((Only.refl _ w).setCell (p := ⟨p, 2, none⟩) (.inl (.inr (.inr HP.out.1))) _).drew⟩
      · refine (set_far (Ne.symm HP.out.2.1)).trans ?_
        rw [HC.out.2.2.2.1, fst_left _ r (by simp)]
        unfold listObj listArr
        rw [fst_left _ _ (by simp)]
        rfl
      · obtain ⟨rfl, e2⟩ := List.append_inj' e rfl
        injection e2 with e2
        subst e2
        exact hr _ HX.out.2.1
  case rest =>
    obtain ⟨h1, h2, h3, h4⟩ := hcut
    have hln : lst l ≠ some n := fun e => by
      have := lst_mem e
      have := HC.out.2.1
      simp only [List.map_append, List.map_cons, List.nodup_append, List.nodup_cons] at this
      exact this.2.2 n (by assumption) n (by simp) rfl
    have hn := (h3 n hnb hln).trans HC.out.2.2.2.2
    have q1 := Mem.row_cell hn 1
    have q2 := Mem.row_cell hn 2
    simp only [List.getElem?_toArray, List.getElem?_cons_zero, List.getElem?_cons_succ] at q1 q2
    have H1 := Lib.hid (And.intro h1 (And.intro h2 (And.intro h3 h4)))
    clear h1 h2 h3 h4 hln hn q3
    rw [HX.out.1] at q1
    rw [HX.out.2.1] at q2
    go_upto_if 33 with (fail)
    go_cut [] from 7 to 57 (fun wy => wy.heap[b]? = some (.cells (((listArr most mb (l ++ (n, k) :: r) zs).setIfInBounds 2 (pt (fst (l ++ r)))).setIfInBounds 3 (pt (lst (l ++ r)))) 113 (0, 0)) ∧
      (∀ l' p, l = l' ++ [p] → wy.heap[p.1]? = some (nodeObj p.2 (lst l') (fst r) ⟨b, 2, none⟩)) ∧ (∀ p r', r = p :: r' → wy.heap[p.1]? = some (nodeObj p.2 (lst l) (fst r') ⟨b, 2, none⟩)) ∧
      (∀ j, j ≠ b → lst l ≠ some j → fst r ≠ some j → wy.heap[j]? = w.heap[j]?) ∧ Only (fun j => j = b ∨ j = n ∨ j ∈ (l ++ (n, k) :: r).map (·.1)) w wy)
    case first =>
      cases r with
      | nil =>
        have hxn : none = xr := HX.out.2.2.2
        subst hxn
        have c0 := Mem.row_cell H1.out.1 3
        have f0 := Mem.row_free H1.out.1 3
        simp only [listArr, List.getElem?_toArray, List.getElem?_cons_zero, List.getElem?_cons_succ, List.setIfInBounds_toArray, List.set_cons_succ, List.set_cons_zero] at c0
        go_wp2_with fail
        go_meet
        have hr : ∀ v, pt (lst l) = v → (wc.setCell ⟨b, 3, none⟩ v).heap[b]? = some (.cells (((listArr most mb (l ++ (n, k) :: []) zs).setIfInBounds 2 (pt (fst (l ++ [])))).setIfInBounds 3 (pt (lst (l ++ [])))) 113 (0, 0)) := fun v hv => by
          have := Mem.row_set H1.out.1 3 v
          rw [List.append_nil] at this ⊢
          rw [hv]
          exact this
        have hpbn : ∀ (l' : List Nd) (p : Nd), l = l' ++ [p] → p.1 ≠ b := fun l' p e e2 => HC.out.2.2.1 (by rw [← e2, e]; simp)
        exact ⟨hr _ HX.out.1, fun l' p e => (set_far (hpbn l' p e)).trans (H1.out.2.1 l' p e), fun p r' e => by simp at e, fun j hj h2 _ => (set_far hj).trans (H1.out.2.2.1 j hj h2), H1.out.2.2.2.setCell (p := ⟨b, 3, none⟩) (.inl (.inl rfl)) _⟩
      | cons q r' =>
        obtain ⟨q, kq⟩ := q
        have hxn : some ⟨q, 0, none⟩ = xr := by rw [← HX.out.2.2.2]; rfl
        subst hxn
        have hnd := HC.out.2.1
        simp only [List.map_append, List.map_cons, List.nodup_append, List.nodup_cons] at hnd
        have hqm : q ∈ (l ++ (n, k) :: (q, kq) :: r').map (·.1) := by simp
        have hqb : q ≠ b := fun e => HC.out.2.2.1 (e ▸ hqm)
        have hql : lst l ≠ some q := fun e => hnd.2.2 q (lst_mem e) q (by simp) rfl
        have hq := (H1.out.2.2.1 q hqb hql).trans (HC.out.1 (l ++ [(n, k)]) q kq r' (by simp))
        rw [lst_app] at hq
        have c0 := Mem.row_cell hq 1
        have f0 := Mem.row_free hq 1
        simp only [List.getElem?_toArray, List.getElem?_cons_zero, List.getElem?_cons_succ] at c0
        have HQ := Lib.hid (And.intro hqm (And.intro hqb (And.intro hql hq)))
        clear hqm hqb hql hq hnd
        go_wp2_with fail
        refine wp_region_still_tail 10 (by kernel_rfl) (by kernel_rfl) ?_
        simp only [List.take_succ_cons, List.take_zero, List.drop_succ_cons, List.drop_zero]
        repeat still_step
        refine wpStill_nil ?_
        change wpList _ _ _ _ _ wc.drew
        go_wp2_with fail
        go_meet
        have hr : ∀ v, pt (lst l) = v → ((wc.setCell ⟨q, 1, none⟩ v).drew.heap[q]? = some (nodeObj kq (lst l) (fst r') ⟨b, 2, none⟩)) := fun v hv => by
          rw [← hv]; exact Mem.row_set HQ.out.2.2.2 1 _
        refine ⟨?_, fun l' p e => ?_, fun p r2 e => ?_, fun j hj h2 h3 => (set_far (fun e => h3 (by rw [fst_cons, e]))).trans (H1.out.2.2.1 j hj h2), (H1.out.2.2.2.setCell (p := ⟨q, 1, none⟩) (.inl (.inr (.inr HQ.out.1))) _).drew⟩
        · refine (set_far (Ne.symm HQ.out.2.1)).trans ?_
          rw [H1.out.1, lst_cons]
          unfold listArr
          rw [lst_cons, show lst ((n, k) :: (q, kq) :: r') = lst ((q, kq) :: r') from lst_cons [(n, k)] _ _]
          rfl
        · have hpq : p.1 ≠ q := fun e2 => HQ.out.2.2.1 (by rw [e, lst_app, e2])
          exact (set_far hpq).trans (H1.out.2.1 l' p e)
        · injection e with e e2
          subst e e2
          exact hr _ HX.out.1
    case rest =>
      obtain ⟨h1, h2, h3, h4, h5⟩ := hcut
      have c0 := Mem.row_cell h1 4
      have f0 := Mem.row_free h1 4
      simp only [listArr, List.getElem?_toArray, List.getElem?_cons_zero, List.getElem?_cons_succ, List.setIfInBounds_toArray, List.set_cons_succ, List.set_cons_zero] at c0
      have H2 := Lib.hid (And.intro h1 (And.intro h2 (And.intro h3 (And.intro h4 h5))))
      have hlw := HW.out.2
      obtain ⟨M, hM⟩ : ∃ M, (l ++ r).length = M := ⟨_, rfl⟩
      rw [hM] at hlw
      generalize (l ++ (n, k) :: r).length = L at c0 hlw
      have HM := Lib.hid hM
      clear h1 h2 h3 h4 h5 H1 q1 q2 hM
      go_wp2_with fail
      go_end0
      have hM := HM.out
      subst hM
      have hset := Mem.row_set H2.out.1 4 (.int .i64 ((l ++ r).length : Nat))
      have hfar : ∀ j, j ≠ b → (wc.setCell ⟨b, 4, none⟩ (.int .i64 ((l ++ r).length : Nat))).heap[j]? = wc.heap[j]? := fun j hj => set_far hj
      have hbm : ∀ j, j ∈ (l ++ (n, k) :: r).map (·.1) → j ≠ b := fun j hj e => HC.out.2.2.1 (e ▸ hj)
      have hnn := HC.out.2.1
      simp only [List.map_append, List.map_cons, List.nodup_append, List.nodup_cons] at hnn
      refine ⟨⟨rfl, hset, ChainB.pull HC.out.1 HC.out.2.1 (fun l' p e => (hfar _ (hbm _ (by rw [e]; simp))).trans (H2.out.2.1 l' p e)) (fun p r' e => (hfar _ (hbm _ (by rw [e]; simp))).trans (H2.out.2.2.1 p r' e))
        (fun j hj h2 h3 _ _ _ h => ?_), H2.out.2.2.2.2.setCell (p := ⟨b, 4, none⟩) (.inl (.inl rfl)) _⟩, (hfar n hnb).trans (H2.out.2.2.2.1 n hnb (fun e => hnn.2.2 n (lst_mem e) n (by simp) rfl) (fun e => hnn.2.1.1 (fst_mem e)))⟩
      have hj' := hbm j (by simp only [List.map_append, List.map_cons, List.mem_append, List.mem_cons] at hj ⊢; exact hj.elim .inl (fun e => .inr (.inr e)))
      exact (hfar j hj').trans ((H2.out.2.2.2.1 j hj' h2 h3).trans h)
set_option maxRecDepth 100000 in
set_option maxHeartbeats 2000000 in
theorem pull_safe {w : World} {b n mb : Nat} {most : Int} {l r zs : List Nd} {k : ByteArray} (hb : w.heap[b]? = some (listObj most mb zs (l ++ (n, k) :: r))) (hc : Chain w ⟨b, 5, none⟩ (l ++ (n, k) :: r)) (hnd : ((l ++ (n, k) :: r).map (·.1)).Nodup)
    (hlen : (l ++ (n, k) :: r).length ≤ 9223372036854775807) :
    Calls Tryz.prog 74 #[.pointer (some ⟨n, 0, none⟩)] w fun e w' => RowPost w b 5 (listObj most mb zs (l ++ r)) (l ++ (n, k) :: r) (l ++ r) n e w' ∧ w'.heap[n]? = w.heap[n]? := by
  have hbt := hc.ne hb
  have hn := hc l n k r rfl
  have hnb : n ≠ b := fun e => hbt (by rw [← e]; simp)
  have q1 := Mem.row_cell hn 1
  have q2 := Mem.row_cell hn 2
  have q3 := Mem.row_cell hn 3
  simp only [List.getElem?_toArray, List.getElem?_cons_zero, List.getElem?_cons_succ] at q1 q2 q3
  have HC := Lib.hid (And.intro hc (And.intro hnd (And.intro hbt (And.intro hb hn))))
  have hL : (l ++ (n, k) :: r).length = (l ++ r).length + 1 := by simp; omega
  have hlw : IntKind.i64.wrap (((l ++ (n, k) :: r).length : Nat) - (1 : Int)) = ((l ++ r).length : Nat) := by rw [IntKind.wrap_i64, hL]; omega
  have HL := Lib.hid hL
  have HW := Lib.hid (And.intro hlen hlw)
  clear hc hnd hbt hb hn hlw hlen hL
  obtain ⟨xl, hxl⟩ : ∃ xl, (lst l).map (fun n => (⟨n, 0, none⟩ : Addr)) = xl := ⟨_, rfl⟩
  obtain ⟨xr, hxr⟩ : ∃ xr, (fst r).map (fun n => (⟨n, 0, none⟩ : Addr)) = xr := ⟨_, rfl⟩
  have hpl : pt (lst l) = .pointer xl := by rw [← hxl]; rfl
  have hpr : pt (fst r) = .pointer xr := by rw [← hxr]; rfl
  rw [hpl] at q1
  rw [hpr] at q2
  have HX := Lib.hid (And.intro hpl (And.intro hpr (And.intro hxl hxr)))
  clear hpl hpr hxl hxr
  go_enter Tryz.func74, Tryz.ntmps74
  go_upto_if 11 with (fail)
  go_cut [] from 7 to 57 (fun wx => wx.heap[b]? = some (.cells ((listArr most mb zs (l ++ (n, k) :: r)).setIfInBounds 5 (pt (fst (l ++ r)))) 113 (0, 0)) ∧
    (∀ l' p, l = l' ++ [p] → wx.heap[p.1]? = some (nodeObj p.2 (lst l') (fst r) ⟨b, 5, none⟩)) ∧ (∀ j, j ≠ b → lst l ≠ some j → wx.heap[j]? = w.heap[j]?) ∧
    Only (fun j => j = b ∨ j = n ∨ j ∈ (l ++ (n, k) :: r).map (·.1)) w wx)
  case first =>
    rcases snoc_cases l with hl | ⟨l', ⟨p, kp⟩, hl⟩
    · subst hl
      have hxn : none = xl := HX.out.2.2.1
      subst hxn
      have c0 := Mem.row_cell HC.out.2.2.2.1 5
      have f0 := Mem.row_free HC.out.2.2.2.1 5
      simp only [listArr, List.getElem?_toArray, List.getElem?_cons_zero, List.getElem?_cons_succ] at c0
      go_wp2_with fail
      go_meet
      have hr : ∀ v, pt (fst r) = v → (w.setCell ⟨b, 5, none⟩ v).heap[b]? = some (.cells ((listArr most mb zs ([] ++ (n, k) :: r)).setIfInBounds 5 (pt (fst ([] ++ r)))) 113 (0, 0)) := fun v hv => by
        subst hv; exact Mem.row_set HC.out.2.2.2.1 5 _
      exact ⟨hr _ HX.out.2.1, fun l' p e => by simp at e, fun j hj _ => set_far hj, (Only.refl _ w).setCell (p := ⟨b, 5, none⟩) (.inl (.inl rfl)) _⟩
    · subst hl
      have hxn : some ⟨p, 0, none⟩ = xl := by rw [← HX.out.2.2.1, lst_app]; rfl
      subst hxn
      have hpm : p ∈ ((l' ++ [(p, kp)]) ++ (n, k) :: r).map (·.1) := by simp
      have hpb : p ≠ b := fun e => HC.out.2.2.1 (e ▸ hpm)
      have hp := HC.out.1 l' p kp ((n, k) :: r) (by simp)
      have c0 := Mem.row_cell hp 2
      have f0 := Mem.row_free hp 2
      simp only [List.getElem?_toArray, List.getElem?_cons_zero, List.getElem?_cons_succ] at c0
      have HP := Lib.hid (And.intro hpm (And.intro hpb hp))
      clear hpm hpb hp
      go_wp2_with fail
      refine wp_region_still_tail 10 (by kernel_rfl) (by kernel_rfl) ?_
      simp only [List.take_succ_cons, List.take_zero, List.drop_succ_cons, List.drop_zero]
      repeat still_step
      refine wpStill_nil ?_
      change wpList _ _ _ _ _ w.drew
      go_wp2_with fail
      go_meet
      have hr : ∀ v, pt (fst r) = v → ((w.setCell ⟨p, 2, none⟩ v).drew.heap[p]? = some (nodeObj kp (lst l') (fst r) ⟨b, 5, none⟩)) := fun v hv => by
        rw [← hv]; exact Mem.row_set HP.out.2.2 2 _
      refine ⟨?_, fun l2 p2 e => ?_, fun j hj h2 => set_far (fun e => h2 (by rw [lst_app, e])), ((Only.refl _ w).setCell (p := ⟨p, 2, none⟩) (.inl (.inr (.inr HP.out.1))) _).drew⟩
      · refine (set_far (Ne.symm HP.out.2.1)).trans ?_
        rw [HC.out.2.2.2.1, fst_left _ r (by simp)]
        unfold listObj listArr
        rw [fst_left _ _ (by simp)]
        rfl
      · obtain ⟨rfl, e2⟩ := List.append_inj' e rfl
        injection e2 with e2
        subst e2
        exact hr _ HX.out.2.1
  case rest =>
    obtain ⟨h1, h2, h3, h4⟩ := hcut
    have hln : lst l ≠ some n := fun e => by
      have := lst_mem e
      have := HC.out.2.1
      simp only [List.map_append, List.map_cons, List.nodup_append, List.nodup_cons] at this
      exact this.2.2 n (by assumption) n (by simp) rfl
    have hn := (h3 n hnb hln).trans HC.out.2.2.2.2
    have q1 := Mem.row_cell hn 1
    have q2 := Mem.row_cell hn 2
    simp only [List.getElem?_toArray, List.getElem?_cons_zero, List.getElem?_cons_succ] at q1 q2
    have H1 := Lib.hid (And.intro h1 (And.intro h2 (And.intro h3 h4)))
    clear h1 h2 h3 h4 hln hn q3
    rw [HX.out.1] at q1
    rw [HX.out.2.1] at q2
    go_upto_if 33 with (fail)
    go_cut [] from 7 to 57 (fun wy => wy.heap[b]? = some (.cells (((listArr most mb zs (l ++ (n, k) :: r)).setIfInBounds 5 (pt (fst (l ++ r)))).setIfInBounds 6 (pt (lst (l ++ r)))) 113 (0, 0)) ∧
      (∀ l' p, l = l' ++ [p] → wy.heap[p.1]? = some (nodeObj p.2 (lst l') (fst r) ⟨b, 5, none⟩)) ∧ (∀ p r', r = p :: r' → wy.heap[p.1]? = some (nodeObj p.2 (lst l) (fst r') ⟨b, 5, none⟩)) ∧
      (∀ j, j ≠ b → lst l ≠ some j → fst r ≠ some j → wy.heap[j]? = w.heap[j]?) ∧ Only (fun j => j = b ∨ j = n ∨ j ∈ (l ++ (n, k) :: r).map (·.1)) w wy)
    case first =>
      cases r with
      | nil =>
        have hxn : none = xr := HX.out.2.2.2
        subst hxn
        have c0 := Mem.row_cell H1.out.1 6
        have f0 := Mem.row_free H1.out.1 6
        simp only [listArr, List.getElem?_toArray, List.getElem?_cons_zero, List.getElem?_cons_succ, List.setIfInBounds_toArray, List.set_cons_succ, List.set_cons_zero] at c0
        go_wp2_with fail
        go_meet
        have hr : ∀ v, pt (lst l) = v → (wc.setCell ⟨b, 6, none⟩ v).heap[b]? = some (.cells (((listArr most mb zs (l ++ (n, k) :: [])).setIfInBounds 5 (pt (fst (l ++ [])))).setIfInBounds 6 (pt (lst (l ++ [])))) 113 (0, 0)) := fun v hv => by
          have := Mem.row_set H1.out.1 6 v
          rw [List.append_nil] at this ⊢
          rw [hv]
          exact this
        have hpbn : ∀ (l' : List Nd) (p : Nd), l = l' ++ [p] → p.1 ≠ b := fun l' p e e2 => HC.out.2.2.1 (by rw [← e2, e]; simp)
        exact ⟨hr _ HX.out.1, fun l' p e => (set_far (hpbn l' p e)).trans (H1.out.2.1 l' p e), fun p r' e => by simp at e, fun j hj h2 _ => (set_far hj).trans (H1.out.2.2.1 j hj h2), H1.out.2.2.2.setCell (p := ⟨b, 6, none⟩) (.inl (.inl rfl)) _⟩
      | cons q r' =>
        obtain ⟨q, kq⟩ := q
        have hxn : some ⟨q, 0, none⟩ = xr := by rw [← HX.out.2.2.2]; rfl
        subst hxn
        have hnd := HC.out.2.1
        simp only [List.map_append, List.map_cons, List.nodup_append, List.nodup_cons] at hnd
        have hqm : q ∈ (l ++ (n, k) :: (q, kq) :: r').map (·.1) := by simp
        have hqb : q ≠ b := fun e => HC.out.2.2.1 (e ▸ hqm)
        have hql : lst l ≠ some q := fun e => hnd.2.2 q (lst_mem e) q (by simp) rfl
        have hq := (H1.out.2.2.1 q hqb hql).trans (HC.out.1 (l ++ [(n, k)]) q kq r' (by simp))
        rw [lst_app] at hq
        have c0 := Mem.row_cell hq 1
        have f0 := Mem.row_free hq 1
        simp only [List.getElem?_toArray, List.getElem?_cons_zero, List.getElem?_cons_succ] at c0
        have HQ := Lib.hid (And.intro hqm (And.intro hqb (And.intro hql hq)))
        clear hqm hqb hql hq hnd
        go_wp2_with fail
        refine wp_region_still_tail 10 (by kernel_rfl) (by kernel_rfl) ?_
        simp only [List.take_succ_cons, List.take_zero, List.drop_succ_cons, List.drop_zero]
        repeat still_step
        refine wpStill_nil ?_
        change wpList _ _ _ _ _ wc.drew
        go_wp2_with fail
        go_meet
        have hr : ∀ v, pt (lst l) = v → ((wc.setCell ⟨q, 1, none⟩ v).drew.heap[q]? = some (nodeObj kq (lst l) (fst r') ⟨b, 5, none⟩)) := fun v hv => by
          rw [← hv]; exact Mem.row_set HQ.out.2.2.2 1 _
        refine ⟨?_, fun l' p e => ?_, fun p r2 e => ?_, fun j hj h2 h3 => (set_far (fun e => h3 (by rw [fst_cons, e]))).trans (H1.out.2.2.1 j hj h2), (H1.out.2.2.2.setCell (p := ⟨q, 1, none⟩) (.inl (.inr (.inr HQ.out.1))) _).drew⟩
        · refine (set_far (Ne.symm HQ.out.2.1)).trans ?_
          rw [H1.out.1, lst_cons]
          unfold listArr
          rw [lst_cons, show lst ((n, k) :: (q, kq) :: r') = lst ((q, kq) :: r') from lst_cons [(n, k)] _ _]
          rfl
        · have hpq : p.1 ≠ q := fun e2 => HQ.out.2.2.1 (by rw [e, lst_app, e2])
          exact (set_far hpq).trans (H1.out.2.1 l' p e)
        · injection e with e e2
          subst e e2
          exact hr _ HX.out.1
    case rest =>
      obtain ⟨h1, h2, h3, h4, h5⟩ := hcut
      have c0 := Mem.row_cell h1 7
      have f0 := Mem.row_free h1 7
      simp only [listArr, List.getElem?_toArray, List.getElem?_cons_zero, List.getElem?_cons_succ, List.setIfInBounds_toArray, List.set_cons_succ, List.set_cons_zero] at c0
      have H2 := Lib.hid (And.intro h1 (And.intro h2 (And.intro h3 (And.intro h4 h5))))
      have hlw := HW.out.2
      obtain ⟨M, hM⟩ : ∃ M, (l ++ r).length = M := ⟨_, rfl⟩
      rw [hM] at hlw
      generalize (l ++ (n, k) :: r).length = L at c0 hlw
      have HM := Lib.hid hM
      clear h1 h2 h3 h4 h5 H1 q1 q2 hM
      go_wp2_with fail
      go_end0
      have hM := HM.out
      subst hM
      have hset := Mem.row_set H2.out.1 7 (.int .i64 ((l ++ r).length : Nat))
      have hfar : ∀ j, j ≠ b → (wc.setCell ⟨b, 7, none⟩ (.int .i64 ((l ++ r).length : Nat))).heap[j]? = wc.heap[j]? := fun j hj => set_far hj
      have hbm : ∀ j, j ∈ (l ++ (n, k) :: r).map (·.1) → j ≠ b := fun j hj e => HC.out.2.2.1 (e ▸ hj)
      have hnn := HC.out.2.1
      simp only [List.map_append, List.map_cons, List.nodup_append, List.nodup_cons] at hnn
      refine ⟨⟨rfl, hset, ChainB.pull HC.out.1 HC.out.2.1 (fun l' p e => (hfar _ (hbm _ (by rw [e]; simp))).trans (H2.out.2.1 l' p e)) (fun p r' e => (hfar _ (hbm _ (by rw [e]; simp))).trans (H2.out.2.2.1 p r' e))
        (fun j hj h2 h3 _ _ _ h => ?_), H2.out.2.2.2.2.setCell (p := ⟨b, 7, none⟩) (.inl (.inl rfl)) _⟩, (hfar n hnb).trans (H2.out.2.2.2.1 n hnb (fun e => hnn.2.2 n (lst_mem e) n (by simp) rfl) (fun e => hnn.2.1.1 (fst_mem e)))⟩
      have hj' := hbm j (by simp only [List.map_append, List.map_cons, List.mem_append, List.mem_cons] at hj ⊢; exact hj.elim .inl (fun e => .inr (.inr e)))
      exact (hfar j hj').trans ((H2.out.2.2.2.1 j hj' h2 h3).trans h)
end Go.Proofs.YtpghckiochjogaaGreatDoor.Slru

