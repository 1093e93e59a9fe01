/- Part4: Exec1, ExecN, ExecP, ExecI, ShardC, Slru1, Slru2, Slru3, Slru4, Slru5, Slru6, one behind the other. -/
import Derived.Test.YtodoglljjhdbeaaGreatDoorPart3
import Derived.Lib.ParseIntBCases
import Derived.Lib.ItoaLen
import Derived.Test.YtodoglljjhdbeaaGreatDoorPart2
import Derived.Test.YtodoglljjhdbeaaGreatDoorProg
import Derived.Test.YtodoglljjhdbeaaGreatDoorPart1
import Derived.WalkKit
import Derived.StillTailTactics
import Derived.Deep.Cut
import Derived.Lib.Hide
import Derived.Deep.CutRange
import Derived.Deep.QuietTactic
import Derived.BigQuiet
import Derived.MapKept
import Derived.Deep.RegionHeld3
/- Layers 10 and 12: At, TTL; only, at, view, fresh, Keyed. -/
namespace Go.Proofs.YtodoglljjhdbeaaGreatDoor.Exec
set_option maxRecDepth 100000
open Go Go.RowKit Go.Proofs.YtodoglljjhdbeaaGreatDoor.Mem Go.Proofs.YtodoglljjhdbeaaGreatDoor.App Go.Proofs.YtodoglljjhdbeaaGreatDoor.Shard

theorem wrap_i64 (n : Int) : IntKind.i64.wrap n = wrap64 n := by
  unfold IntKind.wrap wrap64
  simp only [IntKind.signed, IntKind.bits, Bool.true_and]
  split <;> rename_i h <;> simp at h <;> omega
/-- What a command's numbers are. -/
structure CmdOk (c : Cmd) : Prop where
  key : c.key.size ≤ 300
  val : c.val.length ≤ 2000
  exp : -9223372036854775808 ≤ c.exp ∧ c.exp ≤ 9223372036854775807
  cas : 0 ≤ c.cas ∧ c.cas ≤ 18446744073709551615
  delta : 0 ≤ c.delta ∧ c.delta ≤ 18446744073709551615
  initial : 0 ≤ c.initial ∧ c.initial ≤ 18446744073709551615
structure EnvOk (env : Env) : Prop where
  now : -9223372036854775808 ≤ env.now ∧ env.now ≤ 9223372036854775807
  seq : 0 ≤ env.seq ∧ env.seq ≤ 18446744073709551615
def rarr (b : Nat) (c : Cmd) (v : Value) (env : Env) : Array Value := #[.pointer (some ⟨b, 0, none⟩), .int .i64 c.op, .string c.key, v, .int .u32 c.flags, .int .i64 c.exp, .int .u64 c.cas, .int .u64 c.delta, .int .u64 c.initial, .bool c.makes, .bool c.sets, .int .i64 env.now, .int .u64 env.seq, .int .i64 env.flush, .int .u64 env.flushSeq]
theorem at_item (exp now : Int) (w : World) : Calls Tryz.prog 55 #[.int .i64 exp, .int .i64 now] w fun e w' => e = .returned (.int .i64 (atS exp now)) ∧ w = w' := by
  obtain ⟨m, hm⟩ : ∃ m, max now 1 = m := ⟨_, rfl⟩
  have hM : (1 ≤ now ∧ m = now) ∨ (¬ 1 ≤ now ∧ m = 1) := by omega
  unfold atS
  rw [wrap_i64, hm]
  clear hm
  by_cases h0 : exp = 0
  · subst h0
    rw [if_pos rfl]
    rcases hM with ⟨hn, rfl⟩ | ⟨hn, rfl⟩
    all_goals
      go_enter Tryz.func55, Tryz.ntmps55
      go_wp2
      go_ret
      exact ⟨rfl, rfl⟩
  have e0 : (exp == 0) = false := by simpa using h0
  rw [if_neg h0]
  by_cases h1 : exp < 0
  · rw [if_pos h1]
    have d1 : decide (exp < 0) = true := decide_eq_true h1
    clear h0
    rcases hM with ⟨hn, rfl⟩ | ⟨hn, rfl⟩
    all_goals
      go_enter Tryz.func55, Tryz.ntmps55
      go_wp2
      go_ret
      exact ⟨rfl, rfl⟩
  have d1 : decide (exp < 0) = false := decide_eq_false h1
  rw [if_neg h1]
  by_cases h2 : exp ≤ 2592000
  · rw [if_pos h2]
    have d2 : decide (exp ≤ 2592000) = true := decide_eq_true h2
    clear h0 h1
    rcases hM with ⟨hn, rfl⟩ | ⟨hn, rfl⟩
    all_goals
      go_enter Tryz.func55, Tryz.ntmps55
      go_wp2
      go_ret
      exact ⟨rfl, rfl⟩
  · rw [if_neg h2]
    have d2 : decide (exp ≤ 2592000) = false := decide_eq_false h2
    clear h0 h1
    rcases hM with ⟨hn, rfl⟩ | ⟨hn, rfl⟩
    all_goals
      go_enter Tryz.func55, Tryz.ntmps55
      go_wp2
      go_ret
      exact ⟨rfl, rfl⟩
theorem ttl_any (it : Shard.Item) (v : Value) (now : Int) (w : World) : Calls Tryz.prog 82 #[.agg (it.arr v), .int .i64 now] w fun e w' => e = .returned (.int .i64 (ttlS it now)) ∧ Below w.heap.size w w' := by
  have hb2 : Below w.heap.size w (w.alloc (.cells (it.arr v) 55)) := Mem.al (Below.refl _ _) _
  have HB := Lib.hid hb2
  clear hb2
  unfold ttlS
  rw [wrap_i64]
  by_cases h0 : it.exp = 0
  · rw [if_pos h0]
    have e0 : (it.exp == 0) = true := by simpa using h0
    unfold Item.arr at *
    clear h0
    go_enter Tryz.func82, Tryz.ntmps82
    go_wp2
    go_ret
    exact ⟨rfl, HB.out⟩
  have e0 : (it.exp == 0) = false := by simpa using h0
  rw [if_neg h0]
  by_cases h1 : it.exp ≤ now
  · rw [if_pos h1]
    have d1 : decide (it.exp ≤ now) = true := decide_eq_true h1
    unfold Item.arr at *
    clear h0
    go_enter Tryz.func82, Tryz.ntmps82
    go_wp2
    go_ret
    exact ⟨rfl, HB.out⟩
  · rw [if_neg h1]
    have d1 : decide (it.exp ≤ now) = false := decide_eq_false h1
    unfold Item.arr at *
    clear h0
    go_enter Tryz.func82, Tryz.ntmps82
    go_wp2
    go_ret
    exact ⟨rfl, HB.out⟩
def zeroR : Array Value := #[.int .i64 0, .slice none 0 0, .int .u32 0, .int .u64 0, .int .i64 0, .int .u64 0, .bool false, .bool false, .bool false]
theorem res_size (r : Res) (v : Value) : (Tryz.prog.info? 37).map (·.size) = some (r.arr v).size := by
  rw [show (r.arr v).size = 9 from rfl]; kernel_rfl
theorem res_one (r : Res) (a : Option Addr) (n k : Nat) : (r.arr (.slice a n k)).all (·.oneCell') = true := by
  unfold Res.arr
  rw [List.all_toArray]
  simp [Value.oneCell']
set_option maxHeartbeats 1000000 in
theorem only_any (k : Int) (w : World) : Calls Tryz.prog 19 #[.int .i64 k] w fun e w' => e = .returned (.agg ((only k).arr (.slice none 0 0))) ∧ Below w.heap.size w w' := by
  have n1 : (w.alloc (.cells zeroR 37)).heap[w.heap.size]? = some (.cells zeroR 37 (0, 0)) := Mem.new_block w _
  have hb := Mem.al (Below.refl w.heap.size w) (.cells zeroR 37)
  have HB := Lib.hid (And.intro n1 hb)
  clear n1 hb
  go_enter Tryz.func19, Tryz.ntmps19
  go_wp2_with (first
    | (refine wpList_store_row rfl 37 _ _ rfl w.heap.size ((only k).arr (.slice none 0 0)) rfl rfl 37 zeroR HB.out.1 (res_size _ _) rfl (res_one _ _ _ _) ?_)
    | fail)
  have hrow := setRow_heap _ _ _ ((only k).arr (.slice none 0 0)) _ _ HB.out.1
  refine bodyPost_ret (results_cell_row Tryz.results19 _ _ w.heap.size _ _ _ _ rfl hrow Tryz.underlying37 rfl (res_size _ _)) rfl ?_
  exact ⟨rfl, below_setRow HB.out.2 (Nat.le_refl _) _⟩
theorem keyed_any (op : Int) (w : World) : Calls Tryz.prog 17 #[.int .i64 op] w fun e w' => e = .returned (.bool (keyed op)) ∧ w = w' := by
  unfold keyed
  by_cases h0 : 0 ≤ op
  · by_cases h1 : op ≤ 12
    · have hd : decide (0 ≤ op ∧ op ≤ 12) = true := decide_eq_true ⟨h0, h1⟩
      rw [hd]
      go_enter Tryz.func17, Tryz.ntmps17
      go_wp2
      go_ret
      exact ⟨rfl, rfl⟩
    · have hd : decide (0 ≤ op ∧ op ≤ 12) = false := decide_eq_false fun e => h1 e.2
      rw [hd]
      go_enter Tryz.func17, Tryz.ntmps17
      go_wp2
      go_ret
      exact ⟨rfl, rfl⟩
  · have hd : decide (0 ≤ op ∧ op ≤ 12) = false := decide_eq_false fun e => h0 e.1
    rw [hd]
    go_enter Tryz.func17, Tryz.ntmps17
    go_wp2
    go_ret
    exact ⟨rfl, rfl⟩
theorem at_any (b : Nat) (c : Cmd) (v : Value) (env : Env) (w : World) : Calls Tryz.prog 34 #[.agg (rarr b c v env)] w fun e w' => e = .returned (.int .i64 (atS c.exp env.now)) ∧ Below w.heap.size w w' := by
  have hb2 : Below w.heap.size w (w.alloc (.cells (rarr b c v env) 53)) := Mem.al (Below.refl _ _) _
  have hat := fun w' => at_item c.exp env.now w'
  have HB := Lib.hid hb2
  clear hb2
  unfold rarr at *
  go_enter Tryz.func34, Tryz.ntmps34
  go_wp2_with fail
  refine (hat _).mono ?_
  rintro e w' ⟨rfl, rfl⟩
  go_wp2_with fail
  go_ret
  exact ⟨rfl, HB.out⟩
end Go.Proofs.YtodoglljjhdbeaaGreatDoor.Exec

/- Layer 12, plain: a number's digits are read as the number. -/
namespace Go.Proofs.YtodoglljjhdbeaaGreatDoor.Exec
open Go Go.Lib

theorem pu_app : ∀ (l : List UInt8) (acc u : Nat) (c : UInt8), parseUint10 acc l = .ok u → parseUint10 acc (l ++ [c]) = parseUint10 u [c]
  | [], acc, u, c, h => by
    simp only [parseUint10] at h
    injection h with h
    subst h
    rfl
  | d :: r, acc, u, c, h => by
    simp only [List.cons_append]
    rw [parseUint10] at h ⊢
    split at h
    · split at h
      · cases h
      · split at h
        · cases h
        · rename_i h1 h2 h3
          rw [if_pos h1, if_neg h2, if_neg h3]
          exact pu_app r _ u c h
    · cases h
theorem digit_nat {d : Nat} (h : d < 10) : (UInt8.ofNat (48 + d)).toNat = 48 + d := by
  rw [UInt8.toNat_ofNat']
  omega
theorem pu_one {acc d : Nat} (hd : d < 10) (hu : acc * 10 + d < 18446744073709551616) : parseUint10 acc [UInt8.ofNat (48 + d)] = .ok (acc * 10 + d) := by
  rw [parseUint10, digit_nat hd, if_pos (by omega), if_neg (by omega), if_neg (by omega), parseUint10, show 48 + d - 48 = d from by omega]
theorem pu_dec (n : Nat) : n < 18446744073709551616 → parseUint10 0 (decDigits n) = .ok n := by
  induction n using Nat.strongRecOn with
  | _ n ih =>
    intro hn
    by_cases h : n < 10
    · rw [decDigits_one h]
      have := pu_one (acc := 0) h (by omega)
      rw [this]; simp
    · rw [decDigits, dif_neg h, pu_app _ _ _ _ (ih (n / 10) (by omega) (by omega)), pu_one (by omega) (by omega)]
      congr 1
      omega
theorem show_len (n : Nat) (h : n < 18446744073709551616) : 1 ≤ (showS n).length ∧ (showS n).length ≤ 20 := by
  unfold showS
  rw [decDigits_length]
  exact ⟨nDigits_pos n, nDigits_le20 n h⟩
theorem dec_show (n : Nat) (h : n < 18446744073709551616) : decS (showS n) = some n := by
  obtain ⟨h1, h2⟩ := show_len n h
  have hp := pu_dec n h
  have hne : showS n ≠ [] := fun e => by rw [e] at h1; simp at h1
  unfold decS
  rw [if_neg, parseUintB_64]
  · unfold parseMag
    rw [if_neg hne]
    show (match parseUint10 0 (decDigits n) with | .ok v => some v | _ => none) = some n
    rw [hp]
  · rintro (e | e)
    · omega
    · have hp2 : parseUint10 0 (showS n) = .ok n := hp
      rcases hl : showS n with _ | ⟨c, r⟩
      · exact hne hl
      · rw [hl] at e hp2
        injection e with e
        subst e
        rw [parseUint10, if_neg (by decide)] at hp2
        cases hp2
theorem dec_lt {l : List UInt8} {n : Nat} (h : decS l = some n) : n < 18446744073709551616 ∧ l.length ≤ 40 := by
  unfold decS at h
  split at h
  · cases h
  · rename_i h1
    refine ⟨?_, by omega⟩
    rw [parseUintB_64] at h
    split at h
    · rename_i v hv
      injection h with h
      subst h
      exact parseMag_lt hv
    · cases h
end Go.Proofs.YtodoglljjhdbeaaGreatDoor.Exec

/- Layer 12, plain: what a key has behind a command. -/
namespace Go.Proofs.YtodoglljjhdbeaaGreatDoor.Exec
open Go Go.Proofs.YtodoglljjhdbeaaGreatDoor.Shard

theorem room_code (it : Shard.Item) (old : Bool) (less : Int) (env : Env) : ∀ (f : Nat) (s : St), (St.room it old less env f s).1 = 0 ∨ (St.room it old less env f s).1 = 5 ∨ (St.room it old less env f s).1 = 8
  | 0, s => .inr (.inl rfl)
  | f + 1, s => by
    rcases room_cases (it := it) (old := old) (less := less) (env := env) f s with ⟨h1, e⟩ | ⟨_, _, e⟩ | ⟨hf, v, hv, hne, hm, ⟨_, e⟩ | ⟨x, hx, ⟨_, e⟩ | ⟨_, _, _, e⟩⟩⟩
    · rw [e]; exact .inl rfl
    · rw [e]; exact .inr (.inl rfl)
    · rw [e]; exact .inr (.inl rfl)
    · rw [e]; exact room_code it old less env f _
    · rw [e]; exact .inr (.inr rfl)
/-- What a key has, alive or not. -/
def has (s : St) (k : ByteArray) : Option Shard.Item := (Tab.get s.tab.L k).map fun x => (s.ent x).it
section
variable {n N : Nat} {s : St} {k k' : ByteArray} {env : Env} {it : Shard.Item}
theorem has_mem (h : Inv n N s) : has s k = some it ↔ ∃ x, (k, x) ∈ s.tab.L ∧ (s.ent x).it = it := by
  unfold has
  rw [Option.map_eq_some_iff]
  constructor
  · rintro ⟨x, h1, h2⟩
    exact ⟨x, (Tab.get_mem h.rise.nodup).1 h1, h2⟩
  · rintro ⟨x, h1, h2⟩
    exact ⟨x, (Tab.get_mem h.rise.nodup).2 h1, h2⟩
theorem has_key (h : Inv n N s) (hi : has s k = some it) : it.key = k ∧ k.size ≤ 2048 ∧ it.size ≤ 2048 := by
  obtain ⟨x, h1, h2⟩ := (has_mem h).1 hi
  have := h.ents _ h1
  rw [← h2]
  exact ⟨this.1, this.2.1, this.2.2.1⟩
theorem has_used (s : St) (k k' : ByteArray) : has (used s k) k' = has s k' := rfl
theorem has_tick (s : St) (k : ByteArray) : has s.tick k = has s k := rfl
theorem has_remove (h : Inv n N s) (k k' : ByteArray) : has (s.remove k).2 k' = if k' = k then none else has s k' := by
  unfold has
  rw [remove_ent, remove_L s k h.rise, Tab.get_del h.rise]
  split <;> rfl
theorem has_drop (h : Inv n N s) (k k' : ByteArray) : has (s.drop k) k' = if k' = k then none else has s k' := has_remove h k k'
/-- What a look finds. -/
def seen (s : St) (k : ByteArray) (env : Env) : Option Shard.Item := (has s k).filter fun it => it.live env
theorem seen_eq (s : St) (k : ByteArray) (env : Env) : seen s k env = ((s.find k env).1).map fun x => (s.ent x).it := by
  unfold seen has St.find
  rcases hg : Tab.get s.tab.L k with _ | x
  · rfl
  · simp only [Option.map_some, Option.filter_some]
    by_cases hl : (s.ent x).it.live env = true
    · rw [if_pos hl, if_pos hl]; rfl
    · rw [if_neg hl, if_neg hl]; rfl
theorem has_find (h : Inv n N s) (k : ByteArray) (env : Env) (k' : ByteArray) : has (s.find k env).2 k' = if k' = k then seen s k env else has s k' := by
  rw [seen_eq]
  rcases hf : (s.find k env).1 with _ | x
  · rcases find_none hf with ⟨h1, h2⟩ | ⟨x, h1, h2, h3⟩
    · rw [h2, has_tick]
      split
      · rename_i e; subst e; unfold has; rw [h1]
        try rfl
      · rfl
    · rw [h3, has_drop h.tick, has_tick]
      rfl
  · obtain ⟨h1, h2, h3⟩ := find_some hf
    rw [h3, has_tick]
    split
    · rename_i e; subst e; unfold has; rw [h1]
    · rfl
theorem run_eq (c : Cmd) (env : Env) (f : Nat) (s : St) (h15 : c.op ≠ 15) (hk : keyed c.op = true) :
    run c env f s = match seen s c.key env with
      | none => without c env f (used (s.find c.key env).2 c.key)
      | some it => withI c env it f (used (s.find c.key env).2 c.key) := by
  unfold run
  rw [if_neg h15, if_neg (by rw [hk]; simp), seen_eq]
  rcases hf : (s.find c.key env).1 with _ | x <;> rfl
/-- Behind a store. -/
theorem has_store (h : Inv n N s) {f : Nat} (h0 : (s.store f it env).1 = 0) (hks : it.key.size ≤ 2000000) (hf : ∀ p ∈ s.tab.L, p.2 ≠ f) : has (s.store f it env).2 it.key = some it := by
  have hi := h.store (it := it) (env := env) hks hf
  rw [has_mem hi]
  rcases store_two h it env f with ⟨_, e⟩ | ⟨_, _, _, ⟨_, hr, e⟩ | ⟨h1, e⟩⟩
  · rw [e] at h0; cases h0
  · rw [e]; exact hr.there
  · rw [e] at h0; exact absurd h0 h1
theorem store_code (h : Inv n N s) (it : Shard.Item) (env : Env) (f : Nat) : (s.store f it env).1 = 0 ∨ (s.store f it env).1 = 4 ∨ (s.store f it env).1 = 5 ∨ (s.store f it env).1 = 8 := by
  have hc := room_code it (s.find it.key env).1.isSome ((s.find it.key env).2.less (s.find it.key env).1) env ((s.find it.key env).2.order.all.length + 1) (s.find it.key env).2
  rcases store_two h it env f with ⟨_, e⟩ | ⟨_, _, _, ⟨_, hr, e⟩ | ⟨h1, e⟩⟩
  · rw [e]; exact .inr (.inl rfl)
  · rw [e]; exact .inl rfl
  · rw [e]
    rcases hc with hc | hc | hc
    · exact absurd hc h1
    · exact .inr (.inr (.inl hc))
    · exact .inr (.inr (.inr hc))
/-- Behind an update. -/
theorem has_update (h : Inv n N s) {a : Shard.Item} (ha : has s it.key = some a) (hl : a.val.length = it.val.length) (k' : ByteArray) : has (s.update it).2 k' = if k' = it.key then some it else has s k' := by
  obtain ⟨x, hx, hxa⟩ := Option.map_eq_some_iff.1 (show (Tab.get s.tab.L it.key).map (fun x => (s.ent x).it) = some a from ha)
  have hu : s.update it = (0, { s.tick with ent := upd s.ent x ⟨it, (s.ent x).chunk⟩ }) := by
    unfold St.update
    rw [hx]
    simp only
    rw [if_pos (by rw [hxa]; exact hl)]
  rw [hu]
  show (Tab.get s.tab.L k').map (fun y => (upd s.ent x ⟨it, (s.ent x).chunk⟩ y).it) = _
  have hm := (Tab.get_mem h.rise.nodup).1 hx
  by_cases e : k' = it.key
  · subst e
    rw [hx, if_pos rfl]
    simp only [Option.map_some, upd_same]
  · rw [if_neg e]
    unfold has
    rcases hg : Tab.get s.tab.L k' with _ | y
    · rfl
    · have hy := (Tab.get_mem h.rise.nodup).1 hg
      have hne : y ≠ x := fun e1 => h.apart hm (k', y) (Tab.mem_del.2 ⟨hy, e⟩) e1
      simp only [Option.map_some, upd_other _ _ hne]
theorem Inv.used (h : Inv n N s) (k : ByteArray) : Inv n N (used s k) := by
  have hall : (s.order.hit k).2.all.Perm s.order.all := by
    unfold Slru.St.hit
    by_cases hm : k ∈ s.order.all
    · rw [if_pos hm]
      have hp : (Slru.without s.order.trial k ++ (Slru.without s.order.safe k ++ [k])).Perm s.order.all := by
        rw [← List.append_assoc, ← without_app]
        refine (List.perm_append_singleton k _).trans ?_
        refine (List.perm_ext_iff_of_nodup (List.nodup_cons.2 ⟨fun e => (mem_without.1 e).2 rfl, h.ond.sublist List.filter_sublist⟩) h.ond).2 fun x => ?_
        rw [List.mem_cons, mem_without]
        constructor
        · rintro (rfl | hx)
          · exact hm
          · exact hx.1
        · intro hx
          by_cases e : x = k
          · exact .inl e
          · exact .inr ⟨hx, e⟩
      unfold Slru.St.moved
      split
      · refine List.Perm.trans ?_ hp
        show ((Slru.without s.order.trial k ++ (Slru.without s.order.safe k ++ [k]).take 1) ++ (Slru.without s.order.safe k ++ [k]).drop 1).Perm _
        rw [List.append_assoc, List.take_append_drop]
      · exact hp
    · rw [if_neg hm]
  exact ⟨h.slab, h.rise, fun j => by show j ∈ (s.order.hit k).2.all ↔ _; rw [hall.mem_iff]; exact h.keys j, hall.nodup_iff.2 h.ond, h.ents, h.mem, h.len, h.dl⟩
end
end Go.Proofs.YtodoglljjhdbeaaGreatDoor.Exec

/- Layer 12, plain: what stays true of a shard behind a command. -/
namespace Go.Proofs.YtodoglljjhdbeaaGreatDoor.Exec
open Go Go.Proofs.YtodoglljjhdbeaaGreatDoor.Shard

section
variable {n N : Nat} {s : St} {c : Cmd} {env : Env} {it : Shard.Item} {f : Nat}
theorem inv_doStore (h : Inv n N s) (hks : it.key.size ≤ 2000000) (hf : ∀ p ∈ s.tab.L, p.2 ≠ f) : Inv (n + 1) (N + n + 4) (doStore env it f s).2 := h.store hks hf
theorem inv_number (h : Inv n N s) (m : Nat) (flags exp : Int) (hks : c.key.size ≤ 2000000) (hf : ∀ p ∈ s.tab.L, p.2 ≠ f) : Inv (n + 1) (N + n + 4) (number c env m flags exp f s).2 := by
  unfold number
  split
  · exact inv_doStore h hks hf
  · exact inv_doStore h hks hf
theorem inv_win (h : Inv n N s) (hks : c.key.size ≤ 2000000) (hf : ∀ p ∈ s.tab.L, p.2 ≠ f) : Inv (n + 1) (N + n + 4) (win c env f s).2 := by
  unfold win
  split
  · exact (inv_doStore h hks hf).update _
  · exact inv_doStore h hks hf
theorem inv_up (h : Inv n N s) : Inv (n + 1) (N + n + 4) s := h.mono (by omega) (by omega)
theorem inv_without (h : Inv n N s) (hks : c.key.size ≤ 2000000) (hf : ∀ p ∈ s.tab.L, p.2 ≠ f) : Inv (n + 1) (N + n + 4) (without c env f s).2 := by
  unfold without
  split
  · exact inv_up h
  split
  · exact inv_up h
  split
  · exact inv_doStore h hks hf
  split
  · exact inv_number h _ _ _ hks hf
  split
  · exact inv_win h hks hf
  · exact inv_up h
theorem inv_with (h : Inv n N s) (it : Shard.Item) (hks : c.key.size ≤ 2000000) (hf : ∀ p ∈ s.tab.L, p.2 ≠ f) : Inv (n + 1) (N + n + 4) (withI c env it f s).2 := by
  unfold withI
  split
  · exact inv_up (h.update _)
  split
  · exact inv_up (h.update _)
  split
  · exact inv_up (h.update _)
  split
  · exact inv_up (h.update _)
  split
  · exact inv_up h
  split
  · exact inv_up h
  split
  · exact inv_doStore h hks hf
  split
  · unfold join
    split
    · exact inv_up h
    · exact inv_doStore h hks hf
  split
  · unfold join
    split
    · exact inv_up h
    · exact inv_doStore h hks hf
  split
  · exact inv_up (h.update _)
  split
  · exact (h.remove _).mono (by omega) (by omega)
  · unfold reckon
    split
    · exact inv_up h
    · split
      · exact inv_up h
      · split
        · exact inv_number h _ _ _ hks hf
        · exact inv_number h _ _ _ hks hf
theorem fresh_ex (L : Tab.Pairs Nat) : ∃ f, ∀ p ∈ L, p.2 ≠ f := by
  have : ∃ f, ∀ p ∈ L, p.2 < f := by
    induction L with
    | nil => exact ⟨0, fun p hp => by cases hp⟩
    | cons q L ih =>
      obtain ⟨f, hf⟩ := ih
      refine ⟨max f (q.2 + 1), fun p hp => ?_⟩
      rcases List.mem_cons.1 hp with rfl | hp
      · omega
      · have := hf p hp; omega
  obtain ⟨f, hf⟩ := this
  exact ⟨f, fun p hp => Nat.ne_of_lt (hf p hp)⟩
theorem find_sub (h : Inv n N s) (k : ByteArray) (env : Env) (hf : ∀ p ∈ s.tab.L, p.2 ≠ f) : ∀ p ∈ (used (s.find k env).2 k).tab.L, p.2 ≠ f := fun p hp => hf p ((find_key h k env).2.2 p hp)
theorem inv_run (h : Inv n N s) (hks : c.key.size ≤ 2000000) (hf1 : ∀ p ∈ (used (s.find c.key env).2 c.key).tab.L, p.2 ≠ f) : Inv (n + 1) (N + n + 5) (run c env f s).2 := by
  unfold run
  split
  · exact h.mono (by omega) (by omega)
  split
  · exact h.mono (by omega) (by omega)
  have h1 : Inv n (N + 1) (used (s.find c.key env).2 c.key) := Exec.Inv.used (h.find c.key env) c.key
  split
  · exact (inv_without h1 hks hf1).mono (Nat.le_refl _) (by omega)
  · exact (inv_with h1 _ hks hf1).mono (Nat.le_refl _) (by omega)
end
end Go.Proofs.YtodoglljjhdbeaaGreatDoor.Exec

/- Layer 11: the colours of blocks; what a turn leaves alone. -/
namespace Go.Proofs.YtodoglljjhdbeaaGreatDoor.Shard
open Go Go.RowKit Go.Proofs.YtodoglljjhdbeaaGreatDoor.Mem Go.Proofs.YtodoglljjhdbeaaGreatDoor.App

inductive Part where
  | self | table | slab | order | judge | drops
  | ent (n : Nat)
deriving DecidableEq
def Ent.arr (x : Ent) (v : Value) : Array Value := #[.string x.it.key, v, .int .u32 x.it.flags, .int .i64 x.it.exp, .int .u64 x.it.cas, .int .i64 x.it.sec, .int .u64 x.it.seq, .bool x.it.stale, .bool x.it.won, .bool x.it.seen, .int .i64 x.chunk.1, .int .i64 x.chunk.2]
def cellsS (l : List ByteArray) : List Value := l.map Value.string
abbrev Col := Nat → Option Part
/-- The blocks that come in a part's turn have its colour. -/
def recol (col : Col) (w w' : World) (p : Part) : Col := fun k => if k < w.heap.size then col k else if k < w'.heap.size then some p else none
def Of (col : Col) (p : Part) : Nat → Prop := fun k => col k = some p
section
variable {w w' : World} {col : Col} {p : Part}
theorem recol_old {k : Nat} (hk : k < w.heap.size) : recol col w w' p k = col k := if_pos hk
theorem recol_grow {F F' : Nat → Prop} (hF : ∀ k, F k → col k = some p) (hg : Grows w F F') (hlt : ∀ k, F' k → k < w'.heap.size) : ∀ k, F' k → recol col w w' p k = some p := fun k hk => by
  unfold recol
  by_cases h : k < w.heap.size
  · rw [if_pos h]
    exact (hg k hk).elim (hF k) (fun e => by omega)
  · rw [if_neg h, if_pos (hlt k hk)]
end
/-- Only the shard's own blocks are turned; what it gains is fresh. -/
def Fr (col col' : Col) (w w' : World) : Prop := Only (fun k => col k ≠ none) w w' ∧ Grows w (fun k => col k ≠ none) (fun k => col' k ≠ none)
section
variable {w w' w'' : World} {col col' col'' : Col} {p : Part}
theorem Fr.refl (col : Col) (w : World) : Fr col col w w := ⟨Only.refl _ _, Grows.refl _ _⟩
theorem Fr.trans (h : Fr col col' w w') (h' : Fr col' col'' w' w'') : Fr col col'' w w'' :=
  ⟨h.1.trans h'.1 h.2, fun k hk => (h'.2 k hk).elim (h.2 k) (fun e => .inr (Nat.le_trans h.1.size e))⟩
theorem Fr.of {F : Nat → Prop} (hF : ∀ k, F k → col k = some p) (ho : Only F w w') : Fr col (recol col w w' p) w w' := by
  refine ⟨ho.mono fun k hk => by rw [hF k hk]; simp, fun k hk => ?_⟩
  replace hk : recol col w w' p k ≠ none := hk
  unfold recol at hk
  by_cases h1 : k < w.heap.size
  · rw [if_pos h1] at hk; exact .inl hk
  · exact .inr (by omega)
theorem Fr.below (hb : Below w.heap.size w w') : Fr col col w w' := ⟨Only.of_below hb (fun k h1 h2 => by omega), Grows.refl _ _⟩
/-- A block of the caller's own is as it was. -/
theorem Fr.keep (h : Fr col col' w w') {k : Nat} (hk : k < w.heap.size) (hc : col k = none) : w'.heap[k]? = w.heap[k]? := h.1.same k hk (fun e => e hc)
end
end Go.Proofs.YtodoglljjhdbeaaGreatDoor.Shard

/- Layer 8: where a list lies; a node is put behind its row. -/
namespace Go.Proofs.YtodoglljjhdbeaaGreatDoor.Slru
open Go Go.RowKit Go.Proofs.YtodoglljjhdbeaaGreatDoor.Mem

def pt (o : Option Nat) : Value := .pointer (o.map fun n => ⟨n, 0, none⟩)
def nodeObj (k : ByteArray) (a n : Option Nat) (ra : Addr) : Obj := .cells #[.string k, pt a, pt n, .pointer (some ra)] 148 (0, 0)
def listArr (most : Int) (mb : Nat) (ts ss : List Nd) : Array Value := #[.int .i64 most, .map (some mb), pt (fst ts), pt (lst ts), .int .i64 (ts.length : Nat), pt (fst ss), pt (lst ss), .int .i64 (ss.length : Nat)]
def listObj (most : Int) (mb : Nat) (ts ss : List Nd) : Obj := .cells (listArr most mb ts ss) 105 (0, 0)
def Chain (w : World) (ra : Addr) (xs : List Nd) : Prop := ChainB (fun n k a c => w.heap[n]? = some (nodeObj k a c ra)) xs
section
variable {w w' : World} {ra : Addr} {xs : List Nd} {b n mb : Nat} {most : Int} {ts ss : List Nd}
theorem Chain.at_mem (h : Chain w ra xs) {j : Nat} (hj : j ∈ xs.map (·.1)) : ∃ k a c, w.heap[j]? = some (nodeObj k a c ra) := by
  obtain ⟨⟨m, k⟩, hm, rfl⟩ := List.mem_map.1 hj
  obtain ⟨l, r, e⟩ := List.append_of_mem hm
  exact ⟨_, _, _, h l m k r e⟩
theorem Chain.ne (h : Chain w ra xs) (hb : w.heap[b]? = some (listObj most mb ts ss)) : b ∉ xs.map (·.1) := fun hj => by
  obtain ⟨k, a, c, e⟩ := h.at_mem hj
  rw [hb] at e
  injection e with e
  injection e with _ e
  exact absurd e (by decide)
theorem Chain.same (h : Chain w ra xs) (hs : ∀ j ∈ xs.map (·.1), w'.heap[j]? = w.heap[j]?) : Chain w' ra xs := ChainB.same h fun j hj _ _ _ e => (hs j hj).trans e
end

theorem set_far {w : World} {p : Addr} {v : Value} {j : Nat} (h : j ≠ p.block) : (w.setCell p v).heap[j]? = w.heap[j]? := Below.heap_setCell _ _ _ _ h
theorem set_size (w : World) (p : Addr) (v : Value) : (w.setCell p v).heap.size = w.heap.size := by simp [World.setCell]

/-- Behind a turn of one of the two rows. -/
def RowPost (w : World) (b o : Nat) (obj : Obj) (xs ys : List Nd) (n : Nat) (e : Ending) (w' : World) : Prop :=
  e = .returned (.tuple #[]) ∧ w'.heap[b]? = some obj ∧ Chain w' ⟨b, o, none⟩ ys ∧ Only (fun j => j = b ∨ j = n ∨ j ∈ xs.map (·.1)) w w'

set_option maxRecDepth 100000 in
set_option maxHeartbeats 2000000 in
theorem push_trial {w : World} {b n mb : Nat} {most : Int} {ts ss : List Nd} {k : ByteArray} {u1 u2 u3 : Value} (hb : w.heap[b]? = some (listObj most mb ts ss)) (hc : Chain w ⟨b, 2, none⟩ ts) (hnd : (ts.map (·.1)).Nodup)
    (hn : w.heap[n]? = some (.cells #[.string k, u1, u2, u3] 148 (0, 0))) (hnt : n ∉ ts.map (·.1)) (hlen : ts.length + 1 ≤ 9223372036854775807) :
    Calls Tryz.prog 53 #[.pointer (some ⟨b, 2, none⟩), .pointer (some ⟨n, 0, none⟩)] w (RowPost w b 2 (listObj most mb (ts ++ [(n, k)]) ss) ts (ts ++ [(n, k)]) n) := by
  have hbn : n ≠ b := fun e => by
    subst e
    rw [hb] at hn
    injection hn with e
    injection e with _ e
    exact absurd e (by decide)
  have hbt := hc.ne hb
  have HC := Lib.hid (And.intro hc (And.intro hnd (And.intro hnt hbt)))
  have hb3 := Mem.row_cell hb 3
  have m1 := Mem.row_cell hn 1
  have m2 := Mem.row_cell hn 2
  have m3 := Mem.row_cell hn 3
  have n1 := Mem.row_free hn 1
  have n2 := Mem.row_free hn 2
  have n3 := Mem.row_free hn 3
  simp only [listArr, List.getElem?_toArray, List.getElem?_cons_zero, List.getElem?_cons_succ] at hb3 m1 m2 m3
  obtain ⟨la, hla⟩ : ∃ la, lst ts = la := ⟨_, rfl⟩
  rw [hla] at hb3
  obtain ⟨xa, hxa⟩ : ∃ xa, la.map (fun n => (⟨n, 0, none⟩ : Addr)) = xa := ⟨_, rfl⟩
  have hpa : pt la = .pointer xa := by rw [← hxa]; rfl
  rw [hpa] at hb3
  have HX := Lib.hid hpa
  clear hxa hpa
  have HN := Lib.hid hn
  have HB := Lib.hid hb
  clear hb hn hc hnd hnt hbt
  go_enter Tryz.func53, Tryz.ntmps53
  go_upto_region 1 with (fail)
  have k1 : (((w.setCell ⟨n, 1, none⟩ (.pointer xa)).setCell ⟨n, 2, none⟩ (.pointer none)).setCell ⟨n, 3, none⟩ (.pointer (some ⟨b, 2, none⟩))).heap[n]? = some (nodeObj k la none ⟨b, 2, none⟩) := by
    rw [← HX.out]
    exact Mem.row_set (Mem.row_set (Mem.row_set HN.out 1 _) 2 _) 3 _
  have o1 : ∀ j, j ≠ n → (((w.setCell ⟨n, 1, none⟩ (.pointer xa)).setCell ⟨n, 2, none⟩ (.pointer none)).setCell ⟨n, 3, none⟩ (.pointer (some ⟨b, 2, none⟩))).heap[j]? = w.heap[j]? := fun j hj => (set_far hj).trans ((set_far hj).trans (set_far hj))
  have on1 : Only (fun j => j = b ∨ j = n ∨ j ∈ ts.map (·.1)) w (((w.setCell ⟨n, 1, none⟩ (.pointer xa)).setCell ⟨n, 2, none⟩ (.pointer none)).setCell ⟨n, 3, none⟩ (.pointer (some ⟨b, 2, none⟩))) :=
    (((Only.refl _ w).setCell (p := ⟨n, 1, none⟩) (.inl (.inr (.inl rfl))) _).setCell (p := ⟨n, 2, none⟩) (.inl (.inr (.inl rfl))) _).setCell (p := ⟨n, 3, none⟩) (.inl (.inr (.inl rfl))) _
  generalize ((w.setCell ⟨n, 1, none⟩ (.pointer xa)).setCell ⟨n, 2, none⟩ (.pointer none)).setCell ⟨n, 3, none⟩ (.pointer (some ⟨b, 2, none⟩)) = w1 at *
  have hb1 := (o1 b (Ne.symm hbn)).trans HB.out
  have c2 := Mem.row_cell hb1 2
  have c3 := Mem.row_cell hb1 3
  have c4 := Mem.row_cell hb1 4
  have f2 := Mem.row_free hb1 2
  have f3 := Mem.row_free hb1 3
  have f4 := Mem.row_free hb1 4
  simp only [listArr, List.getElem?_toArray, List.getElem?_cons_zero, List.getElem?_cons_succ] at c2 c3 c4
  have hw : IntKind.i64.wrap ((ts.length : Int) + 1) = (ts.length : Int) + 1 := by rw [IntKind.wrap_i64]; omega
  rw [hla] at c3
  have H1 := Lib.hid (And.intro k1 (And.intro o1 (And.intro on1 hb1)))
  have HA := Lib.hid hla
  clear k1 o1 on1 hb1 hb3 n1 n2 n3 m1 m2 m3
  rcases snoc_cases ts with hts | ⟨l, ⟨p, kp⟩, hts⟩
  · have hla2 := HA.out
    rw [hts] at hla2
    simp at hla2
    subst hla2
    have HT := Lib.hid hts
    clear hts hlen
    simp only [pt, Option.map_none] at c3
    go_wp2_with fail
    go_end0
    have q := Mem.row_set (Mem.row_set (Mem.row_set H1.out.2.2.2 2 (.pointer (some ⟨n, 0, none⟩))) 3 (.pointer (some ⟨n, 0, none⟩))) 4 (.int .i64 ((ts.length : Int) + 1))
    have hts := HT.out
    subst hts
    refine ⟨rfl, q, ChainB.push HC.out.1 HC.out.2.1 ?_ (fun l p e => by simp at e) (fun j hj _ _ _ _ _ => by simp at hj), ((H1.out.2.2.1.setCell (p := ⟨b, 2, none⟩) (.inl (.inl rfl)) _).setCell (p := ⟨b, 3, none⟩) (.inl (.inl rfl)) _).setCell (p := ⟨b, 4, none⟩) (.inl (.inl rfl)) _⟩
    exact (set_far hbn).trans ((set_far hbn).trans ((set_far hbn).trans H1.out.1))
  · have hla2 := HA.out
    rw [hts] at hla2
    simp at hla2
    subst hla2
    have hpt : p ∈ ts.map (·.1) := by rw [hts]; simp
    have hpb : p ≠ b := fun e => HC.out.2.2.2 (e ▸ hpt)
    have hpn : p ≠ n := fun e => HC.out.2.2.1 (e ▸ hpt)
    have hp1 := (H1.out.2.1 p hpn).trans (HC.out.1 l p kp [] hts)
    have g2 := Mem.row_free hp1 2
    have d2 := Mem.row_cell hp1 2
    simp only [List.getElem?_toArray, List.getElem?_cons_zero, List.getElem?_cons_succ] at d2
    have HP := Lib.hid (And.intro hts (And.intro hpt (And.intro hpn hp1)))
    have hbp : b ≠ p := Ne.symm hpb
    clear hts hlen hpt hpn hp1
    simp only [pt, Option.map_some] at c3
    go_wp2_with fail
    go_end0
    have hb2 := (set_far (w := w1) (p := ⟨p, 2, none⟩) (v := .pointer (some ⟨n, 0, none⟩)) hbp).trans H1.out.2.2.2
    have q := Mem.row_set (Mem.row_set hb2 3 (.pointer (some ⟨n, 0, none⟩))) 4 (.int .i64 ((ts.length : Int) + 1))
    have hfar : ∀ j, j ≠ b → (((w1.setCell ⟨p, 2, none⟩ (.pointer (some ⟨n, 0, none⟩))).setCell ⟨b, 3, none⟩ (.pointer (some ⟨n, 0, none⟩))).setCell ⟨b, 4, none⟩ (.int .i64 ((ts.length : Int) + 1))).heap[j]? = (w1.setCell ⟨p, 2, none⟩ (.pointer (some ⟨n, 0, none⟩))).heap[j]? := fun j hj => (set_far hj).trans (set_far hj)
    refine ⟨rfl, ?_, ChainB.push HC.out.1 HC.out.2.1 ?_ (fun l2 p2 e => ?_) (fun j hj h2 k a c h3 => ?_), ((H1.out.2.2.1.setCell (p := ⟨p, 2, none⟩) (.inl (.inr (.inr HP.out.2.1))) _).setCell (p := ⟨b, 3, none⟩) (.inl (.inl rfl)) _).setCell (p := ⟨b, 4, none⟩) (.inl (.inl rfl)) _⟩
    · rw [q]
      unfold listObj listArr
      rw [fst_left ts [(n, k)] (by rw [HP.out.1]; simp), lst_app, List.length_append]
      rfl
    · rw [HA.out]
      exact (hfar n hbn).trans ((set_far (Ne.symm HP.out.2.2.1)).trans H1.out.1)
    · have := e.symm.trans HP.out.1
      obtain ⟨rfl, e2⟩ := List.append_inj' this rfl
      injection e2 with e2
      subst e2
      exact (hfar p hpb).trans (Mem.row_set HP.out.2.2.2 2 _)
    · have hjb : j ≠ b := fun e => HC.out.2.2.2 (e ▸ hj)
      have hjn : j ≠ n := fun e => HC.out.2.2.1 (e ▸ hj)
      have hjp : j ≠ p := fun e => h2 (by rw [e]; exact HA.out)
      exact (hfar j hjb).trans ((set_far hjp).trans ((H1.out.2.1 j hjn).trans h3))

set_option maxRecDepth 100000 in
set_option maxHeartbeats 2000000 in
theorem push_safe {w : World} {b n mb : Nat} {most : Int} {ts ss : List Nd} {k : ByteArray} {u1 u2 u3 : Value} (hb : w.heap[b]? = some (listObj most mb ts ss)) (hc : Chain w ⟨b, 5, none⟩ ss) (hnd : (ss.map (·.1)).Nodup)
    (hn : w.heap[n]? = some (.cells #[.string k, u1, u2, u3] 148 (0, 0))) (hnt : n ∉ ss.map (·.1)) (hlen : ss.length + 1 ≤ 9223372036854775807) :
    Calls Tryz.prog 53 #[.pointer (some ⟨b, 5, none⟩), .pointer (some ⟨n, 0, none⟩)] w (RowPost w b 5 (listObj most mb ts (ss ++ [(n, k)])) ss (ss ++ [(n, k)]) n) := by
  have hbn : n ≠ b := fun e => by
    subst e
    rw [hb] at hn
    injection hn with e
    injection e with _ e
    exact absurd e (by decide)
  have hbt := hc.ne hb
  have HC := Lib.hid (And.intro hc (And.intro hnd (And.intro hnt hbt)))
  have hb3 := Mem.row_cell hb 6
  have m1 := Mem.row_cell hn 1
  have m2 := Mem.row_cell hn 2
  have m3 := Mem.row_cell hn 3
  have n1 := Mem.row_free hn 1
  have n2 := Mem.row_free hn 2
  have n3 := Mem.row_free hn 3
  simp only [listArr, List.getElem?_toArray, List.getElem?_cons_zero, List.getElem?_cons_succ] at hb3 m1 m2 m3
  obtain ⟨la, hla⟩ : ∃ la, lst ss = la := ⟨_, rfl⟩
  rw [hla] at hb3
  obtain ⟨xa, hxa⟩ : ∃ xa, la.map (fun n => (⟨n, 0, none⟩ : Addr)) = xa := ⟨_, rfl⟩
  have hpa : pt la = .pointer xa := by rw [← hxa]; rfl
  rw [hpa] at hb3
  have HX := Lib.hid hpa
  clear hxa hpa
  have HN := Lib.hid hn
  have HB := Lib.hid hb
  clear hb hn hc hnd hnt hbt
  go_enter Tryz.func53, Tryz.ntmps53
  go_upto_region 1 with (fail)
  have k1 : (((w.setCell ⟨n, 1, none⟩ (.pointer xa)).setCell ⟨n, 2, none⟩ (.pointer none)).setCell ⟨n, 3, none⟩ (.pointer (some ⟨b, 5, none⟩))).heap[n]? = some (nodeObj k la none ⟨b, 5, none⟩) := by
    rw [← HX.out]
    exact Mem.row_set (Mem.row_set (Mem.row_set HN.out 1 _) 2 _) 3 _
  have o1 : ∀ j, j ≠ n → (((w.setCell ⟨n, 1, none⟩ (.pointer xa)).setCell ⟨n, 2, none⟩ (.pointer none)).setCell ⟨n, 3, none⟩ (.pointer (some ⟨b, 5, none⟩))).heap[j]? = w.heap[j]? := fun j hj => (set_far hj).trans ((set_far hj).trans (set_far hj))
  have on1 : Only (fun j => j = b ∨ j = n ∨ j ∈ ss.map (·.1)) w (((w.setCell ⟨n, 1, none⟩ (.pointer xa)).setCell ⟨n, 2, none⟩ (.pointer none)).setCell ⟨n, 3, none⟩ (.pointer (some ⟨b, 5, none⟩))) :=
    (((Only.refl _ w).setCell (p := ⟨n, 1, none⟩) (.inl (.inr (.inl rfl))) _).setCell (p := ⟨n, 2, none⟩) (.inl (.inr (.inl rfl))) _).setCell (p := ⟨n, 3, none⟩) (.inl (.inr (.inl rfl))) _
  generalize ((w.setCell ⟨n, 1, none⟩ (.pointer xa)).setCell ⟨n, 2, none⟩ (.pointer none)).setCell ⟨n, 3, none⟩ (.pointer (some ⟨b, 5, none⟩)) = w1 at *
  have hb1 := (o1 b (Ne.symm hbn)).trans HB.out
  have c2 := Mem.row_cell hb1 5
  have c3 := Mem.row_cell hb1 6
  have c4 := Mem.row_cell hb1 7
  have f2 := Mem.row_free hb1 5
  have f3 := Mem.row_free hb1 6
  have f4 := Mem.row_free hb1 7
  simp only [listArr, List.getElem?_toArray, List.getElem?_cons_zero, List.getElem?_cons_succ] at c2 c3 c4
  have hw : IntKind.i64.wrap ((ss.length : Int) + 1) = (ss.length : Int) + 1 := by rw [IntKind.wrap_i64]; omega
  rw [hla] at c3
  have H1 := Lib.hid (And.intro k1 (And.intro o1 (And.intro on1 hb1)))
  have HA := Lib.hid hla
  clear k1 o1 on1 hb1 hb3 n1 n2 n3 m1 m2 m3
  rcases snoc_cases ss with hts | ⟨l, ⟨p, kp⟩, hts⟩
  · have hla2 := HA.out
    rw [hts] at hla2
    simp at hla2
    subst hla2
    have HT := Lib.hid hts
    clear hts hlen
    simp only [pt, Option.map_none] at c3
    go_wp2_with fail
    go_end0
    have q := Mem.row_set (Mem.row_set (Mem.row_set H1.out.2.2.2 5 (.pointer (some ⟨n, 0, none⟩))) 6 (.pointer (some ⟨n, 0, none⟩))) 7 (.int .i64 ((ss.length : Int) + 1))
    have hts := HT.out
    subst hts
    refine ⟨rfl, q, ChainB.push HC.out.1 HC.out.2.1 ?_ (fun l p e => by simp at e) (fun j hj _ _ _ _ _ => by simp at hj), ((H1.out.2.2.1.setCell (p := ⟨b, 5, none⟩) (.inl (.inl rfl)) _).setCell (p := ⟨b, 6, none⟩) (.inl (.inl rfl)) _).setCell (p := ⟨b, 7, none⟩) (.inl (.inl rfl)) _⟩
    exact (set_far hbn).trans ((set_far hbn).trans ((set_far hbn).trans H1.out.1))
  · have hla2 := HA.out
    rw [hts] at hla2
    simp at hla2
    subst hla2
    have hpt : p ∈ ss.map (·.1) := by rw [hts]; simp
    have hpb : p ≠ b := fun e => HC.out.2.2.2 (e ▸ hpt)
    have hpn : p ≠ n := fun e => HC.out.2.2.1 (e ▸ hpt)
    have hp1 := (H1.out.2.1 p hpn).trans (HC.out.1 l p kp [] hts)
    have g2 := Mem.row_free hp1 2
    have d2 := Mem.row_cell hp1 2
    simp only [List.getElem?_toArray, List.getElem?_cons_zero, List.getElem?_cons_succ] at d2
    have HP := Lib.hid (And.intro hts (And.intro hpt (And.intro hpn hp1)))
    have hbp : b ≠ p := Ne.symm hpb
    clear hts hlen hpt hpn hp1
    simp only [pt, Option.map_some] at c3
    go_wp2_with fail
    go_end0
    have hb2 := (set_far (w := w1) (p := ⟨p, 2, none⟩) (v := .pointer (some ⟨n, 0, none⟩)) hbp).trans H1.out.2.2.2
    have q := Mem.row_set (Mem.row_set hb2 6 (.pointer (some ⟨n, 0, none⟩))) 7 (.int .i64 ((ss.length : Int) + 1))
    have hfar : ∀ j, j ≠ b → (((w1.setCell ⟨p, 2, none⟩ (.pointer (some ⟨n, 0, none⟩))).setCell ⟨b, 6, none⟩ (.pointer (some ⟨n, 0, none⟩))).setCell ⟨b, 7, none⟩ (.int .i64 ((ss.length : Int) + 1))).heap[j]? = (w1.setCell ⟨p, 2, none⟩ (.pointer (some ⟨n, 0, none⟩))).heap[j]? := fun j hj => (set_far hj).trans (set_far hj)
    refine ⟨rfl, ?_, ChainB.push HC.out.1 HC.out.2.1 ?_ (fun l2 p2 e => ?_) (fun j hj h2 k a c h3 => ?_), ((H1.out.2.2.1.setCell (p := ⟨p, 2, none⟩) (.inl (.inr (.inr HP.out.2.1))) _).setCell (p := ⟨b, 6, none⟩) (.inl (.inl rfl)) _).setCell (p := ⟨b, 7, none⟩) (.inl (.inl rfl)) _⟩
    · rw [q]
      unfold listObj listArr
      rw [fst_left ss [(n, k)] (by rw [HP.out.1]; simp), lst_app, List.length_append]
      rfl
    · rw [HA.out]
      exact (hfar n hbn).trans ((set_far (Ne.symm HP.out.2.2.1)).trans H1.out.1)
    · have := e.symm.trans HP.out.1
      obtain ⟨rfl, e2⟩ := List.append_inj' this rfl
      injection e2 with e2
      subst e2
      exact (hfar p hpb).trans (Mem.row_set HP.out.2.2.2 2 _)
    · have hjb : j ≠ b := fun e => HC.out.2.2.2 (e ▸ hj)
      have hjn : j ≠ n := fun e => HC.out.2.2.1 (e ▸ hj)
      have hjp : j ≠ p := fun e => h2 (by rw [e]; exact HA.out)
      exact (hfar j hjb).trans ((set_far hjp).trans ((H1.out.2.1 j hjn).trans h3))

end Go.Proofs.YtodoglljjhdbeaaGreatDoor.Slru

/- Layer 8: a node is taken out of its row. -/
namespace Go.Proofs.YtodoglljjhdbeaaGreatDoor.Slru
open Go Go.RowKit Go.Proofs.YtodoglljjhdbeaaGreatDoor.Mem

set_option maxRecDepth 100000 in
set_option maxHeartbeats 2000000 in
theorem pull_trial {w : World} {b n mb : Nat} {most : Int} {l r zs : List Nd} {k : ByteArray} (hb : w.heap[b]? = some (listObj most mb (l ++ (n, k) :: r) zs)) (hc : Chain w ⟨b, 2, none⟩ (l ++ (n, k) :: r)) (hnd : ((l ++ (n, k) :: r).map (·.1)).Nodup)
    (hlen : (l ++ (n, k) :: r).length ≤ 9223372036854775807) :
    Calls Tryz.prog 52 #[.pointer (some ⟨n, 0, none⟩)] w fun e w' => RowPost w b 2 (listObj most mb (l ++ r) zs) (l ++ (n, k) :: r) (l ++ r) n e w' ∧ w'.heap[n]? = w.heap[n]? := by
  have hbt := hc.ne hb
  have hn := hc l n k r rfl
  have hnb : n ≠ b := fun e => hbt (by rw [← e]; simp)
  have q1 := Mem.row_cell hn 1
  have q2 := Mem.row_cell hn 2
  have q3 := Mem.row_cell hn 3
  simp only [List.getElem?_toArray, List.getElem?_cons_zero, List.getElem?_cons_succ] at q1 q2 q3
  have HC := Lib.hid (And.intro hc (And.intro hnd (And.intro hbt (And.intro hb hn))))
  have hL : (l ++ (n, k) :: r).length = (l ++ r).length + 1 := by simp; omega
  have hlw : IntKind.i64.wrap (((l ++ (n, k) :: r).length : Nat) - (1 : Int)) = ((l ++ r).length : Nat) := by rw [IntKind.wrap_i64, hL]; omega
  have HL := Lib.hid hL
  have HW := Lib.hid (And.intro hlen hlw)
  clear hc hnd hbt hb hn hlw hlen hL
  obtain ⟨xl, hxl⟩ : ∃ xl, (lst l).map (fun n => (⟨n, 0, none⟩ : Addr)) = xl := ⟨_, rfl⟩
  obtain ⟨xr, hxr⟩ : ∃ xr, (fst r).map (fun n => (⟨n, 0, none⟩ : Addr)) = xr := ⟨_, rfl⟩
  have hpl : pt (lst l) = .pointer xl := by rw [← hxl]; rfl
  have hpr : pt (fst r) = .pointer xr := by rw [← hxr]; rfl
  rw [hpl] at q1
  rw [hpr] at q2
  have HX := Lib.hid (And.intro hpl (And.intro hpr (And.intro hxl hxr)))
  clear hpl hpr hxl hxr
  go_enter Tryz.func52, Tryz.ntmps52
  go_upto_if 11 with (fail)
  go_cut [] from 7 to 57 (fun wx => wx.heap[b]? = some (.cells ((listArr most mb (l ++ (n, k) :: r) zs).setIfInBounds 2 (pt (fst (l ++ r)))) 105 (0, 0)) ∧
    (∀ l' p, l = l' ++ [p] → wx.heap[p.1]? = some (nodeObj p.2 (lst l') (fst r) ⟨b, 2, none⟩)) ∧ (∀ j, j ≠ b → lst l ≠ some j → wx.heap[j]? = w.heap[j]?) ∧
    Only (fun j => j = b ∨ j = n ∨ j ∈ (l ++ (n, k) :: r).map (·.1)) w wx)
  case first =>
    rcases snoc_cases l with hl | ⟨l', ⟨p, kp⟩, hl⟩
    · subst hl
      have hxn : none = xl := HX.out.2.2.1
      subst hxn
      have c0 := Mem.row_cell HC.out.2.2.2.1 2
      have f0 := Mem.row_free HC.out.2.2.2.1 2
      simp only [listArr, List.getElem?_toArray, List.getElem?_cons_zero, List.getElem?_cons_succ] at c0
      go_wp2_with fail
      go_meet
      have hr : ∀ v, pt (fst r) = v → (w.setCell ⟨b, 2, none⟩ v).heap[b]? = some (.cells ((listArr most mb ([] ++ (n, k) :: r) zs).setIfInBounds 2 (pt (fst ([] ++ r)))) 105 (0, 0)) := fun v hv => by
        subst hv; exact Mem.row_set HC.out.2.2.2.1 2 _
      exact ⟨hr _ HX.out.2.1, fun l' p e => by simp at e, fun j hj _ => set_far hj, (Only.refl _ w).setCell (p := ⟨b, 2, none⟩) (.inl (.inl rfl)) _⟩
    · subst hl
      have hxn : some ⟨p, 0, none⟩ = xl := by rw [← HX.out.2.2.1, lst_app]; rfl
      subst hxn
      have hpm : p ∈ ((l' ++ [(p, kp)]) ++ (n, k) :: r).map (·.1) := by simp
      have hpb : p ≠ b := fun e => HC.out.2.2.1 (e ▸ hpm)
      have hp := HC.out.1 l' p kp ((n, k) :: r) (by simp)
      have c0 := Mem.row_cell hp 2
      have f0 := Mem.row_free hp 2
      simp only [List.getElem?_toArray, List.getElem?_cons_zero, List.getElem?_cons_succ] at c0
      have HP := Lib.hid (And.intro hpm (And.intro hpb hp))
      clear hpm hpb hp
      go_wp2_with fail
      refine wp_region_still_tail 10 (by kernel_rfl) (by kernel_rfl) ?_
      simp only [List.take_succ_cons, List.take_zero, List.drop_succ_cons, List.drop_zero]
      repeat still_step
      refine wpStill_nil ?_
      change wpList _ _ _ _ _ w.drew
      go_wp2_with fail
      go_meet
      have hr : ∀ v, pt (fst r) = v → ((w.setCell ⟨p, 2, none⟩ v).drew.heap[p]? = some (nodeObj kp (lst l') (fst r) ⟨b, 2, none⟩)) := fun v hv => by
        rw [← hv]; exact Mem.row_set HP.out.2.2 2 _
      refine ⟨?_, fun l2 p2 e => ?_, fun j hj h2 => set_far (fun e => h2 (by rw [lst_app, e])), ((Only.refl _ w).setCell (p := ⟨p, 2, none⟩) (.inl (.inr (.inr HP.out.1))) _).drew⟩
      · refine (set_far (Ne.symm HP.out.2.1)).trans ?_
        rw [HC.out.2.2.2.1, fst_left _ r (by simp)]
        unfold listObj listArr
        rw [fst_left _ _ (by simp)]
        rfl
      · obtain ⟨rfl, e2⟩ := List.append_inj' e rfl
        injection e2 with e2
        subst e2
        exact hr _ HX.out.2.1
  case rest =>
    obtain ⟨h1, h2, h3, h4⟩ := hcut
    have hln : lst l ≠ some n := fun e => by
      have := lst_mem e
      have := HC.out.2.1
      simp only [List.map_append, List.map_cons, List.nodup_append, List.nodup_cons] at this
      exact this.2.2 n (by assumption) n (by simp) rfl
    have hn := (h3 n hnb hln).trans HC.out.2.2.2.2
    have q1 := Mem.row_cell hn 1
    have q2 := Mem.row_cell hn 2
    simp only [List.getElem?_toArray, List.getElem?_cons_zero, List.getElem?_cons_succ] at q1 q2
    have H1 := Lib.hid (And.intro h1 (And.intro h2 (And.intro h3 h4)))
    clear h1 h2 h3 h4 hln hn q3
    rw [HX.out.1] at q1
    rw [HX.out.2.1] at q2
    go_upto_if 33 with (fail)
    go_cut [] from 7 to 57 (fun wy => wy.heap[b]? = some (.cells (((listArr most mb (l ++ (n, k) :: r) zs).setIfInBounds 2 (pt (fst (l ++ r)))).setIfInBounds 3 (pt (lst (l ++ r)))) 105 (0, 0)) ∧
      (∀ l' p, l = l' ++ [p] → wy.heap[p.1]? = some (nodeObj p.2 (lst l') (fst r) ⟨b, 2, none⟩)) ∧ (∀ p r', r = p :: r' → wy.heap[p.1]? = some (nodeObj p.2 (lst l) (fst r') ⟨b, 2, none⟩)) ∧
      (∀ j, j ≠ b → lst l ≠ some j → fst r ≠ some j → wy.heap[j]? = w.heap[j]?) ∧ Only (fun j => j = b ∨ j = n ∨ j ∈ (l ++ (n, k) :: r).map (·.1)) w wy)
    case first =>
      cases r with
      | nil =>
        have hxn : none = xr := HX.out.2.2.2
        subst hxn
        have c0 := Mem.row_cell H1.out.1 3
        have f0 := Mem.row_free H1.out.1 3
        simp only [listArr, List.getElem?_toArray, List.getElem?_cons_zero, List.getElem?_cons_succ, List.setIfInBounds_toArray, List.set_cons_succ, List.set_cons_zero] at c0
        go_wp2_with fail
        go_meet
        have hr : ∀ v, pt (lst l) = v → (wc.setCell ⟨b, 3, none⟩ v).heap[b]? = some (.cells (((listArr most mb (l ++ (n, k) :: []) zs).setIfInBounds 2 (pt (fst (l ++ [])))).setIfInBounds 3 (pt (lst (l ++ [])))) 105 (0, 0)) := fun v hv => by
          have := Mem.row_set H1.out.1 3 v
          rw [List.append_nil] at this ⊢
          rw [hv]
          exact this
        have hpbn : ∀ (l' : List Nd) (p : Nd), l = l' ++ [p] → p.1 ≠ b := fun l' p e e2 => HC.out.2.2.1 (by rw [← e2, e]; simp)
        exact ⟨hr _ HX.out.1, fun l' p e => (set_far (hpbn l' p e)).trans (H1.out.2.1 l' p e), fun p r' e => by simp at e, fun j hj h2 _ => (set_far hj).trans (H1.out.2.2.1 j hj h2), H1.out.2.2.2.setCell (p := ⟨b, 3, none⟩) (.inl (.inl rfl)) _⟩
      | cons q r' =>
        obtain ⟨q, kq⟩ := q
        have hxn : some ⟨q, 0, none⟩ = xr := by rw [← HX.out.2.2.2]; rfl
        subst hxn
        have hnd := HC.out.2.1
        simp only [List.map_append, List.map_cons, List.nodup_append, List.nodup_cons] at hnd
        have hqm : q ∈ (l ++ (n, k) :: (q, kq) :: r').map (·.1) := by simp
        have hqb : q ≠ b := fun e => HC.out.2.2.1 (e ▸ hqm)
        have hql : lst l ≠ some q := fun e => hnd.2.2 q (lst_mem e) q (by simp) rfl
        have hq := (H1.out.2.2.1 q hqb hql).trans (HC.out.1 (l ++ [(n, k)]) q kq r' (by simp))
        rw [lst_app] at hq
        have c0 := Mem.row_cell hq 1
        have f0 := Mem.row_free hq 1
        simp only [List.getElem?_toArray, List.getElem?_cons_zero, List.getElem?_cons_succ] at c0
        have HQ := Lib.hid (And.intro hqm (And.intro hqb (And.intro hql hq)))
        clear hqm hqb hql hq hnd
        go_wp2_with fail
        refine wp_region_still_tail 10 (by kernel_rfl) (by kernel_rfl) ?_
        simp only [List.take_succ_cons, List.take_zero, List.drop_succ_cons, List.drop_zero]
        repeat still_step
        refine wpStill_nil ?_
        change wpList _ _ _ _ _ wc.drew
        go_wp2_with fail
        go_meet
        have hr : ∀ v, pt (lst l) = v → ((wc.setCell ⟨q, 1, none⟩ v).drew.heap[q]? = some (nodeObj kq (lst l) (fst r') ⟨b, 2, none⟩)) := fun v hv => by
          rw [← hv]; exact Mem.row_set HQ.out.2.2.2 1 _
        refine ⟨?_, fun l' p e => ?_, fun p r2 e => ?_, fun j hj h2 h3 => (set_far (fun e => h3 (by rw [fst_cons, e]))).trans (H1.out.2.2.1 j hj h2), (H1.out.2.2.2.setCell (p := ⟨q, 1, none⟩) (.inl (.inr (.inr HQ.out.1))) _).drew⟩
        · refine (set_far (Ne.symm HQ.out.2.1)).trans ?_
          rw [H1.out.1, lst_cons]
          unfold listArr
          rw [lst_cons, show lst ((n, k) :: (q, kq) :: r') = lst ((q, kq) :: r') from lst_cons [(n, k)] _ _]
          rfl
        · have hpq : p.1 ≠ q := fun e2 => HQ.out.2.2.1 (by rw [e, lst_app, e2])
          exact (set_far hpq).trans (H1.out.2.1 l' p e)
        · injection e with e e2
          subst e e2
          exact hr _ HX.out.1
    case rest =>
      obtain ⟨h1, h2, h3, h4, h5⟩ := hcut
      have c0 := Mem.row_cell h1 4
      have f0 := Mem.row_free h1 4
      simp only [listArr, List.getElem?_toArray, List.getElem?_cons_zero, List.getElem?_cons_succ, List.setIfInBounds_toArray, List.set_cons_succ, List.set_cons_zero] at c0
      have H2 := Lib.hid (And.intro h1 (And.intro h2 (And.intro h3 (And.intro h4 h5))))
      have hlw := HW.out.2
      obtain ⟨M, hM⟩ : ∃ M, (l ++ r).length = M := ⟨_, rfl⟩
      rw [hM] at hlw
      generalize (l ++ (n, k) :: r).length = L at c0 hlw
      have HM := Lib.hid hM
      clear h1 h2 h3 h4 h5 H1 q1 q2 hM
      go_wp2_with fail
      go_end0
      have hM := HM.out
      subst hM
      have hset := Mem.row_set H2.out.1 4 (.int .i64 ((l ++ r).length : Nat))
      have hfar : ∀ j, j ≠ b → (wc.setCell ⟨b, 4, none⟩ (.int .i64 ((l ++ r).length : Nat))).heap[j]? = wc.heap[j]? := fun j hj => set_far hj
      have hbm : ∀ j, j ∈ (l ++ (n, k) :: r).map (·.1) → j ≠ b := fun j hj e => HC.out.2.2.1 (e ▸ hj)
      have hnn := HC.out.2.1
      simp only [List.map_append, List.map_cons, List.nodup_append, List.nodup_cons] at hnn
      refine ⟨⟨rfl, hset, ChainB.pull HC.out.1 HC.out.2.1 (fun l' p e => (hfar _ (hbm _ (by rw [e]; simp))).trans (H2.out.2.1 l' p e)) (fun p r' e => (hfar _ (hbm _ (by rw [e]; simp))).trans (H2.out.2.2.1 p r' e))
        (fun j hj h2 h3 _ _ _ h => ?_), H2.out.2.2.2.2.setCell (p := ⟨b, 4, none⟩) (.inl (.inl rfl)) _⟩, (hfar n hnb).trans (H2.out.2.2.2.1 n hnb (fun e => hnn.2.2 n (lst_mem e) n (by simp) rfl) (fun e => hnn.2.1.1 (fst_mem e)))⟩
      have hj' := hbm j (by simp only [List.map_append, List.map_cons, List.mem_append, List.mem_cons] at hj ⊢; exact hj.elim .inl (fun e => .inr (.inr e)))
      exact (hfar j hj').trans ((H2.out.2.2.2.1 j hj' h2 h3).trans h)

set_option maxRecDepth 100000 in
set_option maxHeartbeats 2000000 in
theorem pull_safe {w : World} {b n mb : Nat} {most : Int} {l r zs : List Nd} {k : ByteArray} (hb : w.heap[b]? = some (listObj most mb zs (l ++ (n, k) :: r))) (hc : Chain w ⟨b, 5, none⟩ (l ++ (n, k) :: r)) (hnd : ((l ++ (n, k) :: r).map (·.1)).Nodup)
    (hlen : (l ++ (n, k) :: r).length ≤ 9223372036854775807) :
    Calls Tryz.prog 52 #[.pointer (some ⟨n, 0, none⟩)] w fun e w' => RowPost w b 5 (listObj most mb zs (l ++ r)) (l ++ (n, k) :: r) (l ++ r) n e w' ∧ w'.heap[n]? = w.heap[n]? := by
  have hbt := hc.ne hb
  have hn := hc l n k r rfl
  have hnb : n ≠ b := fun e => hbt (by rw [← e]; simp)
  have q1 := Mem.row_cell hn 1
  have q2 := Mem.row_cell hn 2
  have q3 := Mem.row_cell hn 3
  simp only [List.getElem?_toArray, List.getElem?_cons_zero, List.getElem?_cons_succ] at q1 q2 q3
  have HC := Lib.hid (And.intro hc (And.intro hnd (And.intro hbt (And.intro hb hn))))
  have hL : (l ++ (n, k) :: r).length = (l ++ r).length + 1 := by simp; omega
  have hlw : IntKind.i64.wrap (((l ++ (n, k) :: r).length : Nat) - (1 : Int)) = ((l ++ r).length : Nat) := by rw [IntKind.wrap_i64, hL]; omega
  have HL := Lib.hid hL
  have HW := Lib.hid (And.intro hlen hlw)
  clear hc hnd hbt hb hn hlw hlen hL
  obtain ⟨xl, hxl⟩ : ∃ xl, (lst l).map (fun n => (⟨n, 0, none⟩ : Addr)) = xl := ⟨_, rfl⟩
  obtain ⟨xr, hxr⟩ : ∃ xr, (fst r).map (fun n => (⟨n, 0, none⟩ : Addr)) = xr := ⟨_, rfl⟩
  have hpl : pt (lst l) = .pointer xl := by rw [← hxl]; rfl
  have hpr : pt (fst r) = .pointer xr := by rw [← hxr]; rfl
  rw [hpl] at q1
  rw [hpr] at q2
  have HX := Lib.hid (And.intro hpl (And.intro hpr (And.intro hxl hxr)))
  clear hpl hpr hxl hxr
  go_enter Tryz.func52, Tryz.ntmps52
  go_upto_if 11 with (fail)
  go_cut [] from 7 to 57 (fun wx => wx.heap[b]? = some (.cells ((listArr most mb zs (l ++ (n, k) :: r)).setIfInBounds 5 (pt (fst (l ++ r)))) 105 (0, 0)) ∧
    (∀ l' p, l = l' ++ [p] → wx.heap[p.1]? = some (nodeObj p.2 (lst l') (fst r) ⟨b, 5, none⟩)) ∧ (∀ j, j ≠ b → lst l ≠ some j → wx.heap[j]? = w.heap[j]?) ∧
    Only (fun j => j = b ∨ j = n ∨ j ∈ (l ++ (n, k) :: r).map (·.1)) w wx)
  case first =>
    rcases snoc_cases l with hl | ⟨l', ⟨p, kp⟩, hl⟩
    · subst hl
      have hxn : none = xl := HX.out.2.2.1
      subst hxn
      have c0 := Mem.row_cell HC.out.2.2.2.1 5
      have f0 := Mem.row_free HC.out.2.2.2.1 5
      simp only [listArr, List.getElem?_toArray, List.getElem?_cons_zero, List.getElem?_cons_succ] at c0
      go_wp2_with fail
      go_meet
      have hr : ∀ v, pt (fst r) = v → (w.setCell ⟨b, 5, none⟩ v).heap[b]? = some (.cells ((listArr most mb zs ([] ++ (n, k) :: r)).setIfInBounds 5 (pt (fst ([] ++ r)))) 105 (0, 0)) := fun v hv => by
        subst hv; exact Mem.row_set HC.out.2.2.2.1 5 _
      exact ⟨hr _ HX.out.2.1, fun l' p e => by simp at e, fun j hj _ => set_far hj, (Only.refl _ w).setCell (p := ⟨b, 5, none⟩) (.inl (.inl rfl)) _⟩
    · subst hl
      have hxn : some ⟨p, 0, none⟩ = xl := by rw [← HX.out.2.2.1, lst_app]; rfl
      subst hxn
      have hpm : p ∈ ((l' ++ [(p, kp)]) ++ (n, k) :: r).map (·.1) := by simp
      have hpb : p ≠ b := fun e => HC.out.2.2.1 (e ▸ hpm)
      have hp := HC.out.1 l' p kp ((n, k) :: r) (by simp)
      have c0 := Mem.row_cell hp 2
      have f0 := Mem.row_free hp 2
      simp only [List.getElem?_toArray, List.getElem?_cons_zero, List.getElem?_cons_succ] at c0
      have HP := Lib.hid (And.intro hpm (And.intro hpb hp))
      clear hpm hpb hp
      go_wp2_with fail
      refine wp_region_still_tail 10 (by kernel_rfl) (by kernel_rfl) ?_
      simp only [List.take_succ_cons, List.take_zero, List.drop_succ_cons, List.drop_zero]
      repeat still_step
      refine wpStill_nil ?_
      change wpList _ _ _ _ _ w.drew
      go_wp2_with fail
      go_meet
      have hr : ∀ v, pt (fst r) = v → ((w.setCell ⟨p, 2, none⟩ v).drew.heap[p]? = some (nodeObj kp (lst l') (fst r) ⟨b, 5, none⟩)) := fun v hv => by
        rw [← hv]; exact Mem.row_set HP.out.2.2 2 _
      refine ⟨?_, fun l2 p2 e => ?_, fun j hj h2 => set_far (fun e => h2 (by rw [lst_app, e])), ((Only.refl _ w).setCell (p := ⟨p, 2, none⟩) (.inl (.inr (.inr HP.out.1))) _).drew⟩
      · refine (set_far (Ne.symm HP.out.2.1)).trans ?_
        rw [HC.out.2.2.2.1, fst_left _ r (by simp)]
        unfold listObj listArr
        rw [fst_left _ _ (by simp)]
        rfl
      · obtain ⟨rfl, e2⟩ := List.append_inj' e rfl
        injection e2 with e2
        subst e2
        exact hr _ HX.out.2.1
  case rest =>
    obtain ⟨h1, h2, h3, h4⟩ := hcut
    have hln : lst l ≠ some n := fun e => by
      have := lst_mem e
      have := HC.out.2.1
      simp only [List.map_append, List.map_cons, List.nodup_append, List.nodup_cons] at this
      exact this.2.2 n (by assumption) n (by simp) rfl
    have hn := (h3 n hnb hln).trans HC.out.2.2.2.2
    have q1 := Mem.row_cell hn 1
    have q2 := Mem.row_cell hn 2
    simp only [List.getElem?_toArray, List.getElem?_cons_zero, List.getElem?_cons_succ] at q1 q2
    have H1 := Lib.hid (And.intro h1 (And.intro h2 (And.intro h3 h4)))
    clear h1 h2 h3 h4 hln hn q3
    rw [HX.out.1] at q1
    rw [HX.out.2.1] at q2
    go_upto_if 33 with (fail)
    go_cut [] from 7 to 57 (fun wy => wy.heap[b]? = some (.cells (((listArr most mb zs (l ++ (n, k) :: r)).setIfInBounds 5 (pt (fst (l ++ r)))).setIfInBounds 6 (pt (lst (l ++ r)))) 105 (0, 0)) ∧
      (∀ l' p, l = l' ++ [p] → wy.heap[p.1]? = some (nodeObj p.2 (lst l') (fst r) ⟨b, 5, none⟩)) ∧ (∀ p r', r = p :: r' → wy.heap[p.1]? = some (nodeObj p.2 (lst l) (fst r') ⟨b, 5, none⟩)) ∧
      (∀ j, j ≠ b → lst l ≠ some j → fst r ≠ some j → wy.heap[j]? = w.heap[j]?) ∧ Only (fun j => j = b ∨ j = n ∨ j ∈ (l ++ (n, k) :: r).map (·.1)) w wy)
    case first =>
      cases r with
      | nil =>
        have hxn : none = xr := HX.out.2.2.2
        subst hxn
        have c0 := Mem.row_cell H1.out.1 6
        have f0 := Mem.row_free H1.out.1 6
        simp only [listArr, List.getElem?_toArray, List.getElem?_cons_zero, List.getElem?_cons_succ, List.setIfInBounds_toArray, List.set_cons_succ, List.set_cons_zero] at c0
        go_wp2_with fail
        go_meet
        have hr : ∀ v, pt (lst l) = v → (wc.setCell ⟨b, 6, none⟩ v).heap[b]? = some (.cells (((listArr most mb zs (l ++ (n, k) :: [])).setIfInBounds 5 (pt (fst (l ++ [])))).setIfInBounds 6 (pt (lst (l ++ [])))) 105 (0, 0)) := fun v hv => by
          have := Mem.row_set H1.out.1 6 v
          rw [List.append_nil] at this ⊢
          rw [hv]
          exact this
        have hpbn : ∀ (l' : List Nd) (p : Nd), l = l' ++ [p] → p.1 ≠ b := fun l' p e e2 => HC.out.2.2.1 (by rw [← e2, e]; simp)
        exact ⟨hr _ HX.out.1, fun l' p e => (set_far (hpbn l' p e)).trans (H1.out.2.1 l' p e), fun p r' e => by simp at e, fun j hj h2 _ => (set_far hj).trans (H1.out.2.2.1 j hj h2), H1.out.2.2.2.setCell (p := ⟨b, 6, none⟩) (.inl (.inl rfl)) _⟩
      | cons q r' =>
        obtain ⟨q, kq⟩ := q
        have hxn : some ⟨q, 0, none⟩ = xr := by rw [← HX.out.2.2.2]; rfl
        subst hxn
        have hnd := HC.out.2.1
        simp only [List.map_append, List.map_cons, List.nodup_append, List.nodup_cons] at hnd
        have hqm : q ∈ (l ++ (n, k) :: (q, kq) :: r').map (·.1) := by simp
        have hqb : q ≠ b := fun e => HC.out.2.2.1 (e ▸ hqm)
        have hql : lst l ≠ some q := fun e => hnd.2.2 q (lst_mem e) q (by simp) rfl
        have hq := (H1.out.2.2.1 q hqb hql).trans (HC.out.1 (l ++ [(n, k)]) q kq r' (by simp))
        rw [lst_app] at hq
        have c0 := Mem.row_cell hq 1
        have f0 := Mem.row_free hq 1
        simp only [List.getElem?_toArray, List.getElem?_cons_zero, List.getElem?_cons_succ] at c0
        have HQ := Lib.hid (And.intro hqm (And.intro hqb (And.intro hql hq)))
        clear hqm hqb hql hq hnd
        go_wp2_with fail
        refine wp_region_still_tail 10 (by kernel_rfl) (by kernel_rfl) ?_
        simp only [List.take_succ_cons, List.take_zero, List.drop_succ_cons, List.drop_zero]
        repeat still_step
        refine wpStill_nil ?_
        change wpList _ _ _ _ _ wc.drew
        go_wp2_with fail
        go_meet
        have hr : ∀ v, pt (lst l) = v → ((wc.setCell ⟨q, 1, none⟩ v).drew.heap[q]? = some (nodeObj kq (lst l) (fst r') ⟨b, 5, none⟩)) := fun v hv => by
          rw [← hv]; exact Mem.row_set HQ.out.2.2.2 1 _
        refine ⟨?_, fun l' p e => ?_, fun p r2 e => ?_, fun j hj h2 h3 => (set_far (fun e => h3 (by rw [fst_cons, e]))).trans (H1.out.2.2.1 j hj h2), (H1.out.2.2.2.setCell (p := ⟨q, 1, none⟩) (.inl (.inr (.inr HQ.out.1))) _).drew⟩
        · refine (set_far (Ne.symm HQ.out.2.1)).trans ?_
          rw [H1.out.1, lst_cons]
          unfold listArr
          rw [lst_cons, show lst ((n, k) :: (q, kq) :: r') = lst ((q, kq) :: r') from lst_cons [(n, k)] _ _]
          rfl
        · have hpq : p.1 ≠ q := fun e2 => HQ.out.2.2.1 (by rw [e, lst_app, e2])
          exact (set_far hpq).trans (H1.out.2.1 l' p e)
        · injection e with e e2
          subst e e2
          exact hr _ HX.out.1
    case rest =>
      obtain ⟨h1, h2, h3, h4, h5⟩ := hcut
      have c0 := Mem.row_cell h1 7
      have f0 := Mem.row_free h1 7
      simp only [listArr, List.getElem?_toArray, List.getElem?_cons_zero, List.getElem?_cons_succ, List.setIfInBounds_toArray, List.set_cons_succ, List.set_cons_zero] at c0
      have H2 := Lib.hid (And.intro h1 (And.intro h2 (And.intro h3 (And.intro h4 h5))))
      have hlw := HW.out.2
      obtain ⟨M, hM⟩ : ∃ M, (l ++ r).length = M := ⟨_, rfl⟩
      rw [hM] at hlw
      generalize (l ++ (n, k) :: r).length = L at c0 hlw
      have HM := Lib.hid hM
      clear h1 h2 h3 h4 h5 H1 q1 q2 hM
      go_wp2_with fail
      go_end0
      have hM := HM.out
      subst hM
      have hset := Mem.row_set H2.out.1 7 (.int .i64 ((l ++ r).length : Nat))
      have hfar : ∀ j, j ≠ b → (wc.setCell ⟨b, 7, none⟩ (.int .i64 ((l ++ r).length : Nat))).heap[j]? = wc.heap[j]? := fun j hj => set_far hj
      have hbm : ∀ j, j ∈ (l ++ (n, k) :: r).map (·.1) → j ≠ b := fun j hj e => HC.out.2.2.1 (e ▸ hj)
      have hnn := HC.out.2.1
      simp only [List.map_append, List.map_cons, List.nodup_append, List.nodup_cons] at hnn
      refine ⟨⟨rfl, hset, ChainB.pull HC.out.1 HC.out.2.1 (fun l' p e => (hfar _ (hbm _ (by rw [e]; simp))).trans (H2.out.2.1 l' p e)) (fun p r' e => (hfar _ (hbm _ (by rw [e]; simp))).trans (H2.out.2.2.1 p r' e))
        (fun j hj h2 h3 _ _ _ h => ?_), H2.out.2.2.2.2.setCell (p := ⟨b, 7, none⟩) (.inl (.inl rfl)) _⟩, (hfar n hnb).trans (H2.out.2.2.2.1 n hnb (fun e => hnn.2.2 n (lst_mem e) n (by simp) rfl) (fun e => hnn.2.1.1 (fst_mem e)))⟩
      have hj' := hbm j (by simp only [List.map_append, List.map_cons, List.mem_append, List.mem_cons] at hj ⊢; exact hj.elim .inl (fun e => .inr (.inr e)))
      exact (hfar j hj').trans ((H2.out.2.2.2.1 j hj' h2 h3).trans h)

end Go.Proofs.YtodoglljjhdbeaaGreatDoor.Slru

/- Layer 8: the list in memory: rows and map; New, Len, Protected, Add. -/
namespace Go.Proofs.YtodoglljjhdbeaaGreatDoor.Slru
open Go Go.RowKit Go.Proofs.YtodoglljjhdbeaaGreatDoor.Mem

section
variable {κ : Type} [DecidableEq κ]
theorem get_set (l : List (κ × Value)) (k k' : κ) (v : Value) : Maps.get (Maps.set l k v) k' = if k' = k then some v else Maps.get l k' := by
  induction l with
  | nil => simp [Maps.set, Maps.get]
  | cons p l ih =>
    simp only [Maps.set]
    by_cases h : k = p.1
    · rw [if_pos h]; simp only [Maps.get]; subst h; by_cases h2 : k' = p.1 <;> simp [h2]
    · rw [if_neg h]; simp only [Maps.get, ih]
      by_cases h2 : k' = p.1
      · rw [if_pos h2, if_neg (show ¬ k' = k from fun e => h (e.symm.trans h2)), if_pos h2]
      · rw [if_neg h2, if_neg h2]
theorem get_none {l : List (κ × Value)} {k : κ} (h : Maps.get l k = none) : k ∉ l.map (·.1) := by
  induction l with
  | nil => simp
  | cons p l ih =>
    simp only [Maps.get] at h
    by_cases h2 : k = p.1
    · rw [if_pos h2] at h; cases h
    · rw [if_neg h2] at h; simpa [h2] using ih h
theorem get_out {l : List (κ × Value)} {k : κ} (h : k ∉ l.map (·.1)) : Maps.get l k = none := by
  induction l with
  | nil => rfl
  | cons p l ih => simp at h; simp only [Maps.get]; rw [if_neg h.1]; exact ih (by simpa using h.2)
theorem set_new {l : List (κ × Value)} {k : κ} (v : Value) (h : Maps.get l k = none) : Maps.set l k v = l ++ [(k, v)] := by
  induction l with
  | nil => rfl
  | cons p l ih =>
    simp only [Maps.get] at h
    by_cases h2 : k = p.1
    · rw [if_pos h2] at h; cases h
    · rw [if_neg h2] at h; simp only [Maps.set]; rw [if_neg h2, ih h]; rfl
theorem get_del {l : List (κ × Value)} (hn : (l.map (·.1)).Nodup) (k k' : κ) : Maps.get (Maps.del l k) k' = if k' = k then none else Maps.get l k' := by
  induction l with
  | nil => simp [Maps.del, Maps.get]
  | cons p l ih =>
    have hn' := List.nodup_cons.1 hn
    simp only [Maps.del]
    by_cases h : k = p.1
    · rw [if_pos h]
      by_cases h2 : k' = k
      · rw [if_pos h2, h2, h]; exact get_out hn'.1
      · rw [if_neg h2]; simp only [Maps.get]; rw [if_neg (fun e => h2 (e.trans h.symm))]
    · rw [if_neg h]
      simp only [Maps.get, ih hn'.2]
      by_cases h2 : k' = p.1
      · rw [if_pos h2, if_neg (show ¬ k' = k from fun e => h (e.symm.trans h2)), if_pos h2]
      · rw [if_neg h2, if_neg h2]
theorem del_sub (l : List (κ × Value)) (k : κ) : (Maps.del l k).Sublist l := by
  induction l with
  | nil => exact List.Sublist.refl _
  | cons p l ih =>
    simp only [Maps.del]
    by_cases h : k = p.1
    · rw [if_pos h]; exact List.sublist_cons_self _ _
    · rw [if_neg h]; exact ih.cons_cons _
end
theorem without_mem {l : List ByteArray} {k x : ByteArray} : x ∈ without l k ↔ x ∈ l ∧ x ≠ k := by simp [without]
theorem without_none {l : List ByteArray} {k : ByteArray} (h : k ∉ l) : without l k = l := by
  unfold without
  rw [List.filter_eq_self]
  intro x hx
  exact decide_eq_true (fun e : x = k => h (e ▸ hx))
theorem without_split {l r : List ByteArray} {k : ByteArray} (h : (l ++ k :: r).Nodup) : without (l ++ k :: r) k = l ++ r := by
  have h2 := List.nodup_append.1 h
  have h3 := List.nodup_cons.1 h2.2.1
  have e1 : without l k = l := without_none fun e => h2.2.2 k e k (by simp) rfl
  have e2 : without r k = r := without_none h3.1
  have : without (l ++ k :: r) k = without l k ++ without r k := by unfold without; rw [List.filter_append, List.filter_cons]; simp
  rw [this, e1, e2]
theorem without_nodup {l : List ByteArray} (k : ByteArray) (h : l.Nodup) : (without l k).Nodup := h.sublist List.filter_sublist
theorem without_app (l r : List ByteArray) (k : ByteArray) : without (l ++ r) k = without l k ++ without r k := List.filter_append ..
theorem without_len (l : List ByteArray) (k : ByteArray) : (without l k).length ≤ l.length := List.length_filter_le ..

theorem without_lt {l : List ByteArray} {k : ByteArray} (h : k ∈ l) : (without l k).length + 1 ≤ l.length := by
  obtain ⟨a, b, rfl⟩ := List.append_of_mem h
  have : without (a ++ k :: b) k = without a k ++ without b k := by unfold without; rw [List.filter_append, List.filter_cons]; simp
  rw [this, List.length_append, List.length_append, List.length_cons]
  have := without_len a k
  have := without_len b k
  omega

/-- The two rows in memory, without the map. -/
structure Rows (w : World) (b mb : Nat) (most : Int) (ts ss : List Nd) : Prop where
  blk : w.heap[b]? = some (listObj most mb ts ss)
  ct : Chain w ⟨b, 2, none⟩ ts
  cs : Chain w ⟨b, 5, none⟩ ss
  nd : ((ts ++ ss).map (·.1)).Nodup
section
variable {w w' : World} {b mb n : Nat} {most : Int} {ts ss : List Nd} {k : ByteArray}
theorem Rows.same (h : Rows w b mb most ts ss) (hs : ∀ j, j = b ∨ j ∈ (ts ++ ss).map (·.1) → w'.heap[j]? = w.heap[j]?) : Rows w' b mb most ts ss :=
  ⟨(hs b (.inl rfl)).trans h.blk, h.ct.same fun j hj => hs j (.inr (by rw [List.map_append]; exact List.mem_append.2 (.inl hj))), h.cs.same fun j hj => hs j (.inr (by rw [List.map_append]; exact List.mem_append.2 (.inr hj))), h.nd⟩
theorem Rows.ndt (h : Rows w b mb most ts ss) : (ts.map (·.1)).Nodup ∧ (ss.map (·.1)).Nodup ∧ ∀ j ∈ ts.map (·.1), j ∉ ss.map (·.1) := by
  have := h.nd
  rw [List.map_append, List.nodup_append] at this
  exact ⟨this.1, this.2.1, fun j hj hs => this.2.2 j hj j hs rfl⟩
theorem Rows.off (h : Rows w b mb most ts ss) : b ∉ (ts ++ ss).map (·.1) := fun e => by
  rw [List.map_append, List.mem_append] at e
  exact e.elim (h.ct.ne h.blk) (h.cs.ne h.blk)
theorem Rows.node (h : Rows w b mb most ts ss) (hm : (n, k) ∈ ts ++ ss) : ∃ a c ra, w.heap[n]? = some (nodeObj k a c ra) := by
  rcases List.mem_append.1 hm with hm | hm
  · obtain ⟨l, r, e⟩ := List.append_of_mem hm
    exact ⟨_, _, _, h.ct l n k r e⟩
  · obtain ⟨l, r, e⟩ := List.append_of_mem hm
    exact ⟨_, _, _, h.cs l n k r e⟩
def PulledPost (w : World) (b mb : Nat) (most : Int) (ts ss : List Nd) (n : Nat) (k : ByteArray) (e : Ending) (w' : World) : Prop :=
  e = .returned (.tuple #[]) ∧ ∃ ts1 ss1, Rows w' b mb most ts1 ss1 ∧ ts1.map (·.2) = without (ts.map (·.2)) k ∧ ss1.map (·.2) = without (ss.map (·.2)) k ∧ n ∉ (ts1 ++ ss1).map (·.1) ∧
    (∃ a c ra, w'.heap[n]? = some (nodeObj k a c ra)) ∧ (∀ p, p ∈ ts1 ++ ss1 ↔ p ∈ ts ++ ss ∧ p.2 ≠ k) ∧ Only (fun j => j = b ∨ j ∈ (ts ++ ss).map (·.1)) w w'
theorem pull_any (h : Rows w b mb most ts ss) (hk : ((ts ++ ss).map (·.2)).Nodup) (hm : (n, k) ∈ ts ++ ss) (hl : (ts ++ ss).length ≤ 9223372036854775807) :
    Calls Tryz.prog 52 #[.pointer (some ⟨n, 0, none⟩)] w (PulledPost w b mb most ts ss n k) := by
  have hlen : ts.length + ss.length ≤ 9223372036854775807 := by rw [List.length_append] at hl; exact hl
  have hoff := h.off
  have hnode := h.node hm
  rcases List.mem_append.1 hm with hm | hm
  · obtain ⟨l, r, e⟩ := List.append_of_mem hm
    subst e
    refine (pull_trial h.blk h.ct h.ndt.1 (by omega)).mono ?_
    rintro e w' ⟨⟨rfl, h1, h2, h3⟩, h4⟩
    have ho : Only (fun j => j = b ∨ j ∈ ((l ++ (n, k) :: r) ++ ss).map (·.1)) w w' := h3.mono fun j hj => hj.elim .inl fun e => e.elim (fun e => .inr (by rw [e]; simp)) (fun e => .inr (by rw [List.map_append]; exact List.mem_append.2 (.inl e)))
    have hnd := h.nd
    have hsub : ((l ++ r) ++ ss).Sublist ((l ++ (n, k) :: r) ++ ss) := (List.Sublist.append (List.Sublist.refl l) (List.sublist_cons_self _ _)).append (List.Sublist.refl _)
    have hn1 : n ∉ ((l ++ r) ++ ss).map (·.1) := fun e => by
      have h5 := h.nd
      rw [show (l ++ (n, k) :: r) ++ ss = l ++ (n, k) :: (r ++ ss) from by simp, List.map_append, List.map_cons, List.nodup_append, List.nodup_cons] at h5
      rw [List.append_assoc, List.map_append, List.mem_append] at e
      exact e.elim (fun e => h5.2.2 n e n (by simp) rfl) h5.2.1.1
    have hk2 := hk
    rw [List.map_append, List.nodup_append] at hk2
    have hks : k ∉ ss.map (·.2) := fun e => hk2.2.2 k (by simp) k e rfl
    refine ⟨rfl, l ++ r, ss, ⟨h1, h2, h.cs.same fun j hj => ?_, hnd.sublist (hsub.map _)⟩, ?_, (without_none hks).symm, hn1, by rw [h4]; exact hnode, fun p => ?_, ho⟩
    · have hjl : j < w.heap.size := by
        obtain ⟨_, _, _, e⟩ := h.cs.at_mem hj
        exact (Array.getElem?_eq_some_iff.1 e).1
      refine h3.same j hjl fun e => ?_
      rcases e with e | e | e
      · exact hoff (by rw [← e, List.map_append]; exact List.mem_append.2 (.inr hj))
      · exact h.ndt.2.2 n (by simp) (e ▸ hj)
      · exact h.ndt.2.2 j e hj
    · have := hk2.1
      rw [List.map_append, List.map_cons] at this
      rw [List.map_append, List.map_append, List.map_cons, without_split this]
    · have hp2 : ∀ p ∈ l ++ r, p.2 ≠ k := fun p hp e => by
        have := hk2.1
        rw [List.map_append, List.map_cons, List.nodup_append, List.nodup_cons] at this
        rcases List.mem_append.1 hp with hp | hp
        · exact this.2.2 k (e ▸ List.mem_map_of_mem hp) k (by simp) rfl
        · exact this.2.1.1 (by show k ∈ r.map (·.2); rw [← e]; exact List.mem_map_of_mem hp)
      constructor
      · intro hp
        refine ⟨hsub.subset hp, ?_⟩
        rcases List.mem_append.1 hp with hp | hp
        · exact hp2 p hp
        · exact fun e => hks (e ▸ List.mem_map_of_mem hp)
      · rintro ⟨hp, hne⟩
        simp only [List.mem_append, List.mem_cons] at hp ⊢
        rcases hp with (hp | rfl | hp) | hp
        · exact .inl (.inl hp)
        · exact absurd rfl hne
        · exact .inl (.inr hp)
        · exact .inr hp
  · obtain ⟨l, r, e⟩ := List.append_of_mem hm
    subst e
    refine (pull_safe h.blk h.cs h.ndt.2.1 (by omega)).mono ?_
    rintro e w' ⟨⟨rfl, h1, h2, h3⟩, h4⟩
    have ho : Only (fun j => j = b ∨ j ∈ (ts ++ (l ++ (n, k) :: r)).map (·.1)) w w' := h3.mono fun j hj => hj.elim .inl fun e => e.elim (fun e => .inr (by rw [e]; simp)) (fun e => .inr (by rw [List.map_append]; exact List.mem_append.2 (.inr e)))
    have hnd := h.nd
    have hsub : (ts ++ (l ++ r)).Sublist (ts ++ (l ++ (n, k) :: r)) := (List.Sublist.refl ts).append (List.Sublist.append (List.Sublist.refl l) (List.sublist_cons_self _ _))
    have hn1 : n ∉ (ts ++ (l ++ r)).map (·.1) := fun e => by
      have h5 := h.nd
      rw [show ts ++ (l ++ (n, k) :: r) = (ts ++ l) ++ (n, k) :: r from by simp, List.map_append, List.map_cons, List.nodup_append, List.nodup_cons] at h5
      rw [← List.append_assoc, List.map_append, List.mem_append] at e
      exact e.elim (fun e => h5.2.2 n e n (by simp) rfl) h5.2.1.1
    have hk2 := hk
    rw [List.map_append, List.nodup_append] at hk2
    have hks : k ∉ ts.map (·.2) := fun e => hk2.2.2 k e k (by simp) rfl
    refine ⟨rfl, ts, l ++ r, ⟨h1, h.ct.same fun j hj => ?_, h2, hnd.sublist (hsub.map _)⟩, (without_none hks).symm, ?_, hn1, by rw [h4]; exact hnode, fun p => ?_, ho⟩
    · have hjl : j < w.heap.size := by
        obtain ⟨_, _, _, e⟩ := h.ct.at_mem hj
        exact (Array.getElem?_eq_some_iff.1 e).1
      refine h3.same j hjl fun e => ?_
      rcases e with e | e | e
      · exact hoff (by rw [← e, List.map_append]; exact List.mem_append.2 (.inl hj))
      · exact h.ndt.2.2 j hj (by rw [e]; simp)
      · exact h.ndt.2.2 j hj e
    · have := hk2.2.1
      rw [List.map_append, List.map_cons] at this
      rw [List.map_append, List.map_append, List.map_cons, without_split this]
    · have hp2 : ∀ p ∈ l ++ r, p.2 ≠ k := fun p hp e => by
        have := hk2.2.1
        rw [List.map_append, List.map_cons, List.nodup_append, List.nodup_cons] at this
        rcases List.mem_append.1 hp with hp | hp
        · exact this.2.2 k (e ▸ List.mem_map_of_mem hp) k (by simp) rfl
        · exact this.2.1.1 (by show k ∈ r.map (·.2); rw [← e]; exact List.mem_map_of_mem hp)
      constructor
      · intro hp
        refine ⟨hsub.subset hp, ?_⟩
        rcases List.mem_append.1 hp with hp | hp
        · exact fun e => hks (e ▸ List.mem_map_of_mem hp)
        · exact hp2 p hp
      · rintro ⟨hp, hne⟩
        simp only [List.mem_append, List.mem_cons] at hp ⊢
        rcases hp with hp | hp | rfl | hp
        · exact .inl hp
        · exact .inr (.inl hp)
        · exact absurd rfl hne
        · exact .inr (.inr hp)
def PushedPost (w : World) (b mb : Nat) (most : Int) (ts ss ts1 ss1 : List Nd) (n : Nat) (e : Ending) (w' : World) : Prop :=
  e = .returned (.tuple #[]) ∧ Rows w' b mb most ts1 ss1 ∧ Only (fun j => j = b ∨ j = n ∨ j ∈ (ts ++ ss).map (·.1)) w w'
theorem put_trial (h : Rows w b mb most ts ss) {u1 u2 u3 : Value} (hn : w.heap[n]? = some (.cells #[.string k, u1, u2, u3] 148 (0, 0))) (hno : n ∉ (ts ++ ss).map (·.1)) (hl : (ts ++ ss).length + 1 ≤ 9223372036854775807) :
    Calls Tryz.prog 53 #[.pointer (some ⟨b, 2, none⟩), .pointer (some ⟨n, 0, none⟩)] w (PushedPost w b mb most ts ss (ts ++ [(n, k)]) ss n) := by
  have hlen : ts.length + ss.length + 1 ≤ 9223372036854775807 := by rw [List.length_append] at hl; exact hl
  have hoff := h.off
  have hno2 := hno
  rw [List.map_append, List.mem_append] at hno2
  refine (push_trial h.blk h.ct h.ndt.1 hn (fun e => hno2 (.inl e)) (by omega)).mono ?_
  rintro e w' ⟨rfl, h1, h2, h3⟩
  refine ⟨rfl, ⟨h1, h2, h.cs.same fun j hj => ?_, ?_⟩, h3.mono fun j hj => hj.elim .inl fun e => .inr (e.elim .inl fun e => .inr (by rw [List.map_append]; exact List.mem_append.2 (.inl e)))⟩
  · have hjl : j < w.heap.size := by
      obtain ⟨_, _, _, e⟩ := h.cs.at_mem hj
      exact (Array.getElem?_eq_some_iff.1 e).1
    refine h3.same j hjl fun e => ?_
    rcases e with e | e | e
    · exact hoff (by rw [← e, List.map_append]; exact List.mem_append.2 (.inr hj))
    · exact hno2 (.inr (e ▸ hj))
    · exact h.ndt.2.2 j e hj
  · have hp : ((n, k) :: (ts ++ ss)).Perm (ts ++ [(n, k)] ++ ss) := by
      rw [List.append_assoc]
      exact (List.perm_middle (a := (n, k)) (l₁ := ts) (l₂ := ss)).symm
    exact ((hp.map (·.1)).nodup_iff).1 (List.nodup_cons.2 ⟨hno, h.nd⟩)
theorem put_safe (h : Rows w b mb most ts ss) {u1 u2 u3 : Value} (hn : w.heap[n]? = some (.cells #[.string k, u1, u2, u3] 148 (0, 0))) (hno : n ∉ (ts ++ ss).map (·.1)) (hl : (ts ++ ss).length + 1 ≤ 9223372036854775807) :
    Calls Tryz.prog 53 #[.pointer (some ⟨b, 5, none⟩), .pointer (some ⟨n, 0, none⟩)] w (PushedPost w b mb most ts ss ts (ss ++ [(n, k)]) n) := by
  have hlen : ts.length + ss.length + 1 ≤ 9223372036854775807 := by rw [List.length_append] at hl; exact hl
  have hoff := h.off
  have hno2 := hno
  rw [List.map_append, List.mem_append] at hno2
  refine (push_safe h.blk h.cs h.ndt.2.1 hn (fun e => hno2 (.inr e)) (by omega)).mono ?_
  rintro e w' ⟨rfl, h1, h2, h3⟩
  refine ⟨rfl, ⟨h1, h.ct.same fun j hj => ?_, h2, ?_⟩, h3.mono fun j hj => hj.elim .inl fun e => .inr (e.elim .inl fun e => .inr (by rw [List.map_append]; exact List.mem_append.2 (.inr e)))⟩
  · have hjl : j < w.heap.size := by
      obtain ⟨_, _, _, e⟩ := h.ct.at_mem hj
      exact (Array.getElem?_eq_some_iff.1 e).1
    refine h3.same j hjl fun e => ?_
    rcases e with e | e | e
    · exact hoff (by rw [← e, List.map_append]; exact List.mem_append.2 (.inl hj))
    · exact hno2 (.inl (e ▸ hj))
    · exact h.ndt.2.2 j hj e
  · have hp : ((n, k) :: (ts ++ ss)).Perm (ts ++ (ss ++ [(n, k)])) := by
      rw [← List.append_assoc]
      exact (List.perm_append_singleton (n, k) (ts ++ ss)).symm
    exact ((hp.map (·.1)).nodup_iff).1 (List.nodup_cons.2 ⟨hno, h.nd⟩)
end
end Go.Proofs.YtodoglljjhdbeaaGreatDoor.Slru

/- Layer 8: the walks of New, Len, Protected, Add. -/
namespace Go.Proofs.YtodoglljjhdbeaaGreatDoor.Slru
open Go Go.RowKit Go.Proofs.YtodoglljjhdbeaaGreatDoor.Mem

def key? (ps : List (ByteArray × Value)) (xs : List Nd) : Prop := ∀ k v, Maps.get ps k = some v ↔ ∃ n, (n, k) ∈ xs ∧ v = .pointer (some ⟨n, 0, none⟩)
/-- The list at block b, its map at mb; all that is its own is in F. -/
structure AtW (w : World) (b : Nat) (F : Nat → Prop) (s : St) (mb : Nat) (ts ss : List Nd) (ps : List (ByteArray × Value)) : Prop where
  rows : Rows w b mb s.most ts ss
  map : Maps.Is Value.string w mb ps
  look : key? ps (ts ++ ss)
  pnd : (ps.map (·.1)).Nodup
  tr : ts.map (·.2) = s.trial
  sf : ss.map (·.2) = s.safe
  knd : s.all.Nodup
  fb : F b
  fm : F mb
  fn : ∀ j ∈ (ts ++ ss).map (·.1), F j
  lt : ∀ k, F k → k < w.heap.size
def At (w : World) (b : Nat) (F : Nat → Prop) (s : St) : Prop := ∃ mb ts ss ps, AtW w b F s mb ts ss ps
section
variable {w w' : World} {b mb n : Nat} {F : Nat → Prop} {s : St} {ts ss : List Nd} {ps : List (ByteArray × Value)} {k : ByteArray}
theorem AtW.all (h : AtW w b F s mb ts ss ps) : s.all = (ts ++ ss).map (·.2) := by unfold St.all; rw [← h.tr, ← h.sf, List.map_append]
theorem AtW.same (h : AtW w b F s mb ts ss ps) (hs : ∀ k, F k → w'.heap[k]? = w.heap[k]?) (hz : w.heap.size ≤ w'.heap.size) : AtW w' b F s mb ts ss ps :=
  ⟨h.rows.same fun j hj => hs j (hj.elim (fun e => e ▸ h.fb) (h.fn j)), h.map.same (hs mb h.fm), h.look, h.pnd, h.tr, h.sf, h.knd, h.fb, h.fm, h.fn, fun k hk => Nat.lt_of_lt_of_le (h.lt k hk) hz⟩
theorem At.same (h : At w b F s) (hs : ∀ k, F k → w'.heap[k]? = w.heap[k]?) (hz : w.heap.size ≤ w'.heap.size) : At w' b F s := by
  obtain ⟨mb, ts, ss, ps, h⟩ := h
  exact ⟨mb, ts, ss, ps, h.same hs hz⟩
theorem At.lt (h : At w b F s) : ∀ k, F k → k < w.heap.size := by obtain ⟨_, _, _, _, h⟩ := h; exact h.lt
theorem At.below (h : At w b F s) (ho : Below w.heap.size w w') : At w' b F s := h.same (fun k hk => ho.block k (h.lt k hk)) ho.size
theorem At.only {G : Nat → Prop} (h : At w b F s) (ho : Only G w w') (hd : ∀ k, F k → ¬ G k) : At w' b F s := h.same (fun k hk => ho.same k (h.lt k hk) (hd k hk)) ho.size
theorem At.nodup (h : At w b F s) : s.all.Nodup := by obtain ⟨_, _, _, _, h⟩ := h; exact h.knd
theorem AtW.map_off (h : AtW w b F s mb ts ss ps) : mb ≠ b ∧ mb ∉ (ts ++ ss).map (·.1) := by
  obtain ⟨es, clock, hb, _⟩ := h.map
  refine ⟨fun e => ?_, fun hm => ?_⟩
  · subst e
    have := h.rows.blk
    rw [hb] at this
    injection this with this
    cases this
  · obtain ⟨⟨n, k⟩, hn, e⟩ := List.mem_map.1 hm
    simp only at e
    subst e
    obtain ⟨_, _, _, e2⟩ := h.rows.node hn
    rw [hb] at e2
    injection e2 with e2
    cases e2
theorem AtW.get_some (h : AtW w b F s mb ts ss ps) (hk : k ∈ s.all) : ∃ n, (n, k) ∈ ts ++ ss ∧ Maps.get ps k = some (.pointer (some ⟨n, 0, none⟩)) := by
  rw [h.all] at hk
  obtain ⟨⟨n, k'⟩, hm, e⟩ := List.mem_map.1 hk
  simp only at e
  subst e
  exact ⟨n, hm, (h.look _ _).2 ⟨n, hm, rfl⟩⟩
theorem AtW.get_none (h : AtW w b F s mb ts ss ps) (hk : k ∉ s.all) : Maps.get ps k = none := by
  rcases hg : Maps.get ps k with _ | v
  · rfl
  · obtain ⟨n, hn, _⟩ := (h.look k v).1 hg
    exact absurd (by rw [h.all]; exact List.mem_map.2 ⟨_, hn, rfl⟩) hk
end

theorem zeroNode (w : World) : (zeroValue 101).run Tryz.prog w = .ok (.pointer none) w := by kernel_rfl
theorem strLaw : Maps.KeyLaw Tryz.prog 9 Value.string := Maps.stringLaw Tryz.underlying9

theorem new_any (most : Int) (w : World) : Calls Tryz.prog 26 #[.int .i64 most] w fun e w' =>
    e = .returned (.pointer (some ⟨w.heap.size + 1, 0, none⟩)) ∧ w' = (w.alloc (.map #[] 0)).alloc (listObj most w.heap.size [] []) := by
  have hmm := @run_makeMap Tryz.prog
  go_enter Tryz.func26, Tryz.ntmps26
  go_wp2
  go_ret
  exact ⟨rfl, rfl⟩
theorem new_gives (most : Int) (w : World) : Calls Tryz.prog 26 #[.int .i64 most] w fun e w' =>
    ∃ (b : Nat) (F : Nat → Prop), e = .returned (.pointer (some ⟨b, 0, none⟩)) ∧ At w' b F (new most) ∧ (∀ k, F k → w.heap.size ≤ k) ∧ Below w.heap.size w w' :=
  (new_any most w).mono fun e w' ⟨he, hw⟩ => by
    subst hw
    refine ⟨_, fun k => k = w.heap.size ∨ k = w.heap.size + 1, he, ⟨w.heap.size, [], [], [], ⟨Mem.new_block2 w _ _, fun l n k r e => by simp at e, fun l n k r e => by simp at e, List.nodup_nil⟩, (Maps.Is.new w).same (Below.heap_alloc _ _ _ (by simp)), fun k v => by simp [Maps.get], List.nodup_nil, rfl, rfl, List.nodup_nil, .inr rfl, .inl rfl, fun j hj => by simp at hj, ?_⟩, fun k hk => by omega, Mem.al (Mem.al (Below.refl _ _) _) _⟩
    rintro k (rfl | rfl) <;> simp <;> omega
end Go.Proofs.YtodoglljjhdbeaaGreatDoor.Slru

/- Layer 8: the walks of Add, Remove. -/
namespace Go.Proofs.YtodoglljjhdbeaaGreatDoor.Slru
open Go Go.RowKit Go.Proofs.YtodoglljjhdbeaaGreatDoor.Mem

def TurnPost (w : World) (b : Nat) (F : Nat → Prop) (y : Int × St) (e : Ending) (w' : World) : Prop := ∃ F', e = .returned (.int .i64 y.1) ∧ At w' b F' y.2 ∧ Only F w w' ∧ Grows w F F'
theorem node_lt {w : World} {b : Nat} {F : Nat → Prop} {s : St} {mb : Nat} {ts ss : List Nd} {ps : List (ByteArray × Value)} (h : AtW w b F s mb ts ss ps) : w.heap.size ∉ (ts ++ ss).map (·.1) := fun e => Nat.lt_irrefl _ (h.lt _ (h.fn _ e))

set_option maxRecDepth 100000 in
set_option maxHeartbeats 2000000 in
theorem add_any {w : World} {b : Nat} {F : Nat → Prop} {s : St} (h : At w b F s) (k : ByteArray) (hl : s.all.length + 1 ≤ 9223372036854775807) :
    Calls Tryz.prog 79 #[.pointer (some ⟨b, 0, none⟩), .string k] w (TurnPost w b F (s.add k)) := by
  have hat := h
  obtain ⟨mb, ts, ss, ps, h⟩ := h
  have c1 := Mem.row_cell h.rows.blk 1
  simp only [listArr, List.getElem?_toArray, List.getElem?_cons_zero, List.getElem?_cons_succ] at c1
  have hlk0 := Maps.run_lookup strLaw Tryz.underlying100 zeroNode h.map k
  by_cases hk : k ∈ s.all
  · obtain ⟨n, hm, hg⟩ := h.get_some hk
    rw [hg] at hlk0
    have hlk : ∀ _ : True, (Instr.lookup 100 (.map (some mb)) (.string k) false).run Tryz.prog w = .ok (.pointer (some ⟨n, 0, none⟩)) w := fun _ => hlk0
    have e : s.add k = (7, s) := by unfold St.add; rw [if_pos hk]
    have HF := Lib.hid (show TurnPost w b F (s.add k) (.returned (.int .i64 7)) w by rw [e]; exact ⟨F, rfl, hat, Only.refl _ _, Grows.refl _ _⟩)
    clear h hlk0 hk hm hg e hat hl
    go_enter Tryz.func79, Tryz.ntmps79
    go_wp2_with fail
    go_ret
    exact HF.out
  · have hg := h.get_none hk
    rw [hg] at hlk0
    have hlk : ∀ _ : True, (Instr.lookup 100 (.map (some mb)) (.string k) false).run Tryz.prog w = .ok (.pointer none) w := fun _ => hlk0
    obtain ⟨w1, hw1⟩ : ∃ w1, w.alloc (.cells #[.string k, .pointer none, .pointer none, .pointer none] 148) = w1 := ⟨_, rfl⟩
    have hs1 : ∀ j, j < w.heap.size → w1.heap[j]? = w.heap[j]? := fun j hj => by rw [← hw1]; exact Below.heap_alloc _ _ _ hj
    have hz1 : w1.heap.size = w.heap.size + 1 := by rw [← hw1]; simp
    have hn1 : w1.heap[w.heap.size]? = some (.cells #[.string k, .pointer none, .pointer none, .pointer none] 148 (0, 0)) := by rw [← hw1]; exact Mem.new_block w _
    have ho1 : Only F w w1 := by rw [← hw1]; exact (Only.refl _ _).alloc _
    have h1 := h.same (w' := w1) (fun j hj => hs1 j (h.lt j hj)) (by omega)
    obtain ⟨o, hmu, hIs⟩ := Maps.run_update (w := w1) strLaw Tryz.underlying100 h1.map k (.pointer (some ⟨w.heap.size, 0, none⟩))
    have hmu' : ∀ _ : True, (Instr.mapUpdate 100 (.map (some mb)) (.string k) (.pointer (some ⟨w.heap.size, 0, none⟩))).run Tryz.prog w1 = .ok () (w1.putObj mb o) := fun _ => hmu
    have hmo := h.map_off
    have hbl : b < w.heap.size := h.lt b h.fb
    have hml : mb < w.heap.size := h.lt mb h.fm
    have c1' := Mem.row_cell h1.rows.blk 1
    simp only [listArr, List.getElem?_toArray, List.getElem?_cons_zero, List.getElem?_cons_succ] at c1'
    have hR2 : Rows (w1.putObj mb o) b mb s.most ts ss := h1.rows.same fun j hj => World.putObj_heap_other (fun e => hj.elim (fun e2 => hmo.1 (e ▸ e2)) (fun e2 => hmo.2 (e ▸ e2)))
    have hn2 : (w1.putObj mb o).heap[w.heap.size]? = some (.cells #[.string k, .pointer none, .pointer none, .pointer none] 148 (0, 0)) := (World.putObj_heap_other (by omega)).trans hn1
    have hlen : (ts ++ ss).length + 1 ≤ 9223372036854775807 := by have := h.all; rw [this] at hl; simpa using hl
    have hcall := put_trial hR2 hn2 (node_lt h) hlen
    have ho2 : Only F w (w1.putObj mb o) := ho1.putObj (.inl h.fm) o
    have hz2 : (w1.putObj mb o).heap.size = w.heap.size + 1 := by rw [World.putObj_size, hz1]
    have HH := Lib.hid (And.intro h (And.intro hIs (And.intro hg (And.intro hk (And.intro ho2 hmo)))))
    clear hlk0 hg hk hat hl h h1 hmu hIs hmo hR2 hn2 ho1 ho2 hn1 hs1 hlen hbl hml
    go_enter Tryz.func79, Tryz.ntmps79
    go_upto_region 4 with (fail)
    go_wp2_with fail
    refine hcall.mono ?_
    rintro e w4 ⟨rfl, h4, o4⟩
    obtain ⟨h, hIs, hg, hk, ho2, hmo⟩ := HH.out
    have hps : Maps.set ps k (.pointer (some ⟨w.heap.size, 0, none⟩)) = ps ++ [(k, .pointer (some ⟨w.heap.size, 0, none⟩))] := set_new _ hg
    have hm4 : Maps.Is Value.string w4 mb (Maps.set ps k (.pointer (some ⟨w.heap.size, 0, none⟩))) := by
      refine hIs.same (o4.same mb (by have := h.lt mb h.fm; omega) fun e => ?_)
      rcases e with e | e | e
      · exact hmo.1 e
      · have := h.lt mb h.fm; omega
      · exact hmo.2 e
    have hz4 : w.heap.size + 1 ≤ w4.heap.size := by have := o4.size; omega
    have hka : k ∉ (ts ++ ss).map (·.2) := by rw [← h.all]; exact hk
    have hat4 : AtW w4 b (fun j => F j ∨ j = w.heap.size) { s with trial := s.trial ++ [k] } mb (ts ++ [(w.heap.size, k)]) ss (Maps.set ps k (.pointer (some ⟨w.heap.size, 0, none⟩))) := by
      refine ⟨h4, hm4, fun k' v => ?_, ?_, by rw [List.map_append, h.tr]; rfl, h.sf, ?_, .inl h.fb, .inl h.fm, fun j hj => ?_, fun j hj => ?_⟩
      · rw [get_set]
        by_cases e : k' = k
        · rw [if_pos e, e]
          constructor
          · intro e2; injection e2 with e2; exact ⟨_, by simp, e2.symm⟩
          · rintro ⟨n, hn, rfl⟩
            have : n = w.heap.size := by
              simp only [List.mem_append, List.mem_cons, List.not_mem_nil, or_false] at hn
              rcases hn with (hn | hn) | hn
              · exact absurd (List.mem_map.2 ⟨_, List.mem_append.2 (.inl hn), rfl⟩) hka
              · injection hn
              · exact absurd (List.mem_map.2 ⟨_, List.mem_append.2 (.inr hn), rfl⟩) hka
            rw [this]
        · rw [if_neg e, h.look]
          constructor
          · rintro ⟨n, hn, rfl⟩
            exact ⟨n, by simp only [List.mem_append] at hn ⊢; exact hn.elim (fun e => .inl (.inl e)) .inr, rfl⟩
          · rintro ⟨n, hn, rfl⟩
            refine ⟨n, ?_, rfl⟩
            simp only [List.mem_append, List.mem_cons, List.not_mem_nil, or_false] at hn ⊢
            rcases hn with (hn | hn) | hn
            · exact .inl hn
            · injection hn with _ hn; exact absurd hn e
            · exact .inr hn
      · rw [hps, List.map_append]
        exact List.nodup_append.2 ⟨h.pnd, by simp, fun a ha c hc => by
          have : c = k := by simpa using hc
          subst this
          exact fun e => get_none hg (e ▸ ha)⟩
      · have hp : (k :: s.all).Perm (s.trial ++ [k] ++ s.safe) := by
          unfold St.all
          rw [List.append_assoc]
          exact (List.perm_middle (a := k) (l₁ := s.trial) (l₂ := s.safe)).symm
        exact (hp.nodup_iff).1 (List.nodup_cons.2 ⟨hk, h.knd⟩)
      · simp only [List.map_append, List.mem_append, List.map_cons, List.map_nil, List.mem_cons, List.not_mem_nil, or_false] at hj
        rcases hj with (hj | hj) | hj
        · exact .inl (h.fn j (by simp only [List.map_append, List.mem_append]; exact .inl hj))
        · exact .inr hj
        · exact .inl (h.fn j (by simp only [List.map_append, List.mem_append]; exact .inr hj))
      · exact hj.elim (fun e => by have := h.lt j e; omega) (fun e => by omega)
    have hres : TurnPost w b F (s.add k) (.returned (.int .i64 0)) w4 := by
      have e : s.add k = (0, { s with trial := s.trial ++ [k] }) := by unfold St.add; rw [if_neg hk]
      rw [e]
      refine ⟨_, rfl, ⟨_, _, _, _, hat4⟩, ho2.trans o4 fun j hj => ?_, fun j hj => hj.elim .inl (fun e => .inr (by omega))⟩
      rcases hj with e | e | e
      · exact .inl (e ▸ h.fb)
      · exact .inr (by omega)
      · exact .inl (h.fn j e)
    have HR := Lib.hid hres
    clear h4 o4 hres hat4 hm4
    go_wp2_with fail
    go_ret
    exact HR.out
end Go.Proofs.YtodoglljjhdbeaaGreatDoor.Slru

/- Layer 8: the walks of Remove, Hit. -/
namespace Go.Proofs.YtodoglljjhdbeaaGreatDoor.Slru
open Go Go.RowKit Go.Proofs.YtodoglljjhdbeaaGreatDoor.Mem

theorem key_uniq {xs : List Nd} (h : (xs.map (·.2)).Nodup) {p q : Nd} (hp : p ∈ xs) (hq : q ∈ xs) (e : p.2 = q.2) : p = q := by
  induction xs with
  | nil => cases hp
  | cons x xs ih =>
    have hn := List.nodup_cons.1 h
    rcases List.mem_cons.1 hp with h1 | h1
    · rcases List.mem_cons.1 hq with h2 | h2
      · rw [h1, h2]
      · exact absurd (show x.2 ∈ xs.map (·.2) by rw [← h1, e]; exact List.mem_map_of_mem h2) hn.1
    · rcases List.mem_cons.1 hq with h2 | h2
      · exact absurd (show x.2 ∈ xs.map (·.2) by rw [← h2, ← e]; exact List.mem_map_of_mem h1) hn.1
      · exact ih hn.2 h1 h2
theorem back_in {A A1 : List Nd} {n : Nat} {k : ByteArray} (hk : (A.map (·.2)).Nodup) (hm : (n, k) ∈ A) (h : ∀ p, p ∈ A1 ↔ p ∈ A ∧ p.2 ≠ k) (p : Nd) : (p ∈ A1 ∨ p = (n, k)) ↔ p ∈ A := by
  constructor
  · rintro (e | rfl)
    · exact ((h p).1 e).1
    · exact hm
  · intro e
    by_cases e2 : p.2 = k
    · exact .inr (key_uniq hk e hm e2)
    · exact .inl ((h p).2 ⟨e, e2⟩)
theorem len_pulled {ts ss ts1 ss1 : List Nd} {k : ByteArray} (hk : k ∈ (ts ++ ss).map (·.2)) (ht : ts1.map (·.2) = without (ts.map (·.2)) k) (hs : ss1.map (·.2) = without (ss.map (·.2)) k) : (ts1 ++ ss1).length + 1 ≤ (ts ++ ss).length := by
  have e1 := congrArg List.length ht
  have e2 := congrArg List.length hs
  have e3 := without_lt hk
  rw [List.map_append, without_app, List.length_append, List.length_append] at e3
  simp only [List.length_map] at e1 e2 e3
  rw [List.length_append, List.length_append]
  omega
section
variable {w w' : World} {b mb n : Nat} {F : Nat → Prop} {s s' : St} {ts ss ts1 ss1 : List Nd} {ps : List (ByteArray × Value)} {k : ByteArray}
theorem AtW.map_kept (h : AtW w b F s mb ts ss ps) (ho : Only (fun j => j = b ∨ j ∈ (ts ++ ss).map (·.1)) w w') : Maps.Is Value.string w' mb ps :=
  h.map.same (ho.same mb (h.lt mb h.fm) fun e => e.elim (fun e => h.map_off.1 e) (fun e => h.map_off.2 e))
/-- The rows turned, with the nodes that there were. -/
theorem AtW.turned (h : AtW w b F s mb ts ss ps) (hr : Rows w' b mb s'.most ts1 ss1) (ho : Only (fun j => j = b ∨ j ∈ (ts ++ ss).map (·.1)) w w') (hi : ∀ p, p ∈ ts1 ++ ss1 ↔ p ∈ ts ++ ss)
    (ht : ts1.map (·.2) = s'.trial) (hs : ss1.map (·.2) = s'.safe) (hk : s'.all.Nodup) : AtW w' b F s' mb ts1 ss1 ps :=
  ⟨hr, h.map_kept ho, fun k v => by rw [h.look]; constructor <;> rintro ⟨n, hn, rfl⟩ <;> exact ⟨n, by first | exact (hi _).2 hn | exact (hi _).1 hn, rfl⟩, h.pnd, ht, hs, hk, h.fb, h.fm,
    fun j hj => by
      obtain ⟨p, hp, rfl⟩ := List.mem_map.1 hj
      exact h.fn _ (List.mem_map_of_mem ((hi p).1 hp)), fun j hj => Nat.lt_of_lt_of_le (h.lt j hj) ho.size⟩
theorem AtW.only (h : AtW w b F s mb ts ss ps) (ho : Only (fun j => j = b ∨ j ∈ (ts ++ ss).map (·.1)) w w') : Only F w w' := ho.mono fun j hj => hj.elim (fun e => e ▸ h.fb) (h.fn j)
theorem AtW.kn (h : AtW w b F s mb ts ss ps) : ((ts ++ ss).map (·.2)).Nodup := by rw [← h.all]; exact h.knd
theorem AtW.ln (h : AtW w b F s mb ts ss ps) : (ts ++ ss).length = s.all.length := by rw [h.all]; simp
/-- A key taken out. -/
theorem AtW.removed (h : AtW w b F s mb ts ss ps) {o : Obj} {w1 : World} (hr : Rows w1 b mb s.most ts1 ss1) (ho : Only (fun j => j = b ∨ j ∈ (ts ++ ss).map (·.1)) w w1) (hi : ∀ p, p ∈ ts1 ++ ss1 ↔ p ∈ ts ++ ss ∧ p.2 ≠ k)
    (ht : ts1.map (·.2) = without (ts.map (·.2)) k) (hs : ss1.map (·.2) = without (ss.map (·.2)) k) (hm : Maps.Is Value.string (w1.putObj mb o) mb (Maps.del ps k)) :
    AtW (w1.putObj mb o) b F { s with trial := without s.trial k, safe := without s.safe k } mb ts1 ss1 (Maps.del ps k) := by
  have hsub : ∀ j, j ∈ (ts1 ++ ss1).map (·.1) → j ∈ (ts ++ ss).map (·.1) := fun j hj => by
    obtain ⟨p, hp, rfl⟩ := List.mem_map.1 hj
    exact List.mem_map_of_mem ((hi p).1 hp).1
  refine ⟨hr.same fun j hj => World.putObj_heap_other (fun e => hj.elim (fun e2 => h.map_off.1 (e ▸ e2)) (fun e2 => h.map_off.2 (hsub _ (e ▸ e2)))), hm, fun k' v => ?_, h.pnd.sublist ((del_sub ps k).map _), by rw [ht, h.tr], by rw [hs, h.sf], ?_, h.fb, h.fm, fun j hj => h.fn j (hsub j hj), fun j hj => by rw [World.putObj_size]; exact Nat.lt_of_lt_of_le (h.lt j hj) ho.size⟩
  · rw [get_del h.pnd]
    by_cases e : k' = k
    · rw [if_pos e, e]
      constructor
      · intro e2; cases e2
      · rintro ⟨n, hn, _⟩
        exact absurd rfl ((hi _).1 hn).2
    · rw [if_neg e, h.look]
      constructor
      · rintro ⟨n, hn, rfl⟩; exact ⟨n, (hi _).2 ⟨hn, e⟩, rfl⟩
      · rintro ⟨n, hn, rfl⟩; exact ⟨n, ((hi _).1 hn).1, rfl⟩
  · show (without s.trial k ++ without s.safe k).Nodup
    rw [← without_app]
    exact without_nodup k h.knd
end

set_option maxRecDepth 100000 in
set_option maxHeartbeats 2000000 in
theorem remove_any {w : World} {b : Nat} {F : Nat → Prop} {s : St} (h : At w b F s) (k : ByteArray) (hl : s.all.length ≤ 9223372036854775807) :
    Calls Tryz.prog 66 #[.pointer (some ⟨b, 0, none⟩), .string k] w (TurnPost w b F (s.remove k)) := by
  have hat := h
  obtain ⟨mb, ts, ss, ps, h⟩ := h
  have c1 := Mem.row_cell h.rows.blk 1
  simp only [listArr, List.getElem?_toArray, List.getElem?_cons_zero, List.getElem?_cons_succ] at c1
  have hlk0 := Maps.run_lookup strLaw Tryz.underlying100 zeroNode h.map k
  by_cases hk : k ∈ s.all
  · obtain ⟨n, hm, hg⟩ := h.get_some hk
    rw [hg] at hlk0
    have hlk : ∀ _ : True, (Instr.lookup 100 (.map (some mb)) (.string k) false).run Tryz.prog w = .ok (.pointer (some ⟨n, 0, none⟩)) w := fun _ => hlk0
    have e : s.remove k = (0, { s with trial := without s.trial k, safe := without s.safe k }) := by unfold St.remove; rw [if_pos hk]
    have hcall := pull_any h.rows h.kn hm (by rw [h.ln]; exact hl)
    have HH := Lib.hid h
    have HE := Lib.hid e
    clear h hlk0 hk hm hg e hat hl
    go_enter Tryz.func66, Tryz.ntmps66
    go_wp2_with fail
    refine hcall.mono ?_
    rintro e w1 ⟨rfl, ts1, ss1, hr, ht, hs, -, -, hi, ho⟩
    have c1' := Mem.row_cell hr.blk 1
    simp only [listArr, List.getElem?_toArray, List.getElem?_cons_zero, List.getElem?_cons_succ] at c1'
    obtain ⟨o, hdel, hIs⟩ := Maps.run_delete (w := w1) strLaw Tryz.underlying100 (HH.out.map_kept ho) k 0 9
    have hdel' : ∀ _ : True, (Builtin.delete_ #[100, 9] 0 #[.map (some mb), .string k]).run Tryz.prog w1 = .ok (.tuple #[]) (w1.putObj mb o) := fun _ => hdel
    have hres : TurnPost w b F (s.remove k) (.returned (.int .i64 0)) (w1.putObj mb o) := by
      rw [HE.out]
      exact ⟨F, rfl, ⟨_, _, _, _, HH.out.removed hr ho hi ht hs hIs⟩, (HH.out.only ho).putObj (.inl HH.out.fm) o, Grows.refl _ _⟩
    have HR := Lib.hid hres
    clear hr ht hs hi ho hdel hIs hres hlk hcall
    go_wp2_with fail
    go_ret
    exact HR.out
  · have hg := h.get_none hk
    rw [hg] at hlk0
    have hlk : ∀ _ : True, (Instr.lookup 100 (.map (some mb)) (.string k) false).run Tryz.prog w = .ok (.pointer none) w := fun _ => hlk0
    have e : s.remove k = (6, s) := by unfold St.remove; rw [if_neg hk]
    have HF := Lib.hid (show TurnPost w b F (s.remove k) (.returned (.int .i64 6)) w by rw [e]; exact ⟨F, rfl, hat, Only.refl _ _, Grows.refl _ _⟩)
    clear h hlk0 hk hg e hat hl
    go_enter Tryz.func66, Tryz.ntmps66
    go_wp2_with fail
    go_ret
    exact HF.out

/-- Taken out, and put at the end: the rows as they are in the midst of a hit. -/
structure Mid (w : World) (b : Nat) (F : Nat → Prop) (s : St) (mb : Nat) (ts ss : List Nd) (ps : List (ByteArray × Value)) (k : ByteArray) (w' : World) (ts1 ss1 : List Nd) : Prop where
  at_ : AtW w b F s mb ts ss ps
  rows : Rows w' b mb s.most ts1 ss1
  only : Only (fun j => j = b ∨ j ∈ (ts ++ ss).map (·.1)) w w'
  mem : ∀ p, p ∈ ts1 ++ ss1 ↔ p ∈ ts ++ ss
  tr : ts1.map (·.2) = without s.trial k
  sf : ss1.map (·.2) = without s.safe k ++ [k]
  kin : k ∈ s.all
section
variable {w w' : World} {b mb n : Nat} {F : Nat → Prop} {s : St} {ts ss ts1 ss1 : List Nd} {ps : List (ByteArray × Value)} {k : ByteArray}
theorem Mid.drew (h : Mid w b F s mb ts ss ps k w' ts1 ss1) : Mid w b F s mb ts ss ps k w'.drew ts1 ss1 := ⟨h.at_, h.rows.same fun _ _ => rfl, h.only.drew, h.mem, h.tr, h.sf, h.kin⟩
theorem Mid.kn (h : Mid w b F s mb ts ss ps k w' ts1 ss1) : ((ts1 ++ ss1).map (·.2)).Nodup := by
  rw [List.map_append, h.tr, h.sf, ← List.append_assoc, ← without_app]
  exact List.nodup_append.2 ⟨without_nodup k h.at_.knd, by simp, fun a ha c hc => by
    have : c = k := by simpa using hc
    subst this
    exact (without_mem.1 ha).2⟩
theorem Mid.hit0 (h : Mid w b F s mb ts ss ps k w' ts1 ss1) (hx : ¬ max s.most 0 < (ss1.length : Int)) : TurnPost w b F (s.hit k) (.returned (.int .i64 0)) w' := by
  have hlen : ss1.length = (without s.safe k ++ [k]).length := by rw [← h.sf]; simp
  have e : s.hit k = (0, { s with trial := without s.trial k, safe := without s.safe k ++ [k] }) := by
    unfold St.hit St.moved; rw [if_pos h.kin, if_neg (by rw [← hlen]; exact hx)]
  rw [e]
  refine ⟨F, rfl, ⟨mb, ts1, ss1, ps, h.at_.turned (s' := { s with trial := without s.trial k, safe := without s.safe k ++ [k] }) h.rows h.only h.mem h.tr h.sf ?_⟩, h.at_.only h.only, Grows.refl _ _⟩
  have := h.kn
  rw [List.map_append, h.tr, h.sf] at this
  exact this
theorem Mid.hit1 {q : Nat} {kq : ByteArray} {ts2 ss2 : List Nd} (h : Mid w b F s mb ts ss ps k w' ts1 ((q, kq) :: ss1)) (hx : max s.most 0 < (((q, kq) :: ss1).length : Int)) {w2 : World} (hr : Rows w2 b mb s.most (ts2 ++ [(q, kq)]) ss2)
    (ho : Only (fun j => j = b ∨ j ∈ (ts ++ ss).map (·.1)) w w2) (hm : ∀ p, p ∈ ts2 ++ ss2 ↔ p ∈ ts1 ++ ((q, kq) :: ss1) ∧ p.2 ≠ kq) (ht : ts2.map (·.2) = without (ts1.map (·.2)) kq) (hs : ss2.map (·.2) = without (((q, kq) :: ss1).map (·.2)) kq) :
    TurnPost w b F (s.hit k) (.returned (.int .i64 0)) w2 := by
  have hkn := h.kn
  have hsf := h.sf
  have hlen : ((q, kq) :: ss1).length = (without s.safe k ++ [k]).length := by rw [← h.sf]; simp
  have e : s.hit k = (0, { s with trial := without s.trial k ++ (without s.safe k ++ [k]).take 1, safe := (without s.safe k ++ [k]).drop 1 }) := by
    unfold St.hit St.moved; rw [if_pos h.kin, if_pos (by rw [← hlen]; exact hx)]
  rw [List.map_append, List.map_cons, List.nodup_append, List.nodup_cons] at hkn
  have hqt : kq ∉ ts1.map (·.2) := fun e => hkn.2.2 kq e kq (by simp) rfl
  rw [without_none hqt, h.tr] at ht
  have hs2 : ss2.map (·.2) = ss1.map (·.2) := by
    rw [hs]
    have := without_split (l := []) (r := ss1.map (·.2)) (k := kq) (by simpa using hkn.2.1)
    simpa using this
  have e2 : without s.safe k ++ [k] = kq :: ss1.map (·.2) := by rw [← hsf]; rfl
  rw [e2] at e
  simp only [List.take_succ_cons, List.take_zero, List.drop_succ_cons, List.drop_zero] at e
  rw [e]
  have hmem : ∀ p, p ∈ ts2 ++ [(q, kq)] ++ ss2 ↔ p ∈ ts ++ ss := fun p => by
    rw [← h.mem p, ← back_in h.kn (n := q) (k := kq) (by simp) hm p]
    simp only [List.mem_append, List.mem_cons, List.not_mem_nil, or_false]
    constructor
    · rintro ((e | e) | e)
      · exact .inl (.inl e)
      · exact .inr e
      · exact .inl (.inr e)
    · rintro ((e | e) | e)
      · exact .inl (.inl e)
      · exact .inr e
      · exact .inl (.inr e)
  refine ⟨F, rfl, ⟨mb, ts2 ++ [(q, kq)], ss2, ps, h.at_.turned (s' := { s with trial := without s.trial k ++ [kq], safe := ss1.map (·.2) }) hr ho hmem (by rw [List.map_append, ht]; rfl) hs2 ?_⟩, h.at_.only ho, Grows.refl _ _⟩
  show ((without s.trial k ++ [kq]) ++ ss1.map (·.2)).Nodup
  have := h.kn
  rw [List.map_append, h.tr, List.map_cons] at this
  rw [List.append_assoc]
  exact this
end
set_option maxRecDepth 100000 in
set_option maxHeartbeats 2000000 in
theorem hit_any {w : World} {b : Nat} {F : Nat → Prop} {s : St} (h : At w b F s) (k : ByteArray) (hl : s.all.length ≤ 9223372036854775807) :
    Calls Tryz.prog 31 #[.pointer (some ⟨b, 0, none⟩), .string k] w (TurnPost w b F (s.hit k)) := by
  have hat := h
  obtain ⟨mb, ts, ss, ps, h⟩ := h
  have c1 := Mem.row_cell h.rows.blk 1
  simp only [listArr, List.getElem?_toArray, List.getElem?_cons_zero, List.getElem?_cons_succ] at c1
  have hlk0 := Maps.run_lookup strLaw Tryz.underlying100 zeroNode h.map k
  by_cases hk : k ∈ s.all
  case neg =>
    have hg := h.get_none hk
    rw [hg] at hlk0
    have hlk : ∀ _ : True, (Instr.lookup 100 (.map (some mb)) (.string k) false).run Tryz.prog w = .ok (.pointer none) w := fun _ => hlk0
    have e : s.hit k = (6, s) := by unfold St.hit; rw [if_neg hk]
    have HF := Lib.hid (show TurnPost w b F (s.hit k) (.returned (.int .i64 6)) w by rw [e]; exact ⟨F, rfl, hat, Only.refl _ _, Grows.refl _ _⟩)
    clear h hlk0 hk hg e hat hl
    go_enter Tryz.func31, Tryz.ntmps31
    go_wp2_with fail
    go_ret
    exact HF.out
  obtain ⟨n, hm, hg⟩ := h.get_some hk
  rw [hg] at hlk0
  have hlk : ∀ _ : True, (Instr.lookup 100 (.map (some mb)) (.string k) false).run Tryz.prog w = .ok (.pointer (some ⟨n, 0, none⟩)) w := fun _ => hlk0
  have hlen : (ts ++ ss).length ≤ 9223372036854775807 := by rw [h.ln]; exact hl
  have hcall := pull_any h.rows h.kn hm (by omega)
  have HH := Lib.hid (And.intro h (And.intro hk (And.intro hm hlen)))
  clear h hlk0 hk hm hg hat hl hlen
  go_enter Tryz.func31, Tryz.ntmps31
  go_wp2_with fail
  refine hcall.mono ?_
  rintro e w1 ⟨rfl, ts1, ss1, hr, ht, hs, hn1, ⟨ua, uc, ura, hnode⟩, hi, ho⟩
  have hsub : ∀ j, j ∈ (ts1 ++ ss1).map (·.1) → j ∈ (ts ++ ss).map (·.1) := fun j hj => by
    obtain ⟨p, hp, rfl⟩ := List.mem_map.1 hj
    exact List.mem_map_of_mem ((hi p).1 hp).1
  have hl1 : (ts1 ++ ss1).length + 1 ≤ 9223372036854775807 := by
    have := len_pulled (by rw [← HH.out.1.all]; exact HH.out.2.1) ht hs
    have := HH.out.2.2.2
    omega
  have hcall2 := put_safe hr hnode hn1 (by omega)
  have H1 := Lib.hid (And.intro ht (And.intro hs (And.intro hi (And.intro ho (And.intro hsub hl1)))))
  clear hcall hr ht hs hn1 hnode hi ho hsub hl1 hlk
  go_wp2_with fail
  refine hcall2.mono ?_
  rintro e w2 ⟨rfl, hr2, ho2⟩
  have hM : Mid w b F s mb ts ss ps k w2 ts1 (ss1 ++ [(n, k)]) := by
    obtain ⟨ht, hs, hi, ho, hsub, _⟩ := H1.out
    obtain ⟨h, hk, hm, _⟩ := HH.out
    have hb := back_in h.kn hm hi
    have hn : n ∈ (ts ++ ss).map (·.1) := List.mem_map.2 ⟨_, hm, rfl⟩
    refine ⟨h, hr2, ho.trans (ho2.mono fun j hj => ?_) (Grows.refl _ _), fun p => ?_, by rw [ht, h.tr], by rw [List.map_append, hs, h.sf]; rfl, hk⟩
    · rcases hj with e | e | e
      · exact .inl e
      · exact .inr (e ▸ hn)
      · exact .inr (hsub j e)
    · rw [← hb p]
      simp only [List.mem_append, List.mem_cons, List.not_mem_nil, or_false]
      constructor
      · rintro (e | e | e)
        · exact .inl (.inl e)
        · exact .inl (.inr e)
        · exact .inr e
      · rintro ((e | e) | e)
        · exact .inl e
        · exact .inr (.inl e)
        · exact .inr (.inr e)
  obtain ⟨ss2, hss2⟩ : ∃ ss2, ss1 ++ [(n, k)] = ss2 := ⟨_, rfl⟩
  have hne : ss2 ≠ [] := by rw [← hss2]; simp
  have hl2 : ss2.length ≤ 9223372036854775807 := by rw [← hss2]; have := H1.out.2.2.2.2.2; simp at this ⊢; omega
  have hl3 : (ts1 ++ ss2).length ≤ 9223372036854775807 := by rw [← hss2]; have := H1.out.2.2.2.2.2; simp at this ⊢; omega
  rw [hss2] at hM
  have c0 := Mem.row_cell hM.rows.blk 0
  have c5 := Mem.row_cell hM.rows.blk 5
  have c7 := Mem.row_cell hM.rows.blk 7
  simp only [listArr, List.getElem?_toArray, List.getElem?_cons_zero, List.getElem?_cons_succ] at c0 c5 c7
  obtain ⟨⟨q, kq⟩, rest, hq⟩ := List.exists_cons_of_ne_nil hne
  subst hq
  replace c5 : w2.cell? ⟨b, 5, none⟩ = some (.pointer (some ⟨q, 0, none⟩)) := c5
  have HM := Lib.hid hM
  have HL := Lib.hid (And.intro hl2 hl3)
  clear hcall2 hr2 ho2 hM H1 hne hl2 hl3 hss2
  obtain ⟨L, hL⟩ : ∃ L : Nat, ((q, kq) :: rest).length = L := ⟨_, rfl⟩
  rw [hL] at c7
  have HLL := Lib.hid hL
  clear hL
  have hpull := pull_any HM.out.drew.rows HM.out.drew.kn (n := q) (k := kq) (by simp) (by have := HL.out.2; omega)
  by_cases hx : max s.most 0 < (L : Int)
  · have HX := Lib.hid hx
    have hx1 : s.most < (L : Int) := by omega
    have hx2 : (0 : Int) < (L : Int) := by omega
    have hx3 : 0 < L := by omega
    clear hx
    go_wp2_with fail
    go_region_held3 (fun W' : World => W'.cell? ⟨b, 7, none⟩ = some (.int .i64 (L : Nat)) ∧ W'.cell? ⟨b, 0, none⟩ = some (.int .i64 s.most)) (exact ⟨c7, c0⟩) (fail)
    all_goals go_wp2_with fail
    all_goals (
      refine hpull.mono ?_
      rintro e w3 ⟨rfl, ts2, ss2, hr3, ht3, hs3, hn3, ⟨ua', uc', ura', hnode3⟩, hi3, ho3⟩
      have hl4 : (ts2 ++ ss2).length + 1 ≤ 9223372036854775807 := by
        have := len_pulled (by simp) ht3 hs3
        have := HL.out.2
        omega
      have hpush := put_trial hr3 hnode3 hn3 hl4
      have hG : ∀ j, j ∈ (ts1 ++ (q, kq) :: rest).map (·.1) → j ∈ (ts ++ ss).map (·.1) := fun j hj => by
        obtain ⟨p, hp, rfl⟩ := List.mem_map.1 hj
        exact List.mem_map_of_mem ((HM.out.mem p).1 hp)
      have ho3' : Only (fun j => j = b ∨ j ∈ (ts ++ ss).map (·.1)) w w3 := HM.out.drew.only.trans (ho3.mono fun j hj => hj.imp id (hG j)) (Grows.refl _ _)
      have hq2 : q ∈ (ts ++ ss).map (·.1) := hG q (by simp)
      have hG2 : ∀ j, j ∈ (ts2 ++ ss2).map (·.1) → j ∈ (ts ++ ss).map (·.1) := fun j hj => by
        obtain ⟨p, hp, rfl⟩ := List.mem_map.1 hj
        exact hG _ (List.mem_map_of_mem ((hi3 p).1 hp).1)
      have H3 := Lib.hid (And.intro ht3 (And.intro hs3 (And.intro hi3 (And.intro ho3' (And.intro hq2 hG2)))))
      clear hr3 ht3 hs3 hn3 hnode3 hi3 ho3 hl4 ho3' hq2 hG2 hpull hG c0 c5 c7
      go_wp2_with fail
      refine hpush.mono ?_
      rintro e w4 ⟨rfl, hr4, ho4⟩
      have hres := HM.out.drew.hit1 (by rw [HLL.out]; exact HX.out) hr4 (H3.out.2.2.2.1.trans (ho4.mono fun j hj => by
        rcases hj with e | e | e
        · exact .inl e
        · exact .inr (e ▸ H3.out.2.2.2.2.1)
        · exact .inr (H3.out.2.2.2.2.2 j e)) (Grows.refl _ _)) H3.out.2.2.1 H3.out.1 H3.out.2.1
      have HR := Lib.hid hres
      clear hr4 ho4 hres hpush
      go_wp2_with fail
      go_ret
      exact HR.out)
  · have HX := Lib.hid hx
    have hL1 : 1 ≤ L := by rw [← HLL.out]; simp
    have hx1 : (L : Int) ≤ s.most := by omega
    have hx2 : (0 : Int) < s.most := by omega
    clear hx
    go_wp2_with fail
    go_region_held3 (fun W' : World => W'.cell? ⟨b, 7, none⟩ = some (.int .i64 (L : Nat)) ∧ W'.cell? ⟨b, 0, none⟩ = some (.int .i64 s.most)) (exact ⟨c7, c0⟩) (fail)
    all_goals (
      first | (exfalso; omega) | skip
      go_wp2_with fail
      go_ret
      exact HM.out.drew.hit0 (by rw [HLL.out]; exact Int.not_lt.2 HX.out))
end Go.Proofs.YtodoglljjhdbeaaGreatDoor.Slru

