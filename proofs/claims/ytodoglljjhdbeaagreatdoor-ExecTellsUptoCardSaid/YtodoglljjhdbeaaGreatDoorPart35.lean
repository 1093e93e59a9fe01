/- Part35: Exec14, ShardL5, ExecL2, ExecO, ExecL3, ExecL4, Op12, Few12, LS12, Bulk12, Done12, AwP12, Aw12, Laid12, one behind the other. -/
import Derived.Test.YtodoglljjhdbeaaGreatDoorPart34
import Derived.Test.YtodoglljjhdbeaaGreatDoorPart20
import Derived.Test.YtodoglljjhdbeaaGreatDoorPart11
import Derived.Test.YtodoglljjhdbeaaGreatDoorPart32
import Derived.Test.YtodoglljjhdbeaaGreatDoorPart2
import Derived.Test.YtodoglljjhdbeaaGreatDoorPart3
import Derived.Test.YtodoglljjhdbeaaGreatDoorPart4
import Derived.Deep.LoopGhost
import Derived.StillTailTactics
import Derived.BigQuiet
import Derived.Lib.SlBytesConst
import Derived.Test.YtodoglljjhdbeaaGreatDoorRows
import Derived.Deep.RegionHeld3
import Derived.Test.YtodoglljjhdbeaaGreatDoorCards
import Derived.Test.YtodoglljjhdbeaaGreatDoorTie
import Derived.ProofKit
import Derived.OpenShut
import Derived.Deep.DeepHandedRow
import Derived.Lib.LaidTab
import Derived.Stop.LaidErr
/- Layer 12: Do. -/
namespace Go.Proofs.YtodoglljjhdbeaaGreatDoor.Exec
set_option maxRecDepth 100000
open Go Go.RowKit Go.Proofs.YtodoglljjhdbeaaGreatDoor.Mem Go.Proofs.YtodoglljjhdbeaaGreatDoor.App Go.Proofs.YtodoglljjhdbeaaGreatDoor.Shard

section
variable {W w : World} {M b : Nat} {col : Col} {seed : Int} {s : St} {c : Cmd} {env : Env}
theorem do_any (h : Run W w M b col seed s) (hM : M + 2 ≤ 1050000) (hp : Pows W) (he : Errs W) {a : Option Addr} {n k : Nat} (hn : c.val.length = n) (hks : c.key.size ≤ 2000000) (hvs : c.val.length ≤ 1100000) (hv : Val w col (.slice a n k) c.val) (hi : 0 ≤ c.initial) (hi2 : c.initial < 18446744073709551616) (hd : 0 ≤ c.delta) (hd2 : c.delta < 18446744073709551616) :
    Calls Tryz.prog 14 #[.pointer (some ⟨b, 0, none⟩), .agg (c.arr (.slice a n k)), .agg env.arr] w (ExecP W w (M + 2) b col seed (looked c env s).tab.L fun f => run c env f s) := by
  by_cases h15 : c.op = 15
  · exact do15 h hM hp he hn hks hvs hv hi hi2 hd hd2 h15
  rcases hk : keyed c.op with _ | _
  · exact do10 h hM hp he hn hks hvs hv hi hi2 hd hd2 h15 hk
  rcases hf : (s.find c.key env).1 with _ | x
  · exact doNone h hM hp he hn hks hvs hv hi hi2 hd hd2 ⟨h15, hk⟩ hf
  · exact doSome h hM hp he hn hks hvs hv hi hi2 hd hd2 ⟨h15, hk⟩ hf
end
end Go.Proofs.YtodoglljjhdbeaaGreatDoor.Exec

/- Layer 11's laws: what they have in common. -/
namespace Go.Proofs.YtodoglljjhdbeaaGreatDoor.Shard
set_option maxRecDepth 100000
open Go Go.RowKit Go.Proofs.YtodoglljjhdbeaaGreatDoor.Mem Go.Proofs.YtodoglljjhdbeaaGreatDoor.App Go.Proofs.YtodoglljjhdbeaaGreatDoor.Ops

theorem i64_range (n : Int) : -9223372036854775808 ≤ IntKind.i64.wrap n ∧ IntKind.i64.wrap n ≤ 9223372036854775807 := by
  have h1 : 0 ≤ n % 18446744073709551616 := Int.emod_nonneg _ (by omega)
  have h2 : n % 18446744073709551616 < 18446744073709551616 := Int.emod_lt_of_pos _ (by omega)
  have e : IntKind.i64.wrap n = if n % 18446744073709551616 ≥ 9223372036854775808 then n % 18446744073709551616 - 18446744073709551616 else n % 18446744073709551616 := by
    simp [IntKind.wrap, IntKind.signed, IntKind.bits]
  rw [e]
  split <;> omega
theorem i64_same {n : Int} (h0 : -9223372036854775808 ≤ n) (h1 : n ≤ 9223372036854775807) : IntKind.i64.wrap n = n := by
  have e : IntKind.i64.wrap n = if n % 18446744073709551616 ≥ 9223372036854775808 then n % 18446744073709551616 - 18446744073709551616 else n % 18446744073709551616 := by
    simp [IntKind.wrap, IntKind.signed, IntKind.bits]
  rw [e]
  split <;> omega
/-- What a look tells, in one form. -/
theorem look_res {s : St} {w w' : World} {y : Option Nat} {e : Ending} (h : match y with
      | some x => ∃ v, e = .returned (.tuple #[.agg ((s.ent x).it.arr v), .bool true]) ∧ OwnB w' w.heap.size v (s.ent x).it.val
      | none => e = .returned (.tuple #[.agg zeroI, .bool false])) : ∃ (it : Item) (va : Option Addr) (vc : Nat), e = .returned (.tuple #[.agg (it.arr (.slice va it.val.length vc)), .bool y.isSome]) ∧ (∀ x, y = some x → it = (s.ent x).it ∧ OwnB w' w.heap.size (.slice va it.val.length vc) it.val) := by
  cases y with
  | none => exact ⟨⟨⟨#[]⟩, [], 0, 0, 0, 0, 0, false, false, false⟩, Option.none, 0, h, fun x e => by cases e⟩
  | some xx =>
    obtain ⟨v, e1, e2⟩ := h
    obtain ⟨va, vc, hv⟩ := Src.shape (Src.of_row e2)
    subst hv
    exact ⟨_, va, vc, e1, fun x e => by injection e with e; subst e; exact ⟨rfl, e2⟩⟩
/-- What a call of the list has, in any world that keeps what there was. -/
structure OpAt (W w : World) (o : Op) (x : Option Addr) (i : Nat) : Prop where
  at_ : ∃ B off, x = some ⟨B, off, none⟩ ∧ B < W.heap.size ∧ ∀ j u, (encO o)[j]? = some u → w.cell? ⟨B, off + i * 15 + j, none⟩ = some u
  ok : OpOk W o
  shape : ∃ a c, o.v = .slice a o.it.val.length c
theorem op_at {W w : World} {x : Option Addr} {l : List Op} {i : Nat} {o : Op} (hl : Lies W 15 encO x l) (hok : ∀ o ∈ l, OpOk W o) (hb : Below W.heap.size W w) (h : l[i]? = some o) : OpAt W w o x i := by
  obtain ⟨B, off, e, hB, hc⟩ := hl i o h
  have ho := hok o (List.mem_of_getElem? h)
  exact ⟨⟨B, off, e, hB, fun j u hu => (World.cell?_of_block (hb.block B hB)).trans (hc j u hu)⟩, ho, ho.src.shape⟩
theorem OpAt.src {W w : World} {o : Op} {x : Option Addr} {i : Nat} (h : OpAt W w o x i) (hb : Below W.heap.size W w) : SrcB w o.v o.it.val := h.ok.src.below hb
theorem OpAt.apart {W w : World} {o : Op} {x : Option Addr} {i : Nat} (h : OpAt W w o x i) {col : Col} (hc : ∀ k, col k ≠ none → W.heap.size ≤ k) : Apart col o.v o.it.val := Apart.low hc fun hx g e => h.ok.low g hx e
theorem op_cell {W w : World} {Bx off : Nat} {l : List Op} {i : Nat} {o : Op} (hl : Lies W 15 encO (some ⟨Bx, off, Option.none⟩) l) (hb : Below W.heap.size W w) (h : l[i]? = some o) : Bx < w.heap.size ∧ ∀ j u, (encO o)[j]? = some u → w.cell? ⟨Bx, off + i * 15 + j, Option.none⟩ = some u := by
  obtain ⟨B, off', e, hB, hc⟩ := hl i o h
  injection e with e
  injection e with e1 e2
  subst e1 e2
  exact ⟨Nat.lt_of_lt_of_le hB hb.size, fun j u hu => (World.cell?_of_block (hb.block _ hB)).trans (hc j u hu)⟩
end Go.Proofs.YtodoglljjhdbeaaGreatDoor.Shard

/- Layer 12, plain: the laws, of commands one behind the other. -/
namespace Go.Proofs.YtodoglljjhdbeaaGreatDoor.Exec
open Go Go.Proofs.YtodoglljjhdbeaaGreatDoor.Shard

def env0 (now seq : Int) : Env := ⟨now, seq, 0, 0⟩
def cmd (op : Int) (k : ByteArray) : Cmd := ⟨op, k, [], 0, 0, 0, 0, 0, false, false⟩
theorem live0 {it : Shard.Item} {now seq : Int} : it.live (env0 now seq) = decide (it.exp = 0 ∨ now < it.exp) := by
  unfold Item.live env0
  by_cases h : it.exp ≠ 0 ∧ it.exp ≤ now
  · rw [if_pos h]; simp; omega
  · rw [if_neg h, if_neg (fun e => e.1 rfl)]; simp; omega
section
variable {n N : Nat} {s : St} {f f1 f2 f3 f4 f5 f6 : Nat}
/-- ExecDeletes. -/
theorem deletes_law (h : Inv n N s) (k : ByteArray) (env : Env) {s1 s2 s3 s4 s5 : St} {c5 : Cmd} (hc5 : c5.op = 2 ∧ c5.key = k) (e1 : s1 = (run (cmd 8 k) env f1 s).2) (e2 : s2 = (run (cmd 0 k) env f2 s1).2) (e3 : s3 = (run (cmd 8 k) env f3 s2).2) (e4 : s4 = (run (cmd 5 k) env f4 s3).2) (e5 : s5 = (run c5 env f5 s4).2)
    (i1 : ∃ n N, Inv n N s1) (i2 : ∃ n N, Inv n N s2) (i3 : ∃ n N, Inv n N s3) (i4 : ∃ n N, Inv n N s4) (i5 : ∃ n N, Inv n N s5) :
    ((run (cmd 8 k) env f1 s).1.status = 5 ∨ (run (cmd 8 k) env f1 s).1.status = 1) ∧ (run (cmd 0 k) env f2 s1).1.status = 1 ∧ (run (cmd 8 k) env f3 s2).1.status = 1 ∧ (run (cmd 5 k) env f4 s3).1.status = 3 ∧ (run c5 env f5 s4).1.status = 1 ∧ (run (cmd 9 k) env f6 s5).1.status = 1 := by
  obtain ⟨_, _, i1⟩ := i1
  obtain ⟨_, _, i2⟩ := i2
  obtain ⟨_, _, i3⟩ := i3
  obtain ⟨_, _, i4⟩ := i4
  obtain ⟨_, _, i5⟩ := i5
  have h1 : ((run (cmd 8 k) env f1 s).1.status = 5 ∨ (run (cmd 8 k) env f1 s).1.status = 1) ∧ has s1 k = none := by
    rcases hs : seen s k env with _ | it
    · obtain ⟨r1, r2⟩ := none_miss (c := cmd 8 k) (f := f1) h (by simp [cmd]) hs
      exact ⟨.inr (by rw [r1]; rfl), by rw [e1, r2]; exact if_pos rfl⟩
    · obtain ⟨r1, r2⟩ := delete_hit (c := cmd 8 k) (f := f1) h rfl rfl hs
      exact ⟨.inl (by rw [r1]; rfl), by rw [e1, r2]; exact if_pos rfl⟩
  obtain ⟨q1, n1⟩ := h1
  obtain ⟨r2, t2⟩ := none_miss (c := cmd 0 k) (f := f2) (env := env) i1 (by simp [cmd]) (none_seen n1)
  have n2 : has s2 k = none := by rw [e2, t2]; exact if_pos rfl
  obtain ⟨r3, t3⟩ := none_miss (c := cmd 8 k) (f := f3) (env := env) i2 (by simp [cmd]) (none_seen n2)
  have n3 : has s3 k = none := by rw [e3, t3]; exact if_pos rfl
  obtain ⟨r4, t4⟩ := replace_miss (c := cmd 5 k) (f := f4) (env := env) i3 rfl (none_seen n3)
  have n4 : has s4 k = none := by rw [e4, t4]; exact if_pos rfl
  obtain ⟨r5, t5⟩ := none_miss (c := c5) (f := f5) (env := env) i4 (.inr (.inr (.inl hc5.1))) (none_seen (by rw [hc5.2]; exact n4))
  have n5 : has s5 k = none := by rw [e5, t5]; exact if_pos hc5.2.symm
  obtain ⟨r6, t6⟩ := none_miss (c := cmd 9 k) (f := f6) (env := env) i5 (by simp [cmd]) (none_seen n5)
  exact ⟨q1, by rw [r2]; rfl, by rw [r3]; rfl, by rw [r4]; rfl, by rw [r5]; rfl, by rw [r6]; rfl⟩
/-- ExecAsks. -/
theorem asks_law (h : Inv n N s) (k o : ByteArray) (env : Env) {s1 s2 : St} (e1 : s1 = (run (cmd 0 k) env f1 s).2) (e2 : s2 = (run (cmd 0 o) env f2 s1).2) (i1 : ∃ n N, Inv n N s1) (i2 : ∃ n N, Inv n N s2) :
    (run (cmd 0 k) env f5 s2).1 = (run (cmd 0 k) env f1 s).1 ∧ ((run (cmd 0 k) env f1 s).1.status = 0 ∨ (run (cmd 0 k) env f1 s).1.status = 1) := by
  obtain ⟨_, _, i1⟩ := i1
  obtain ⟨_, _, i2⟩ := i2
  rcases hs : seen s k env with _ | it
  · obtain ⟨r1, t1⟩ := get_miss (c := cmd 0 k) (f := f1) h rfl hs
    have n1 : has s1 k = none := by rw [e1, t1]; exact if_pos rfl
    have n2 : has s2 k = none := by
      rcases ho : seen s1 o env with _ | it2
      · obtain ⟨r2, t2⟩ := get_miss (c := cmd 0 o) (f := f2) i1 rfl ho
        rw [e2, t2]; split
        · rfl
        · exact n1
      · obtain ⟨r2, t2⟩ := get_hit (c := cmd 0 o) (f := f2) i1 rfl ho
        rw [e2, t2, if_neg]
        · exact n1
        · intro e
          have h3 := (seen_has (c := cmd 0 o) ho).1
          rw [← e, n1] at h3; cases h3
    obtain ⟨r5, -⟩ := get_miss (c := cmd 0 k) (f := f5) (env := env) i2 rfl (none_seen n2)
    exact ⟨r5.trans r1.symm, .inr (by rw [r1]; rfl)⟩
  · obtain ⟨r1, t1⟩ := get_hit (c := cmd 0 k) (f := f1) h rfl hs
    have hl : ∀ b : Bool, ({ it with seen := b } : Shard.Item).live env = true := fun _ => (seen_has (c := cmd 0 k) hs).2
    have n1 : has s1 k = some { it with seen := true } := by rw [e1, t1]; exact if_pos rfl
    have n2 : has s2 k = some { it with seen := true } := by
      rcases ho : seen s1 o env with _ | it2
      · obtain ⟨r2, t2⟩ := get_miss (c := cmd 0 o) (f := f2) i1 rfl ho
        rw [e2, t2, if_neg]
        · exact n1
        · intro e
          have h3 := has_seen n1 (hl true)
          rw [show k = o from e, ho] at h3
          cases h3
      · obtain ⟨r2, t2⟩ := get_hit (c := cmd 0 o) (f := f2) i1 rfl ho
        rw [e2, t2]
        split
        · rename_i e
          have h3 := (seen_has (c := cmd 0 o) ho).1
          rw [← e, n1] at h3
          injection h3 with h3
          rw [← h3]
        · exact n1
    obtain ⟨r5, -⟩ := get_hit (c := cmd 0 k) (f := f5) (env := env) i2 rfl (has_seen n2 (hl true))
    exact ⟨r5.trans r1.symm, .inl (by rw [r1]; rfl)⟩
/-- ExecTells. -/
theorem tells_law (h : Inv n N s) (c : Cmd) (hc : c.op = 3 ∨ c.op = 4 ∨ c.op = 5) (hks : c.key.size ≤ 2000000) (now seq : Int) (hnow : 1 ≤ now ∧ now ≤ 1099511627776) (hexp : 0 ≤ c.exp ∧ c.exp ≤ 2592000) (hf : ∀ p ∈ (looked c (env0 now seq) s).tab.L, p.2 ≠ f1) {s1 : St} (e1 : s1 = (run c (env0 now seq) f1 s).2) (i1 : ∃ n N, Inv n N s1)
    (h2 : (run c (env0 now seq) f1 s).1.status = 2) : (run c (env0 now seq) f1 s).1 = { only 2 with cas := IntKind.u64.wrap (seq + 1) } ∧ (run (cmd 0 c.key) (env0 now seq) f2 s1).1 = ⟨0, c.val, c.flags, IntKind.u64.wrap (seq + 1), if c.exp = 0 then -1 else c.exp, 0, false, false, false⟩ := by
  obtain ⟨_, _, i1⟩ := i1
  obtain ⟨r1, t1⟩ := stored_there h hc hks hf h2
  rw [← e1] at t1
  have hat : atS c.exp now = if c.exp = 0 then 0 else now + c.exp := by
    unfold atS
    by_cases h0 : c.exp = 0
    · rw [if_pos h0, if_pos h0]
    · have hw : IntKind.i64.wrap (now + c.exp) = now + c.exp := i64_same (by omega) (by omega)
      rw [if_neg h0, if_neg h0, if_neg (by omega), if_pos (by omega), show max now 1 = now from by omega, hw]
  have hlive : (freshI c (env0 now seq) c.val c.flags (atS c.exp now)).live (env0 now seq) = true := by
    rw [live0]
    show decide (atS c.exp now = 0 ∨ now < atS c.exp now) = true
    rw [hat]
    split <;> simp <;> omega
  obtain ⟨r2, -⟩ := get_hit (c := cmd 0 c.key) (f := f2) i1 rfl (has_seen t1 hlive)
  refine ⟨r1, ?_⟩
  rw [r2]
  have ht : ttlS { freshI c (env0 now seq) c.val c.flags (atS c.exp now) with seen := true } now = if c.exp = 0 then -1 else c.exp := by
    unfold ttlS
    show (if atS c.exp now = 0 then -1 else if atS c.exp now ≤ now then 0 else IntKind.i64.wrap (atS c.exp now - now)) = _
    rw [hat]
    by_cases h0 : c.exp = 0
    · rw [if_pos h0, if_pos h0, if_pos rfl]
    · have hw : IntKind.i64.wrap (now + c.exp - now) = c.exp := by rw [show now + c.exp - now = c.exp from by omega]; exact i64_same (by omega) (by omega)
      rw [if_neg h0, if_neg h0, if_neg (by omega), if_neg (by omega), hw]
  show view { freshI c (env0 now seq) c.val c.flags (atS c.exp now) with seen := true } (env0 now seq) = _
  unfold view
  rw [show (env0 now seq).now = now from rfl, ht]
  rfl
end
end Go.Proofs.YtodoglljjhdbeaaGreatDoor.Exec

/- Layer 12, plain: who has something is never refused, where the budget holds the greatest chunk. -/
namespace Go.Proofs.YtodoglljjhdbeaaGreatDoor.Exec
open Go Go.Proofs.YtodoglljjhdbeaaGreatDoor.Shard

section
variable {n N : Nat} {s : St} {it : Shard.Item} {env : Env} {f : Nat} {B : Int}
/-- The bytes in use are those of the items' chunks. -/
theorem used_sum (h : Inv n N s) : s.slab.used = Slab.total (s.tab.L.map fun p => (s.ent p.2).chunk) := by
  rw [h.slab.sum]
  have : ∀ {l m : List (Int × Int)}, l.Perm m → Slab.total l = Slab.total m := fun hp => by
    induction hp with
    | nil => rfl
    | cons x _ ih => rw [Slab.total_cons, Slab.total_cons, ih]
    | swap x y l => simp only [Slab.total_cons]; omega
    | trans _ _ h1 h2 => exact h1.trans h2
  exact this h.mem
theorem room_old {less : Int} (hB : 2048 ≤ B) (h6 : Slab.classN it.size < 6) : ∀ (g : Nat) (t : St) {N : Nat}, Inv n N t → t.slab.budget = B → (∃ x, (it.key, x) ∈ t.tab.L ∧ t.less (some x) = less) → t.order.all.length < g → (St.room it true less env g t).1 = 0
  | 0, t, _, _, _, _, hg => by omega
  | g + 1, t, N, hi, hb, hx, hg => by
    rcases room_cases (it := it) (old := true) (less := less) (env := env) g t with ⟨h1, e⟩ | ⟨hf, hv, e⟩ | ⟨hf, v, hv, hne, hm, ⟨e1, e⟩ | ⟨y, hy, ⟨_, e⟩ | ⟨e1, _, _, e⟩⟩⟩
    · rw [e]
    · exfalso
      obtain ⟨x, hx1, hx2⟩ := hx
      have hall : ∀ k ∈ t.order.all, k = it.key := fun k hk => by
        unfold Slru.St.victim at hv
        have := List.find?_eq_none.1 hv k hk
        simpa using this
      have hL : ∀ p ∈ t.tab.L, p = (it.key, x) := fun p hp => by
        have h1 := hall p.1 ((hi.keys p.1).2 (List.mem_map.2 ⟨p, hp, rfl⟩))
        have h2 := (Tab.get_mem hi.rise.nodup (k := it.key) (v := x)).2 hx1
        have h3 := (Tab.get_mem hi.rise.nodup (k := it.key) (v := p.2)).2 (by rw [← h1]; exact hp)
        rw [h2] at h3
        injection h3 with h3
        rw [h3, ← h1]
      have hL1 : t.tab.L = [(it.key, x)] := by
        have hnd := Rising.nd hi.rise
        match hl : t.tab.L with
        | [] => rw [hl] at hx1; cases hx1
        | [p] => rw [hl] at hL; rw [hL p (by simp)]
        | p :: q :: r =>
          rw [hl] at hL hnd
          have h1 := hL p (by simp)
          have h2 := hL q (by simp)
          rw [h1, h2] at hnd
          simp at hnd
      have hu := used_sum hi
      rw [hL1] at hu
      have hu2 : t.slab.used = Slab.bytesI (t.ent x).chunk.1 := by rw [hu]; show Slab.total [(t.ent x).chunk] = _; rw [Slab.total_cons]; show _ + (0 : Int) = _; omega
      have hl : less = Slab.bytesI (t.ent x).chunk.1 := hx2.symm
      have hbr := Slab.bytes_range (t.ent x).chunk.1
      have hbr2 := Slab.bytes_range (Slab.classN it.size : Nat)
      have : t.slab.fits it.size less = true := by
        unfold Slab.St.fits
        exact decide_eq_true ⟨h6, by omega, by omega, by omega⟩
      rw [hf] at this; cases this
    · exfalso
      exact get_none hi.rise e1 ((hi.keys v).1 hm)
    · rw [e]
      obtain ⟨x, hx1, hx2⟩ := hx
      have hd := hi.tick.drop v
      have hbud : (t.tick.drop v).slab.budget = B := by
        show ((t.tick.remove v).2).slab.budget = B
        unfold St.remove
        split
        · exact (slab_free_le _ _).1.trans hb
        · exact hb
      refine room_old hB h6 g (t.tick.drop v) hd hbud ⟨x, ?_, ?_⟩ ?_
      · rw [drop_L t.tick v hi.rise]
        exact Tab.mem_del.2 ⟨hx1, fun e1 => hne e1.symm⟩
      · rw [less_at t _ (drop_ent t.tick v)]; exact hx2
      · have h1 := hd.olen
        have h2 := hi.olen
        rw [drop_L t.tick v hi.rise] at h1
        have h3 := Tab.del_len hi.rise ((hi.keys v).1 hm)
        have h4 : (Tab.del t.tick.tab.L v).length + 1 = t.tab.L.length := h3
        omega
    · cases e1
/-- A store of a key that lives is done. -/
theorem store_old (h : Inv n N s) (hb : s.slab.budget = B) (hB : 2048 ≤ B) (h6 : it.size ≤ 2048) {a : Shard.Item} (ha : seen s it.key env = some a) : (s.store f it env).1 = 0 := by
  have hc : Slab.classN it.size < 6 := by
    unfold Slab.classN
    repeat' split
    all_goals omega
  rcases store_two h it env f with ⟨e6, _⟩ | ⟨_, _, _, ⟨_, _, e⟩ | ⟨e1, e⟩⟩
  · omega
  · rw [e]
  · exfalso
    rw [seen_eq] at ha
    obtain ⟨x, hx, hxa⟩ := Option.map_eq_some_iff.1 ha
    obtain ⟨g1, g2, g3⟩ := find_some hx
    refine e1 ?_
    unfold St.roomed
    rw [hx, g3]
    show (St.room it true (s.tick.less (some x)) env (s.tick.order.all.length + 1) s.tick).1 = 0
    exact room_old (n := n) hB hc _ _ h.tick hb ⟨x, (Tab.get_mem h.rise.nodup).1 g1, rfl⟩ (Nat.lt_succ_self _)
end
end Go.Proofs.YtodoglljjhdbeaaGreatDoor.Exec

/- Layer 12, plain: the laws of those who store again. -/
namespace Go.Proofs.YtodoglljjhdbeaaGreatDoor.Exec
open Go Go.Proofs.YtodoglljjhdbeaaGreatDoor.Shard

section
variable {n N : Nat} {s : St} {c : Cmd} {env : Env} {it : Shard.Item} {f f1 f2 f3 f4 f5 f6 : Nat} {B : Int} {k : ByteArray}
theorem cap_used (h : Cap B s) (k : ByteArray) : Cap B (used s k) := ⟨h.budget, h.used⟩
theorem cap_looked (h : Cap B s) : Cap B (looked c env s) := cap_used (h.find _ _) _
theorem cap_update (hi : Inv n N s) (h : Cap B s) (it : Shard.Item) : Cap B (s.update it).2 := by
  have := (update_items hi it).1
  exact ⟨by rw [this]; exact h.budget, by rw [this]; exact h.used⟩
theorem cap_doStore (hi : Inv n N s) (h : Cap B s) : Cap B (doStore env it f s).2 := Cap.store hi h
theorem cap_number (hi : Inv n N s) (h : Cap B s) (m : Nat) (flags exp : Int) : Cap B (number c env m flags exp f s).2 := by
  unfold number; split <;> exact cap_doStore hi h
theorem cap_without (hi : Inv n N s) (hks : c.key.size ≤ 2000000) (hf : ∀ p ∈ s.tab.L, p.2 ≠ f) (h : Cap B s) : Cap B (without c env f s).2 := by
  unfold without
  split
  · exact h
  split
  · exact h
  split
  · exact cap_doStore hi h
  split
  · exact cap_number hi h _ _ _
  split
  · unfold win
    split
    · exact cap_update (inv_doStore hi hks hf) (cap_doStore hi h) _
    · exact cap_doStore hi h
  · exact h
theorem cap_with (hi : Inv n N s) (it : Shard.Item) (h : Cap B s) : Cap B (withI c env it f s).2 := by
  unfold withI
  split
  · exact cap_update hi h _
  split
  · exact cap_update hi h _
  split
  · exact cap_update hi h _
  split
  · exact cap_update hi h _
  split
  · exact h
  split
  · exact h
  split
  · exact cap_doStore hi h
  split
  · unfold join
    split
    · exact h
    · exact cap_doStore hi h
  split
  · unfold join
    split
    · exact h
    · exact cap_doStore hi h
  split
  · exact cap_update hi h _
  split
  · exact h.remove _
  · unfold reckon
    split
    · exact h
    · split
      · exact h
      · split
        · exact cap_number hi h _ _ _
        · exact cap_number hi h _ _ _
theorem cap_run (hi : Inv n N s) (hks : c.key.size ≤ 2000000) (hf1 : ∀ p ∈ (looked c env s).tab.L, p.2 ≠ f) (h : Cap B s) : Cap B (run c env f s).2 := by
  unfold run
  split
  · exact h
  split
  · exact h
  have h1 : Inv n (N + 1) (used (s.find c.key env).2 c.key) := Exec.Inv.used (hi.find c.key env) c.key
  have h2 : Cap B (used (s.find c.key env).2 c.key) := cap_used (h.find _ _) _
  split
  · exact cap_without h1 hks hf1 h2
  · exact cap_with h1 _ h2
/-- Who lives is stored anew. -/
theorem again (h : Inv n N s) (hcp : Cap B s) (hB : 2048 ≤ B) (hks : c.key.size ≤ 2000000) (hf : ∀ p ∈ (looked c env s).tab.L, p.2 ≠ f) {a : Shard.Item} (hs : seen s c.key env = some a) (hk : it.key = c.key) (hz : it.size ≤ 2048) :
    doStore env it f (looked c env s) = ({ only 2 with cas := it.cas }, (doStore env it f (looked c env s)).2) ∧ has (doStore env it f (looked c env s)).2 c.key = some it := by
  have hin := looked_inv (c := c) (env := env) h
  have hl := looked_key (env := env) (c := c) h
  have hlive := (seen_has hs).2
  rw [hs] at hl
  have h0 : ((looked c env s).store f it env).1 = 0 := store_old hin (cap_looked hcp).budget hB hz (by rw [hk]; exact has_seen hl hlive)
  have h1 := has_store hin h0 (by rw [hk]; exact hks) hf
  rw [hk] at h1
  refine ⟨?_, h1⟩
  unfold doStore storeR
  rw [if_pos h0]
theorem set_hit (h : Inv n N s) (hcp : Cap B s) (hB : 2048 ≤ B) (hc : c.op = 3) (hks : c.key.size ≤ 2000000) (hz : 50 + (c.key.size : Int) + c.val.length ≤ 2048) (hf : ∀ p ∈ (looked c env s).tab.L, p.2 ≠ f) {a : Shard.Item} (hs : seen s c.key env = some a) (hcas : c.cas = 0 ∨ c.cas = a.cas) :
    (run c env f s).1 = { only 2 with cas := IntKind.u64.wrap (env.seq + 1) } ∧ has (run c env f s).2 c.key = some (freshI c env c.val c.flags (atS c.exp env.now)) := by
  rw [run_hit (by omega) hs]
  have e : withI c env a f (looked c env s) = doStore env (freshI c env c.val c.flags (atS c.exp env.now)) f (looked c env s) := by
    unfold withI
    rw [if_neg (by omega), if_neg (by omega), if_neg (by omega), if_neg (by omega), if_neg (by omega), if_neg (by omega), if_pos (.inl hc)]
  rw [e]
  obtain ⟨h1, h2⟩ := again (it := freshI c env c.val c.flags (atS c.exp env.now)) h hcp hB hks hf hs rfl hz
  exact ⟨by rw [h1]; rfl, h2⟩
def setC (k : ByteArray) (v : List UInt8) : Cmd := { cmd 3 k with val := v }
/-! ### ExecWins -/
def StaleHas (s : St) (k : ByteArray) (w : Bool) : Prop := ∃ it, has s k = some it ∧ it.stale = true ∧ it.won = w ∧ it.exp = 0
theorem wins_start (h : Inv n N s) (k : ByteArray) (hks : k.size ≤ 300) (v : List UInt8) (now : Int) (hf : ∀ p ∈ (looked (setC k v) (env0 now 0) s).tab.L, p.2 ≠ f1) {s1 : St} (e1 : s1 = (run (setC k v) (env0 now 0) f1 s).2) (i1 : ∃ n N, Inv n N s1) :
    ((run (cmd 9 k) (env0 now 0) f2 s1).1.status = 1 ∨ (run (cmd 9 k) (env0 now 0) f2 s1).1.status = 5) ∧ ((run (setC k v) (env0 now 0) f1 s).1.status = 2 → (run (cmd 9 k) (env0 now 0) f2 s1).1.status = 5 ∧ StaleHas (run (cmd 9 k) (env0 now 0) f2 s1).2 k false) := by
  obtain ⟨_, _, i1⟩ := i1
  constructor
  · rcases hs : seen s1 k (env0 now 0) with _ | it
    · obtain ⟨r, -⟩ := none_miss (c := cmd 9 k) (f := f2) i1 (by simp [cmd]) hs
      exact .inl (by rw [r]; rfl)
    · obtain ⟨r, -⟩ := stale_hit (c := cmd 9 k) (f := f2) i1 rfl rfl hs
      exact .inr (by rw [r]; rfl)
  · intro h2
    obtain ⟨-, t1⟩ := stored_there (c := setC k v) h (.inl rfl) (Nat.le_trans hks (by decide)) hf h2
    rw [← e1] at t1
    have hl : (freshI (setC k v) (env0 now 0) (setC k v).val (setC k v).flags (atS (setC k v).exp (env0 now 0).now)).live (env0 now 0) = true := by
      rw [live0]; exact decide_eq_true (.inl rfl)
    obtain ⟨r, t⟩ := stale_hit (c := cmd 9 k) (f := f2) i1 rfl rfl (has_seen (k := k) t1 hl)
    refine ⟨by rw [r]; rfl, _, (t k).trans (if_pos rfl), rfl, rfl, ?_⟩
    rfl
theorem meta_step (h : Inv n N s) {k : ByteArray} {w : Bool} (hs : StaleHas s k w) (now : Int) : (run (cmd 12 k) (env0 now 0) f s).1.status = 0 ∧ (run (cmd 12 k) (env0 now 0) f s).1.stale = true ∧ (run (cmd 12 k) (env0 now 0) f s).1.won = (!w) ∧ (run (cmd 12 k) (env0 now 0) f s).1.lost = w ∧ StaleHas (run (cmd 12 k) (env0 now 0) f s).2 k true := by
  obtain ⟨it, h1, h2, h3, h4⟩ := hs
  have hl : it.live (env0 now 0) = true := by rw [live0, h4]; simp
  obtain ⟨r, t⟩ := meta_hit (c := cmd 12 k) (f := f) h rfl (has_seen (k := k) h1 hl)
  rw [r]
  refine ⟨rfl, h2, ?_, h3, _, (t k).trans (if_pos rfl), h2, ?_, h4⟩
  · show (it.stale && !it.won) = _
    rw [h2, h3]; rfl
  · show (it.won || it.stale) = true
    rw [h2]; simp
theorem wins_end (h : Inv n N s) (hcp : Cap B s) (hB : 2048 ≤ B) {k : ByteArray} (hks : k.size ≤ 300) {w : Bool} (hs : StaleHas s k w) (v : List UInt8) (hv : v.length ≤ 1) (now : Int) (hf : ∀ p ∈ (looked (setC k v) (env0 now 0) s).tab.L, p.2 ≠ f1) {s1 : St} (e1 : s1 = (run (setC k v) (env0 now 0) f1 s).2) (i1 : ∃ n N, Inv n N s1) :
    (run (setC k v) (env0 now 0) f1 s).1.status = 2 ∧ (run (cmd 12 k) (env0 now 0) f2 s1).1.stale = false ∧ (run (cmd 12 k) (env0 now 0) f2 s1).1.won = false ∧ (run (cmd 12 k) (env0 now 0) f2 s1).1.lost = false := by
  obtain ⟨_, _, i1⟩ := i1
  obtain ⟨it, h1, h2, h3, h4⟩ := hs
  have hl : it.live (env0 now 0) = true := by rw [live0, h4]; simp
  obtain ⟨r1, t1⟩ := set_hit (c := setC k v) h hcp hB rfl (Nat.le_trans hks (by decide)) (by show 50 + (k.size : Int) + v.length ≤ 2048; omega) hf (has_seen (k := k) h1 hl) (.inl rfl)
  rw [← e1] at t1
  have hl1 : (freshI (setC k v) (env0 now 0) (setC k v).val (setC k v).flags (atS (setC k v).exp (env0 now 0).now)).live (env0 now 0) = true := by
    rw [live0]; exact decide_eq_true (.inl rfl)
  obtain ⟨r, -⟩ := meta_hit (c := cmd 12 k) (f := f2) i1 rfl (has_seen (k := k) t1 hl1)
  rw [r]
  exact ⟨by rw [r1]; rfl, rfl, rfl, rfl⟩
/-! ### ExecSwaps -/
theorem swaps_law (h : Inv n N s) (hB : 2048 ≤ B) (k : ByteArray) (hks : k.size ≤ 300) (seq : Int) (hseq : 1000 ≤ seq ∧ seq ≤ 1152921504606846976) (v1 v2 v3 : List UInt8) (hv : v2.length ≤ 1) {s1 s2 s3 s4 s5 : St} {cas : Int}
    (hf1 : ∀ p ∈ (looked (setC k v1) (env0 5 seq) s).tab.L, p.2 ≠ f1) (hf3 : ∀ p ∈ (looked { setC k v2 with cas := cas } (env0 5 (seq + 2)) s2).tab.L, p.2 ≠ f3) (e1 : s1 = (run (setC k v1) (env0 5 seq) f1 s).2) (i1 : ∃ n N, Inv n N s1) (e2 : s2 = (run (cmd 0 k) (env0 5 (seq + 1)) f2 s1).2) (i2 : ∃ n N, Inv n N s2) (c2 : Cap B s2) (hcas : cas = (run (cmd 0 k) (env0 5 (seq + 1)) f2 s1).1.cas)
    (e3 : s3 = (run { setC k v2 with cas := cas } (env0 5 (seq + 2)) f3 s2).2) (i3 : ∃ n N, Inv n N s3) (e4 : s4 = (run { setC k v3 with cas := cas } (env0 5 (seq + 3)) f4 s3).2) (i4 : ∃ n N, Inv n N s4) (e5 : s5 = (run { cmd 8 k with cas := cas } (env0 5 (seq + 4)) f5 s4).2) (i5 : ∃ n N, Inv n N s5)
    (h2 : (run (setC k v1) (env0 5 seq) f1 s).1.status = 2) :
    cas = seq + 1 ∧ (run { setC k v2 with cas := cas } (env0 5 (seq + 2)) f3 s2).1.status = 2 ∧ (run { setC k v3 with cas := cas } (env0 5 (seq + 3)) f4 s3).1.status = 4 ∧ (run { cmd 8 k with cas := cas } (env0 5 (seq + 4)) f5 s4).1.status = 4 ∧ (run (cmd 0 k) (env0 5 (seq + 5)) f6 s5).1.val = v2 := by
  obtain ⟨_, _, i1⟩ := i1
  obtain ⟨_, _, i2⟩ := i2
  obtain ⟨_, _, i3⟩ := i3
  obtain ⟨_, _, i4⟩ := i4
  obtain ⟨_, _, i5⟩ := i5
  have hw : ∀ z : Int, 0 ≤ z → z ≤ 18446744073709551615 → IntKind.u64.wrap z = z := fun z h0 h1 => by
    simp [IntKind.wrap, IntKind.signed, IntKind.bits]; omega
  obtain ⟨-, t1⟩ := stored_there (c := setC k v1) h (.inl rfl) (Nat.le_trans hks (by decide)) hf1 h2
  rw [← e1] at t1
  have hl : ∀ (it : Shard.Item) (q : Int), it.exp = 0 → it.live (env0 5 q) = true := fun it q he => by rw [live0, he]; simp
  obtain ⟨r2, t2⟩ := get_hit (c := cmd 0 k) (f := f2) (env := env0 5 (seq + 1)) i1 rfl (has_seen (k := k) t1 (hl _ _ rfl))
  have hc : cas = seq + 1 := by
    rw [hcas, r2]
    show IntKind.u64.wrap (seq + 1) = _
    exact hw _ (by omega) (by omega)
  have n2 := (t2 k).trans (if_pos rfl)
  rw [← e2] at n2
  obtain ⟨r3, t3⟩ := set_hit (c := { setC k v2 with cas := cas }) (f := f3) (env := env0 5 (seq + 2)) i2 c2 hB rfl (Nat.le_trans hks (by decide)) (by show 50 + (k.size : Int) + v2.length ≤ 2048; omega) hf3 (has_seen (k := k) n2 (hl _ _ rfl)) (.inr (by
    show cas = IntKind.u64.wrap (seq + 1)
    rw [hc]; exact (hw _ (by omega) (by omega)).symm))
  rw [← e3] at t3
  have hne : cas ≠ 0 := by omega
  have hne2 : cas ≠ IntKind.u64.wrap (seq + 2 + 1) := by rw [hw _ (by omega) (by omega)]; omega
  obtain ⟨r4, t4⟩ := cas_other (c := { setC k v3 with cas := cas }) (f := f4) (env := env0 5 (seq + 3)) i3 (.inl rfl) hne hne2 (has_seen (k := k) t3 (hl _ _ rfl))
  have n4 := (t4 k).trans (if_pos rfl)
  rw [← e4] at n4
  obtain ⟨r5, t5⟩ := cas_other (c := { cmd 8 k with cas := cas }) (f := f5) (env := env0 5 (seq + 4)) i4 (.inr rfl) hne hne2 (has_seen (k := k) n4 (hl _ _ rfl))
  have n5 := (t5 k).trans (if_pos rfl)
  rw [← e5] at n5
  obtain ⟨r6, -⟩ := get_hit (c := cmd 0 k) (f := f6) (env := env0 5 (seq + 5)) i5 rfl (has_seen (k := k) n5 (hl _ _ rfl))
  exact ⟨hc, by rw [r3]; rfl, by rw [r4]; rfl, by rw [r5]; rfl, by rw [r6]; rfl⟩
/-! ### ExecTouches -/
theorem touches_law (h : Inv n N s) (k : ByteArray) (hks : k.size ≤ 300) (exp later : Int) (hexp : 1 ≤ exp ∧ exp ≤ 2592000) (hlater : 0 ≤ later ∧ later ≤ 5184000) (gat : Bool) {s1 s2 : St} (hf : ∀ p ∈ (looked (cmd 3 k) (env0 5 0) s).tab.L, p.2 ≠ f1) (e1 : s1 = (run (cmd 3 k) (env0 5 0) f1 s).2) (i1 : ∃ n N, Inv n N s1)
    (e2 : s2 = (run { cmd (if gat then 1 else 2) k with exp := exp } (env0 5 0) f2 s1).2) (i2 : ∃ n N, Inv n N s2) (h2 : (run (cmd 3 k) (env0 5 0) f1 s).1.status = 2) :
    ((run { cmd (if gat then 1 else 2) k with exp := exp } (env0 5 0) f2 s1).1.status = if gat then 0 else 6) ∧ (gat = true → (run { cmd (if gat then 1 else 2) k with exp := exp } (env0 5 0) f2 s1).1.ttl = exp) ∧ (run (cmd 0 k) (env0 (5 + later) 0) f3 s2).1.status = (if exp ≤ later then 1 else 0) ∧ (¬ exp ≤ later → (run (cmd 0 k) (env0 (5 + later) 0) f3 s2).1.ttl = exp - later) := by
  obtain ⟨_, _, i1⟩ := i1
  obtain ⟨_, _, i2⟩ := i2
  obtain ⟨-, t1⟩ := stored_there (c := cmd 3 k) h (.inl rfl) (Nat.le_trans hks (by decide)) hf h2
  rw [← e1] at t1
  have hl1 : (freshI (cmd 3 k) (env0 5 0) (cmd 3 k).val (cmd 3 k).flags (atS (cmd 3 k).exp (env0 5 0).now)).live (env0 5 0) = true := by rw [live0]; exact decide_eq_true (.inl rfl)
  have hat : atS exp 5 = 5 + exp := by
    unfold atS
    rw [if_neg (by omega), if_neg (by omega), if_pos (by omega), show max (5 : Int) 1 = 5 from by omega]
    exact i64_same (by omega) (by omega)
  have hn : ∃ it, has s2 k = some it ∧ it.exp = 5 + exp ∧ ((run { cmd (if gat then 1 else 2) k with exp := exp } (env0 5 0) f2 s1).1.status = if gat then 0 else 6) ∧ (gat = true → (run { cmd (if gat then 1 else 2) k with exp := exp } (env0 5 0) f2 s1).1.ttl = exp) := by
    cases gat with
    | true =>
      obtain ⟨r2, t2⟩ := gat_hit (c := { cmd 1 k with exp := exp }) (f := f2) i1 rfl (has_seen (k := k) t1 hl1)
      have n2 := (t2 k).trans (if_pos rfl)
      refine ⟨_, by rw [e2]; exact n2, hat, ?_, fun _ => ?_⟩
      · show (run { cmd 1 k with exp := exp } (env0 5 0) f2 s1).1.status = 0
        rw [r2]; rfl
      · show (run { cmd 1 k with exp := exp } (env0 5 0) f2 s1).1.ttl = exp
        rw [r2]
        show (if atS exp 5 = 0 then (-1 : Int) else if atS exp 5 ≤ 5 then 0 else IntKind.i64.wrap (atS exp 5 - 5)) = exp
        rw [hat, if_neg (by omega), if_neg (by omega), show 5 + exp - 5 = exp from by omega]
        exact i64_same (by omega) (by omega)
    | false =>
      obtain ⟨r2, t2⟩ := touch_hit (c := { cmd 2 k with exp := exp }) (f := f2) i1 rfl (has_seen (k := k) t1 hl1)
      have n2 := (t2 k).trans (if_pos rfl)
      refine ⟨_, by rw [e2]; exact n2, hat, ?_, fun e => by cases e⟩
      show (run { cmd 2 k with exp := exp } (env0 5 0) f2 s1).1.status = 6
      rw [r2]; rfl
  obtain ⟨it, n2, hex, q1, q2⟩ := hn
  refine ⟨q1, q2, ?_⟩
  by_cases hle : exp ≤ later
  · have hd : it.live (env0 (5 + later) 0) = false := by rw [live0, hex]; simp; omega
    obtain ⟨r3, -⟩ := get_miss (c := cmd 0 k) (f := f3) i2 rfl (dead_seen (k := k) n2 hd)
    rw [if_pos hle]
    exact ⟨by rw [r3]; rfl, fun e => absurd hle e⟩
  · have hd : it.live (env0 (5 + later) 0) = true := by rw [live0, hex]; simp; omega
    obtain ⟨r3, -⟩ := get_hit (c := cmd 0 k) (f := f3) i2 rfl (has_seen (k := k) n2 hd)
    rw [if_neg hle]
    refine ⟨by rw [r3]; rfl, fun _ => ?_⟩
    rw [r3]
    show (if it.exp = 0 then (-1 : Int) else if it.exp ≤ 5 + later then 0 else IntKind.i64.wrap (it.exp - (5 + later))) = _
    rw [hex, if_neg (by omega), if_neg (by omega), show 5 + exp - (5 + later) = exp - later from by omega]
    exact i64_same (by omega) (by omega)
end
end Go.Proofs.YtodoglljjhdbeaaGreatDoor.Exec

/- Layer 12, plain: the laws of those who join, and of those who reckon. -/
namespace Go.Proofs.YtodoglljjhdbeaaGreatDoor.Exec
open Go Go.Proofs.YtodoglljjhdbeaaGreatDoor.Shard

section
variable {n N : Nat} {s : St} {c : Cmd} {env : Env} {it : Shard.Item} {f f1 f2 f3 f4 f5 f6 : Nat} {B : Int} {k : ByteArray}
theorem wrap_id {z : Int} (h0 : 0 ≤ z) (h1 : z ≤ 18446744073709551615) : IntKind.u64.wrap z = z := by
  simp [IntKind.wrap, IntKind.signed, IntKind.bits]; omega
/-- What a join that is told stored leaves. -/
theorem join_hit (h : Inv n N s) (hc : c.op = 6 ∨ c.op = 7) (hcas : c.cas = 0) (hks : c.key.size ≤ 2000000) (hfl : ∀ p ∈ (looked c env s).tab.L, p.2 ≠ f) {a : Shard.Item} (hs : seen s c.key env = some a) (h2 : (run c env f s).1.status = 2) :
    has (run c env f s).2 c.key = some (freshI c env (if c.op = 6 then a.val ++ c.val else c.val ++ a.val) a.flags a.exp) := by
  have hin := looked_inv (c := c) (env := env) h
  rw [run_hit (by omega) hs] at h2 ⊢
  have e : withI c env a f (looked c env s) = if c.op = 6 then join c env a a.val c.val f (looked c env s) else join c env a c.val a.val f (looked c env s) := by
    unfold withI
    rw [if_neg (by omega), if_neg (by omega), if_neg (by omega), if_neg (by omega), if_neg (by omega), if_neg (fun e => e.1 hcas), if_neg (by omega)]
    rcases hc with hc | hc
    · rw [if_pos hc, if_pos hc]
    · rw [if_neg (by omega), if_pos hc, if_neg (by omega)]
  have hj : ∀ x y, (join c env a x y f (looked c env s)).1.status = 2 → has (join c env a x y f (looked c env s)).2 c.key = some (freshI c env (x ++ y) a.flags a.exp) := fun x y hst => by
    unfold join at hst ⊢
    split at hst
    · cases hst
    · rename_i h1
      rw [if_neg h1]
      rcases doStore_two (it := freshI c env (x ++ y) a.flags a.exp) (env := env) hin hks hfl with ⟨_, e2⟩ | e1 | e1
      · exact e2
      · rw [e1] at hst; cases hst
      · rw [e1] at hst; cases hst
  rw [e] at h2 ⊢
  by_cases h6 : c.op = 6
  · rw [if_pos h6] at h2
    rw [if_pos h6, if_pos h6]
    exact hj _ _ h2
  · rw [if_neg h6] at h2
    rw [if_neg h6, if_neg h6]
    exact hj _ _ h2
/-- ExecJoins. -/
theorem joins_law (h : Inv n N s) (k : ByteArray) (hks : k.size ≤ 300) (a b d : List UInt8) {c1 c2 c3 : Cmd} (q1 : c1 = { setC k a with flags := 9, exp := 60 }) (q2 : c2 = { cmd 6 k with val := b, flags := 1, exp := 2 }) (q3 : c3 = { cmd 7 k with val := d, flags := 2, exp := 3 }) {s1 s2 s3 : St}
    (hf1 : ∀ p ∈ (looked c1 (env0 5 0) s).tab.L, p.2 ≠ f1) (hf2 : ∀ p ∈ (looked c2 (env0 5 0) s1).tab.L, p.2 ≠ f2) (hf3 : ∀ p ∈ (looked c3 (env0 5 0) s2).tab.L, p.2 ≠ f3) (e1 : s1 = (run c1 (env0 5 0) f1 s).2) (i1 : ∃ n N, Inv n N s1) (e2 : s2 = (run c2 (env0 5 0) f2 s1).2) (i2 : ∃ n N, Inv n N s2) (e3 : s3 = (run c3 (env0 5 0) f3 s2).2) (i3 : ∃ n N, Inv n N s3)
    (h1 : (run c1 (env0 5 0) f1 s).1.status = 2) (h2 : (run c2 (env0 5 0) f2 s1).1.status = 2) (h3 : (run c3 (env0 5 0) f3 s2).1.status = 2) :
    (run (cmd 0 k) (env0 5 0) f4 s3).1.status = 0 ∧ (run (cmd 0 k) (env0 5 0) f4 s3).1.val = d ++ (a ++ b) ∧ (run (cmd 0 k) (env0 5 0) f4 s3).1.flags = 9 ∧ (run (cmd 0 k) (env0 5 0) f4 s3).1.ttl = 60 := by
  obtain ⟨_, _, i1⟩ := i1
  obtain ⟨_, _, i2⟩ := i2
  obtain ⟨_, _, i3⟩ := i3
  subst q1 q2 q3
  have hat : atS 60 5 = 65 := by
    unfold atS
    rw [if_neg (by omega), if_neg (by omega), if_pos (by omega)]
    exact i64_same (by omega) (by omega)
  have hl : ∀ it : Shard.Item, it.exp = 65 → it.live (env0 5 0) = true := fun it e => by rw [live0, e]; decide
  obtain ⟨-, t1⟩ := stored_there (c := { setC k a with flags := 9, exp := 60 }) h (.inl rfl) (Nat.le_trans hks (by decide)) hf1 h1
  rw [← e1] at t1
  have t2 := join_hit (c := { cmd 6 k with val := b, flags := 1, exp := 2 }) i1 (.inl rfl) rfl (Nat.le_trans hks (by decide)) hf2 (has_seen (k := k) t1 (hl _ hat)) h2
  rw [← e2] at t2
  have t3 := join_hit (c := { cmd 7 k with val := d, flags := 2, exp := 3 }) i2 (.inr rfl) rfl (Nat.le_trans hks (by decide)) hf3 (has_seen (k := k) t2 (hl _ hat)) h3
  rw [← e3] at t3
  obtain ⟨r4, -⟩ := get_hit (c := cmd 0 k) (f := f4) i3 rfl (has_seen (k := k) t3 (hl _ hat))
  rw [r4]
  refine ⟨rfl, rfl, rfl, ?_⟩
  show (if atS 60 5 = 0 then (-1 : Int) else if atS 60 5 ≤ 5 then 0 else IntKind.i64.wrap (atS 60 5 - 5)) = 60
  rw [hat]
  rw [if_neg (by omega), if_neg (by omega)]
  exact i64_same (by omega) (by omega)
/-! ### ExecAdds -/
/-- A number that a key has, for ever. -/
def NumHas (s : St) (k : ByteArray) (m : Nat) : Prop := ∃ it, has s k = some it ∧ it.val = showS m ∧ it.exp = 0
theorem reckon_hit (h : Inv n N s) (hcp : Cap B s) (hB : 2048 ≤ B) (hc : c.op = 10 ∨ c.op = 11) (hcas : c.cas = 0) (hks : c.key.size ≤ 300) (hd : 0 ≤ c.delta ∧ c.delta ≤ 18446744073709551615) (now : Int) (hf : ∀ p ∈ (looked c (env0 now 0) s).tab.L, p.2 ≠ f) {m : Nat} (hm : m < 18446744073709551616) (hs : NumHas s c.key m) :
    ∃ r : Nat, r < 18446744073709551616 ∧ (r : Int) = (if c.op = 10 then IntKind.u64.wrap (m + c.delta) else m - min (m : Int) c.delta) ∧ (run c (env0 now 0) f s).1.status = 7 ∧ (run c (env0 now 0) f s).1.number = r ∧ NumHas (run c (env0 now 0) f s).2 c.key r := by
  obtain ⟨it, h1, h2, h3⟩ := hs
  have hl : it.live (env0 now 0) = true := by rw [live0, h3]; simp
  have hsn := has_seen (k := c.key) h1 hl
  rw [run_hit (by omega) hsn]
  have hdec : decS it.val = some m := by rw [h2]; exact dec_show m hm
  have hlen := show_len m hm
  have e : withI c (env0 now 0) it f (looked c (env0 now 0) s) = reckon c (env0 now 0) it f (looked c (env0 now 0) s) := by
    unfold withI
    rw [if_neg (by omega), if_neg (by omega), if_neg (by omega), if_neg (by omega), if_neg (by omega), if_neg (fun e => e.1 hcas), if_neg (by omega), if_neg (by omega), if_neg (by omega), if_neg (by omega), if_neg (by omega)]
  have hnum : ∀ r : Nat, r < 18446744073709551616 → (number c (env0 now 0) r it.flags it.exp f (looked c (env0 now 0) s)).1.status = 7 ∧ (number c (env0 now 0) r it.flags it.exp f (looked c (env0 now 0) s)).1.number = r ∧ NumHas (number c (env0 now 0) r it.flags it.exp f (looked c (env0 now 0) s)).2 c.key r := fun r hr => by
    have hlr := show_len r hr
    obtain ⟨g1, g2⟩ := again (it := freshI c (env0 now 0) (showS r) it.flags it.exp) h hcp hB (Nat.le_trans hks (by decide)) hf hsn rfl (by show 50 + (c.key.size : Int) + (showS r).length ≤ 2048; omega)
    unfold number
    have hst : (doStore (env0 now 0) (freshI c (env0 now 0) (showS r) it.flags it.exp) f (looked c (env0 now 0) s)).1.status = 2 := by rw [g1]; rfl
    rw [if_pos hst]
    exact ⟨rfl, rfl, _, g2, rfl, h3⟩
  have er : reckon c (env0 now 0) it f (looked c (env0 now 0) s) = if c.op = 10 then number c (env0 now 0) (IntKind.u64.wrap (m + c.delta)).toNat it.flags it.exp f (looked c (env0 now 0) s) else number c (env0 now 0) (m - min m c.delta.toNat) it.flags it.exp f (looked c (env0 now 0) s) := by
    unfold reckon
    rw [hdec]
    simp only
    rw [if_neg (by rw [h2]; omega)]
  rw [e, er]
  by_cases h10 : c.op = 10
  · have hw : 0 ≤ IntKind.u64.wrap (m + c.delta) ∧ IntKind.u64.wrap (m + c.delta) < 18446744073709551616 := by
      simp only [IntKind.wrap, IntKind.signed, IntKind.bits]
      refine ⟨Int.emod_nonneg _ (by omega), Int.emod_lt_of_pos _ (by omega)⟩
    rw [if_pos h10, if_pos h10]
    have hr : (IntKind.u64.wrap (m + c.delta)).toNat < 18446744073709551616 := by omega
    obtain ⟨a1, a2, a3⟩ := hnum _ hr
    exact ⟨_, hr, Int.toNat_of_nonneg hw.1, a1, a2, a3⟩
  · rw [if_neg h10, if_neg h10]
    have hr : m - min m c.delta.toNat < 18446744073709551616 := by omega
    obtain ⟨a1, a2, a3⟩ := hnum _ hr
    exact ⟨_, hr, by omega, a1, a2, a3⟩
theorem adds_start (h : Inv n N s) (k : ByteArray) (hks : k.size ≤ 300) (m : Nat) (now : Int) {c2 : Cmd} (q2 : c2 = { cmd 10 k with makes := true, initial := m }) {s1 : St} (e1 : s1 = (run (cmd 8 k) (env0 now 0) f1 s).2) (i1 : ∃ n N, Inv n N s1) (hfl : ∀ p ∈ (looked c2 (env0 now 0) s1).tab.L, p.2 ≠ f2) :
    ((run (cmd 8 k) (env0 now 0) f1 s).1.status = 5 ∨ (run (cmd 8 k) (env0 now 0) f1 s).1.status = 1) ∧ ((run c2 (env0 now 0) f2 s1).1.status = 7 → (run c2 (env0 now 0) f2 s1).1.number = m ∧ NumHas (run c2 (env0 now 0) f2 s1).2 k m) := by
  obtain ⟨_, _, i1⟩ := i1
  subst q2
  have h1 : ((run (cmd 8 k) (env0 now 0) f1 s).1.status = 5 ∨ (run (cmd 8 k) (env0 now 0) f1 s).1.status = 1) ∧ has s1 k = none := by
    rcases hs : seen s k (env0 now 0) with _ | it
    · obtain ⟨r1, r2⟩ := none_miss (c := cmd 8 k) (f := f1) h (by simp [cmd]) hs
      exact ⟨.inr (by rw [r1]; rfl), by rw [e1, r2]; exact if_pos rfl⟩
    · obtain ⟨r1, r2⟩ := delete_hit (c := cmd 8 k) (f := f1) h rfl rfl hs
      exact ⟨.inl (by rw [r1]; rfl), by rw [e1, r2]; exact if_pos rfl⟩
  refine ⟨h1.1, fun h7 => ?_⟩
  have hin := looked_inv (c := { cmd 10 k with makes := true, initial := m }) (env := env0 now 0) i1
  rw [run_miss (by simp [cmd]) (none_seen h1.2)] at h7 ⊢
  have e : without { cmd 10 k with makes := true, initial := m } (env0 now 0) f2 (looked { cmd 10 k with makes := true, initial := m } (env0 now 0) s1) = number { cmd 10 k with makes := true, initial := m } (env0 now 0) m 0 0 f2 (looked { cmd 10 k with makes := true, initial := m } (env0 now 0) s1) := by
    simp [without, cmd, atS]
  rw [e] at h7 ⊢
  unfold number at h7 ⊢
  rcases doStore_two (it := freshI { cmd 10 k with makes := true, initial := m } (env0 now 0) (showS m) 0 0) (env := env0 now 0) hin (Nat.le_trans hks (by decide)) hfl with ⟨g1, g2⟩ | g1 | g1
  · have hst : (doStore (env0 now 0) (freshI { cmd 10 k with makes := true, initial := m } (env0 now 0) (showS m) 0 0) f2 (looked { cmd 10 k with makes := true, initial := m } (env0 now 0) s1)).1.status = 2 := by rw [g1]; rfl
    rw [if_pos hst]
    exact ⟨rfl, _, g2, rfl, rfl⟩
  · rw [if_neg (by rw [g1]; decide), g1] at h7; cases h7
  · rw [if_neg (by rw [g1]; decide), g1] at h7; cases h7
/-- Added, and taken away again. -/
theorem adds_back {m d r r2 : Int} (hm : 0 ≤ m ∧ m ≤ 18446744073709551615) (hd : 0 ≤ d ∧ d ≤ 18446744073709551615) (hr : r = IntKind.u64.wrap (m + d)) (h2 : r2 = r - min r d) : (r < m → r2 = 0) ∧ (¬ r < m → r2 = m) := by
  simp only [IntKind.wrap, IntKind.signed, IntKind.bits] at hr
  have : r = if m + d ≤ 18446744073709551615 then m + d else m + d - 18446744073709551616 := by
    rw [hr]; simp; split <;> omega
  constructor <;> intro h <;> (split at this <;> omega)
end
end Go.Proofs.YtodoglljjhdbeaaGreatDoor.Exec

/- Layer 12's list of commands, as an argument. -/
namespace Go.Proofs.YtodoglljjhdbeaaGreatDoor.Exec
set_option maxRecDepth 100000
open Go Go.ChangeShapes Go.WideShapes Go.Deep Go.RowKit Go.Proofs.YtodoglljjhdbeaaGreatDoor.Ops Go.Proofs.YtodoglljjhdbeaaGreatDoor.App Go.Proofs.YtodoglljjhdbeaaGreatDoor.Shard

structure Op where
  cmd : Cmd
  v : Value
  env : Env
def encO (o : Op) : List Value := [.int .i64 o.cmd.op, .string o.cmd.key, o.v, .int .u32 o.cmd.flags, .int .i64 o.cmd.exp, .int .u64 o.cmd.cas, .int .u64 o.cmd.delta, .int .u64 o.cmd.initial, .bool o.cmd.makes, .bool o.cmd.sets, .int .i64 o.env.now, .int .u64 o.env.seq, .int .i64 o.env.flush, .int .u64 o.env.flushSeq]
/-- What a command's numbers are. -/
structure CmdIs (c : Cmd) : Prop where
  op : isI c.op
  key : c.key.size ≤ maxLen
  val : c.val.length ≤ maxLen
  flags : 0 ≤ c.flags ∧ c.flags ≤ 4294967295
  exp : isI c.exp
  cas : isU c.cas
  delta : isU c.delta
  initial : isU c.initial
structure OpOk (w : World) (o : Op) : Prop where
  cmd : CmdIs o.cmd
  env : Shard.EnvOk o.env
  src : SrcB w o.v o.cmd.val
  low : ∀ g, o.cmd.val ≠ [] → o.v.ownBlock = some g → g < w.heap.size
section
variable {H : Type} {enc : TypeId × Value → H} {w : World} {base : Nat} {spare : Nat → Bool} {held : Bool}
theorem op_el (n : Nat) (cs : List Value) (y : DataW H × List MemPlace) (h : DataW.trod enc Tryz.prog w base spare held n 31 cs = some y) : ∃ o, cs = encO o ∧ OpOk w o := by
  obtain ⟨xs, m, _, _, hlen, hxl, hf⟩ := DataW.trod_struct Tryz.underlying31 h
  rw [show Tryz.prog.cellsOf 31 = 14 from by kernel_rfl] at hlen
  have hc1 : Tryz.prog.cellsOf 3 = 1 := by kernel_rfl
  have hc2 : Tryz.prog.cellsOf 4 = 1 := by kernel_rfl
  have hc3 : Tryz.prog.cellsOf 27 = 10 := by kernel_rfl
  have hc4 : Tryz.prog.cellsOf 29 = 4 := by kernel_rfl
  have hc5 : Tryz.prog.cellsOf 9 = 1 := by kernel_rfl
  have hc6 : Tryz.prog.cellsOf 23 = 1 := by kernel_rfl
  have hc7 : Tryz.prog.cellsOf 24 = 1 := by kernel_rfl
  have hc8 : Tryz.prog.cellsOf 25 = 1 := by kernel_rfl
  match cs, hlen, xs, hxl with
  | [c0, c1, c2, c3, c4, c5, c6, c7, c8, c9, c10, c11, c12, c13], _, [x0, x1], _ =>
    have g1 := hf 0 _ rfl
    have g2 := hf 1 _ rfl
    simp [hc3, hc4] at g1 g2
    obtain ⟨ys, m', _, _, _, hyl, hg⟩ := DataW.trod_struct Tryz.underlying27 g1
    obtain ⟨zs, m2, _, _, _, hzl, hh⟩ := DataW.trod_struct Tryz.underlying29 g2
    match ys, hyl, zs, hzl with
    | [y0, y1, y2, y3, y4, y5, y6, y7, y8, y9], _, [z0, z1, z2, z3], _ =>
      have k0 := hg 0 _ rfl
      have k1 := hg 1 _ rfl
      have k2 := hg 2 _ rfl
      have k3 := hg 3 _ rfl
      have k4 := hg 4 _ rfl
      have k5 := hg 5 _ rfl
      have k6 := hg 6 _ rfl
      have k7 := hg 7 _ rfl
      have k8 := hg 8 _ rfl
      have k9 := hg 9 _ rfl
      have l0 := hh 0 _ rfl
      have l1 := hh 1 _ rfl
      have l2 := hh 2 _ rfl
      have l3 := hh 3 _ rfl
      simp [hc1, hc2, hc5, hc6, hc7, hc8] at k0 k1 k2 k3 k4 k5 k6 k7 k8 k9 l0 l1 l2 l3
      obtain ⟨n0, e0, _, w0⟩ := DataW.trod_int Tryz.underlying3 k0
      obtain ⟨q0, e1, _, w1⟩ := DataW.trod_string Tryz.underlying9 k1
      obtain ⟨bs, hbs, hbl⟩ := open_bytes k2
      obtain ⟨q2, e3, _, w3⟩ := DataW.trod_int Tryz.underlying24 k3
      obtain ⟨q3, e4, _, w4⟩ := DataW.trod_int Tryz.underlying3 k4
      obtain ⟨q4, e5, _, w5⟩ := DataW.trod_int Tryz.underlying25 k5
      obtain ⟨q5, e6, _, w6⟩ := DataW.trod_int Tryz.underlying25 k6
      obtain ⟨q6, e7, _, w7⟩ := DataW.trod_int Tryz.underlying25 k7
      obtain ⟨q7, e8, _⟩ := DataW.trod_bool Tryz.underlying4 k8
      obtain ⟨q8, e9, _⟩ := DataW.trod_bool Tryz.underlying4 k9
      obtain ⟨p0, e11, _, w11⟩ := DataW.trod_int Tryz.underlying3 l0
      obtain ⟨p1, e12, _, w12⟩ := DataW.trod_int Tryz.underlying25 l1
      obtain ⟨p2, e13, _, w13⟩ := DataW.trod_int Tryz.underlying3 l2
      obtain ⟨p3, e14, _, w14⟩ := DataW.trod_int Tryz.underlying25 l3
      injection e0 with e0; injection e1 with e1; injection e3 with e3; injection e4 with e4; injection e5 with e5; injection e6 with e6; injection e7 with e7; injection e8 with e8; injection e9 with e9; injection e11 with e11; injection e12 with e12; injection e13 with e13; injection e14 with e14
      subst e0 e1 e3 e4 e5 e6 e7 e8 e9 e11 e12 e13 e14
      exact ⟨⟨⟨n0, q0, bs, q2, q3, q4, q5, q6, q7, q8⟩, c2, ⟨p0, p1, p2, p3⟩⟩, rfl, ⟨isI_of w0, w1, hbl, u32_of w3, isI_of w4, isU_of w5, isU_of w6, isU_of w7⟩, ⟨isI_of w11, isU_of w12, isI_of w13, isU_of w14⟩, hbs, src_low hbs⟩
theorem open_ops {r : Reach} {b0 : Nat} {v : Value} {d : DataW H} {ps : List MemPlace} (hval : Value.okWide Tryz.prog w r b0 22 v) (hd : DataW.Trod enc Tryz.prog w base spare held 22 v d ps) :
    ∃ (x : Option Addr) (n c : Nat) (l : List Op), v = .slice x n c ∧ n = l.length ∧ n ≤ maxLen ∧ (∀ a ∈ l, OpOk w a) ∧ Lies w 14 encO x l :=
  open_list encO (OpOk w) Tryz.underlying22 (by kernel_rfl) (by decide) (fun _ => rfl) op_el hval hd
end
end Go.Proofs.YtodoglljjhdbeaaGreatDoor.Exec

/- Layer 12, the laws' own functions: Fine, Few. -/
namespace Go.Proofs.YtodoglljjhdbeaaGreatDoor.Exec
set_option maxRecDepth 100000
open Go Go.RowKit Go.Proofs.YtodoglljjhdbeaaGreatDoor.Mem Go.Proofs.YtodoglljjhdbeaaGreatDoor.App Go.Proofs.YtodoglljjhdbeaaGreatDoor.Ops Go.Proofs.YtodoglljjhdbeaaGreatDoor.Shard

def fineB (c : Cmd) : Bool := decide (c.key.size ≤ 300 ∧ c.val.length ≤ 2000 ∧ c.exp ≤ 1099511627776 ∧ -1099511627776 ≤ c.exp)
theorem fine_any (c : Cmd) (a : Option Addr) (k : Nat) (w : World) (hk : c.key.size ≤ 9223372036854775807) (hv : c.val.length ≤ 9223372036854775807) : Calls Tryz.prog 18 #[.agg (c.arr (.slice a c.val.length k))] w fun e w' => e = .returned (.bool (fineB c)) ∧ Below w.heap.size w w' := by
  have hb2 : Below w.heap.size w (w.alloc (.cells (c.arr (.slice a c.val.length k)) 27)) := Mem.al (Below.refl _ _) _
  have HB := Lib.hid hb2
  clear hb2
  have hA : (decide ((c.key.size : Int) ≤ 300) = true ∧ c.key.size ≤ 300) ∨ (decide ((c.key.size : Int) ≤ 300) = false ∧ ¬ c.key.size ≤ 300) := by
    by_cases h : c.key.size ≤ 300
    · exact .inl ⟨decide_eq_true (by omega), h⟩
    · exact .inr ⟨decide_eq_false (by omega), h⟩
  have hC : (decide ((c.val.length : Int) ≤ 2000) = true ∧ c.val.length ≤ 2000) ∨ (decide ((c.val.length : Int) ≤ 2000) = false ∧ ¬ c.val.length ≤ 2000) := by
    by_cases h : c.val.length ≤ 2000
    · exact .inl ⟨decide_eq_true (by omega), h⟩
    · exact .inr ⟨decide_eq_false (by omega), h⟩
  have hD : decide (c.exp ≤ 1099511627776) = true ∨ decide (c.exp ≤ 1099511627776) = false := by cases decide (c.exp ≤ 1099511627776) <;> simp
  have hE : decide (-1099511627776 ≤ c.exp) = true ∨ decide (-1099511627776 ≤ c.exp) = false := by cases decide (-1099511627776 ≤ c.exp) <;> simp
  unfold Cmd.arr at *
  rcases hA with ⟨hA, ha⟩ | ⟨hA, ha⟩
  case inr =>
    have e : fineB c = false := decide_eq_false fun h => ha h.1
    rw [e]
    clear ha e hC hD hE
    go_enter Tryz.func18, Tryz.ntmps18
    go_wp2
    go_ret
    exact ⟨rfl, HB.out⟩
  rcases hC with ⟨hC, hc⟩ | ⟨hC, hc⟩
  case inr =>
    have e : fineB c = false := decide_eq_false fun h => hc h.2.1
    rw [e]
    clear ha hc e hD hE
    go_enter Tryz.func18, Tryz.ntmps18
    go_wp2
    go_ret
    exact ⟨rfl, HB.out⟩
  rcases hD with hD | hD
  case inr =>
    have e : fineB c = false := decide_eq_false fun h => by simp at hD; omega
    rw [e]
    clear ha hc e hE
    go_enter Tryz.func18, Tryz.ntmps18
    go_wp2
    go_ret
    exact ⟨rfl, HB.out⟩
  rcases hE with hE | hE
  case inr =>
    have e : fineB c = false := decide_eq_false fun h => by simp at hE; omega
    rw [e]
    clear ha hc e
    go_enter Tryz.func18, Tryz.ntmps18
    go_wp2
    go_ret
    exact ⟨rfl, HB.out⟩
  · have e : fineB c = true := decide_eq_true ⟨ha, hc, of_decide_eq_true hD, of_decide_eq_true hE⟩
    rw [e]
    clear ha hc e
    go_enter Tryz.func18, Tryz.ntmps18
    go_wp2
    go_ret
    exact ⟨rfl, HB.out⟩
/-- Few: so many commands, so long, in such seconds. -/
def fewB (l : List Op) : Bool := decide (l.length ≤ 80 ∧ ∀ o ∈ l, fineB o.cmd = true ∧ o.env.now ≤ 1099511627776 ∧ -1 ≤ o.env.now)

theorem below_cell {w w' : World} {a : Addr} {v : Value} (hb : Below w.heap.size w w') (h : w.cell? a = some v) : w'.cell? a = some v := (World.cell?_of_block (hb.block _ (block_lt_of_cell h))).trans h
set_option maxHeartbeats 4000000 in
theorem few_any {w W : World} {x : Option Addr} {c : Nat} {l : List Op} (hlies : Lies w 14 encO x l) (hlen : l.length ≤ maxLen) (hok : ∀ o ∈ l, OpOk W o) :
    Calls Tryz.prog 12 #[.slice x l.length c] w fun e w' => e = .returned (.bool (fewB l)) ∧ Below w.heap.size w w' := by
  unfold maxLen at hlen
  by_cases hn : 80 < l.length
  · have e : fewB l = false := by unfold fewB; simp; omega
    rw [e]
    have hn' : (80 : Int) < l.length := by omega
    clear hlies e hn hok
    go_enter Tryz.func12, Tryz.ntmps12
    go_wp2_with fail
    go_ret
    exact ⟨rfl, Below.refl _ _⟩
  have hn' : (l.length : Int) ≤ 80 := by omega
  have HL := Lib.hid (And.intro hlies (And.intro hn hok))
  clear hlies hn hok
  go_enter Tryz.func12, Tryz.ntmps12
  go_wp2_with fail
  go_loopg [3, 4] l.length (fun g i _ wr => ∃ m : Nat, i = .int .i64 m ∧ g + m = l.length ∧ Hid (∀ (j : Nat) (o : Op), j < m → l[j]? = some o → fineB o.cmd = true ∧ o.env.now ≤ 1099511627776 ∧ -1 ≤ o.env.now) ∧ Hid (Below w.heap.size w wr))
  case atStart => exact ⟨0, rfl, by omega, Lib.hid (fun j o h => absurd h (by omega)), Lib.hid (Below.refl _ _)⟩
  case round =>
    obtain ⟨m, rfl, hg, hs, hbl⟩ := hrel
    have HG := Lib.hid hg
    clear hg
    by_cases hm : m < l.length
    · obtain ⟨o, ho⟩ : ∃ o, l[m]? = some o := ⟨_, List.getElem?_eq_getElem hm⟩
      obtain ⟨B, off, rfl, hB, hc⟩ := HL.out.1 m o ho
      have c0 := below_cell hbl.out (hc 0 _ rfl)
      rw [Nat.add_zero] at c0
      have c1 := below_cell hbl.out (hc 1 _ rfl)
      have c2 := below_cell hbl.out (hc 2 _ rfl)
      have c3 := below_cell hbl.out (hc 3 _ rfl)
      have c4 := below_cell hbl.out (hc 4 _ rfl)
      have c5 := below_cell hbl.out (hc 5 _ rfl)
      have c6 := below_cell hbl.out (hc 6 _ rfl)
      have c7 := below_cell hbl.out (hc 7 _ rfl)
      have c8 := below_cell hbl.out (hc 8 _ rfl)
      have c9 := below_cell hbl.out (hc 9 _ rfl)
      have c10 := below_cell hbl.out (hc 10 _ rfl)
      obtain ⟨va, vc, hv⟩ := (HL.out.2.2 o (List.mem_of_getElem? ho)).src.shape
      have hvl := (HL.out.2.2 o (List.mem_of_getElem? ho)).cmd.val
      have hkl := (HL.out.2.2 o (List.mem_of_getElem? ho)).cmd.key
      unfold maxLen at hvl hkl
      rw [hv] at c2
      have hmi : (m : Int) < l.length := by omega
      have HO := Lib.hid ho
      have hfn := fun w' => fine_any o.cmd va vc w' hkl hvl
      unfold Cmd.arr at hfn
      clear hc hB ho hv hvl hkl
      rcases hf : fineB o.cmd with _ | _
      · rw [hf] at hfn
        have e : fewB l = false := by unfold fewB; exact decide_eq_false (fun h => absurd (h.2 o (List.mem_of_getElem? HO.out)).1 (by rw [hf]; decide))
        have HE := Lib.hid e
        clear hf e
        go_wp2_with fail
        refine (hfn _).mono ?_
        rintro en w2 ⟨rfl, hb2⟩
        have HB := Lib.hid hb2
        clear hb2 hfn
        go_wp2_with fail
        go_ret
        exact ⟨by rw [HE.out]; rfl, Mem.tr hbl.out HB.out⟩
      · rw [hf] at hfn
        have HF := Lib.hid hf
        clear hf
        by_cases hx : o.env.now ≤ 1099511627776
        · have hx1 : decide ((1099511627776 : Int) < o.env.now) = false := decide_eq_false (by omega)
          by_cases hy : -1 ≤ o.env.now
          · have hy1 : decide (o.env.now < (-1 : Int)) = false := decide_eq_false (by omega)
            have HK := Lib.hid (And.intro hx hy)
            clear hx hy
            go_wp2_with fail
            refine (hfn _).mono ?_
            rintro en w2 ⟨rfl, hb2⟩
            have c10 := below_cell hb2 c10
            have HB := Lib.hid hb2
            clear hb2 hfn
            go_wp2_with fail
            go_roundg (l.length - (m + 1))
            case measure => have := HG.out; omega
            case rel =>
              refine ⟨m + 1, by go_num, by have := HG.out; omega, Lib.hid (fun j p hj hp => ?_), Lib.hid (Mem.tr hbl.out HB.out)⟩
              by_cases e : j = m
              · subst e; rw [HO.out] at hp; injection hp with hp; subst hp; exact ⟨HF.out, HK.out⟩
              · exact hs.out j p (by omega) hp
          · have hy1 : decide (o.env.now < (-1 : Int)) = true := decide_eq_true (by omega)
            have e : fewB l = false := by unfold fewB; exact decide_eq_false (fun h => hy (h.2 o (List.mem_of_getElem? HO.out)).2.2)
            have HE := Lib.hid e
            clear hx hy e
            go_wp2_with fail
            refine (hfn _).mono ?_
            rintro en w2 ⟨rfl, hb2⟩
            have c10 := below_cell hb2 c10
            have HB := Lib.hid hb2
            clear hb2 hfn
            go_wp2_with fail
            go_ret
            exact ⟨by rw [HE.out]; rfl, Mem.tr hbl.out HB.out⟩
        · have hx1 : decide ((1099511627776 : Int) < o.env.now) = true := decide_eq_true (by omega)
          have e : fewB l = false := by unfold fewB; exact decide_eq_false (fun h => hx (h.2 o (List.mem_of_getElem? HO.out)).2.1)
          have HE := Lib.hid e
          clear hx e
          go_wp2_with fail
          refine (hfn _).mono ?_
          rintro en w2 ⟨rfl, hb2⟩
          have c10 := below_cell hb2 c10
          have HB := Lib.hid hb2
          clear hb2 hfn
          go_wp2_with fail
          go_ret
          exact ⟨by rw [HE.out]; rfl, Mem.tr hbl.out HB.out⟩
    · have hml : (l.length : Int) ≤ m := by omega
      have e : fewB l = true := by
        unfold fewB
        refine decide_eq_true ⟨by omega, fun p hp => ?_⟩
        obtain ⟨j, hj⟩ := List.mem_iff_getElem?.1 hp
        exact hs.out j p (by have := (List.getElem?_eq_some_iff.1 hj).1; omega) hj
      have HE := Lib.hid e
      clear e
      go_wp2_with fail
      go_ret
      exact ⟨by rw [HE.out]; rfl, hbl.out⟩
end Go.Proofs.YtodoglljjhdbeaaGreatDoor.Exec

/- Layer 12: a shard in a law, with the law's own boxes and values. -/
namespace Go.Proofs.YtodoglljjhdbeaaGreatDoor.Exec
set_option maxRecDepth 100000
open Go Go.RowKit Go.Proofs.YtodoglljjhdbeaaGreatDoor.Mem Go.Proofs.YtodoglljjhdbeaaGreatDoor.App Go.Proofs.YtodoglljjhdbeaaGreatDoor.Shard Go.Proofs.YtodoglljjhdbeaaGreatDoor.Ops

/-- A shard that a law made: its boxes (bs) and values (vs) stay as they are. -/
def LS (seed B : Int) (W w : World) (M b : Nat) (s : St) (bs : List (Nat × Obj)) (vs : List (Value × List UInt8)) : Prop :=
  (∃ col, Run W w M b col seed s ∧ (∀ p ∈ bs, w.heap[p.1]? = some p.2 ∧ col p.1 = none) ∧ ∀ p ∈ vs, Val w col p.1 p.2) ∧ Cap B s
theorem calls_args {f : FuncId} {args args' : Array Value} {w : World} {Q : Ending → World → Prop} (h : Calls Tryz.prog f args w Q) (e : args = args') : Calls Tryz.prog f args' w Q := e ▸ h
theorem lit_src (w : World) (c : UInt8) (T : TypeId) (k : Nat) : SrcB (w.alloc (.cells #[.int .u8 c.toNat] T (1, 2))) (.slice (some ⟨w.heap.size, 0, none⟩) 1 k) [c] := by
  refine .inr (.inr ⟨w.heap.size, 0, k, rfl, by simp [cellsB], by simp, fun j u hu => ?_⟩)
  have hr := Mem.new_block w (.cells #[.int .u8 c.toNat] T (1, 2))
  have := Mem.row_cell hr j
  rw [Nat.zero_add, this, ← hu]
  rcases j with _ | j
  · rfl
  · simp [cellsB]
theorem lit_conv (w : World) (c : Int) : (convert 23 23 (.slice (some ⟨w.heap.size, 0, none⟩) 1 1)).run Tryz.prog (w.alloc (.cells #[.int .u8 c] 5)) = .ok (.slice (some ⟨w.heap.size, 0, none⟩) 1 1) (w.alloc (.cells #[.int .u8 c] 5 (1, 2))) :=
  Lib.run_convert_bytes_const w 23 5 #[.int .u8 c] 1 1 Tryz.underlying23 Tryz.underlying5
section
variable {seed B : Int} {W w w' : World} {M b : Nat} {s : St} {bs : List (Nat × Obj)} {vs : List (Value × List UInt8)}
theorem LS.inv (h : LS seed B W w M b s bs vs) : ∃ n N, Inv n N s := by
  obtain ⟨⟨col, h1, _⟩, _⟩ := h
  exact ⟨_, _, h1.inv⟩
theorem LS.low (h : LS seed B W w M b s bs vs) : Below W.heap.size W w := by
  obtain ⟨⟨col, h1, _⟩, _⟩ := h
  exact h1.below
theorem LS.below (h : LS seed B W w M b s bs vs) (hb : Below w.heap.size w w') : LS seed B W w' M b s bs vs := by
  obtain ⟨⟨col, h1, h2, h3⟩, h4⟩ := h
  exact ⟨⟨col, h1.step hb, fun p hp => ⟨(hb.block _ (Array.getElem?_eq_some_iff.1 (h2 p hp).1).1).trans (h2 p hp).1, (h2 p hp).2⟩, fun p hp => (h3 p hp).below hb⟩, h4⟩
theorem LS.alloc (h : LS seed B W w M b s bs vs) (o : Obj) : LS seed B W (w.alloc o) M b s ((w.heap.size, o) :: bs) vs := by
  obtain ⟨⟨col, h1, h2, h3⟩, h4⟩ := h
  have hb := Mem.al (Below.refl w.heap.size w) o
  refine ⟨⟨col, h1.step hb, fun p hp => ?_, fun p hp => (h3 p hp).below hb⟩, h4⟩
  rcases List.mem_cons.1 hp with rfl | hp
  · exact ⟨Mem.new_block w o, Run.none h1 (Nat.le_refl _)⟩
  · exact ⟨(hb.block _ (Array.getElem?_eq_some_iff.1 (h2 p hp).1).1).trans (h2 p hp).1, (h2 p hp).2⟩
theorem LS.row (h : LS seed B W w M b s bs vs) {p : Nat × Obj} (hp : p ∈ bs) : w.heap[p.1]? = some p.2 := by
  obtain ⟨⟨col, h1, h2, h3⟩, h4⟩ := h
  exact (h2 p hp).1
/-- A value that is laid for good: below the law's own start, or none. -/
theorem LS.val (h : LS seed B W w M b s bs vs) {v : Value} {xs : List UInt8} (hv : SrcB w v xs) (hl : ∀ g, xs ≠ [] → v.ownBlock = some g → g < W.heap.size) : LS seed B W w M b s bs ((v, xs) :: vs) := by
  obtain ⟨⟨col, h1, h2, h3⟩, h4⟩ := h
  refine ⟨⟨col, h1, h2, fun p hp => ?_⟩, h4⟩
  rcases List.mem_cons.1 hp with rfl | hp
  · exact ⟨hv, fun hx g e => Classical.byContradiction fun hn => by have := h1.low g hn; have := hl g hx e; omega⟩
  · exact h3 p hp
/-- A value that has just been laid. -/
theorem LS.fresh (h : LS seed B W w M b s bs vs) {v : Value} {xs : List UInt8} (hb : Below w.heap.size w w') (hv : SrcB w' v xs) (hl : ∀ g, v.ownBlock = some g → w.heap.size ≤ g) : LS seed B W w' M b s bs ((v, xs) :: vs) := by
  obtain ⟨⟨col, h1, h2, h3⟩, h4⟩ := h
  refine ⟨⟨col, h1.step hb, fun p hp => ⟨(hb.block _ (Array.getElem?_eq_some_iff.1 (h2 p hp).1).1).trans (h2 p hp).1, (h2 p hp).2⟩, fun p hp => ?_⟩, h4⟩
  rcases List.mem_cons.1 hp with rfl | hp
  · exact ⟨hv, fun _ g e => Run.none h1 (hl g e)⟩
  · exact (h3 p hp).below hb
theorem LS.src (h : LS seed B W w M b s bs vs) {p : Value × List UInt8} (hp : p ∈ vs) : SrcB w p.1 p.2 := by
  obtain ⟨⟨col, h1, h2, h3⟩, h4⟩ := h
  exact (h3 p hp).src
theorem LS.more {M' : Nat} (h : LS seed B W w M b s bs vs) (hm : M ≤ M') (hM : M' ≤ 1050000) : LS seed B W w M' b s bs vs := by
  obtain ⟨⟨col, h1, h2, h3⟩, h4⟩ := h
  exact ⟨⟨col, h1.more hm hM, h2, h3⟩, h4⟩
theorem LS.drops (h : LS seed B W w M b s bs vs) : LS seed B W w M b s [] [] := by
  obtain ⟨⟨col, h1, h2, h3⟩, h4⟩ := h
  exact ⟨⟨col, h1, ⟨fun _ hp => (nomatch hp), fun _ hp => (nomatch hp)⟩⟩, h4⟩
/-- What a command leaves. -/
def DoP (seed B : Int) (W : World) (M b : Nat) (s : St) (bs : List (Nat × Obj)) (vs : List (Value × List UInt8)) (c : Cmd) (env : Env) (e : Ending) (w' : World) : Prop :=
  ∃ f r t a n k, (∀ p ∈ (looked c env s).tab.L, p.2 ≠ f) ∧ run c env f s = (r, t) ∧ e = .returned (.agg #[.int .i64 r.status, .slice a n k, .int .u32 r.flags, .int .u64 r.cas, .int .i64 r.ttl, .int .u64 r.number, .bool r.stale, .bool r.won, .bool r.lost]) ∧ n = r.val.length ∧ LS seed B W w' (M + 2) b t bs ((.slice a n k, r.val) :: vs)
theorem do_law (h : LS seed B W w M b s bs vs) (hM : M + 2 ≤ 1050000) (hp : Pows W) (he : Errs W) (c : Cmd) (env : Env) {a : Option Addr} {n k : Nat} (hn : c.val.length = n) (hks : c.key.size ≤ 2000000) (hvs : c.val.length ≤ 1100000) (hv : (.slice a n k, c.val) ∈ vs ∨ (Value.slice a n k = .slice none 0 0 ∧ c.val = [])) (hi : isU c.initial) (hd : isU c.delta) :
    Calls Tryz.prog 14 #[.pointer (some ⟨b, 0, none⟩), .agg (c.arr (.slice a n k)), .agg env.arr] w (DoP seed B W M b s bs vs c env) := by
  obtain ⟨⟨col, h1, h2, h3⟩, h4⟩ := h
  unfold isU at hi hd
  have hvv : Val w col (.slice a n k) c.val := by
    rcases hv with hv | ⟨e1, e2⟩
    · exact h3 _ hv
    · rw [e1, e2]
      exact Val.nil _ _
  refine (do_any h1 hM hp he hn hks hvs hvv hi.1 (by omega) hd.1 (by omega)).mono ?_
  rintro e w' ⟨f, v, col', g1, g2, g3, g4, g5⟩
  obtain ⟨a', k', rfl⟩ := g5.shape
  refine ⟨f, (run c env f s).1, (run c env f s).2, a', _, k', g1, rfl, g2, rfl, ⟨col', g3, fun p hp => Box.turn g4 (h2 p hp).1 (h2 p hp).2, fun p hp => ?_⟩, cap_run h1.inv hks g1 h4⟩
  rcases List.mem_cons.1 hp with rfl | hp
  · exact g5
  · exact (h3 p hp).turn g4
theorem new_law (hb : Below W.heap.size W w) (seed budget protect : Int) (h0 : 0 ≤ seed) (h1 : seed < 18446744073709551616) (hbud : -9223372036854775808 ≤ budget ∧ budget ≤ 9223372036854775807) :
    Calls Tryz.prog 16 #[.int .u64 seed, .int .i64 budget, .int .i64 protect] w fun e w' => ∃ b, e = .returned (.pointer (some ⟨b, 0, none⟩)) ∧ LS seed budget W w' 0 b (St.new seed budget protect) [] [] ∧ Below w.heap.size w w' :=
  (new_run hb seed budget protect h0 h1 hbud).mono fun _ _ ⟨b, col, he, hr, _, hw⟩ => ⟨b, he, ⟨⟨col, hr, ⟨fun _ hp => (nomatch hp), fun _ hp => (nomatch hp)⟩⟩, Cap.new _ _ _⟩, hw⟩
end
end Go.Proofs.YtodoglljjhdbeaaGreatDoor.Exec

/- Layer 12's list of commands, as an argument that is not too great. -/
namespace Go.Proofs.YtodoglljjhdbeaaGreatDoor.Exec
set_option maxRecDepth 100000
open Go Go.ChangeShapes Go.WideShapes Go.Deep Go.RowKit Go.Proofs.YtodoglljjhdbeaaGreatDoor.Ops Go.Proofs.YtodoglljjhdbeaaGreatDoor.App Go.Proofs.YtodoglljjhdbeaaGreatDoor.Shard

theorem one_le {H : Type} (d : DataW H) : 1 ≤ Rows.uptoBulk d := by
  cases d with
  | lit l => cases l <;> simp [Rows.uptoBulk]
  | nil => simp [Rows.uptoBulk]
  | ptr d => simp [Rows.uptoBulk]
  | slice elems spare => simp [Rows.uptoBulk]
  | agg parts => simp [Rows.uptoBulk]
  | iface t d => simp [Rows.uptoBulk]
  | map entries => simp [Rows.uptoBulk]
  | held h => simp [Rows.uptoBulk]
theorem part_le {H : Type} {d : DataW H} {l : List (DataW H)} (h : d ∈ l) : Rows.uptoBulk d ≤ Rows.uptoBulkAll l := by
  induction l with
  | nil => cases h
  | cons x r ih =>
    simp only [Rows.uptoBulkAll]
    cases List.mem_cons.1 h with
    | inl e => subst e; omega
    | inr e => have := ih e; omega
theorem length_le {H : Type} (l : List (DataW H)) : l.length ≤ Rows.uptoBulkAll l := by
  induction l with
  | nil => simp [Rows.uptoBulkAll]
  | cons x r ih => have := one_le x; simp only [Rows.uptoBulkAll, List.length_cons]; omega
theorem bulk3 {H : Type} {L : List (DataW H)} (h : ∀ x ∈ L, 3 ≤ Rows.uptoBulk x) : 3 * L.length ≤ Rows.uptoBulkAll L := by
  induction L with
  | nil => simp [Rows.uptoBulkAll]
  | cons x r ih =>
    have h1 := h x (List.mem_cons_self ..)
    have h2 := ih fun y hy => h y (List.mem_cons_of_mem _ hy)
    simp only [Rows.uptoBulkAll, List.length_cons]
    omega
section
variable {H : Type} {enc : TypeId × Value → H} {w : World} {base : Nat} {spare : Nat → Bool} {held : Bool}
theorem bytes_bulk {m : Nat} {cv : Value} {xs : List UInt8} {y : DataW H × List MemPlace} (h : DataW.trod enc Tryz.prog w base spare held m 23 [cv] = some y) (hs : SrcB w cv xs) : xs.length ≤ Rows.uptoBulk y.1 := by
  have hc1 : Tryz.prog.cellsOf 5 = 1 := by kernel_rfl
  obtain ⟨a0, c0, rfl⟩ := hs.shape
  rcases open_slice1 Tryz.underlying23 hc1 h with ⟨h0, _⟩ | ⟨a, len, cap, m', n', V, D, Pl, hcs, hb, hl, hm, hmm, hx, hi⟩
  · injection h0 with h0 _
    injection h0 with _ h0 _
    omega
  · injection hcs with hcs _
    injection hcs with _ hcs _
    rw [hx, hcs]
    show len ≤ Rows.uptoBulk (DataW.slice ((List.range len).map D) _)
    have := length_le ((List.range len).map D)
    simp only [Rows.uptoBulk]
    simp only [List.length_map, List.length_range] at this
    omega
theorem op_bulk (n : Nat) (o : Op) (y : DataW H × List MemPlace) (h : DataW.trod enc Tryz.prog w base spare held n 31 (encO o) = some y) (hs : SrcB w o.v o.cmd.val) : o.cmd.key.size ≤ Rows.uptoBulk y.1 ∧ o.cmd.val.length ≤ Rows.uptoBulk y.1 := by
  obtain ⟨xs, m, _, rfl, hlen, hxl, hf⟩ := DataW.trod_struct Tryz.underlying31 h
  have hc3 : Tryz.prog.cellsOf 27 = 10 := by kernel_rfl
  have hc5 : Tryz.prog.cellsOf 9 = 1 := by kernel_rfl
  have hc6 : Tryz.prog.cellsOf 23 = 1 := by kernel_rfl
  have g1 := hf 0 _ rfl
  obtain ⟨x0, hx0⟩ : ∃ x0, xs[0]? = some x0 := ⟨_, List.getElem?_eq_getElem (by rw [hxl]; decide)⟩
  rw [hx0] at g1
  simp [encO, hc3] at g1
  obtain ⟨ys, m', _, rfl, _, hyl, hg⟩ := DataW.trod_struct Tryz.underlying27 g1
  have k1 := hg 1 _ rfl
  have k2 := hg 2 _ rfl
  obtain ⟨y1, hy1⟩ : ∃ y1, ys[1]? = some y1 := ⟨_, List.getElem?_eq_getElem (by rw [hyl]; decide)⟩
  obtain ⟨y2, hy2⟩ : ∃ y2, ys[2]? = some y2 := ⟨_, List.getElem?_eq_getElem (by rw [hyl]; decide)⟩
  rw [hy1] at k1
  rw [hy2] at k2
  simp [hc5] at k1
  simp [hc6] at k2
  have k1' : DataW.trod enc Tryz.prog w base spare held m' 9 [.string o.cmd.key] = some y1 := k1
  have k2' : DataW.trod enc Tryz.prog w base spare held m' 23 [o.v] = some y2 := k2
  obtain ⟨q0, e1, e2, _⟩ := DataW.trod_string Tryz.underlying9 k1'
  injection e1 with e1 _
  injection e1 with e1
  have b1 : o.cmd.key.size ≤ Rows.uptoBulk y1.1 := by
    rw [e2, e1]
    show q0.size ≤ Rows.uptoBulk (DataW.lit (.string q0.data.toList))
    have e3 : Rows.uptoBulk (DataW.lit (H := H) (.string q0.data.toList)) = q0.data.toList.length + 1 := by simp [Rows.uptoBulk]
    rw [e3, Array.length_toList]
    exact Nat.le_succ _
  have b2 := bytes_bulk k2' hs
  have p1 := part_le (List.mem_map.2 ⟨y1, List.mem_of_getElem? hy1, rfl⟩ : y1.1 ∈ ys.map (·.1))
  have p2 := part_le (List.mem_map.2 ⟨y2, List.mem_of_getElem? hy2, rfl⟩ : y2.1 ∈ ys.map (·.1))
  have p3 := part_le (List.mem_map.2 ⟨_, List.mem_of_getElem? hx0, rfl⟩ : _ ∈ xs.map (·.1))
  simp only [Rows.uptoBulk] at p3 ⊢
  omega
theorem op_three (n : Nat) (cs : List Value) (y : DataW H × List MemPlace) (h : DataW.trod enc Tryz.prog w base spare held n 31 cs = some y) : 3 ≤ Rows.uptoBulk y.1 := by
  obtain ⟨xs, m, _, rfl, hlen, hxl, hf⟩ := DataW.trod_struct Tryz.underlying31 h
  have := length_le (xs.map (·.1))
  have h2 : xs.length = 2 := hxl
  simp only [List.length_map] at this
  show 3 ≤ Rows.uptoBulk (DataW.agg (xs.map (·.1)))
  simp only [Rows.uptoBulk]
  omega
end
section
variable {H : Type} {enc : TypeId × Value → H} {P : Program} {w : World} {base : Nat} {spare : Nat → Bool} {held : Bool}
theorem open_listB {N : Nat} {α : Type} (encA : α → List Value) (ok : α → Prop) {r : Reach} {b0 : Nat} {t e : TypeId} {K : Nat} {v : Value} {d : DataW H} {ps : List MemPlace} (ht : P.underlying t = some (.slice e)) (hK : P.cellsOf e = K) (hK0 : 0 < K)
    (hE : ∀ a, (encA a).length = K) (h3 : ∀ n cs y, DataW.trod enc P w base spare held n e cs = some y → 3 ≤ Rows.uptoBulk y.1) (hel : ∀ n cs y, DataW.trod enc P w base spare held n e cs = some y → Rows.uptoBulk y.1 ≤ N → ∃ a, cs = encA a ∧ ok a)
    (hval : Value.okWide P w r b0 t v) (hd : DataW.Trod enc P w base spare held t v d ps) (hN : Rows.uptoBulk d ≤ N) :
    ∃ (x : Option Addr) (n c : Nat) (l : List α), v = .slice x n c ∧ n = l.length ∧ n ≤ maxLen ∧ 3 * n ≤ N ∧ (∀ a ∈ l, ok a) ∧ Lies w K encA x l := by
  obtain ⟨x, n, c, rfl⟩ := okWide_slice ht hval
  obtain ⟨fuel, hf⟩ := hd
  rcases open_slice ht hf with ⟨h0, _⟩ | ⟨a, len, cap, m, n', D, Pl, hcs, hb, hl, hm, hmm, hx, hi⟩
  · simp [Value.cells] at h0
    obtain ⟨rfl, rfl, rfl⟩ := h0
    exact ⟨none, 0, 0, [], rfl, rfl, by unfold maxLen; omega, by omega, fun a ha => (by cases ha), fun i a ha => (by simp at ha)⟩
  · have hbx : Rows.uptoBulk d = Rows.uptoBulkAll ((List.range len).map D) + Rows.uptoBulkAll ((List.range (m - len)).map fun j => D (len + j)) + 1 := by
      have e1 : d = .slice ((List.range len).map D) ((List.range (m - len)).map fun j => D (len + j)) := congrArg Prod.fst hx
      rw [e1, Rows.uptoBulk]
    have hpt : ∀ i, i < len → Rows.uptoBulk (D i) ≤ N := fun i hi => by
      have := part_le (List.mem_map.2 ⟨i, List.mem_range.2 hi, rfl⟩ : D i ∈ (List.range len).map D)
      omega
    simp [Value.cells] at hcs
    obtain ⟨rfl, rfl, rfl⟩ := hcs
    have hlm : n ≤ m := by rw [hmm]; split <;> omega
    have hget : ∀ i, i < n → ∃ q : α, ok q ∧ ∃ B off, a = ⟨B, off, none⟩ ∧ B < w.heap.size ∧ ∀ j u, (encA q)[j]? = some u → w.cell? ⟨B, off + i * K + j, none⟩ = some u := fun i hin => by
      obtain ⟨cs', hc, ht'⟩ := hi i (by omega)
      obtain ⟨q, hq, hok⟩ := hel n' cs' _ ht' (hpt i hin)
      obtain ⟨_, hcl, hat⟩ := World.cells?_some hc
      rw [hK] at hcl hat
      refine ⟨q, hok, ?_⟩
      have h0 := hat 0 hK0
      obtain ⟨B, off, sp⟩ := a
      have hsp : sp = none := by
        obtain ⟨cs0, hc0, _⟩ := hi 0 (by omega)
        obtain ⟨_, hcl0, hat0⟩ := World.cells?_some hc0
        rw [hK] at hcl0 hat0
        have h00 := hat0 0 hK0
        rw [List.getElem?_eq_getElem (by omega)] at h00
        simpa [Addr.add] using World.cell?_spot h00
      subst hsp
      have hadd : ∀ k, (⟨B, off, none⟩ : Addr).add k = ⟨B, off + k, none⟩ := fun k => by unfold Addr.add; split <;> simp_all
      refine ⟨B, off, rfl, ?_, fun j u hu => ?_⟩
      · rw [List.getElem?_eq_getElem (by omega)] at h0
        have := block_of_cell h0
        rw [hadd] at this
        exact this
      · have hj : j < K := by
          have := (List.getElem?_eq_some_iff.1 hu).1
          rw [hE] at this; exact this
        have h1 := hat j hj
        rw [Go.Deep.add_add, hadd, hq, hu] at h1
        rw [Nat.add_assoc]; exact h1
    refine ⟨some a, n, c, List.ofFn fun i : Fin n => Classical.choose (hget i.1 i.2), rfl, by simp, by omega, ?_, fun q hq => ?_, fun i q hq => ?_⟩
    · have := bulk3 (L := (List.range n).map D) (fun x hx => by
        obtain ⟨i, hi2, rfl⟩ := List.mem_map.1 hx
        obtain ⟨cs', hc, ht'⟩ := hi i (by have := List.mem_range.1 hi2; omega)
        exact h3 n' cs' _ ht')
      simp only [List.length_map, List.length_range] at this
      omega
    · obtain ⟨i, rfl⟩ := (List.mem_ofFn).1 hq
      exact (Classical.choose_spec (hget i.1 i.2)).1
    · have hin : i < n := by
        have := (List.getElem?_eq_some_iff.1 hq).1
        simpa using this
      rw [List.getElem?_ofFn, dif_pos hin] at hq
      injection hq with hq
      subst hq
      obtain ⟨B, off, e1, e2, e3⟩ := (Classical.choose_spec (hget i hin)).2
      exact ⟨B, off, congrArg some e1, e2, e3⟩
end
section
variable {H : Type} {enc : TypeId × Value → H} {w : World} {base : Nat} {spare : Nat → Bool} {held : Bool}
/-- No text and no value of a command is too long to be counted. -/
def Small (l : List Op) : Prop := l.length ≤ 500000 ∧ ∀ o ∈ l, o.cmd.key.size ≤ 2000000 ∧ o.cmd.val.length ≤ 1048576
theorem open_opsB {r : Reach} {b0 : Nat} {v : Value} {d : DataW H} {ps : List MemPlace} (hval : Value.okWide Tryz.prog w r b0 22 v) (hd : DataW.Trod enc Tryz.prog w base spare held 22 v d ps) (hN : Rows.uptoBulk d ≤ 1048576) :
    ∃ (x : Option Addr) (n c : Nat) (l : List Op), v = .slice x n c ∧ (n = l.length ∧ n ≤ maxLen ∧ (∀ a ∈ l, OpOk w a) ∧ Lies w 14 encO x l) ∧ Small l := by
  obtain ⟨x, n, c, l, h1, h2, h3, h4, h5, h6⟩ := open_listB (N := 1048576) (K := 14) encO (fun o => OpOk w o ∧ o.cmd.key.size ≤ 2000000 ∧ o.cmd.val.length ≤ 1048576) Tryz.underlying22 (by kernel_rfl) (by decide) (fun _ => rfl) op_three (fun n cs y h hb => by
    obtain ⟨o, rfl, ho⟩ := op_el n cs y h
    have := op_bulk n o y h ho.src
    exact ⟨o, rfl, ho, by omega, by omega⟩) hval hd hN
  exact ⟨x, n, c, l, h1, ⟨h2, h3, fun a ha => (h5 a ha).1, h6⟩, ⟨by omega, fun a ha => (h5 a ha).2⟩⟩
end
end Go.Proofs.YtodoglljjhdbeaaGreatDoor.Exec

/- Layer 12: the laws' done. -/
namespace Go.Proofs.YtodoglljjhdbeaaGreatDoor.Exec
set_option maxRecDepth 100000
open Go Go.RowKit Go.Proofs.YtodoglljjhdbeaaGreatDoor.Mem Go.Proofs.YtodoglljjhdbeaaGreatDoor.App Go.Proofs.YtodoglljjhdbeaaGreatDoor.Shard Go.Proofs.YtodoglljjhdbeaaGreatDoor.Ops

set_option maxHeartbeats 4000000 in
theorem done_any {W w : World} {x : Option Addr} {c : Nat} {l : List Op} (hlies : Lies W 14 encO x l) (hb : Below W.heap.size W w) (hsm : Small l) (hok : ∀ o ∈ l, OpOk W o) (hp : Pows W) (he : Errs W) :
    Calls Tryz.prog 13 #[.slice x l.length c] w fun e w' => ∃ b s, e = .returned (.pointer (some ⟨b, 0, none⟩)) ∧ LS 7 4000 W w' (2 * l.length) b s [] [] := by
  have hlen : (l.length : Int) ≤ 500000 := by have := hsm.1; omega
  have hnw := new_law hb 7 4000 3 (by decide) (by decide) (by decide)
  have HL := Lib.hid (And.intro hlies (And.intro hsm (And.intro hok (And.intro hp he))))
  clear hlies hsm hok hp he hb
  go_enter Tryz.func13, Tryz.ntmps13
  go_wp2_with fail
  refine hnw.mono ?_
  rintro e w1 ⟨b, rfl, hL0, hb1⟩
  have H0 := Lib.hid hL0
  clear hL0 hb1 hnw
  go_wp2_with fail
  go_loopg [4] l.length (fun g i wr => ∃ (m : Nat) (s : St), i = .int .i64 m ∧ g + m = l.length ∧ Hid (LS 7 4000 W wr (2 * m) b s [] []))
  case atStart => exact ⟨0, _, rfl, by omega, H0⟩
  case round =>
    obtain ⟨m, s, rfl, hg, hs⟩ := hrel
    have HG := Lib.hid hg
    clear hg
    by_cases hm : m < l.length
    · obtain ⟨o, ho⟩ : ∃ o, l[m]? = some o := ⟨_, List.getElem?_eq_getElem hm⟩
      obtain ⟨B, off, rfl, hB, hc⟩ := HL.out.1 m o ho
      have hmem := List.mem_of_getElem? ho
      obtain ⟨va, vc, hv⟩ := (HL.out.2.2.1 o hmem).src.shape
      have hS : ∀ W' : World, Below W.heap.size W W' → W'.cell? ⟨B, off + m * 14, none⟩ = some (.int .i64 o.cmd.op) ∧ W'.cell? ⟨B, off + m * 14 + 1, none⟩ = some (.string o.cmd.key) ∧ W'.cell? ⟨B, off + m * 14 + 2, none⟩ = some (.slice va o.cmd.val.length vc) ∧ W'.cell? ⟨B, off + m * 14 + 3, none⟩ = some (.int .u32 o.cmd.flags) ∧ W'.cell? ⟨B, off + m * 14 + 4, none⟩ = some (.int .i64 o.cmd.exp) ∧ W'.cell? ⟨B, off + m * 14 + 5, none⟩ = some (.int .u64 o.cmd.cas) ∧ W'.cell? ⟨B, off + m * 14 + 6, none⟩ = some (.int .u64 o.cmd.delta) ∧ W'.cell? ⟨B, off + m * 14 + 7, none⟩ = some (.int .u64 o.cmd.initial) ∧ W'.cell? ⟨B, off + m * 14 + 8, none⟩ = some (.bool o.cmd.makes) ∧ W'.cell? ⟨B, off + m * 14 + 9, none⟩ = some (.bool o.cmd.sets) ∧ W'.cell? ⟨B, off + m * 14 + 10, none⟩ = some (.int .i64 o.env.now) ∧ W'.cell? ⟨B, off + m * 14 + 11, none⟩ = some (.int .u64 o.env.seq) ∧ W'.cell? ⟨B, off + m * 14 + 12, none⟩ = some (.int .i64 o.env.flush) ∧ W'.cell? ⟨B, off + m * 14 + 13, none⟩ = some (.int .u64 o.env.flushSeq) := fun W' hb' => by
        have k0 := below_cell hb' (hc 0 _ rfl)
        rw [Nat.add_zero] at k0
        have k2 := below_cell hb' (hc 2 _ rfl)
        rw [hv] at k2
        exact ⟨k0, below_cell hb' (hc 1 _ rfl), k2, below_cell hb' (hc 3 _ rfl), below_cell hb' (hc 4 _ rfl), below_cell hb' (hc 5 _ rfl), below_cell hb' (hc 6 _ rfl), below_cell hb' (hc 7 _ rfl), below_cell hb' (hc 8 _ rfl), below_cell hb' (hc 9 _ rfl), below_cell hb' (hc 10 _ rfl), below_cell hb' (hc 11 _ rfl), below_cell hb' (hc 12 _ rfl), below_cell hb' (hc 13 _ rfl)⟩
      have hS0 := hS _ hs.out.low
      have hSd := hS _ (Below.drew hs.out.low)
      have hdo := do_law ((hs.out.val (hv ▸ (HL.out.2.2.1 o hmem).src.below hs.out.low : SrcB _ (.slice va o.cmd.val.length vc) o.cmd.val) (fun g hx e => (HL.out.2.2.1 o hmem).low g hx (by rw [hv]; exact e))).below (Below.drew (Below.refl _ _))) (by have := HL.out.2.1.1; omega) HL.out.2.2.2.1 HL.out.2.2.2.2 o.cmd o.env rfl (HL.out.2.1.2 o hmem).1 (Nat.le_trans (HL.out.2.1.2 o hmem).2 (by decide)) (.inl (List.mem_cons_self ..)) (HL.out.2.2.1 o hmem).cmd.initial (HL.out.2.2.1 o hmem).cmd.delta
      unfold Cmd.arr Shard.Env.arr at hdo
      have hmi : (m : Int) < l.length := by omega
      have HS := Lib.hid hS
      obtain ⟨c0, c1, c2, c3, c4, c5, c6, c7, c8, c9, c10, c11, c12, c13⟩ := hS0
      clear hc hB ho hv hmem hS
      go_upto_region 5 with (fail)
      go_region_held3 (fun W' : World => W'.cell? ⟨B, off + m * 14, none⟩ = some (.int .i64 o.cmd.op) ∧ W'.cell? ⟨B, off + m * 14 + 1, none⟩ = some (.string o.cmd.key) ∧ W'.cell? ⟨B, off + m * 14 + 2, none⟩ = some (.slice va o.cmd.val.length vc) ∧ W'.cell? ⟨B, off + m * 14 + 3, none⟩ = some (.int .u32 o.cmd.flags) ∧ W'.cell? ⟨B, off + m * 14 + 4, none⟩ = some (.int .i64 o.cmd.exp) ∧ W'.cell? ⟨B, off + m * 14 + 5, none⟩ = some (.int .u64 o.cmd.cas) ∧ W'.cell? ⟨B, off + m * 14 + 6, none⟩ = some (.int .u64 o.cmd.delta) ∧ W'.cell? ⟨B, off + m * 14 + 7, none⟩ = some (.int .u64 o.cmd.initial) ∧ W'.cell? ⟨B, off + m * 14 + 8, none⟩ = some (.bool o.cmd.makes) ∧ W'.cell? ⟨B, off + m * 14 + 9, none⟩ = some (.bool o.cmd.sets) ∧ W'.cell? ⟨B, off + m * 14 + 10, none⟩ = some (.int .i64 o.env.now) ∧ W'.cell? ⟨B, off + m * 14 + 11, none⟩ = some (.int .u64 o.env.seq) ∧ W'.cell? ⟨B, off + m * 14 + 12, none⟩ = some (.int .i64 o.env.flush) ∧ W'.cell? ⟨B, off + m * 14 + 13, none⟩ = some (.int .u64 o.env.flushSeq)) (first
        | with_reducible exact HS.out _ H2.out.low
        | with_reducible exact hSd) (first
        | (go_at_call 14; refine hdo.mono ?_; rintro en w2 ⟨f, r, t, a', n', k', hf, hr, rfl, hn', hL⟩; have H2 := Lib.hid hL.drops; clear hf hr hn' hL))
      all_goals (go_wp2_with fail)
      go_roundg (l.length - (m + 1))
      case measure => have := HG.out; omega
      case rel => exact ⟨m + 1, t, by go_num, by have := HG.out; omega, H2⟩
    · have hml : (l.length : Int) ≤ m := by omega
      have e9 : m = l.length := by have := HG.out; omega
      subst e9
      go_wp2_with fail
      go_ret
      exact ⟨b, s, rfl, hs.out⟩
end Go.Proofs.YtodoglljjhdbeaaGreatDoor.Exec

/- Layer 12, plain: the chapter's example. -/
namespace Go.Proofs.YtodoglljjhdbeaaGreatDoor.Exec
open Go Go.Proofs.YtodoglljjhdbeaaGreatDoor.Shard

/-- Only one key is there, if any. -/
def One (k : ByteArray) (s : St) : Prop := ∀ p ∈ s.tab.L, p.1 = k
theorem bytes_nonneg (k : Int) : 0 ≤ Slab.bytesI k := by
  unfold Slab.bytesI
  split
  · omega
  · split
    · omega
    · exact Int.mul_nonneg (by omega) (Int.le_of_lt (Int.pow_pos (by omega)))
section
variable {n N f : Nat} {s t : St} {k : ByteArray} {B : Int} {env : Env} {it : Shard.Item} {c : Cmd}
theorem one_looked (h : Inv n N s) (ho : One k s) : One k (looked c env s) := fun p hp => ho p ((find_key h c.key env).2.2 p hp)
theorem one_fits (h : Inv n N t) (hcp : Cap B t) (hB : 64 ≤ B) (ho : One k t) (hz : it.size ≤ 64) (old : Option Nat) (h1 : ∀ x, old = some x → (k, x) ∈ t.tab.L) (h2 : old = none → k ∉ t.tab.L.map (·.1)) : t.slab.fits it.size (t.less old) = true := by
  have hc : Slab.classN it.size = 0 := by unfold Slab.classN; rw [if_pos hz]
  have hb : Slab.bytesI ((0 : Nat) : Int) = 64 := by decide
  have hu := used_sum h
  unfold Slab.St.fits
  rw [hc, hb, hcp.budget]
  refine decide_eq_true ⟨by decide, ?_, ?_, ?_⟩
  all_goals rcases hL : t.tab.L with _ | ⟨p, _ | ⟨q, r⟩⟩
  all_goals rw [hL] at hu h1 h2
  all_goals first
    | (exfalso
       have hn := h.rise.nodup
       rw [hL] at hn
       have e1 := ho p (by rw [hL]; simp)
       have e2 := ho q (by rw [hL]; simp)
       simp [e1, e2] at hn
       done)
    | skip
  all_goals rcases old with _ | x
  all_goals first
    | (exfalso; exact h2 rfl (List.mem_map.2 ⟨p, by simp, ho p (by rw [hL]; simp)⟩))
    | (exfalso; have := h1 x rfl; simp at this; done)
    | skip
  all_goals simp only [St.less]
  · omega
  · exact bytes_nonneg _
  · have e0 : t.slab.used = 0 := hu
    omega
  · have e1 := h1 x rfl
    simp at e1
    subst e1
    have e0 : t.slab.used = Slab.bytesI (t.ent x).chunk.1 + 0 := hu
    omega
  · have e0 : t.slab.used = 0 := hu
    omega
  · have e1 := h1 x rfl
    simp at e1
    subst e1
    have e0 : t.slab.used = Slab.bytesI (t.ent x).chunk.1 + 0 := hu
    omega
theorem one_store (h : Inv n N s) (hcp : Cap B s) (hB : 64 ≤ B) (ho : One k s) (hk : it.key = k) (hz : it.size ≤ 64) : (s.store f it env).1 = 0 ∧ One k (s.store f it env).2 := by
  have hfk := find_key h it.key env
  have hft := one_fits (old := (s.find it.key env).1) (h.find it.key env) (hcp.find it.key env) hB (fun p hp => ho p (hfk.2.2 p hp)) hz (fun x hx => by rw [← hk]; exact hfk.1 x hx) (fun hx => by rw [← hk]; exact hfk.2.1 hx)
  have hr : (s.roomed it env).1 = 0 := by
    unfold St.roomed
    rw [St.room, if_pos hft]
  rcases store_two h it env f with ⟨h6, _⟩ | ⟨_, hi, hsub, ⟨_, hrd, e⟩ | ⟨hne, _⟩⟩
  · exfalso
    have : Slab.classN it.size = 0 := by unfold Slab.classN; rw [if_pos hz]
    omega
  · rw [e]
    refine ⟨rfl, fun p hp => ?_⟩
    rcases ho2 : (s.find it.key env).1 with _ | x
    · rw [ho2] at hp
      rcases (Tab.mem_put hi.rise it.key f p).1 (by rw [← Tab.put_L]; exact hp) with rfl | ⟨hp, _⟩
      · exact hk
      · exact ho p (hsub p hp)
    · rw [ho2] at hp
      exact ho p (hsub p hp)
  · exact absurd hr hne
theorem num_one (h : Inv n N s) (hcp : Cap B s) (hB : 64 ≤ B) {m : Nat} {flags exp : Int} (hz : 50 + (c.key.size : Int) + (showS m).length ≤ 64) (ho : One c.key s) (hf : ∀ p ∈ s.tab.L, p.2 ≠ f) :
    (number c env m flags exp f s).1.status = 7 ∧ (number c env m flags exp f s).1.number = m ∧ has (number c env m flags exp f s).2 c.key = some (freshI c env (showS m) flags exp) ∧ One c.key (number c env m flags exp f s).2 := by
  obtain ⟨h0, h1⟩ := one_store (f := f) (env := env) (it := freshI c env (showS m) flags exp) h hcp hB ho rfl hz
  have h2 := has_store h h0 (show c.key.size ≤ 2000000 by omega) hf
  have hst : (doStore env (freshI c env (showS m) flags exp) f s).1.status = 2 := by unfold doStore storeR; rw [if_pos h0]; rfl
  unfold number
  rw [if_pos hst]
  exact ⟨rfl, rfl, h2, h1⟩
end
theorem show8 : showS 8 = [56] := by
  unfold showS
  rw [Lib.decDigits]
  rfl
theorem show0 : showS 0 = [48] := by
  unfold showS
  rw [Lib.decDigits]
  rfl
def keyK : ByteArray := ⟨#[107]⟩
/-- The example: set 5, add 3, take 9 away. -/
theorem awake_plain {f1 f2 f3 : Nat} {s1 s2 : St} {c1 c2 c3 : Cmd} (q1 : c1 = setC keyK [53]) (q2 : c2 = { cmd 10 keyK with delta := 3 }) (q3 : c3 = { cmd 11 keyK with delta := 9 })
    (hf1 : ∀ p ∈ (looked c1 (env0 1 0) (St.new 1 1000 3)).tab.L, p.2 ≠ f1) (hf2 : ∀ p ∈ (looked c2 (env0 1 0) s1).tab.L, p.2 ≠ f2) (hf3 : ∀ p ∈ (looked c3 (env0 1 0) s2).tab.L, p.2 ≠ f3)
    (e1 : s1 = (run c1 (env0 1 0) f1 (St.new 1 1000 3)).2) (i1 : ∃ n N, Inv n N s1) (k1 : Cap 1000 s1) (e2 : s2 = (run c2 (env0 1 0) f2 s1).2) (i2 : ∃ n N, Inv n N s2) (k2 : Cap 1000 s2) :
    (run c1 (env0 1 0) f1 (St.new 1 1000 3)).1.status = 2 ∧ (run c2 (env0 1 0) f2 s1).1.status = 7 ∧ (run c2 (env0 1 0) f2 s1).1.number = 8 ∧ (run c3 (env0 1 0) f3 s2).1.status = 7 ∧ (run c3 (env0 1 0) f3 s2).1.number = 0 := by
  obtain ⟨_, _, i1⟩ := i1
  obtain ⟨_, _, i2⟩ := i2
  have i0 := Inv.new 1 1000 3 (by decide)
  have ho : One keyK (St.new 1 1000 3) := fun p hp => by cases hp
  subst q1 q2 q3
  have l0 := one_store (f := f1) (env := env0 1 0) (it := freshI (setC keyK [53]) (env0 1 0) [53] 0 0) (looked_inv (c := setC keyK [53]) (env := env0 1 0) i0) (cap_looked (Cap.new 1 1000 3)) (by decide) (one_looked i0 ho) rfl (by decide)
  have r1 : run (setC keyK [53]) (env0 1 0) f1 (St.new 1 1000 3) = doStore (env0 1 0) (freshI (setC keyK [53]) (env0 1 0) [53] 0 0) f1 (looked (setC keyK [53]) (env0 1 0) (St.new 1 1000 3)) := rfl
  have t1 : has s1 keyK = some (freshI (setC keyK [53]) (env0 1 0) [53] 0 0) ∧ One keyK s1 := by
    rw [e1, r1]
    exact ⟨has_store (looked_inv (c := setC keyK [53]) (env := env0 1 0) i0) l0.1 (by decide) hf1, l0.2⟩
  have hs1 := has_seen (env := env0 1 0) t1.1 (by decide)
  have r2 : run { cmd 10 keyK with delta := 3 } (env0 1 0) f2 s1 = number { cmd 10 keyK with delta := 3 } (env0 1 0) 8 0 0 f2 (looked { cmd 10 keyK with delta := 3 } (env0 1 0) s1) := by
    rw [run_hit (c := { cmd 10 keyK with delta := 3 }) (by decide) hs1]
    rfl
  have n2 := num_one (f := f2) (env := env0 1 0) (m := 8) (flags := 0) (exp := 0) (c := { cmd 10 keyK with delta := 3 }) (looked_inv (c := { cmd 10 keyK with delta := 3 }) (env := env0 1 0) i1) (cap_looked k1) (by decide) (by rw [show8]; decide) (one_looked i1 t1.2) hf2
  rw [← r2, ← e2, show8] at n2
  have hs2 := has_seen (env := env0 1 0) n2.2.2.1 (by decide)
  have r3 : run { cmd 11 keyK with delta := 9 } (env0 1 0) f3 s2 = number { cmd 11 keyK with delta := 9 } (env0 1 0) 0 0 0 f3 (looked { cmd 11 keyK with delta := 9 } (env0 1 0) s2) := by
    rw [run_hit (c := { cmd 11 keyK with delta := 9 }) (by decide) hs2]
    rfl
  have n3 := num_one (f := f3) (env := env0 1 0) (m := 0) (flags := 0) (exp := 0) (c := { cmd 11 keyK with delta := 9 }) (looked_inv (c := { cmd 11 keyK with delta := 9 }) (env := env0 1 0) i2) (cap_looked k2) (by decide) (by rw [show0]; decide) (one_looked i2 n2.2.2.2) hf3
  rw [← r3] at n3
  refine ⟨?_, n2.1, n2.2.1, n3.1, n3.2.1⟩
  rw [r1]
  unfold doStore storeR
  rw [if_pos l0.1]
  rfl
end Go.Proofs.YtodoglljjhdbeaaGreatDoor.Exec

/- Layer 12, the laws' own functions: awake. -/
namespace Go.Proofs.YtodoglljjhdbeaaGreatDoor.Exec
set_option maxRecDepth 100000
open Go Go.RowKit Go.Proofs.YtodoglljjhdbeaaGreatDoor.Mem Go.Proofs.YtodoglljjhdbeaaGreatDoor.App Go.Proofs.YtodoglljjhdbeaaGreatDoor.Shard Go.Proofs.YtodoglljjhdbeaaGreatDoor.Ops

set_option maxHeartbeats 4000000 in
theorem awake_any (W : World) (hp : Pows W) (he : Errs W) : Calls Tryz.prog 11 #[] W fun e w' => e = .returned (.bool true) ∧ Below W.heap.size W w' := by
  have hnw := new_law (Below.refl W.heap.size W) 1 1000 3 (by decide) (by decide) (by decide)
  have HW := Lib.hid (And.intro hp he)
  clear hp he
  go_enter Tryz.func11, Tryz.ntmps11
  go_wp2_with fail
  refine hnw.mono ?_
  rintro e wN ⟨b, rfl, hL, -⟩
  have HL := Lib.hid hL
  clear hL hnw
  go_upto_region 5 with (fail)
  have hA := HL.out.alloc (.cells (env0 1 0).arr 29)
  obtain ⟨wE, hwE⟩ : ∃ wE, wN.alloc (.cells (env0 1 0).arr 29) = wE := ⟨_, rfl⟩
  obtain ⟨q0, hq0⟩ : ∃ q0, wN.heap.size = q0 := ⟨_, rfl⟩
  rw [hwE, hq0] at hA
  unfold Shard.Env.arr env0 at hwE
  rw [hwE, hq0]
  clear hwE hq0 HL
  have hB := hA.fresh (Mem.al (Below.refl wE.heap.size wE) (.cells #[.int .u8 53] 5 (1, 2))) (lit_src wE 53 5 1) (fun g e => Nat.le_of_eq (by simpa [Value.ownBlock] using e))
  obtain ⟨wB, hwB⟩ : ∃ wB, wE.alloc (.cells #[.int .u8 53] 5 (1, 2)) = wB := ⟨_, rfl⟩
  have hcv := lit_conv wE 53
  rw [hwB] at hB hcv
  have HL := Lib.hid hB
  clear hA hB
  have hev := HL.out.row (List.Mem.head _)
  have v0 := Mem.row_cell hev 0
  have v1 := Mem.row_cell hev 1
  have v2 := Mem.row_cell hev 2
  have v3 := Mem.row_cell hev 3
  simp only [Shard.Env.arr, env0, List.getElem?_toArray, List.getElem?_cons_zero, List.getElem?_cons_succ] at v0 v1 v2 v3
  have hdo := calls_args (args' := #[.pointer (some ⟨b, 0, none⟩), .agg #[.int .i64 3, .string ⟨#[107]⟩, .slice (some ⟨wE.heap.size, 0, none⟩) 1 1, .int .u32 0, .int .i64 0, .int .u64 0, .int .u64 0, .int .u64 0, .bool false, .bool false], .agg #[.int .i64 1, .int .u64 0, .int .i64 0, .int .u64 0]]) (do_law HL.out (by decide) HW.out.1 HW.out.2 (setC keyK [53]) (env0 1 0) rfl (by decide) (by decide) (.inl (List.Mem.head _)) ⟨by show (0 : Int) ≤ 0; decide, by show (0 : Int) ≤ 18446744073709551615; decide⟩ ⟨by show (0 : Int) ≤ 0; decide, by show (0 : Int) ≤ 18446744073709551615; decide⟩) rfl
  go_wp2_with fail
  clear hwB hcv
  refine hdo.mono ?_
  rintro e wD ⟨f1, r1, t1, a1, n1, k1, hf, hr, rfl, hn, hL⟩
  have HR1 := Lib.hid (And.intro hf (And.intro hr (And.intro hn HL.out.inv)))
  have HC1 := Lib.hid HL.out.2
  clear HL
  have HL := Lib.hid hL
  clear hf hr hn hL hdo v0 v1 v2 v3 hev
  go_upto_region 6 with (fail)
  have hA := HL.out.alloc (.cells (r1.arr (.slice a1 n1 k1)) 37)
  obtain ⟨w1, hw1⟩ : ∃ w1, wD.alloc (.cells (r1.arr (.slice a1 n1 k1)) 37) = w1 := ⟨_, rfl⟩
  obtain ⟨p1, hp1⟩ : ∃ p1, wD.heap.size = p1 := ⟨_, rfl⟩
  rw [hw1, hp1] at hA
  unfold Res.arr at hw1
  rw [hw1, hp1]
  clear hw1 hp1 HL
  have HL := Lib.hid hA
  clear hA
  have hev := HL.out.row (List.Mem.tail _ (List.Mem.head _))
  have v0 := Mem.row_cell hev 0
  have v1 := Mem.row_cell hev 1
  have v2 := Mem.row_cell hev 2
  have v3 := Mem.row_cell hev 3
  simp only [Shard.Env.arr, env0, List.getElem?_toArray, List.getElem?_cons_zero, List.getElem?_cons_succ] at v0 v1 v2 v3
  have hdo := calls_args (args' := #[.pointer (some ⟨b, 0, none⟩), .agg #[.int .i64 10, .string ⟨#[107]⟩, .slice none 0 0, .int .u32 0, .int .i64 0, .int .u64 0, .int .u64 3, .int .u64 0, .bool false, .bool false], .agg #[.int .i64 1, .int .u64 0, .int .i64 0, .int .u64 0]]) (do_law HL.out (by decide) HW.out.1 HW.out.2 ({ cmd 10 keyK with delta := 3 }) (env0 1 0) rfl (by decide) (show ([] : List UInt8).length ≤ 1100000 by decide) (.inr ⟨rfl, rfl⟩) ⟨by show (0 : Int) ≤ 0; decide, by show (0 : Int) ≤ 18446744073709551615; decide⟩ ⟨by show (0 : Int) ≤ 3; decide, by show (3 : Int) ≤ 18446744073709551615; decide⟩) rfl
  go_wp2_with fail
  refine hdo.mono ?_
  rintro e wD ⟨f2, r2, t2, a2, n2, k2, hf, hr, rfl, hn, hL⟩
  have HR2 := Lib.hid (And.intro hf (And.intro hr (And.intro hn HL.out.inv)))
  have HC2 := Lib.hid HL.out.2
  clear HL
  have HL := Lib.hid hL
  clear hf hr hn hL hdo v0 v1 v2 v3 hev
  go_upto_region 7 with (fail)
  have hA := HL.out.alloc (.cells (r2.arr (.slice a2 n2 k2)) 37)
  obtain ⟨w2, hw2⟩ : ∃ w2, wD.alloc (.cells (r2.arr (.slice a2 n2 k2)) 37) = w2 := ⟨_, rfl⟩
  obtain ⟨p2, hp2⟩ : ∃ p2, wD.heap.size = p2 := ⟨_, rfl⟩
  rw [hw2, hp2] at hA
  unfold Res.arr at hw2
  rw [hw2, hp2]
  clear hw2 hp2 HL
  have HL := Lib.hid hA
  clear hA
  have hev := HL.out.row (List.Mem.tail _ (List.Mem.tail _ (List.Mem.head _)))
  have v0 := Mem.row_cell hev 0
  have v1 := Mem.row_cell hev 1
  have v2 := Mem.row_cell hev 2
  have v3 := Mem.row_cell hev 3
  simp only [Shard.Env.arr, env0, List.getElem?_toArray, List.getElem?_cons_zero, List.getElem?_cons_succ] at v0 v1 v2 v3
  have hdo := calls_args (args' := #[.pointer (some ⟨b, 0, none⟩), .agg #[.int .i64 11, .string ⟨#[107]⟩, .slice none 0 0, .int .u32 0, .int .i64 0, .int .u64 0, .int .u64 9, .int .u64 0, .bool false, .bool false], .agg #[.int .i64 1, .int .u64 0, .int .i64 0, .int .u64 0]]) (do_law HL.out (by decide) HW.out.1 HW.out.2 ({ cmd 11 keyK with delta := 9 }) (env0 1 0) rfl (by decide) (show ([] : List UInt8).length ≤ 1100000 by decide) (.inr ⟨rfl, rfl⟩) ⟨by show (0 : Int) ≤ 0; decide, by show (0 : Int) ≤ 18446744073709551615; decide⟩ ⟨by show (0 : Int) ≤ 9; decide, by show (9 : Int) ≤ 18446744073709551615; decide⟩) rfl
  go_wp2_with fail
  refine hdo.mono ?_
  rintro e wD ⟨f3, r3, t3, a3, n3, k3, hf, hr, rfl, hn, hL⟩
  have HR3 := Lib.hid (And.intro hf (And.intro hr (And.intro hn HL.out.inv)))
  have HC3 := Lib.hid HL.out.2
  clear HL
  have HL := Lib.hid hL
  clear hf hr hn hL hdo v0 v1 v2 v3 hev
  go_upto_region 8 with (fail)
  have hA := HL.out.alloc (.cells (r3.arr (.slice a3 n3 k3)) 37)
  obtain ⟨w3, hw3⟩ : ∃ w3, wD.alloc (.cells (r3.arr (.slice a3 n3 k3)) 37) = w3 := ⟨_, rfl⟩
  obtain ⟨p3, hp3⟩ : ∃ p3, wD.heap.size = p3 := ⟨_, rfl⟩
  rw [hw3, hp3] at hA
  unfold Res.arr at hw3
  rw [hw3, hp3]
  clear hw3 hp3 HL
  have HL := Lib.hid hA
  clear hA
  have hpl := awake_plain rfl rfl rfl HR1.out.1 HR2.out.1 HR3.out.1 (by rw [HR1.out.2.1]) HR2.out.2.2.2 HC2.out (by rw [HR2.out.2.1]) HR3.out.2.2.2 HC3.out
  rw [HR1.out.2.1, HR2.out.2.1, HR3.out.2.1] at hpl
  have g1 : r1.status = 2 := hpl.1
  have g2 : r2.status = 7 := hpl.2.1
  have g3 : r2.number = 8 := hpl.2.2.1
  have g4 : r3.status = 7 := hpl.2.2.2.1
  have g5 : r3.number = 0 := hpl.2.2.2.2
  have hbx := HL.out.row (List.Mem.tail _ (List.Mem.tail _ (List.Mem.head _)))
  have x0 := Mem.row_cell hbx 0
  simp only [Res.arr, List.getElem?_toArray, List.getElem?_cons_zero] at x0
  clear hbx
  have hbx := HL.out.row (List.Mem.tail _ (List.Mem.head _))
  have y0 := Mem.row_cell hbx 0
  have y5 := Mem.row_cell hbx 5
  simp only [Res.arr, List.getElem?_toArray, List.getElem?_cons_zero, List.getElem?_cons_succ] at y0 y5
  clear hbx
  have hbx := HL.out.row (List.Mem.head _)
  have z0 := Mem.row_cell hbx 0
  have z5 := Mem.row_cell hbx 5
  simp only [Res.arr, List.getElem?_toArray, List.getElem?_cons_zero, List.getElem?_cons_succ] at z0 z5
  clear hbx
  rw [g1] at x0
  rw [g2] at y0
  rw [g3] at y5
  rw [g4] at z0
  rw [g5] at z5
  clear hpl g1 g2 g3 g4 g5
  go_wp2_with fail
  refine (keyed_any 0 _).mono ?_
  rintro e wk ⟨rfl, hwk⟩
  subst hwk
  rw [show keyed 0 = true from rfl]
  go_wp2_with fail
  refine (keyed_any 14 _).mono ?_
  rintro e wk ⟨rfl, hwk⟩
  subst hwk
  rw [show keyed 14 = false from rfl]
  go_wp2_with fail
  go_ret
  exact ⟨rfl, HL.out.low⟩

end Go.Proofs.YtodoglljjhdbeaaGreatDoor.Exec

/- Layer 12: what the row's listed variables give, and a world that has them. -/
namespace Go.Proofs.YtodoglljjhdbeaaGreatDoor.Laid12
open Go Go.ChangeShapes Go.WideShapes Go.ChangeAt Go.RowKit

abbrev laid : List (String × DataW Unit) := Rows.execDeletesRow.laid
theorem gPow : Tryz.prog.globalNamed "internal/strconv.uint64pow10" = some 0 := by kernel_rfl
theorem gRange : Tryz.prog.globalNamed "strconv.ErrRange" = some 2 := by kernel_rfl
theorem gSyntax : Tryz.prog.globalNamed "strconv.ErrSyntax" = some 1 := by kernel_rfl
theorem gPowT : (Tryz.prog.globals[0]?).map (·.type) = some 194 := by kernel_rfl
theorem gRangeT : (Tryz.prog.globals[2]?).map (·.type) = some 164 := by kernel_rfl
theorem gSyntaxT : (Tryz.prog.globals[1]?).map (·.type) = some 164 := by kernel_rfl
theorem star : "*" ++ "errors.errorString" = "*errors.errorString" := by decide
theorem row (u : TypeId) (h : Tryz.prog.typeName? 3 u = some "*errors.errorString") : u = 203 :=
  typeName_ptr_named (nm := "errors.errorString") (by rw [star]; kernel_rfl) (by kernel_rfl) (by decide) u (by rw [star]; exact h)
theorem pows {W : World} (h : laidMet Tryz.prog laid W) : Exec.Pows W :=
  Lib.tabIs_of_head gPow gPowT Tryz.underlying194 Tryz.underlying25 (by kernel_rfl) (by kernel_rfl) h.tail.tail
theorem errs {W : World} (h : laidMet Tryz.prog laid W) : Exec.Errs W := by
  obtain ⟨a1, s1, h1, _⟩ := laid_sentinel h.tail.tail.tail gRange gRangeT Tryz.underlying164 row Tryz.underlying203 Tryz.underlying205 rfl rfl Tryz.underlying9 (by kernel_rfl) (by kernel_rfl)
  obtain ⟨a2, s2, h2, _⟩ := laid_sentinel h.tail.tail.tail.tail gSyntax gSyntaxT Tryz.underlying164 row Tryz.underlying203 Tryz.underlying205 rfl rfl Tryz.underlying9 (by kernel_rfl) (by kernel_rfl)
  have c1 := World.var?_cell gRange h1 0
  have c2 := World.var?_cell gSyntax h2 0
  exact ⟨⟨_, c2, .inr ⟨_, _, rfl⟩⟩, ⟨_, c1, .inr ⟨_, _, rfl⟩⟩⟩
/-! ### A world that has them -/
abbrev rangeS : ByteArray := ⟨#[118, 97, 108, 117, 101, 32, 111, 117, 116, 32, 111, 102, 32, 114, 97, 110, 103, 101]⟩
abbrev syntaxS : ByteArray := ⟨#[105, 110, 118, 97, 108, 105, 100, 32, 115, 121, 110, 116, 97, 120]⟩
noncomputable def low : Nat := (World.holding Tryz.prog default ⟨#[], #[], []⟩).heap.size
def lay (cs : Array Value) : Obj → Obj
  | .cells _ t frozen => .cells cs t frozen
  | o => o
def tabCells : DataW Unit → Array Value
  | .agg l => (l.map fun
    | .lit (.int k n) => Value.int k n
    | _ => .nilIface).toArray
  | _ => #[]
noncomputable def laidWorld (os : Os) : World :=
  let w0 := World.holding Tryz.prog os ⟨#[.cells #[.string rangeS] 205, .cells #[.string syntaxS] 205], #[], []⟩
  { w0 with heap := ((((w0.heap.modify 3 (lay (tabCells Rows.laid_math_bits_deBruijn32tab))).modify 4 (lay (tabCells Rows.laid_math_bits_deBruijn64tab))).modify 0 (lay (tabCells Rows.laid_internal_strconv_uint64pow10))).modify 2 (lay #[.iface 203 (.pointer (some ⟨low, 0, none⟩))])).modify 1 (lay #[.iface 203 (.pointer (some ⟨low + 1, 0, none⟩))]) }
theorem laid_met (os : Os) (args : Array Value) : laidMet Tryz.prog laid ((laidWorld os).forCall (fun _ _ => 0) ⟨#[], args, []⟩).memory :=
  laidMet_of_run' 8 (by kernel_rfl) (by kernel_rfl)
end Go.Proofs.YtodoglljjhdbeaaGreatDoor.Laid12

