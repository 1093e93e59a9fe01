/- Part34: Exec14, Op11, ShardL5, ExecL2, ExecO, ExecL3, ExecL4, RouteM, Route0, Route3, Route1, ShardL7, Route4, one behind the other. -/
import Derived.Test.YtpghckiochjogaaGreatDoorPart33
import Derived.Test.YtpghckiochjogaaGreatDoorPart2
import Derived.Test.YtpghckiochjogaaGreatDoorPart3
import Derived.Test.YtpghckiochjogaaGreatDoorPart10
import Derived.Test.YtpghckiochjogaaGreatDoorPart31
import Derived.Test.YtpghckiochjogaaGreatDoorPart1
import Derived.Deep.RegionHeld3
import Derived.StillTailTactics
import Derived.BigQuiet
import Derived.Test.YtpghckiochjogaaGreatDoorPart5
/- Layer 12: Do. -/
namespace Go.Proofs.YtpghckiochjogaaGreatDoor.Exec
set_option maxRecDepth 100000
open Go Go.RowKit Go.Proofs.YtpghckiochjogaaGreatDoor.Mem Go.Proofs.YtpghckiochjogaaGreatDoor.App Go.Proofs.YtpghckiochjogaaGreatDoor.Shard
section
variable {W w : World} {M b : Nat} {col : Col} {seed : Int} {s : St} {c : Cmd} {env : Env}
theorem run_val15 (h15 : c.op = 15) (f : Nat) : (run c env f s).1.val = [] := by
  unfold run
  rw [if_pos h15]
  rfl
theorem run_val10 (h15 : c.op ≠ 15) (hk : keyed c.op = false) (f : Nat) : (run c env f s).1.val = [] := by
  unfold run
  rw [if_neg h15, if_pos hk]
  rfl
theorem run_valN (h15 : c.op ≠ 15) (hk : keyed c.op = true) (hf : (s.find c.key env).1 = none) (f : Nat) : (run c env f s).1.val = [] := by
  have hst : ∀ it t, (doStore env it f t).1.val = [] := fun it t => by unfold doStore; exact storeR_val _ _
  have hi : ∀ {p : Prop} [Decidable p] {x y : Res × St}, x.1.val = [] → y.1.val = [] → (if p then x else y).1.val = [] := fun {p} _ {x y} h1 h2 => by
    by_cases h : p
    · rw [if_pos h]; exact h1
    · rw [if_neg h]; exact h2
  unfold run
  rw [if_neg h15, if_neg (by rw [hk]; decide), hf]
  show (without c env f _).1.val = []
  unfold without
  refine hi rfl (hi rfl (hi (hst _ _) (hi ?_ (hi ?_ rfl))))
  · unfold number
    refine hi ?_ (hst _ _)
    exact hst _ _
  · unfold win
    exact hi rfl rfl
theorem do_new (h : Run W w M b col seed s) (hM : M + 2 ≤ 1050000) (hp : Pows W) (he : Errs W) {a : Option Addr} {n k : Nat} (hn : c.val.length = n) (hks : c.key.size ≤ 2000000) (hvs : c.val.length ≤ 1100000) (hv : Val w col (.slice a n k) c.val) (hi : 0 ≤ c.initial) (hi2 : c.initial < 18446744073709551616) (hd : 0 ≤ c.delta) (hd2 : c.delta < 18446744073709551616) :
    Calls Tryz.prog 19 #[.pointer (some ⟨b, 0, none⟩), .agg (c.arr (.slice a n k)), .agg env.arr] w (ExecF W w (M + 2) b col seed (looked c env s).tab.L fun f => run c env f s) := by
  by_cases h15 : c.op = 15
  · exact (do15 h hM hp he hn hks hvs hv hi hi2 hd hd2 h15).mono fun _ _ q => ExecP.f q (run_val15 h15)
  rcases hk : keyed c.op with _ | _
  · exact (do10 h hM hp he hn hks hvs hv hi hi2 hd hd2 h15 hk).mono fun _ _ q => ExecP.f q (run_val10 h15 hk)
  rcases hf : (s.find c.key env).1 with _ | x
  · exact (doNone h hM hp he hn hks hvs hv hi hi2 hd hd2 ⟨h15, hk⟩ hf).mono fun _ _ q => ExecP.f q (run_valN h15 hk hf)
  · exact doSome h hM hp he hn hks hvs hv hi hi2 hd hd2 ⟨h15, hk⟩ hf
theorem do_any (h : Run W w M b col seed s) (hM : M + 2 ≤ 1050000) (hp : Pows W) (he : Errs W) {a : Option Addr} {n k : Nat} (hn : c.val.length = n) (hks : c.key.size ≤ 2000000) (hvs : c.val.length ≤ 1100000) (hv : Val w col (.slice a n k) c.val) (hi : 0 ≤ c.initial) (hi2 : c.initial < 18446744073709551616) (hd : 0 ≤ c.delta) (hd2 : c.delta < 18446744073709551616) :
    Calls Tryz.prog 19 #[.pointer (some ⟨b, 0, none⟩), .agg (c.arr (.slice a n k)), .agg env.arr] w (ExecP W w (M + 2) b col seed (looked c env s).tab.L fun f => run c env f s) := by
  exact (do_new h hM hp he hn hks hvs hv hi hi2 hd hd2).mono fun _ _ q => q.p
end
end Go.Proofs.YtpghckiochjogaaGreatDoor.Exec

/- Layer 11's list of calls, as an argument: items with values. -/
namespace Go.Proofs.YtpghckiochjogaaGreatDoor.Shard
set_option maxRecDepth 100000
open Go Go.ChangeShapes Go.WideShapes Go.Deep Go.RowKit Go.Proofs.YtpghckiochjogaaGreatDoor.Ops Go.Proofs.YtpghckiochjogaaGreatDoor.App
def isI (n : Int) : Prop := -9223372036854775808 ≤ n ∧ n ≤ 9223372036854775807
def isU (n : Int) : Prop := 0 ≤ n ∧ n ≤ 18446744073709551615
structure Op where
  kind : Int
  it : Item
  v : Value
  env : Env
def encO (o : Op) : List Value := [.int .i64 o.kind, .string o.it.key, o.v, .int .u32 o.it.flags, .int .i64 o.it.exp, .int .u64 o.it.cas, .int .i64 o.it.sec, .int .u64 o.it.seq, .bool o.it.stale, .bool o.it.won, .bool o.it.seen, .int .i64 o.env.now, .int .u64 o.env.seq, .int .i64 o.env.flush, .int .u64 o.env.flushSeq]
structure ItemOk (it : Item) : Prop where
  key : it.key.size ≤ maxLen
  val : it.val.length ≤ maxLen
  flags : 0 ≤ it.flags ∧ it.flags ≤ 4294967295
  exp : isI it.exp
  cas : isU it.cas
  sec : isI it.sec
  seq : isU it.seq
structure EnvOk (env : Env) : Prop where
  now : isI env.now
  seq : isU env.seq
  flush : isI env.flush
  flushSeq : isU env.flushSeq
structure OpOk (w : World) (o : Op) : Prop where
  kind : isI o.kind
  it : ItemOk o.it
  env : EnvOk o.env
  src : SrcB w o.v o.it.val
  low : ∀ g, o.it.val ≠ [] → o.v.ownBlock = some g → g < w.heap.size
theorem isI_of {n : Int} (h : (Lit.int .i64 n).wf = true) : isI n := by simpa [isI, Lit.wf, IntKind.min, IntKind.max, IntKind.signed, IntKind.bits] using h
theorem isU_of {n : Int} (h : (Lit.int .u64 n).wf = true) : isU n := by simpa [isU, Lit.wf, IntKind.min, IntKind.max, IntKind.signed, IntKind.bits] using h
theorem u32_of {n : Int} (h : (Lit.int .u32 n).wf = true) : 0 ≤ n ∧ n ≤ 4294967295 := by simpa [Lit.wf, IntKind.min, IntKind.max, IntKind.signed, IntKind.bits] using h
theorem u8_of {n : Int} (h : (Lit.int .u8 n).wf = true) : 0 ≤ n ∧ n ≤ 255 := by simpa [Lit.wf, IntKind.min, IntKind.max, IntKind.signed, IntKind.bits] using h
section
variable {H : Type} {enc : TypeId × Value → H} {w : World} {base : Nat} {spare : Nat → Bool} {held : Bool}
theorem open_bytes {m : Nat} {cv : Value} {y : DataW H × List MemPlace} (h : DataW.trod enc Tryz.prog w base spare held m 30 [cv] = some y) : ∃ xs : List UInt8, SrcB w cv xs ∧ xs.length ≤ maxLen := by
  have hc1 : Tryz.prog.cellsOf 5 = 1 := by kernel_rfl
  rcases open_slice1 Tryz.underlying30 hc1 h with ⟨h0, _⟩ | ⟨a, len, cap, m', n', V, D, Pl, hcs, hb, hl, hm, hmm, hx, hi⟩
  · injection h0 with h0
    exact ⟨[], .inr (.inl ⟨h0, rfl, rfl⟩), by unfold maxLen; simp⟩
  · injection hcs with hcs
    subst hcs
    have hlm : len ≤ m' := by rw [hmm]; split <;> omega
    by_cases h0 : len = 0
    · subst h0
      exact ⟨[], .inl ⟨rfl, a, cap, rfl⟩, by unfold maxLen; simp⟩
    obtain ⟨B, off, sp⟩ := a
    have hsp : sp = none := by
      have h1 := (hi 0 (by omega)).1
      simpa [Addr.add] using World.cell?_spot h1
    subst hsp
    have hadd : ∀ k, (⟨B, off, none⟩ : Addr).add k = ⟨B, off + k, none⟩ := fun k => by unfold Addr.add; split <;> simp_all
    have hB : B < w.heap.size := by
      have h1 := (hi 0 (by omega)).1
      rw [hadd] at h1
      exact block_of_cell h1
    have hget : ∀ i, i < len → ∃ b : UInt8, V i = .int .u8 (b.toNat : Nat) := fun i hil => by
      obtain ⟨n0, e0, _, w0⟩ := DataW.trod_int Tryz.underlying5 (hi i (by omega)).2
      injection e0 with e0
      obtain ⟨r0, r1⟩ := u8_of w0
      refine ⟨UInt8.ofNat n0.toNat, ?_⟩
      rw [e0]
      congr 1
      rw [UInt8.toNat_ofNat']
      omega
    refine ⟨List.ofFn fun i : Fin len => Classical.choose (hget i.1 i.2), .inr (.inr ⟨B, off, cap, by rw [List.length_ofFn], by simp [cellsB], hB, fun j u hu => ?_⟩), by rw [List.length_ofFn]; omega⟩
    have hj : j < len := by
      have := (List.getElem?_eq_some_iff.1 hu).1
      simpa [cellsB] using this
    have h1 := (hi j (by omega)).1
    rw [hadd, Classical.choose_spec (hget j hj)] at h1
    rw [h1]
    simp only [cellsB, List.getElem?_map] at hu
    rw [List.getElem?_ofFn, dif_pos hj] at hu
    exact hu
theorem src_low {v : Value} {xs : List UInt8} (h : SrcB w v xs) : ∀ g, xs ≠ [] → v.ownBlock = some g → g < w.heap.size := fun g hx e => by
  rcases h with ⟨h0, _⟩ | h
  · exact absurd h0 hx
  · exact h.lt g e
end
end Go.Proofs.YtpghckiochjogaaGreatDoor.Shard

/- Layer 11's laws: what they have in common. -/
namespace Go.Proofs.YtpghckiochjogaaGreatDoor.Shard
set_option maxRecDepth 100000
open Go Go.RowKit Go.Proofs.YtpghckiochjogaaGreatDoor.Mem Go.Proofs.YtpghckiochjogaaGreatDoor.App Go.Proofs.YtpghckiochjogaaGreatDoor.Ops
end Go.Proofs.YtpghckiochjogaaGreatDoor.Shard

/- Layer 12, plain: the laws, of commands one behind the other. -/
namespace Go.Proofs.YtpghckiochjogaaGreatDoor.Exec
open Go Go.Proofs.YtpghckiochjogaaGreatDoor.Shard
def cmd (op : Int) (k : ByteArray) : Cmd := ⟨op, k, [], 0, 0, 0, 0, 0, false, false⟩
section
variable {n N : Nat} {s : St} {f f1 f2 f3 f4 f5 f6 : Nat}
end
end Go.Proofs.YtpghckiochjogaaGreatDoor.Exec

/- Layer 12, plain: who has something is never refused, where the budget holds the greatest chunk. -/
namespace Go.Proofs.YtpghckiochjogaaGreatDoor.Exec
open Go Go.Proofs.YtpghckiochjogaaGreatDoor.Shard
section
variable {n N : Nat} {s : St} {it : Shard.Item} {env : Env} {f : Nat} {B : Int}
theorem used_sum (h : Inv n N s) : s.slab.used = Slab.total (s.tab.L.map fun p => (s.ent p.2).chunk) := by
  rw [h.slab.sum]
  have : ∀ {l m : List (Int × Int)}, l.Perm m → Slab.total l = Slab.total m := fun hp => by
    induction hp with
    | nil => rfl
    | cons x _ ih => rw [Slab.total_cons, Slab.total_cons, ih]
    | swap x y l => simp only [Slab.total_cons]; omega
    | trans _ _ h1 h2 => exact h1.trans h2
  exact this h.mem
theorem room_old {less : Int} (hB : 2048 ≤ B) (h6 : Slab.classN it.size < 6) : ∀ (g : Nat) (t : St) {N : Nat}, Inv n N t → t.slab.budget = B → (∃ x, (it.key, x) ∈ t.tab.L ∧ t.less (some x) = less) → t.order.all.length < g → (St.room it true less env g t).1 = 0
  | 0, t, _, _, _, _, hg => by omega
  | g + 1, t, N, hi, hb, hx, hg => by
    rcases room_cases (it := it) (old := true) (less := less) (env := env) g t with ⟨h1, e⟩ | ⟨hf, hv, e⟩ | ⟨hf, v, hv, hne, hm, ⟨e1, e⟩ | ⟨y, hy, ⟨_, e⟩ | ⟨e1, _, _, e⟩⟩⟩
    · rw [e]
    · exfalso
      obtain ⟨x, hx1, hx2⟩ := hx
      have hall : ∀ k ∈ t.order.all, k = it.key := fun k hk => by
        unfold Slru.St.victim at hv
        have := List.find?_eq_none.1 hv k hk
        simpa using this
      have hL : ∀ p ∈ t.tab.L, p = (it.key, x) := fun p hp => by
        have h1 := hall p.1 ((hi.keys p.1).2 (List.mem_map.2 ⟨p, hp, rfl⟩))
        have h2 := (Tab.get_mem hi.rise.nodup (k := it.key) (v := x)).2 hx1
        have h3 := (Tab.get_mem hi.rise.nodup (k := it.key) (v := p.2)).2 (by rw [← h1]; exact hp)
        rw [h2] at h3
        injection h3 with h3
        rw [h3, ← h1]
      have hL1 : t.tab.L = [(it.key, x)] := by
        have hnd := Rising.nd hi.rise
        match hl : t.tab.L with
        | [] => rw [hl] at hx1; cases hx1
        | [p] => rw [hl] at hL; rw [hL p (by simp)]
        | p :: q :: r =>
          rw [hl] at hL hnd
          have h1 := hL p (by simp)
          have h2 := hL q (by simp)
          rw [h1, h2] at hnd
          simp at hnd
      have hu := used_sum hi
      rw [hL1] at hu
      have hu2 : t.slab.used = Slab.bytesI (t.ent x).chunk.1 := by rw [hu]; show Slab.total [(t.ent x).chunk] = _; rw [Slab.total_cons]; show _ + (0 : Int) = _; omega
      have hl : less = Slab.bytesI (t.ent x).chunk.1 := hx2.symm
      have hbr := Slab.bytes_range (t.ent x).chunk.1
      have hbr2 := Slab.bytes_range (Slab.classN it.size : Nat)
      have : t.slab.fits it.size less = true := by
        unfold Slab.St.fits
        exact decide_eq_true ⟨h6, by omega, by omega, by omega⟩
      rw [hf] at this; cases this
    · exfalso
      exact get_none hi.rise e1 ((hi.keys v).1 hm)
    · rw [e]
      obtain ⟨x, hx1, hx2⟩ := hx
      have hd := hi.tick.drop v
      have hbud : (t.tick.drop v).slab.budget = B := by
        show ((t.tick.remove v).2).slab.budget = B
        unfold St.remove
        split
        · exact (slab_free_le _ _).1.trans hb
        · exact hb
      refine room_old hB h6 g (t.tick.drop v) hd hbud ⟨x, ?_, ?_⟩ ?_
      · rw [drop_L t.tick v hi.rise]
        exact Tab.mem_del.2 ⟨hx1, fun e1 => hne e1.symm⟩
      · rw [less_at t _ (drop_ent t.tick v)]; exact hx2
      · have h1 := hd.olen
        have h2 := hi.olen
        rw [drop_L t.tick v hi.rise] at h1
        have h3 := Tab.del_len hi.rise ((hi.keys v).1 hm)
        have h4 : (Tab.del t.tick.tab.L v).length + 1 = t.tab.L.length := h3
        omega
    · cases e1
theorem store_old (h : Inv n N s) (hb : s.slab.budget = B) (hB : 2048 ≤ B) (h6 : it.size ≤ 2048) {a : Shard.Item} (ha : seen s it.key env = some a) : (s.store f it env).1 = 0 := by
  have hc : Slab.classN it.size < 6 := by
    unfold Slab.classN
    repeat' split
    all_goals omega
  rcases store_two h it env f with ⟨e6, _⟩ | ⟨_, _, _, ⟨_, _, e⟩ | ⟨e1, e⟩⟩
  · omega
  · rw [e]
  · exfalso
    rw [seen_eq] at ha
    obtain ⟨x, hx, hxa⟩ := Option.map_eq_some_iff.1 ha
    obtain ⟨g1, g2, g3⟩ := find_some hx
    refine e1 ?_
    unfold St.roomed
    rw [hx, g3]
    show (St.room it true (s.tick.less (some x)) env (s.tick.order.all.length + 1) s.tick).1 = 0
    exact room_old (n := n) hB hc _ _ h.tick hb ⟨x, (Tab.get_mem h.rise.nodup).1 g1, rfl⟩ (Nat.lt_succ_self _)
end
end Go.Proofs.YtpghckiochjogaaGreatDoor.Exec

/- Layer 12, plain: the laws of those who store again. -/
namespace Go.Proofs.YtpghckiochjogaaGreatDoor.Exec
open Go Go.Proofs.YtpghckiochjogaaGreatDoor.Shard
section
variable {n N : Nat} {s : St} {c : Cmd} {env : Env} {it : Shard.Item} {f f1 f2 f3 f4 f5 f6 : Nat} {B : Int} {k : ByteArray}
theorem cap_used (h : Cap B s) (k : ByteArray) : Cap B (used s k) := ⟨h.budget, h.used⟩
theorem cap_looked (h : Cap B s) : Cap B (looked c env s) := cap_used (h.find _ _) _
theorem again (h : Inv n N s) (hcp : Cap B s) (hB : 2048 ≤ B) (hks : c.key.size ≤ 2000000) (hf : ∀ p ∈ (looked c env s).tab.L, p.2 ≠ f) {a : Shard.Item} (hs : seen s c.key env = some a) (hk : it.key = c.key) (hz : it.size ≤ 2048) :
    doStore env it f (looked c env s) = ({ only 2 with cas := it.cas }, (doStore env it f (looked c env s)).2) ∧ has (doStore env it f (looked c env s)).2 c.key = some it := by
  have hin := looked_inv (c := c) (env := env) h
  have hl := looked_key (env := env) (c := c) h
  have hlive := (seen_has hs).2
  rw [hs] at hl
  have h0 : ((looked c env s).store f it env).1 = 0 := store_old hin (cap_looked hcp).budget hB hz (by rw [hk]; exact has_seen hl hlive)
  have h1 := has_store hin h0 (by rw [hk]; exact hks) hf
  rw [hk] at h1
  refine ⟨?_, h1⟩
  unfold doStore storeR
  rw [if_pos h0]
end
end Go.Proofs.YtpghckiochjogaaGreatDoor.Exec

/- Layer 12, plain: the laws of those who join, and of those who reckon. -/
namespace Go.Proofs.YtpghckiochjogaaGreatDoor.Exec
open Go Go.Proofs.YtpghckiochjogaaGreatDoor.Shard
section
variable {n N : Nat} {s : St} {c : Cmd} {env : Env} {it : Shard.Item} {f f1 f2 f3 f4 f5 f6 : Nat} {B : Int} {k : ByteArray}
theorem wrap_id {z : Int} (h0 : 0 ≤ z) (h1 : z ≤ 18446744073709551615) : IntKind.u64.wrap z = z := by
  simp [IntKind.wrap, IntKind.signed, IntKind.bits]; omega
end
end Go.Proofs.YtpghckiochjogaaGreatDoor.Exec

/- Layer 21: several shards in memory, none touching another. -/
namespace Go.Proofs.YtpghckiochjogaaGreatDoor.Route
set_option maxRecDepth 100000
open Go Go.RowKit Go.Proofs.YtpghckiochjogaaGreatDoor.Mem Go.Proofs.YtpghckiochjogaaGreatDoor.App Go.Proofs.YtpghckiochjogaaGreatDoor.Shard Go.Proofs.YtpghckiochjogaaGreatDoor.Exec
structure RS where
  seed : Int
  ss : List Shard.St
  seq : Int
  flush : Int
  flushSeq : Int
structure Shs (W w : World) (M : Nat) (bs : List Nat) (cols : Nat → Col) (seed : Int) (ss : List Shard.St) : Prop where
  len : bs.length = ss.length
  runs : ∀ i b s, bs[i]? = some b → ss[i]? = some s → Run W w M b (cols i) (IntKind.u64.wrap (seed + i)) s
  apart : ∀ i j k, i < bs.length → j < bs.length → i ≠ j → cols i k ≠ none → cols j k = none
section
variable {W w w' : World} {M M' : Nat} {bs : List Nat} {cols : Nat → Col} {seed : Int} {ss : List Shard.St}
theorem Shs.below (h : Shs W w M bs cols seed ss) (hb : Below w.heap.size w w') : Shs W w' M bs cols seed ss := ⟨h.len, fun i b s h1 h2 => (h.runs i b s h1 h2).step hb, h.apart⟩
theorem Shs.more (h : Shs W w M bs cols seed ss) (hm : M ≤ M') (hM : M' ≤ 1050000) : Shs W w M' bs cols seed ss := ⟨h.len, fun i b s h1 h2 => (h.runs i b s h1 h2).more hm hM, h.apart⟩
theorem Shs.at (h : Shs W w M bs cols seed ss) {i : Nat} (hi : i < bs.length) : ∃ b s, bs[i]? = some b ∧ ss[i]? = some s ∧ Run W w M b (cols i) (IntKind.u64.wrap (seed + i)) s :=
  ⟨_, _, List.getElem?_eq_getElem hi, List.getElem?_eq_getElem (h.len ▸ hi), h.runs i _ _ (List.getElem?_eq_getElem hi) (List.getElem?_eq_getElem (h.len ▸ hi))⟩
theorem Shs.low (h : Shs W w M bs cols seed ss) {i k : Nat} (hi : i < bs.length) (hk : cols i k ≠ none) : W.heap.size ≤ k ∧ k < w.heap.size := by
  obtain ⟨b, s, _, _, hr⟩ := h.at hi
  exact hr.low k hk
theorem Shs.free (h : Shs W w M bs cols seed ss) {i k : Nat} (hi : i < bs.length) (hk : w.heap.size ≤ k) : cols i k = none := Classical.byContradiction fun hn => by
  have := (h.low hi hn).2
  omega
theorem Shs.aside {F : Nat → Prop} (h : Shs W w M bs cols seed ss) (ho : Only F w w') (hF : ∀ i k, i < bs.length → F k → cols i k = none ∧ W.heap.size ≤ k) : Shs W w' M bs cols seed ss :=
  ⟨h.len, fun i b s h1 h2 => ⟨(h.runs i b s h1 h2).at_.aside ho (fun k hk => hF i k (List.getElem?_eq_some_iff.1 h1).1 hk), (h.runs i b s h1 h2).inv⟩, h.apart⟩
def updC (cols : Nat → Col) (i : Nat) (c : Col) : Nat → Col := fun j => if j = i then c else cols j
theorem Shs.turn (h : Shs W w M bs cols seed ss) {i b : Nat} {t : Shard.St} {col' : Col} (hi : bs[i]? = some b) (hr : Run W w' M' b col' (IntKind.u64.wrap (seed + i)) t) (hf : Fr (cols i) col' w w') (hm : M ≤ M') (hM : M' ≤ 1050000) :
    Shs W w' M' bs (updC cols i col') seed (ss.set i t) := by
  have hil := (List.getElem?_eq_some_iff.1 hi).1
  refine ⟨by rw [List.length_set]; exact h.len, fun j b' s h1 h2 => ?_, fun j j' k h1 h2 hne hk => ?_⟩
  · by_cases e : j = i
    · subst e
      rw [hi] at h1
      injection h1 with h1
      subst h1
      rw [List.getElem?_set_self (by rw [← h.len]; exact hil)] at h2
      injection h2 with h2
      subst h2
      unfold updC
      rw [if_pos rfl]
      exact hr
    · rw [List.getElem?_set_ne (Ne.symm e)] at h2
      unfold updC
      rw [if_neg e]
      have hj := (List.getElem?_eq_some_iff.1 h1).1
      have h0 := h.runs j b' s h1 h2
      exact (⟨h0.at_.aside hf.1 (fun k hk => ⟨h.apart i j k hil hj (Ne.symm e) hk, (h.low hil hk).1⟩), h0.inv⟩ : Run W w' M b' (cols j) _ s).more hm hM
  · have hg : ∀ k, col' k ≠ none → cols i k ≠ none ∨ w.heap.size ≤ k := hf.2
    unfold updC at hk ⊢
    by_cases e : j = i
    · subst e
      rw [if_pos rfl] at hk
      rw [if_neg (Ne.symm hne)]
      rcases hg k hk with hk | hk
      · exact h.apart j j' k h1 h2 hne hk
      · exact h.free h2 hk
    · rw [if_neg e] at hk
      by_cases e' : j' = i
      · subst e'
        rw [if_pos rfl]
        refine Classical.byContradiction fun hn => ?_
        rcases hg k hn with hn | hn
        · exact hn (h.apart j j' k h1 h2 hne hk)
        · have := (h.low h1 hk).2
          omega
      · rw [if_neg e']
        exact h.apart j j' k h1 h2 hne hk
end
theorem Shs.push {W w w' : World} {bs : List Nat} {cols : Nat → Col} {seed : Int} {ss : List Shard.St} {M b : Nat} {col : Col} {t : Shard.St} (h : Shs W w M bs cols seed ss) (hb : Below w.heap.size w w') (hr : Run W w' M b col (IntKind.u64.wrap (seed + bs.length)) t) (hc : ∀ k, col k ≠ none → w.heap.size ≤ k) :
    Shs W w' M (bs ++ [b]) (updC cols bs.length col) seed (ss ++ [t]) := by
  refine ⟨by rw [List.length_append, List.length_append, h.len]; rfl, fun j b' s h1 h2 => ?_, fun j j' k h1 h2 hne hk => ?_⟩
  · by_cases e : j < bs.length
    · rw [List.getElem?_append_left e] at h1
      rw [List.getElem?_append_left (h.len ▸ e)] at h2
      unfold updC
      rw [if_neg (by omega)]
      exact (h.runs j b' s h1 h2).step hb
    · have hj : j = bs.length := by
        have := (List.getElem?_eq_some_iff.1 h1).1
        rw [List.length_append, List.length_singleton] at this
        omega
      subst hj
      rw [List.getElem?_append_right (Nat.le_refl _), Nat.sub_self] at h1
      rw [h.len, List.getElem?_append_right (Nat.le_refl _), Nat.sub_self] at h2
      injection h1 with h1
      injection h2 with h2
      subst h1 h2
      unfold updC
      rw [if_pos rfl]
      exact hr
  · rw [List.length_append, List.length_singleton] at h1 h2
    unfold updC at hk ⊢
    by_cases e : j = bs.length
    · rw [if_pos e] at hk
      rw [if_neg (by omega)]
      exact h.free (by omega) (hc k hk)
    · rw [if_neg e] at hk
      by_cases e' : j' = bs.length
      · rw [if_pos e']
        refine Classical.byContradiction fun hn => ?_
        have h3 := hc k hn
        have h4 := (h.low (i := j) (by omega) hk).2
        omega
      · rw [if_neg e']
        exact h.apart j j' k (by omega) (by omega) hne hk
def LM (W w : World) (M : Nat) (bs : List Nat) (seed : Int) (ss : List Shard.St) (xs : List (Nat × Obj)) : Prop :=
  ∃ cols, Shs W w M bs cols seed ss ∧ ∀ p ∈ xs, w.heap[p.1]? = some p.2 ∧ W.heap.size ≤ p.1 ∧ ∀ i, i < bs.length → cols i p.1 = none
section
variable {W w w' : World} {M M' : Nat} {bs : List Nat} {seed : Int} {ss : List Shard.St} {xs xs' : List (Nat × Obj)}
theorem LM.below (h : LM W w M bs seed ss xs) (hb : Below w.heap.size w w') : LM W w' M bs seed ss xs := by
  obtain ⟨cols, h1, h2⟩ := h
  exact ⟨cols, h1.below hb, fun p hp => ⟨(hb.block _ (Array.getElem?_eq_some_iff.1 (h2 p hp).1).1).trans (h2 p hp).1, (h2 p hp).2⟩⟩
theorem LM.more (h : LM W w M bs seed ss xs) (hm : M ≤ M') (hM : M' ≤ 1050000) : LM W w M' bs seed ss xs := by
  obtain ⟨cols, h1, h2⟩ := h
  exact ⟨cols, h1.more hm hM, h2⟩
theorem LM.sub (h : LM W w M bs seed ss xs) (hs : ∀ p ∈ xs', p ∈ xs) : LM W w M bs seed ss xs' := by
  obtain ⟨cols, h1, h2⟩ := h
  exact ⟨cols, h1, fun p hp => h2 p (hs p hp)⟩
theorem LM.row (h : LM W w M bs seed ss xs) {p : Nat × Obj} (hp : p ∈ xs) : w.heap[p.1]? = some p.2 := by
  obtain ⟨cols, h1, h2⟩ := h
  exact (h2 p hp).1
theorem LM.len (h : LM W w M bs seed ss xs) : bs.length = ss.length := by
  obtain ⟨cols, h1, h2⟩ := h
  exact h1.len
theorem LM.low (h : LM W w M bs seed ss xs) (hn : 0 < bs.length) : Below W.heap.size W w := by
  obtain ⟨cols, h1, h2⟩ := h
  obtain ⟨b, s, _, _, hr⟩ := h1.at hn
  exact hr.below
theorem LM.alloc (h : LM W w M bs seed ss xs) (hW : W.heap.size ≤ w.heap.size) (o : Obj) : LM W (w.alloc o) M bs seed ss ((w.heap.size, o) :: xs) := by
  obtain ⟨cols, h1, h2⟩ := h
  have hb := Mem.al (Below.refl w.heap.size w) o
  refine ⟨cols, h1.below hb, fun p hp => ?_⟩
  rcases List.mem_cons.1 hp with rfl | hp
  · exact ⟨Mem.new_block w o, hW, fun i hi => h1.free hi (Nat.le_refl _)⟩
  · exact ⟨(hb.block _ (Array.getElem?_eq_some_iff.1 (h2 p hp).1).1).trans (h2 p hp).1, (h2 p hp).2⟩
theorem LM.write {p : Nat} {o : Obj} (h : LM W w M bs seed ss ((p, o) :: xs)) {o' : Obj} (ho : Only (fun k => k = p) w w') (hr : w'.heap[p]? = some o') (hx : ∀ q ∈ xs, q.1 ≠ p) : LM W w' M bs seed ss ((p, o') :: xs) := by
  obtain ⟨cols, h1, h2⟩ := h
  have hp := h2 (p, o) (List.mem_cons_self ..)
  refine ⟨cols, h1.aside ho (fun i k hi e => by subst e; exact ⟨hp.2.2 i hi, hp.2.1⟩), fun q hq => ?_⟩
  rcases List.mem_cons.1 hq with rfl | hq
  · exact ⟨hr, hp.2⟩
  · have h3 := h2 q (List.mem_cons_of_mem _ hq)
    exact ⟨(ho.same q.1 (Array.getElem?_eq_some_iff.1 h3.1).1 (hx q hq)).trans h3.1, h3.2⟩
def Held (W : World) (xs : List (Nat × Obj)) (v : Value) : Prop := ∀ g, v.ownBlock = some g → g < W.heap.size ∨ ∃ o, (g, o) ∈ xs
theorem Held.mono {v : Value} (h : Held W xs v) (hs : ∀ p ∈ xs, p ∈ xs') : Held W xs' v := fun g e => (h g e).imp_right fun ⟨o, ho⟩ => ⟨o, hs _ ho⟩
theorem LM.src {M' : Nat} {bs' : List Nat} {ss' : List Shard.St} {v : Value} {l : List UInt8} (h : LM W w M bs seed ss xs) (h' : LM W w' M' bs' seed ss' xs') (hn : 0 < bs.length) (hn' : 0 < bs'.length) (hs : ∀ p ∈ xs, p ∈ xs') (hz : w.heap.size ≤ w'.heap.size) (hv : SrcB w v l) (ho : l ≠ [] → Held W xs v) : SrcB w' v l :=
  hv.same (fun hx g e hg => by
    rcases ho hx g e with h1 | ⟨o, h1⟩
    · exact ((h'.low hn').block g h1).trans ((h.low hn).block g h1).symm
    · exact (h'.row (hs _ h1)).trans (h.row h1).symm) hz
theorem LM.exec (h : LM W w M bs seed ss xs) (hM : M + 2 ≤ 1050000) (hp : Pows W) (he : Errs W) {i b : Nat} {s : Shard.St} (hb : bs[i]? = some b) (hs : ss[i]? = some s) (c : Cmd) (env : Env) {a : Option Addr} {n k : Nat} (hn : c.val.length = n) (hks : c.key.size ≤ 2000000) (hvs : c.val.length ≤ 1100000) (hv : SrcB w (.slice a n k) c.val) (hlow : c.val ≠ [] → Held W xs (.slice a n k)) (hi : Shard.isU c.initial) (hd : Shard.isU c.delta) :
    Calls Tryz.prog 19 #[.pointer (some ⟨b, 0, none⟩), .agg (c.arr (.slice a n k)), .agg env.arr] w fun e w' =>
      ∃ f r t v ys, (∀ p ∈ (looked c env s).tab.L, p.2 ≠ f) ∧ Exec.run c env f s = (r, t) ∧ e = .returned (.agg (r.arr v)) ∧ (∃ a n k, v = .slice a n k) ∧ LM W w' (M + 2) bs seed (ss.set i t) (xs ++ ys) ∧ (∀ p ∈ ys, w.heap.size ≤ p.1) ∧ SrcB w' v r.val ∧ (r.val ≠ [] → Held W ys v) ∧ w.heap.size ≤ w'.heap.size := by
  obtain ⟨cols, h1, h2⟩ := h
  have hr := h1.runs i b s hb hs
  have hil := (List.getElem?_eq_some_iff.1 hb).1
  unfold Shard.isU at hi hd
  refine (do_new hr hM hp he hn hks hvs ⟨hv, fun hx g e => Classical.byContradiction fun hn => by
    rcases hlow hx g e with h3 | ⟨o, h3⟩
    · have := (h1.low hil hn).1; omega
    · exact hn ((h2 _ h3).2.2 i hil)⟩ hi.1 (by omega) hd.1 (by omega)).mono ?_
  rintro e w' ⟨f, v, col', g1, g2, g3, g4, g5, g6⟩
  obtain ⟨a', k', hsh⟩ := g5.shape
  have hlow2 : ∀ p ∈ xs, w'.heap[p.1]? = some p.2 ∧ W.heap.size ≤ p.1 ∧ ∀ j, j < bs.length → updC cols i col' j p.1 = none := fun p hp => by
    have h3 := h2 p hp
    have hb3 := Box.turn g4 h3.1 (h3.2.2 i hil)
    refine ⟨hb3.1, h3.2.1, fun j hj => ?_⟩
    unfold updC
    by_cases e : j = i
    · rw [if_pos e]; exact hb3.2
    · rw [if_neg e]; exact h3.2.2 j hj
  have hturn := h1.turn hb g3 g4 (by omega) hM
  rcases hval : (run c env f s).1.val with _ | ⟨u, l⟩
  · exact ⟨f, _, _, v, [], g1, rfl, g2, ⟨a', _, k', hsh⟩, by rw [List.append_nil]; exact ⟨updC cols i col', hturn, hlow2⟩, fun p hp => (nomatch hp), g5.src, fun hx => absurd hval hx, g4.1.size⟩
  · have hne : (run c env f s).1.val ≠ [] := by rw [hval]; exact List.cons_ne_nil _ _
    have hnew : ∀ g, v.ownBlock = some g → w.heap.size ≤ g ∧ g < w'.heap.size ∧ col' g = none := fun g e => ⟨g6 g hne e, by
      rcases g5.src with ⟨e1, _⟩ | h3
      · exact absurd e1 hne
      · exact h3.lt g e, g5.own hne g e⟩
    rcases ho : v.ownBlock with _ | g
    · exact ⟨f, _, _, v, [], g1, rfl, g2, ⟨a', _, k', hsh⟩, by rw [List.append_nil]; exact ⟨updC cols i col', hturn, hlow2⟩, fun p hp => (nomatch hp), g5.src, fun _ g e => (by rw [ho] at e; cases e), g4.1.size⟩
    · obtain ⟨q1, q2, q3⟩ := hnew g ho
      refine ⟨f, _, _, v, [(g, w'.heap[g])], g1, rfl, g2, ⟨a', _, k', hsh⟩, ⟨updC cols i col', hturn, fun p hp => ?_⟩, fun p hp => by rw [List.mem_singleton.1 hp]; exact q1, g5.src, fun _ g' e => ?_, g4.1.size⟩
      · rcases List.mem_append.1 hp with hp | hp
        · exact hlow2 p hp
        · rw [List.mem_singleton.1 hp]
          refine ⟨Array.getElem?_eq_some_iff.2 ⟨q2, rfl⟩, Nat.le_trans hr.below.size q1, fun j hj => ?_⟩
          unfold updC
          by_cases e : j = i
          · rw [if_pos e]; exact q3
          · rw [if_neg e]; exact h1.free hj q1
      · rw [ho] at e
        injection e with e
        subst e
        exact .inr ⟨_, List.mem_singleton_self _⟩
theorem LM.push {b : Nat} {col : Col} {t : Shard.St} (h : LM W w M bs seed ss xs) (hb : Below w.heap.size w w') (hr : Run W w' M b col (IntKind.u64.wrap (seed + bs.length)) t) (hc : ∀ k, col k ≠ none → w.heap.size ≤ k) : LM W w' M (bs ++ [b]) seed (ss ++ [t]) xs := by
  obtain ⟨cols, h1, h2⟩ := h
  refine ⟨updC cols bs.length col, h1.push hb hr hc, fun p hp => ⟨(hb.block _ (Array.getElem?_eq_some_iff.1 (h2 p hp).1).1).trans (h2 p hp).1, (h2 p hp).2.1, fun i hi => ?_⟩⟩
  rw [List.length_append, List.length_singleton] at hi
  unfold updC
  by_cases e : i = bs.length
  · rw [if_pos e]
    refine Classical.byContradiction fun hn => ?_
    have h3 := hc _ hn
    have h4 := (Array.getElem?_eq_some_iff.1 (h2 p hp).1).1
    omega
  · rw [if_neg e]
    exact (h2 p hp).2.2 i (by omega)
theorem LM.nil (W w : World) (M : Nat) (seed : Int) : LM W w M [] seed [] [] :=
  ⟨fun _ _ => Option.none, ⟨rfl, fun i b s h1 h2 => by simp at h1, fun i j k h1 => by simp at h1⟩, fun p hp => (nomatch hp)⟩
end
end Go.Proofs.YtpghckiochjogaaGreatDoor.Route

/- Layer 21: Place. -/
namespace Go.Proofs.YtpghckiochjogaaGreatDoor.Route
set_option maxRecDepth 100000
open Go Go.RowKit Go.Proofs.YtpghckiochjogaaGreatDoor.Mem Go.Proofs.YtpghckiochjogaaGreatDoor.App Go.Proofs.YtpghckiochjogaaGreatDoor.Shard Go.Proofs.YtpghckiochjogaaGreatDoor.Exec
theorem place_any {w : World} {sb n : Nat} {v : Value} {seed seq flush fs : Int} {a : Option Addr} {cap : Nat} (hv : v = .slice a n cap) (hr : w.heap[sb]? = some (.cells #[.int .u64 seed, v, .int .u64 seq, .int .i64 flush, .int .u64 fs] 59 (0, 0))) (hs : 0 ≤ seed ∧ seed < 18446744073709551616) (hn : n ≤ 8) (key : ByteArray) (hk : key.size ≤ maxLen) :
    Calls Tryz.prog 12 #[.pointer (some ⟨sb, 0, none⟩), .string key] w fun e w' => e = .returned (.int .i64 (Hash.belowI (Hash.ofI seed key.data.toList) n)) ∧ Below w.heap.size w w' := by
  subst hv
  have c0 := Mem.row_cell hr 0
  have c1 := Mem.row_cell hr 1
  simp only [List.getElem?_toArray, List.getElem?_cons_zero, List.getElem?_cons_succ] at c0 c1
  have hof := fun w' => Hash.of_any seed key hs.1 hs.2 hk w'
  have hrg := Hash.ofI_range (seed := seed) key.data.toList hs.1 hs.2
  obtain ⟨z, hz⟩ : ∃ z, Hash.ofI seed key.data.toList = z := ⟨_, rfl⟩
  rw [hz] at hof hrg ⊢
  have hbe := fun w' => Hash.below_any z (n : Int) hrg.1 hrg.2 (by omega) w'
  have c0d : w.drew.cell? ⟨sb, 0, none⟩ = some (.int .u64 seed) := c0
  have c1d : w.drew.cell? ⟨sb, 1, none⟩ = some (.slice a n cap) := c1
  have hb0 := Lib.hid (Below.drew (Below.refl w.heap.size w))
  clear hr hs hk hz hrg
  go_enter Tryz.func12, Tryz.ntmps12
  go_wp2_with fail
  go_region_held3 (fun W' : World => W'.cell? ⟨sb, 0, none⟩ = some (.int .u64 seed) ∧ W'.cell? ⟨sb, 1, none⟩ = some (.slice a n cap)) (first
    | exact ⟨c0d, c1d⟩) (first
    | (go_at_call 24; refine (hof _).mono ?_; rintro en wO ⟨rfl, hO⟩; subst hO)
    | (go_at_call 23; refine (hbe _).mono ?_; rintro en wO ⟨rfl, hO⟩; subst hO))
  all_goals (go_wp2_with fail)
  go_ret
  exact ⟨rfl, hb0.out⟩
end Go.Proofs.YtpghckiochjogaaGreatDoor.Route

/- Layer 21: Flush of a second. -/
namespace Go.Proofs.YtpghckiochjogaaGreatDoor.Route
set_option maxRecDepth 100000
open Go Go.RowKit Go.Proofs.YtpghckiochjogaaGreatDoor.Mem Go.Proofs.YtpghckiochjogaaGreatDoor.App Go.Proofs.YtpghckiochjogaaGreatDoor.Shard Go.Proofs.YtpghckiochjogaaGreatDoor.Exec
def flushS (exp : Int) (env : Shard.Env) : Shard.Env := if 0 < exp then { env with flush := atS exp env.now, flushSeq := 0 } else { env with flush := max env.now 1, flushSeq := env.seq }
theorem env_size (e : Shard.Env) : (Tryz.prog.info? 35).map (·.size) = some e.arr.size := by
  rw [show e.arr.size = 4 from rfl]; kernel_rfl
theorem flush_any (exp : Int) (env : Shard.Env) (w : World) : Calls Tryz.prog 22 #[.int .i64 exp, .agg env.arr] w fun e w' => e = .returned (.agg (flushS exp env).arr) ∧ Below w.heap.size w w' := by
  obtain ⟨now, seq, fl, fs⟩ := env
  have hat := at_item exp now
  obtain ⟨x, hx⟩ : ∃ x, atS exp now = x := ⟨_, rfl⟩
  rw [hx] at hat
  by_cases h0 : 0 < exp
  · have e1 : flushS exp ⟨now, seq, fl, fs⟩ = ⟨now, seq, x, 0⟩ := by unfold flushS; rw [if_pos h0]; show Shard.Env.mk now seq (atS exp now) 0 = _; rw [hx]
    rw [e1]
    clear e1 hx
    unfold Shard.Env.arr
    by_cases h1 : 1 > now
    all_goals
      go_enter Tryz.func22, Tryz.ntmps22
      go_wp2_with fail
      refine (hat _).mono ?_
      rintro en wO ⟨rfl, hO⟩
      subst hO
      go_wp2_with fail
      exact bodyPost_ret (results_cell_row Tryz.results22 _ _ (w.heap.size + 1) _ _ _ _ rfl (Mem.new_block2 w _ _) Tryz.underlying35 rfl (env_size ⟨now, seq, x, 0⟩)) rfl ⟨rfl, Mem.al (Mem.al (Below.refl _ _) _) _⟩
  · have e1 : flushS exp ⟨now, seq, fl, fs⟩ = ⟨now, seq, max now 1, seq⟩ := by unfold flushS; rw [if_neg h0]
    rw [e1]
    clear e1 hx hat
    unfold Shard.Env.arr
    by_cases h1 : 1 > now
    · rw [show max now 1 = 1 by omega]
      go_enter Tryz.func22, Tryz.ntmps22
      go_wp2_with fail
      exact bodyPost_ret (results_cell_row Tryz.results22 _ _ (w.heap.size + 1) _ _ _ _ rfl (Mem.new_block2 w _ _) Tryz.underlying35 rfl (env_size ⟨now, seq, 1, seq⟩)) rfl ⟨(by first | rfl | rw [show max now 1 = 1 by omega]), Mem.al (Mem.al (Below.refl _ _) _) _⟩
    · rw [show max now 1 = now by omega]
      go_enter Tryz.func22, Tryz.ntmps22
      go_wp2_with fail
      exact bodyPost_ret (results_cell_row Tryz.results22 _ _ (w.heap.size + 1) _ _ _ _ rfl (Mem.new_block2 w _ _) Tryz.underlying35 rfl (env_size ⟨now, seq, now, seq⟩)) rfl ⟨(by first | rfl | rw [show max now 1 = now by omega]), Mem.al (Mem.al (Below.refl _ _) _) _⟩
end Go.Proofs.YtpghckiochjogaaGreatDoor.Route

/- Layer 21: a store in memory. -/
namespace Go.Proofs.YtpghckiochjogaaGreatDoor.Route
set_option maxRecDepth 100000
open Go Go.RowKit Go.Proofs.YtpghckiochjogaaGreatDoor.Mem Go.Proofs.YtpghckiochjogaaGreatDoor.App Go.Proofs.YtpghckiochjogaaGreatDoor.Shard Go.Proofs.YtpghckiochjogaaGreatDoor.Exec
def RS.arr (r : RS) (v : Value) : Array Value := #[.int .u64 r.seed, v, .int .u64 r.seq, .int .i64 r.flush, .int .u64 r.flushSeq]
def RS.place (r : RS) (k : ByteArray) : Int := Hash.belowI (Hash.ofI r.seed k.data.toList) r.ss.length
def SM (W w : World) (M sb : Nat) (r : RS) (xs : List (Nat × Obj)) : Prop :=
  ∃ (bs : List Nat) (g cap : Nat) (gc : Array Value) (gt : TypeId), LM W w M bs r.seed r.ss ((sb, .cells (r.arr (.slice (some ⟨g, 0, none⟩) r.ss.length cap)) 59) :: (g, .cells gc gt) :: xs) ∧ (∀ (i b : Nat), bs[i]? = some b → gc[i]? = some (Value.pointer (some ⟨b, 0, none⟩))) ∧ sb ≠ g ∧ (∀ p ∈ xs, p.1 ≠ sb ∧ p.1 ≠ g) ∧ 1 ≤ r.ss.length ∧ r.ss.length ≤ 8 ∧ (0 ≤ r.seed ∧ r.seed < 18446744073709551616)
end Go.Proofs.YtpghckiochjogaaGreatDoor.Route

/- Layer 11: Drops hands its row over: it is the caller's own from then on. -/
namespace Go.Proofs.YtpghckiochjogaaGreatDoor.Shard
set_option maxRecDepth 100000
open Go Go.RowKit Go.Proofs.YtpghckiochjogaaGreatDoor.Mem Go.Proofs.YtpghckiochjogaaGreatDoor.App
def shed (col : Col) : Col := fun k => if col k = some .drops then none else col k
theorem shed_of {col : Col} {k : Nat} {p : Part} (h : col k = some p) (hp : p ≠ .drops) : shed col k = some p := by
  unfold shed
  rw [if_neg (by rw [h]; intro e; injection e with e; exact hp e)]; exact h
theorem of_shed {col : Col} {k : Nat} {p : Part} (h : shed col k = some p) : col k = some p := by
  unfold shed at h
  split at h
  · cases h
  · exact h
theorem shed_ne {col : Col} {k : Nat} (h : shed col k ≠ none) : col k ≠ none := by
  rcases hc : shed col k with _ | p
  · exact absurd hc h
  · rw [of_shed hc]; simp
theorem Parts.shed {W w : World} {n : Nat} {hl : Nat → Prop} {col : Col} {ad : Addrs} {seed : Int} {s : St} {vd : Value} {vv : Nat → Value} (h : Parts W w n hl col ad seed s vd vv) (hv : vd.ownBlock = none) : Parts W w n hl (Shard.shed col) ad seed s vd vv := by
  obtain ⟨Ft, ht1, ht2⟩ := h.tab
  obtain ⟨Fs, hs1, hs2⟩ := h.slab
  obtain ⟨Fo, ho1, ho2⟩ := h.order
  refine ⟨h.self, shed_of h.csb (by simp), ⟨Ft, ht1, fun k hk => shed_of (ht2 k hk) (by simp)⟩, h.sm, ⟨Fs, hs1, fun k hk => shed_of (hs2 k hk) (by simp)⟩, ⟨Fo, ho1, fun k hk => shed_of (ho2 k hk) (by simp)⟩, h.judge, ⟨shed_of h.cj.1 (by simp), shed_of h.cj.2.1 (by simp), shed_of h.cj.2.2 (by simp)⟩, h.drops, fun g e => (by rw [hv] at e; cases e), fun q hq hn => ?_, fun k p e => h.lt k p (of_shed e), h.below⟩
  obtain ⟨a1, a2, a3, a4, a5⟩ := h.ents q hq hn
  exact ⟨a1, a2, a3, shed_of a4 (by simp), fun g e => ⟨shed_of (a5 g e).1 (by simp), (a5 g e).2⟩⟩
section
variable {W w : World} {n b M : Nat} {col : Col} {seed : Int} {s : St}
theorem drops_own (h : At W w n b col seed s) : Calls Tryz.prog 21 #[.pointer (some ⟨b, 0, none⟩)] w fun e w' => ∃ v col', e = .returned v ∧ At W w' n b col' seed { s with drops := [] } ∧ Fr col col' w w' ∧ w'.ownsRow W.heap.size 9 1 v s.drops.length (cellsS s.drops) ∧ (∀ g, v.ownBlock = some g → col' g = Option.none) ∧ ∀ g, v.ownBlock = some g → col g = some .drops := by
  obtain ⟨ad, vd, vv, rfl, h⟩ := h
  have c4 : w.cell? ⟨ad.sb, 4, none⟩ = some vd := Mem.row_cell h.self 4
  have f4 := Mem.row_free h.self 4
  obtain ⟨a, c, hv⟩ := Src.shape (Src.of_row h.drops)
  subst hv
  have HH := Lib.hid h
  clear h
  go_enter Tryz.func21, Tryz.ntmps21
  go_wp2_with fail
  go_ret
  have h := HH.out
  have ht := (h.turnDrops (Only.refl _ _) (l := []) (vd' := .slice none 0 0) (World.ownsRow_nil _ _ _ _) (fun g e => by cases e)).shed rfl
  refine ⟨_, _, rfl, ⟨ad, _, vv, rfl, ht⟩, ⟨(Only.refl _ _).setCell (p := ⟨ad.sb, 4, none⟩) (.inl (by rw [h.csb]; simp)) _, fun k hk => ?_⟩, ?_, fun g e => ?_, fun g e => h.cd g e⟩
  · have hk := shed_ne hk
    unfold recol at hk
    by_cases h1 : k < w.heap.size
    · rw [if_pos h1] at hk; exact .inl hk
    · exact .inr (by omega)
  · refine row_keep ⟨h.drops.1, ?_⟩ fun g e => Below.heap_setCell _ _ _ _ (fun e1 => ?_)
    · rcases h.drops.2 with h1 | ⟨g, cap, cur, h1, h2, h3⟩
      · exact .inl h1
      · exact .inr ⟨g, cap, cur, h1, (h.lt _ _ (h.cd g (by rw [h1]; rfl))).1, h3⟩
    · have h1 := h.cd g e
      rw [show g = ad.sb from e1, h.csb] at h1
      cases h1
  · unfold Shard.shed
    rw [if_pos (h.recol_of (h.cd g e))]
theorem drops_run2 (h : Run W w M b col seed s) :
    Calls Tryz.prog 21 #[.pointer (some ⟨b, 0, none⟩)] w fun e w' => ∃ v col', e = .returned v ∧ Run W w' M b col' seed { s with drops := [] } ∧ Fr col col' w w' ∧ w'.ownsRow W.heap.size 9 1 v s.drops.length (cellsS s.drops) ∧ (∀ g, v.ownBlock = some g → col' g = Option.none) ∧ ∀ g, v.ownBlock = some g → col g = some .drops := by
  refine (drops_own h.at_).mono ?_
  rintro e w' ⟨v, col', h1, h2, h3, h4, h5, h6⟩
  exact ⟨v, col', h1, ⟨h2, h.inv.emptied⟩, h3, h4, h5, h6⟩
end
end Go.Proofs.YtpghckiochjogaaGreatDoor.Shard

/- Layer 21: what a store gives and takes in Do. -/
namespace Go.Proofs.YtpghckiochjogaaGreatDoor.Route
set_option maxRecDepth 100000
open Go Go.RowKit Go.Proofs.YtpghckiochjogaaGreatDoor.Mem Go.Proofs.YtpghckiochjogaaGreatDoor.App Go.Proofs.YtpghckiochjogaaGreatDoor.Shard Go.Proofs.YtpghckiochjogaaGreatDoor.Exec
section
variable {W w w' : World} {M sb : Nat} {bs : List Nat} {seed : Int} {ss : List Shard.St} {xs : List (Nat × Obj)} {r : RS}
theorem LM.drops (h : LM W w M bs seed ss xs) (hM : M ≤ 1050000) {i b : Nat} {s : Shard.St} (hb : bs[i]? = some b) (hs : ss[i]? = some s) :
    Calls Tryz.prog 21 #[.pointer (some ⟨b, 0, none⟩)] w fun e w' => ∃ v ys, e = .returned v ∧ (∃ a n k, v = .slice a n k) ∧ LM W w' M bs seed (ss.set i { s with drops := [] }) (xs ++ ys) ∧ (∀ p ∈ ys, ∀ q ∈ xs, q.1 ≠ p.1) ∧ Src w' 1 v s.drops.length (cellsS s.drops) ∧ Held W ys v ∧ w.heap.size ≤ w'.heap.size := by
  obtain ⟨cols, h1, h2⟩ := h
  have hr := h1.runs i b s hb hs
  have hil := (List.getElem?_eq_some_iff.1 hb).1
  refine (drops_run2 hr).mono ?_
  rintro e w' ⟨v, col', rfl, g3, g4, g5, g6, g7⟩
  obtain ⟨a, k, hsh⟩ := Src.shape (Src.of_row g5)
  have hturn := h1.turn (M' := M) hb g3 g4 (Nat.le_refl _) hM
  have hlow2 : ∀ p ∈ xs, w'.heap[p.1]? = some p.2 ∧ W.heap.size ≤ p.1 ∧ ∀ j, j < bs.length → updC cols i col' j p.1 = none := fun p hp => by
    have h3 := h2 p hp
    have hb3 := Box.turn g4 h3.1 (h3.2.2 i hil)
    refine ⟨hb3.1, h3.2.1, fun j hj => ?_⟩
    unfold updC
    by_cases e : j = i
    · rw [if_pos e]; exact hb3.2
    · rw [if_neg e]; exact h3.2.2 j hj
  rcases ho : v.ownBlock with _ | g
  · exact ⟨v, [], rfl, ⟨a, _, k, hsh⟩, by rw [List.append_nil]; exact ⟨updC cols i col', hturn, hlow2⟩, fun p hp => (nomatch hp), Src.of_row g5, fun g e => (by rw [ho] at e; cases e), g4.1.size⟩
  · have q2 := own_block_lt g5 g ho
    have q3 := g6 g ho
    have q4 := g7 g ho
    refine ⟨v, [(g, w'.heap[g]'q2.2)], rfl, ⟨a, _, k, hsh⟩, ⟨updC cols i col', hturn, fun p hp => ?_⟩, fun p hp q hq e => ?_, Src.of_row g5, fun g' e => ?_, g4.1.size⟩
    · rcases List.mem_append.1 hp with hp | hp
      · exact hlow2 p hp
      · rw [List.mem_singleton.1 hp]
        refine ⟨Array.getElem?_eq_some_iff.2 ⟨q2.2, rfl⟩, q2.1, fun j hj => ?_⟩
        unfold updC
        by_cases e : j = i
        · rw [if_pos e]; exact q3
        · rw [if_neg e]
          exact h1.apart i j g hil hj (Ne.symm e) (by rw [q4]; simp)
    · rw [List.mem_singleton.1 hp] at e
      have h3 := (h2 q hq).2.2 i hil
      rw [show q.1 = g from e, q4] at h3
      cases h3
    · rw [ho] at e
      injection e with e
      subst e
      exact .inr ⟨_, List.mem_singleton_self _⟩
theorem LM.r0 {p : Nat} {o : Obj} {l : List (Nat × Obj)} (h : LM W w M bs seed ss ((p, o) :: l)) : w.heap[p]? = some o := h.row (List.mem_cons_self ..)
theorem LM.r1 {q : Nat × Obj} {p : Nat} {o : Obj} {l : List (Nat × Obj)} (h : LM W w M bs seed ss (q :: (p, o) :: l)) : w.heap[p]? = some o := h.row (List.mem_cons_of_mem _ (List.mem_cons_self ..))
theorem LM.r2 {q q2 : Nat × Obj} {p : Nat} {o : Obj} {l : List (Nat × Obj)} (h : LM W w M bs seed ss (q :: q2 :: (p, o) :: l)) : w.heap[p]? = some o := h.row (List.mem_cons_of_mem _ (List.mem_cons_of_mem _ (List.mem_cons_self ..)))
theorem LM.r3 {q q2 q3 : Nat × Obj} {p : Nat} {o : Obj} {l : List (Nat × Obj)} (h : LM W w M bs seed ss (q :: q2 :: q3 :: (p, o) :: l)) : w.heap[p]? = some o := h.row (List.mem_cons_of_mem _ (List.mem_cons_of_mem _ (List.mem_cons_of_mem _ (List.mem_cons_self ..))))
theorem LM.r4 {q q2 q3 q4 : Nat × Obj} {p : Nat} {o : Obj} {l : List (Nat × Obj)} (h : LM W w M bs seed ss (q :: q2 :: q3 :: q4 :: (p, o) :: l)) : w.heap[p]? = some o := h.row (p := (p, o)) (by simp)
theorem LM.lt (h : LM W w M bs seed ss xs) : ∀ q ∈ xs, q.1 < w.heap.size := fun _ hq => (Array.getElem?_eq_some_iff.1 (h.row hq)).1
theorem only_setRow (g : Nat) (cs : Array Value) : Only (fun k => k = g) w (w.setRow g cs) := ⟨rfl, rfl, rfl, by rw [size_setRow]; exact Nat.le_refl _, fun k _ hn => setRow_other _ _ _ _ hn⟩
theorem LM.setRow {d : Nat} {zs : Array Value} {T : TypeId} {fr : Nat × Nat} (h : LM W w M bs seed ss ((d, .cells zs T fr) :: xs)) (hd : ∀ q ∈ xs, q.1 ≠ d) (cs : Array Value) : LM W (w.setRow d cs) M bs seed ss ((d, .cells cs T fr) :: xs) :=
  h.write (only_setRow d cs) (setRow_heap _ _ _ _ _ _ h.r0) hd
theorem LM.setCell {d j : Nat} {zs : Array Value} {T : TypeId} {fr : Nat × Nat} (h : LM W w M bs seed ss ((d, .cells zs T fr) :: xs)) (hd : ∀ q ∈ xs, q.1 ≠ d) (u : Value) : LM W (w.setCell ⟨d, j, none⟩ u) M bs seed ss ((d, .cells (zs.setIfInBounds j u) T fr) :: xs) :=
  h.write ((Only.refl (fun k => k = d) w).setCell (.inl rfl) u) (Mem.row_set h.r0 j u) hd
structure Exd (W w : World) (n0 M : Nat) (bs : List Nat) (seed : Int) (ss : List Shard.St) (i : Nat) (t : Shard.St) (l ys : List (Nat × Obj)) (c : Cmd) (env : Shard.Env) (s : Shard.St) (f : Nat) (x : Res) (xv : Value) : Prop where
  new : ∀ p ∈ (looked c env s).tab.L, p.2 ≠ f
  run : Exec.run c env f s = (x, t)
  lm : LM W w (M + 2) bs seed (ss.set i t) l
  lo : ∀ p ∈ ys, n0 ≤ p.1
  sub : ∀ p ∈ ys, p ∈ l
  src : SrcB w xv x.val
  held : x.val ≠ [] → Held W ys xv
  size : n0 ≤ w.heap.size
theorem Exd.move {n0 n1 i f : Nat} {t s : Shard.St} {l l' ys : List (Nat × Obj)} {c : Cmd} {env : Shard.Env} {x : Res} {xv : Value} (h : Exd W w n0 M bs seed ss i t l ys c env s f x xv) (hn : 0 < bs.length) (hm : LM W w' (M + 2) bs seed (ss.set i t) l') (hs : ∀ p ∈ ys, p ∈ l') (hz : w.heap.size ≤ w'.heap.size) (h1 : n1 ≤ n0) : Exd W w' n1 M bs seed ss i t l' ys c env s f x xv :=
  ⟨h.new, h.run, hm, fun p hp => Nat.le_trans h1 (h.lo p hp), hs, LM.src (h.lm.sub h.sub) hm hn hn hs hz h.src h.held, h.held, Nat.le_trans h1 (Nat.le_trans h.size hz)⟩
theorem Exd.sub' {n0 i f d : Nat} {o : Obj} {t s : Shard.St} {l ys : List (Nat × Obj)} {c : Cmd} {env : Shard.Env} {x : Res} {xv : Value} (h : Exd W w n0 M bs seed ss i t ((d, o) :: l) ys c env s f x xv) (hd : d < n0) : ∀ p ∈ ys, p ∈ l := fun p hp => by
  rcases List.mem_cons.1 (h.sub p hp) with e | h1
  · exfalso
    have := h.lo p hp
    rw [e] at this
    exact absurd this (Nat.not_le_of_lt hd)
  · exact h1
theorem Exd.fresh2 {n0 i f : Nat} {zs : Array Value} {T : TypeId} {t s : Shard.St} {l ys : List (Nat × Obj)} {c : Cmd} {env : Shard.Env} {x : Res} {xv : Value} (h : Exd W w n0 M bs seed ss i t l ys c env s f x xv) (hn : 0 < bs.length) (cs : Array Value) : (∀ q ∈ l, q.1 ≠ w.heap.size) ∧ Exd W ((w.alloc (.cells zs T)).setRow w.heap.size cs) n0 M bs seed ss i t ((w.heap.size, .cells cs T (0, 0)) :: l) ys c env s f x xv :=
  ⟨fun q hq => by have := h.lm.lt q hq; omega, h.move hn ((h.lm.alloc (h.lm.low hn).size (.cells zs T)).setRow (fun q hq => by have := h.lm.lt q hq; omega) cs) (fun p hp => List.mem_cons_of_mem _ (h.sub p hp)) (by rw [size_setRow, World.size_alloc]; omega) (Nat.le_refl _)⟩
theorem Exd.fill {n1 i f d : Nat} {zs : Array Value} {T : TypeId} {t s : Shard.St} {l ys : List (Nat × Obj)} {c : Cmd} {env : Shard.Env} {x : Res} {xv : Value} (h : Exd W w (d + 1) M bs seed ss i t ((d, .cells zs T (0, 0)) :: l) ys c env s f x xv) (hn : 0 < bs.length) (hl : ∀ q ∈ l, q.1 ≠ d) (cs : Array Value) (h1 : n1 ≤ d + 1) : (∀ q ∈ l, q.1 ≠ d) ∧ Exd W (w.setRow d cs) n1 M bs seed ss i t ((d, .cells cs T (0, 0)) :: l) ys c env s f x xv :=
  ⟨hl, h.move hn (h.lm.setRow hl cs) (fun p hp => List.mem_cons_of_mem _ (h.sub' (Nat.lt_succ_self _) p hp)) (by rw [size_setRow]; exact Nat.le_refl _) h1⟩
theorem apart_of {d : Nat} {pre xs ys : List (Nat × Obj)} (h : ∀ q ∈ pre ++ xs, q.1 < d) (hy : ∀ q ∈ ys, d + 1 ≤ q.1) : ∀ q ∈ pre ++ (xs ++ ys), q.1 ≠ d := fun q hq => by
  rcases List.mem_append.1 hq with h1 | h1
  · have := h q (List.mem_append_left _ h1); omega
  · rcases List.mem_append.1 h1 with h1 | h1
    · have := h q (List.mem_append_right _ h1); omega
    · have := hy q h1; omega
def doneArr (c : Cmd) (cv : Value) (env : Shard.Env) (x : Res) (rv dv : Value) : Array Value := #[.int .i64 0, .int .i64 c.op, .string c.key, cv, .int .u32 c.flags, .int .i64 c.exp, .int .u64 c.cas, .int .u64 c.delta, .int .u64 c.initial, .bool c.makes, .bool c.sets, .int .i64 env.now, .int .u64 env.seq, .int .i64 env.flush, .int .u64 env.flushSeq, .int .i64 x.status, rv, .int .u32 x.flags, .int .u64 x.cas, .int .i64 x.ttl, .int .u64 x.number, .bool x.stale, .bool x.won, .bool x.lost, dv]
def zeroD : Array Value := #[.int .i64 0, .int .i64 0, .string ⟨#[]⟩, .slice none 0 0, .int .u32 0, .int .i64 0, .int .u64 0, .int .u64 0, .int .u64 0, .bool false, .bool false, .int .i64 0, .int .u64 0, .int .i64 0, .int .u64 0, .int .i64 0, .slice none 0 0, .int .u32 0, .int .u64 0, .int .i64 0, .int .u64 0, .bool false, .bool false, .bool false, .slice none 0 0]
theorem done_size (c : Cmd) (cv : Value) (env : Shard.Env) (x : Res) (rv dv : Value) : (Tryz.prog.info? 40).map (·.size) = some (doneArr c cv env x rv dv).size := by
  rw [show (doneArr c cv env x rv dv).size = 25 from rfl]; kernel_rfl
theorem done_one (c : Cmd) (a : Option Addr) (n k : Nat) (env : Shard.Env) (x : Res) (ra : Option Addr) (rn rk : Nat) (da : Option Addr) (dn dk : Nat) : (doneArr c (.slice a n k) env x (.slice ra rn rk) (.slice da dn dk)).all (·.oneCell') = true := by
  unfold doneArr
  rw [List.all_toArray]
  simp [Value.oneCell']
theorem done_sz : (Tryz.prog.info? 40).map (·.size) = some 25 := by kernel_rfl
def RS.env (r : RS) (now : Int) : Shard.Env := ⟨now, r.seq, r.flush, r.flushSeq⟩
def RS.up (r : RS) : RS := { r with seq := IntKind.u64.wrap (r.seq + 1) }
def RS.after (r : RS) (i : Nat) (t : Shard.St) (c : Cmd) (now : Int) : RS :=
  if keyed c.op = true then { r.up with ss := r.ss.set i { t with drops := [] } }
  else if c.op = 13 then { r.up with ss := r.ss.set i t, flush := (flushS c.exp (r.env now)).flush, flushSeq := (flushS c.exp (r.env now)).flushSeq }
  else { r.up with ss := r.ss.set i t }
def dropped (c : Cmd) (t : Shard.St) : List ByteArray := if keyed c.op = true then t.drops else []
def RS.Step (r : RS) (c : Cmd) (now : Int) (x : Res) (dl : List ByteArray) (r' : RS) : Prop :=
  ∃ (i : Nat) (s t : Shard.St) (f : Nat), r.place c.key = i ∧ r.ss[i]? = some s ∧ (∀ p ∈ (looked c (r.env now) s).tab.L, p.2 ≠ f) ∧ Exec.run c (r.env now) f s = (x, t) ∧ dl = dropped c t ∧ r' = r.after i t c now
def DoP (W w : World) (M sb : Nat) (r : RS) (c : Cmd) (cv : Value) (now : Int) (xs : List (Nat × Obj)) (e : Ending) (w' : World) : Prop :=
  ∃ (x : Res) (dl : List ByteArray) (r' : RS) (ra : Option Addr) (rn rk : Nat) (da : Option Addr) (dn dk : Nat) (ys : List (Nat × Obj)), r.Step c now x dl r' ∧ e = .returned (.agg (doneArr c cv (r.env now) x (.slice ra rn rk) (.slice da dn dk))) ∧ SM W w' (M + 2) sb r' (xs ++ ys) ∧ SrcB w' (.slice ra rn rk) x.val ∧ (x.val ≠ [] → Held W ys (.slice ra rn rk)) ∧
    Src w' 1 (.slice da dn dk) dl.length (cellsS dl) ∧ Held W ys (.slice da dn dk) ∧ w.heap.size ≤ w'.heap.size
theorem LM.srcS {M' : Nat} {bs' : List Nat} {ss' : List Shard.St} {xs' : List (Nat × Obj)} {v : Value} {size m : Nat} {l : List Value} (h : LM W w M bs seed ss xs) (h' : LM W w' M' bs' seed ss' xs') (hn : 0 < bs.length) (hn' : 0 < bs'.length) (hs : ∀ p ∈ xs, p ∈ xs') (hz : w.heap.size ≤ w'.heap.size) (hv : Src w size v m l) (ho : Held W xs v) : Src w' size v m l :=
  hv.same (fun g e => by
    rcases ho g e with h1 | ⟨o, h1⟩
    · exact ((h'.low hn').block g h1).trans ((h.low hn).block g h1).symm
    · exact (h'.row (hs _ h1)).trans (h.row h1).symm) hz
theorem src_none (w : World) : Src w 1 (.slice none 0 0) ([] : List ByteArray).length (cellsS []) := .inl ⟨rfl, rfl, rfl⟩
theorem held_none (W : World) (l : List (Nat × Obj)) : Held W l (.slice none 0 0) := fun g e => by cases e
theorem DoP.of {wc wz : World} {c : Cmd} {cv : Value} {now : Int} {x : Res} {dl : List ByteArray} {r' : RS} {g cap n0 i f : Nat} {gc : Array Value} {gt : TypeId} {ra : Option Addr} {rn rk : Nat} {da : Option Addr} {dn dk : Nat} {l ys yz : List (Nat × Obj)} {s t : Shard.St} {ss0 : List Shard.St} {env : Shard.Env} (hx : Exd W wc n0 M bs r.seed ss0 i t l ys c env s f x (.slice ra rn rk))
    (hst : r.Step c now x dl r') (hL : LM W wz (M + 2) bs r.seed r'.ss ((sb, .cells (r'.arr (.slice (some ⟨g, 0, none⟩) r.ss.length cap)) 59) :: (g, .cells gc gt) :: (xs ++ yz))) (hyy : ∀ p ∈ ys, p ∈ yz) (hz : wc.heap.size ≤ wz.heap.size) (hn0 : w.heap.size ≤ n0)
    (hgc : ∀ (i b : Nat), bs[i]? = some b → gc[i]? = some (Value.pointer (some ⟨b, 0, none⟩))) (hsg : sb ≠ g) (hxs : ∀ p ∈ xs, p.1 ≠ sb ∧ p.1 ≠ g) (hyz : ∀ p ∈ yz, p.1 ≠ sb ∧ p.1 ≠ g) (h1 : 1 ≤ r.ss.length) (h8 : r.ss.length ≤ 8) (hsd : 0 ≤ r.seed ∧ r.seed < 18446744073709551616)
    (hlen : r'.ss.length = r.ss.length) (hseed : r'.seed = r.seed) (hdl : Src wz 1 (.slice da dn dk) dl.length (cellsS dl)) (hdh : Held W yz (.slice da dn dk)) : DoP W w M sb r c cv now xs (.returned (.agg (doneArr c cv (r.env now) x (.slice ra rn rk) (.slice da dn dk)))) wz := by
  have hbl : 0 < bs.length := by have := hL.len; omega
  refine ⟨x, dl, r', ra, rn, rk, da, dn, dk, yz, hst, rfl, ⟨bs, g, cap, gc, gt, by rw [hlen, hseed]; exact hL, hgc, hsg, fun p hp => ?_, by omega, by omega, by rw [hseed]; exact hsd⟩, ?_, fun hv => (hx.held hv).mono hyy, hdl, hdh, Nat.le_trans hn0 (Nat.le_trans hx.size hz)⟩
  · rcases List.mem_append.1 hp with hp | hp
    · exact hxs p hp
    · exact hyz p hp
  · exact LM.src (hx.lm.sub hx.sub) hL hbl hbl (fun p hp => List.mem_cons_of_mem _ (List.mem_cons_of_mem _ (List.mem_append_right _ (hyy p hp)))) hz hx.src hx.held
end
end Go.Proofs.YtpghckiochjogaaGreatDoor.Route

