/- Part20: Exec9, Op11, ShardL2, one behind the other. -/
import Derived.Test.YtodoglljjhdbeaaGreatDoorPart16
import Derived.Test.YtodoglljjhdbeaaGreatDoorPart17
import Derived.Test.YtodoglljjhdbeaaGreatDoorPart18
import Derived.Test.YtodoglljjhdbeaaGreatDoorPart19
import Derived.Test.YtodoglljjhdbeaaGreatDoorPart2
import Derived.Test.YtodoglljjhdbeaaGreatDoorPart3
import Derived.Test.YtodoglljjhdbeaaGreatDoorPart11
import Derived.Laws.BytesArg
import Derived.Laws.IdiomStrings
/- Layer 12: without. -/
namespace Go.Proofs.YtodoglljjhdbeaaGreatDoor.Exec
set_option maxRecDepth 100000
open Go Go.RowKit Go.Proofs.YtodoglljjhdbeaaGreatDoor.Mem Go.Proofs.YtodoglljjhdbeaaGreatDoor.App Go.Proofs.YtodoglljjhdbeaaGreatDoor.Shard

section
variable {W w : World} {M b : Nat} {col : Col} {seed : Int} {s : St} {c : Cmd} {env : Env}
theorem without_any (h : Run W w M b col seed s) (hM : M + 1 ≤ 1050000) (hp : Pows w) {a : Option Addr} {n k : Nat} (hn : c.val.length = n) (hks : c.key.size ≤ 2000000) (hvs : c.val.length ≤ 2000000) (hv : Val w col (.slice a n k) c.val) (hi : 0 ≤ c.initial) (hi2 : c.initial < 18446744073709551616) :
    Calls Tryz.prog 22 #[.agg (rarr b c (.slice a n k) env)] w (ExecP W w (M + 1) b col seed s.tab.L fun f => without c env f s) := by
  by_cases h5 : c.op = 5
  · exact without5 h hM hp hn hks hvs hv hi hi2 h5
  by_cases h6 : c.op = 6
  · exact without6 h hM hp hn hks hvs hv hi hi2 h6
  by_cases h7 : c.op = 7
  · exact without7 h hM hp hn hks hvs hv hi hi2 h7
  by_cases h3 : c.op = 3
  · exact without3 h hM hp hn hks hvs hv hi hi2 h3
  by_cases h4 : c.op = 4
  · exact without4 h hM hp hn hks hvs hv hi hi2 h4
  by_cases h10 : c.op = 10
  · exact without10 h hM hp hn hks hvs hv hi hi2 h10
  by_cases h11 : c.op = 11
  · exact without11 h hM hp hn hks hvs hv hi hi2 h11
  by_cases h12 : c.op = 12
  · exact without12 h hM hp hn hks hvs hv hi hi2 h12
  exact withoutE h hM hp hn hks hvs hv hi hi2 h5 h6 h7 h3 h4 h10 h11 h12
end
end Go.Proofs.YtodoglljjhdbeaaGreatDoor.Exec

/- Layer 11's list of calls, as an argument: items with values. -/
namespace Go.Proofs.YtodoglljjhdbeaaGreatDoor.Shard
set_option maxRecDepth 100000
open Go Go.ChangeShapes Go.WideShapes Go.Deep Go.RowKit Go.Proofs.YtodoglljjhdbeaaGreatDoor.Ops Go.Proofs.YtodoglljjhdbeaaGreatDoor.App

def isI (n : Int) : Prop := -9223372036854775808 ≤ n ∧ n ≤ 9223372036854775807
def isU (n : Int) : Prop := 0 ≤ n ∧ n ≤ 18446744073709551615
structure Op where
  kind : Int
  it : Item
  v : Value
  env : Env
def encO (o : Op) : List Value := [.int .i64 o.kind, .string o.it.key, o.v, .int .u32 o.it.flags, .int .i64 o.it.exp, .int .u64 o.it.cas, .int .i64 o.it.sec, .int .u64 o.it.seq, .bool o.it.stale, .bool o.it.won, .bool o.it.seen, .int .i64 o.env.now, .int .u64 o.env.seq, .int .i64 o.env.flush, .int .u64 o.env.flushSeq]
/-- What an item's numbers are. -/
structure ItemOk (it : Item) : Prop where
  key : it.key.size ≤ maxLen
  val : it.val.length ≤ maxLen
  flags : 0 ≤ it.flags ∧ it.flags ≤ 4294967295
  exp : isI it.exp
  cas : isU it.cas
  sec : isI it.sec
  seq : isU it.seq
structure EnvOk (env : Env) : Prop where
  now : isI env.now
  seq : isU env.seq
  flush : isI env.flush
  flushSeq : isU env.flushSeq
structure OpOk (w : World) (o : Op) : Prop where
  kind : isI o.kind
  it : ItemOk o.it
  env : EnvOk o.env
  src : SrcB w o.v o.it.val
  low : ∀ g, o.it.val ≠ [] → o.v.ownBlock = some g → g < w.heap.size
theorem isI_of {n : Int} (h : (Lit.int .i64 n).wf = true) : isI n := by simpa [isI, Lit.wf, IntKind.min, IntKind.max, IntKind.signed, IntKind.bits] using h
theorem isU_of {n : Int} (h : (Lit.int .u64 n).wf = true) : isU n := by simpa [isU, Lit.wf, IntKind.min, IntKind.max, IntKind.signed, IntKind.bits] using h
theorem u32_of {n : Int} (h : (Lit.int .u32 n).wf = true) : 0 ≤ n ∧ n ≤ 4294967295 := by simpa [Lit.wf, IntKind.min, IntKind.max, IntKind.signed, IntKind.bits] using h
theorem u8_of {n : Int} (h : (Lit.int .u8 n).wf = true) : 0 ≤ n ∧ n ≤ 255 := by simpa [Lit.wf, IntKind.min, IntKind.max, IntKind.signed, IntKind.bits] using h

section
variable {H : Type} {enc : TypeId × Value → H} {w : World} {base : Nat} {spare : Nat → Bool} {held : Bool}
/-- Bytes as a part of an argument. -/
theorem open_bytes {m : Nat} {cv : Value} {y : DataW H × List MemPlace} (h : DataW.trod enc Tryz.prog w base spare held m 23 [cv] = some y) : ∃ xs : List UInt8, SrcB w cv xs ∧ xs.length ≤ maxLen := by
  have hc1 : Tryz.prog.cellsOf 5 = 1 := by kernel_rfl
  rcases open_slice1 Tryz.underlying23 hc1 h with ⟨h0, _⟩ | ⟨a, len, cap, m', n', V, D, Pl, hcs, hb, hl, hm, hmm, hx, hi⟩
  · injection h0 with h0
    exact ⟨[], .inr (.inl ⟨h0, rfl, rfl⟩), by unfold maxLen; simp⟩
  · injection hcs with hcs
    subst hcs
    have hlm : len ≤ m' := by rw [hmm]; split <;> omega
    by_cases h0 : len = 0
    · subst h0
      exact ⟨[], .inl ⟨rfl, a, cap, rfl⟩, by unfold maxLen; simp⟩
    obtain ⟨B, off, sp⟩ := a
    have hsp : sp = none := by
      have h1 := (hi 0 (by omega)).1
      simpa [Addr.add] using World.cell?_spot h1
    subst hsp
    have hadd : ∀ k, (⟨B, off, none⟩ : Addr).add k = ⟨B, off + k, none⟩ := fun k => by unfold Addr.add; split <;> simp_all
    have hB : B < w.heap.size := by
      have h1 := (hi 0 (by omega)).1
      rw [hadd] at h1
      exact block_of_cell h1
    have hget : ∀ i, i < len → ∃ b : UInt8, V i = .int .u8 (b.toNat : Nat) := fun i hil => by
      obtain ⟨n0, e0, _, w0⟩ := DataW.trod_int Tryz.underlying5 (hi i (by omega)).2
      injection e0 with e0
      obtain ⟨r0, r1⟩ := u8_of w0
      refine ⟨UInt8.ofNat n0.toNat, ?_⟩
      rw [e0]
      congr 1
      rw [UInt8.toNat_ofNat']
      omega
    refine ⟨List.ofFn fun i : Fin len => Classical.choose (hget i.1 i.2), .inr (.inr ⟨B, off, cap, by rw [List.length_ofFn], by simp [cellsB], hB, fun j u hu => ?_⟩), by rw [List.length_ofFn]; omega⟩
    have hj : j < len := by
      have := (List.getElem?_eq_some_iff.1 hu).1
      simpa [cellsB] using this
    have h1 := (hi j (by omega)).1
    rw [hadd, Classical.choose_spec (hget j hj)] at h1
    rw [h1]
    simp only [cellsB, List.getElem?_map] at hu
    rw [List.getElem?_ofFn, dif_pos hj] at hu
    exact hu
theorem src_low {v : Value} {xs : List UInt8} (h : SrcB w v xs) : ∀ g, xs ≠ [] → v.ownBlock = some g → g < w.heap.size := fun g hx e => by
  rcases h with ⟨h0, _⟩ | h
  · exact absurd h0 hx
  · exact h.lt g e
end
end Go.Proofs.YtodoglljjhdbeaaGreatDoor.Shard

/- Layer 11, the laws' own functions: Same, Few. -/
namespace Go.Proofs.YtodoglljjhdbeaaGreatDoor.Shard
set_option maxRecDepth 100000
open Go Go.RowKit Go.Proofs.YtodoglljjhdbeaaGreatDoor.Mem Go.Proofs.YtodoglljjhdbeaaGreatDoor.App Go.Proofs.YtodoglljjhdbeaaGreatDoor.Ops

def bs (xs : List UInt8) : ByteArray := ⟨xs.toArray⟩
theorem conv_any {w : World} {v : Value} {xs : List UInt8} (h : SrcB w v xs) : (convert 23 9 v).run Tryz.prog w = .ok (.string (bs xs)) w := by
  rcases h with ⟨rfl, a, c, rfl⟩ | ⟨rfl, h1, h2⟩ | ⟨g, off, c, rfl, h1, h2, h3⟩
  · have := run_convert_bytes_back (P := Tryz.prog) w 23 9 5 a c [] Tryz.underlying23 Tryz.underlying5 Tryz.underlying9 (fun j hj => by simp at hj)
    exact this
  · have hx : xs = [] := List.eq_nil_of_length_eq_zero h2
    subst hx
    exact run_convert_bytes_nil w 23 5 Tryz.underlying23 Tryz.underlying5 0 0 9 Tryz.underlying9
  · refine run_convert_bytes_back (P := Tryz.prog) w 23 9 5 ⟨g, off, none⟩ c xs Tryz.underlying23 Tryz.underlying5 Tryz.underlying9 (fun j hj => ?_)
    rw [addr_add]
    refine h3 j _ ?_
    simp [cellsB, List.getElem?_eq_getElem hj]
theorem bs_eq {xs ys : List UInt8} : bs xs = bs ys ↔ xs = ys := by
  constructor
  · intro h
    have h1 := congrArg ByteArray.data h
    have h2 := congrArg Array.toList h1
    simpa [bs] using h2
  · intro h; rw [h]
end Go.Proofs.YtodoglljjhdbeaaGreatDoor.Shard

