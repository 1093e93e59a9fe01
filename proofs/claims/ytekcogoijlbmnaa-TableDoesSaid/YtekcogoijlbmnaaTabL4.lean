/- Layer 9: calls in a run, as laws read them. -/
import Derived.Test.YtekcogoijlbmnaaTabL3
namespace Go.Proofs.Ytekcogoijlbmnaa.TabL
open Go Go.RowKit Go.Proofs.Ytekcogoijlbmnaa.Mem Go.Proofs.Ytekcogoijlbmnaa.Ops Go.Proofs.Ytekcogoijlbmnaa.Tab Go.Proofs.Ytekcogoijlbmnaa.TabI

def gv (L : Pairs V) (k : ByteArray) : Int := match Tab.get L k with
  | some v => v
  | none => 0
def gb (L : Pairs V) (k : ByteArray) : Bool := (Tab.get L k).isSome
theorem getV_eq (L : Pairs V) (k : ByteArray) : getV L k = .tuple #[.int .i64 (gv L k), .bool (gb L k)] := by
  unfold getV gv gb
  rcases Tab.get L k with _ | v <;> rfl
def puts (l : List TabL.Op) : St V := l.foldl (fun s o => s.put o.key o.v) new
theorem puts_snoc {l : List TabL.Op} {m : Nat} {o : TabL.Op} (h : l[m]? = some o) : puts (l.take (m + 1)) = (puts (l.take m)).put o.key o.v := by
  unfold puts; rw [List.take_add_one, h]; simp
theorem facts_last {L : Pairs V} (h : Rising L) {key other : ByteArray} (v : V) (hn : ¬ key = other) :
    gv (put L key v) key = v ∧ gb (put L key v) key = true ∧ gv (put L key v) other = gv L other ∧ gb (put L key v) other = gb L other ∧
    gb (del (put L key v) key) key = false ∧ gv (del (put L key v) key) other = gv L other ∧ gb (del (put L key v) key) other = gb L other := by
  have hn' : ¬ other = key := fun e => hn e.symm
  unfold gv gb
  rw [get_del (rising_put h key v), get_del (rising_put h key v), get_put h, get_put h]
  simp [hn']
section
variable {W w : World} {n b : Nat} {F : Nat → Prop} {seed : Int} {s : St V}
theorem get' (h : Run W w n b F seed s) (k : ByteArray) (hk : k.size ≤ maxLen) : Calls Try.prog 12 #[.pointer (some ⟨b, 0, none⟩), .string k] w fun e w' => ∃ F', e = .returned (.tuple #[.int .i64 (gv s.L k), .bool (gb s.L k)]) ∧ Hid (Run W w' n b F' seed s.tick) :=
  (get_run h k hk).mono fun _ _ ⟨F', he, hr, _, _⟩ => ⟨F', by rw [he, getV_eq], Lib.hid hr⟩
theorem put' (h : Run W w n b F seed s) (hn : n + 1 ≤ 1000000000) (k : ByteArray) (v : V) (hk : k.size ≤ maxLen) : Calls Try.prog 11 #[.pointer (some ⟨b, 0, none⟩), .string k, (.int .i64 v)] w fun e w' => ∃ F', e = .returned (.tuple #[]) ∧ Hid (Run W w' (n + 1) b F' seed (s.put k v)) :=
  (put_run h hn k v hk).mono fun _ _ ⟨F', he, hr, _, _⟩ => ⟨F', he, Lib.hid hr⟩
theorem del' (h : Run W w n b F seed s) (k : ByteArray) (hk : k.size ≤ maxLen) : Calls Try.prog 13 #[.pointer (some ⟨b, 0, none⟩), .string k] w fun e w' => ∃ F', e = .returned (.bool (gb s.L k)) ∧ Hid (Run W w' n b F' seed (s.del k)) :=
  (delete_run h k hk).mono fun _ _ ⟨F', he, hr, _, _⟩ => ⟨F', he, Lib.hid hr⟩
end
end Go.Proofs.Ytekcogoijlbmnaa.TabL
