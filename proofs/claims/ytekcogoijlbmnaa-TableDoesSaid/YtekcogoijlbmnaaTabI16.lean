/- Layer 9: a table in a run. -/
import Derived.Test.YtekcogoijlbmnaaTabI15
namespace Go.Proofs.Ytekcogoijlbmnaa.TabI
open Go Go.RowKit Go.Proofs.Ytekcogoijlbmnaa.Mem Go.Proofs.Ytekcogoijlbmnaa.Tab

structure Run (W w : World) (n b : Nat) (F : Nat → Prop) (seed : Int) (s : St V) : Prop where
  at_ : At w b F seed s
  low : ∀ k, F k → W.heap.size ≤ k
  below : Below W.heap.size W w
  sm : Sm n seed s
section
variable {W w w' : World} {n m b : Nat} {F F' : Nat → Prop} {seed : Int} {s t : St V}
theorem Run.step (h : Run W w n b F seed s) (hb : Below w.heap.size w w') : Run W w' n b F seed s := ⟨h.at_.below hb, h.low, Mem.tr h.below hb, h.sm⟩
theorem Run.post (h : Run W w n b F seed s) (ha : At w' b F' seed t) (ho : Only F w w') (hg : Grows w F F') (hs : Sm m seed t) : Run W w' m b F' seed t :=
  ⟨ha, fun k hk => (hg k hk).elim (h.low k) (fun e => Nat.le_trans h.below.size e), Below.trans h.below (ho.below h.below.size h.low), hs⟩
theorem Run.mono (h : Run W w n b F seed s) (hm : n ≤ m) (hm2 : m ≤ 1000000000) : Run W w m b F seed s := ⟨h.at_, h.low, h.below, h.sm.mono hm hm2⟩
theorem Run.only {G : Nat → Prop} (h : Run W w n b F seed s) (ho : Only G w w') (hd : ∀ k, F k → ¬ G k) (hG : ∀ k, G k → W.heap.size ≤ k) : Run W w' n b F seed s :=
  ⟨h.at_.only ho hd, h.low, Below.trans h.below (ho.below h.below.size hG), h.sm⟩
theorem Run.lt (h : Run W w n b F seed s) : ∀ k, F k → k < w.heap.size := h.at_.lt
end
def RunPost (W w : World) (n b : Nat) (F : Nat → Prop) (seed : Int) (s : St V) (v : Value) (e : Ending) (w' : World) : Prop := ∃ F', e = .returned v ∧ Run W w' n b F' seed s ∧ Only F w w' ∧ Grows w F F'
theorem new_run {W w : World} (hb : Below W.heap.size W w) (seed : Int) (h0 : 0 ≤ seed) (h1 : seed < 18446744073709551616) : Calls Try.prog 10 #[.int .u64 seed] w fun e w' => ∃ b F, e = .returned (.pointer (some ⟨b, 0, none⟩)) ∧ Run W w' 0 b F seed new ∧ (∀ k, F k → w.heap.size ≤ k) ∧ Below w.heap.size w w' :=
  (new_any seed w).mono fun e w' ⟨b, F, he, ha, hl, hb2⟩ => ⟨b, F, he, ⟨ha, fun k hk => Nat.le_trans hb.size (hl k hk), Mem.tr hb hb2, ⟨h0, h1, Nat.le_refl _, by omega, by show 8 ≤ 8 + 0; omega⟩⟩, hl, hb2⟩
section
variable {W w : World} {n b : Nat} {F : Nat → Prop} {seed : Int} {s : St V}
theorem get_run (h : Run W w n b F seed s) (k : ByteArray) (hk : k.size ≤ maxLen) : Calls Try.prog 12 #[.pointer (some ⟨b, 0, none⟩), .string k] w (RunPost W w n b F seed s.tick (getV s.L k)) :=
  (get_any h.at_ h.sm k hk).mono fun _ _ ⟨F', he, ha, ho, hg⟩ => ⟨F', he, h.post ha ho hg h.sm.tick, ho, hg⟩
theorem put_run (h : Run W w n b F seed s) (hn : n + 1 ≤ 1000000000) (k : ByteArray) (v : V) (hk : k.size ≤ maxLen) : Calls Try.prog 11 #[.pointer (some ⟨b, 0, none⟩), .string k, (.int .i64 v)] w (RunPost W w (n + 1) b F seed (s.put k v) (.tuple #[])) :=
  (put_any h.at_ h.sm hn k v hk).mono fun _ _ ⟨F', he, ha, ho, hg⟩ => ⟨F', he, h.post ha ho hg (h.sm.put hn k v), ho, hg⟩
theorem delete_run (h : Run W w n b F seed s) (k : ByteArray) (hk : k.size ≤ maxLen) : Calls Try.prog 13 #[.pointer (some ⟨b, 0, none⟩), .string k] w (RunPost W w n b F seed (s.del k) (.bool (Tab.get s.L k).isSome)) :=
  (delete_any h.at_ h.sm k hk).mono fun _ _ ⟨F', he, ha, ho, hg⟩ => ⟨F', he, h.post ha ho hg (h.sm.del k), ho, hg⟩
end
end Go.Proofs.Ytekcogoijlbmnaa.TabI
