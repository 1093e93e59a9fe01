/- Part31: Exec13, ShardL12, ExecL1, one behind the other. -/
import Derived.Test.YtpghckiochjogaaGreatDoorPart27
import Derived.Test.YtpghckiochjogaaGreatDoorPart28
import Derived.Test.YtpghckiochjogaaGreatDoorPart29
import Derived.Test.YtpghckiochjogaaGreatDoorPart30
import Derived.Test.YtpghckiochjogaaGreatDoorPart10
import Derived.Test.YtpghckiochjogaaGreatDoorPart3
/- Layer 12: with. -/
namespace Go.Proofs.YtpghckiochjogaaGreatDoor.Exec
set_option maxRecDepth 100000
open Go Go.RowKit Go.Proofs.YtpghckiochjogaaGreatDoor.Mem Go.Proofs.YtpghckiochjogaaGreatDoor.App Go.Proofs.YtpghckiochjogaaGreatDoor.Shard
section
variable {W w : World} {M b : Nat} {col : Col} {seed : Int} {s : St} {c : Cmd} {env : Env}
theorem with_any (h : Run W w M b col seed s) (hM : M + 1 ≤ 1050000) {a : Option Addr} {n k : Nat} (it : Shard.Item) {a2 : Option Addr} {m2 k2 : Nat} (hm : it.val.length = m2) (hks : it.key.size ≤ 2000000) (hvs : it.val.length ≤ 1100000) (hv : Val w col (.slice a2 m2 k2) it.val) (hn : c.val.length = n) (hcks : c.key.size ≤ 2000000) (hcvs : c.val.length ≤ 1100000) (hcv : Val w col (.slice a n k) c.val) (hd : 0 ≤ c.delta) (hd2 : c.delta < 18446744073709551616) (hp : Pows W) (he : Errs W) :
    Calls Tryz.prog 36 #[.agg (rarr b c (.slice a n k) env), .agg (it.arr (.slice a2 m2 k2))] w (ExecQ W w (M + 1) b col seed s.tab.L (.slice a2 m2 k2) it.val fun f => withI c env it f s) := by
  by_cases h0 : c.op = 0
  · exact with_peace h hM it hv (view { it with seen := true } env, (s.update { it with seen := true }).2) (fun w' col' h' hv' => peace0 h' (by omega) it hm hks (by omega) hv' h0) (fun f => by unfold withI; rw [if_pos h0])
  by_cases h1 : c.op = 1
  · exact with_peace h hM it hv (view { it with seen := true, exp := atS c.exp env.now } env, (s.update { it with seen := true, exp := atS c.exp env.now }).2) (fun w' col' h' hv' => peace1 h' (by omega) it hm hks (by omega) hv' h1) (fun f => by unfold withI; rw [if_neg h0, if_pos h1])
  by_cases h2 : c.op = 2
  · exact with_peace h hM it hv (only 6, (s.update { it with exp := atS c.exp env.now }).2) (fun w' col' h' hv' => peace2 h' (by omega) it hm hks (by omega) hv' h2) (fun f => by unfold withI; rw [if_neg h0, if_neg h1, if_pos h2])
  by_cases h12 : c.op = 12
  · exact with_peace h hM it hv (metaS c env it s) (fun w' col' h' hv' => peace12 h' (by omega) it hm hks (by omega) hv' h12) (fun f => by unfold withI; rw [if_neg h0, if_neg h1, if_neg h2, if_pos h12])
  by_cases h4 : c.op = 4
  · exact with_peace h hM it hv (only 3, s) (fun w' col' h' hv' => peace4 h' (by omega) it hm hks (by omega) hv' h4) (fun f => by unfold withI; rw [if_neg h0, if_neg h1, if_neg h2, if_neg h12, if_pos h4])
  by_cases h3 : c.op = 3
  · exact with3 h hM it hm hks hvs hv hn hcks hcvs hcv hd hd2 hp he h3
  by_cases h5 : c.op = 5
  · exact with5 h hM it hm hks hvs hv hn hcks hcvs hcv hd hd2 hp he h5
  by_cases h6 : c.op = 6
  · exact with6 h hM it hm hks hvs hv hn hcks hcvs hcv hd hd2 hp he h6
  by_cases h7 : c.op = 7
  · exact with7 h hM it hm hks hvs hv hn hcks hcvs hcv hd hd2 hp he h7
  by_cases h9 : c.op = 9
  · exact with9 h hM it hm hks hvs hv hn hcks hcvs hcv hd hd2 hp he h9
  by_cases h8 : c.op = 8
  · exact with8 h hM it hm hks hvs hv hn hcks hcvs hcv hd hd2 hp he h8
  exact withE h hM it hm hks hvs hv hn hcks hcvs hcv hd hd2 hp he h0 h1 h2 h12 h4 h3 h5 h6 h7 h9 h8
end
end Go.Proofs.YtpghckiochjogaaGreatDoor.Exec

/- Layer 11: what a look that finds answers is the caller's own. -/
namespace Go.Proofs.YtpghckiochjogaaGreatDoor.Shard
open Go Go.RowKit Go.Proofs.YtpghckiochjogaaGreatDoor.Mem Go.Proofs.YtpghckiochjogaaGreatDoor.App
section
variable {W w : World} {n N b : Nat} {col : Col} {seed : Int} {s : St}
set_option maxRecDepth 100000 in
set_option maxHeartbeats 2000000 in
theorem look_own (h : At W w n b col seed s) (k : ByteArray) (env : Env) (hk : k.size ≤ maxLen) (hl : s.order.all.length ≤ 1000000000) (hsm : Slab.Small N s.slab) (hN : N ≤ 2199023255552) (hd : (s.tick.remove k).2.drops.length ≤ 2199023255552) (hv : ∀ x, Tab.get s.tab.L k = some x → (s.ent x).it.val.length ≤ 100000000) {x : Nat} (hy : (s.find k env).1 = some x) :
    Calls Tryz.prog 33 #[.pointer (some ⟨b, 0, none⟩), .string k, .agg env.arr] w fun e w' => ∃ v col', e = .returned (.tuple #[.agg ((s.ent x).it.arr v), .bool true]) ∧ At W w' n b col' seed (s.find k env).2 ∧ Fr col col' w w' ∧ OwnB w' w.heap.size v (s.ent x).it.val ∧ ∀ g, v.ownBlock = some g → col' g = none := by
  have hb2 : Below w.heap.size w ((w.alloc (.cells env.arr 35)).alloc (.cells zeroI 51)) := Mem.al (Mem.al (Below.refl _ _) _) _
  have n1 : ((w.alloc (.cells env.arr 35)).alloc (.cells zeroI 51)).heap[w.heap.size]? = some (.cells env.arr 35 (0, 0)) := Mem.new_later (Mem.new_block w _) _
  have n2 : ((w.alloc (.cells env.arr 35)).alloc (.cells zeroI 51)).heap[w.heap.size + 1]? = some (.cells zeroI 51 (0, 0)) := Mem.new_block2 w _ _
  have hsz : ((w.alloc (.cells env.arr 35)).alloc (.cells zeroI 51)).heap.size = w.heap.size + 2 := by simp
  have hcn : ∀ j, w.heap.size ≤ j → col j = none := fun j hj => Classical.byContradiction fun e => by have := h.lt j e; omega
  have h2 := h.step hb2
  have hfind := find_any h2 k env hk hl hsm hN hd
  obtain ⟨w0, hw0⟩ : ∃ w0, (w.alloc (.cells env.arr 35)).alloc (.cells zeroI 51) = w0 := ⟨_, rfl⟩
  rw [hw0] at hfind n1 n2 hsz hb2
  have q0 := Mem.row_cell n1 0
  have q1 := Mem.row_cell n1 1
  have q2 := Mem.row_cell n1 2
  have q3 := Mem.row_cell n1 3
  simp only [Env.arr, List.getElem?_toArray, List.getElem?_cons_zero, List.getElem?_cons_succ] at q0 q1 q2 q3
  have HL : Hid (W.heap.size ≤ w.heap.size) := Lib.hid h.size
  have HN := Lib.hid (And.intro n2 (And.intro hsz (And.intro hcn hb2)))
  have HW := Lib.hid hw0
  clear n1 n2 hsz hcn hb2 h2 h
  unfold Env.arr zeroI at hw0
  unfold Env.arr at hfind ⊢
  go_enter Tryz.func33, Tryz.ntmps33
  go_wp2_with fail
  refine hfind.mono ?_
  rintro e w1 ⟨rfl, col1, a1, f1⟩
  have m2 : w1.heap[w.heap.size + 1]? = some (.cells zeroI 51 (0, 0)) := (f1.keep (by rw [HN.out.2.1]; omega) (HN.out.2.2.1 _ (by omega))).trans HN.out.1
  have HF0 := Lib.hid f1
  have f1 := (Fr.below HN.out.2.2.2).trans f1
  have H1 := Lib.hid (And.intro a1 (And.intro f1 m2))
  clear hfind a1 f1 m2
  obtain ⟨g1, g2, g3⟩ := find_some hy
  have a1 := H1.out.1
  rw [g3] at a1
  obtain ⟨v, e1, hown, -, hcx, -⟩ := a1.entry (k := k) (x := x) g1
  have hvx := hv x g1
  have cell := fun j => Mem.row_cell e1 j
  have d0 := cell 0
  have d1 := cell 1
  have d2 := cell 2
  have d3 := cell 3
  have d4 := cell 4
  have d5 := cell 5
  have d6 := cell 6
  have d7 := cell 7
  have d8 := cell 8
  have d9 := cell 9
  simp only [St.tick, Ent.arr, List.getElem?_toArray, List.getElem?_cons_zero, List.getElem?_cons_succ] at d0 d1 d2 d3 d4 d5 d6 d7 d8 d9
  have hcl := owned_any (s.ent x).it (SrcB.of_row hown) hvx
  have HY := Lib.hid (And.intro hy g3)
  rw [hy]
  clear hy g1 g2 g3 a1 e1 hown hcx cell hvx
  unfold Item.arr at hcl
  unfold ptrE
  go_wp2_with fail
  refine hcl.mono ?_
  rintro e w2 ⟨v2, rfl, hown2, hb2⟩
  obtain ⟨ya, yc, hv'⟩ := Src.shape (Src.of_row hown2)
  subst hv'
  have k2 : w2.heap[w.heap.size + 1]? = some (.cells zeroI 51 (0, 0)) := (hb2.block _ (Array.getElem?_eq_some_iff.1 H1.out.2.2).1).trans H1.out.2.2
  have H2 := Lib.hid (And.intro hown2 (And.intro hb2 k2))
  clear hcl hown2 hb2 k2 d0 d1 d2 d3 d4 d5 d6 d7 d8 d9
  go_wp2_with (first | (refine wpList_store_row rfl 51 _ _ rfl (w.heap.size + 1) ((s.ent x).it.arr (.slice ya (s.ent x).it.val.length yc)) rfl rfl 51 zeroI H2.out.2.2 (item_size (s.ent x).it _) rfl (item_one (s.ent x).it H2.out.1) ?_) | fail)
  have hrow := setRow_heap _ _ _ ((s.ent x).it.arr (.slice ya (s.ent x).it.val.length yc)) _ _ H2.out.2.2
  refine bodyPost_ret (results_two Tryz.results33 _ _ (w.heap.size + 1) _ _ _ _ rfl rfl hrow Tryz.underlying51 rfl (item_size (s.ent x).it _)) rfl ?_
  obtain ⟨a1, f1, m2⟩ := H1.out
  have hcc : col1 (w.heap.size + 1) = none := Classical.byContradiction fun e => (HF0.out.2 _ e).elim (fun e1 => e1 (HN.out.2.2.1 _ (by omega))) (fun e1 => by have := HN.out.2.1; omega)
  obtain ⟨hown2, hb2, k2⟩ := H2.out
  have hzz := (Array.getElem?_eq_some_iff.1 m2).1
  have hcg : ∀ g, (Value.slice ya (s.ent x).it.val.length yc).ownBlock = some g → col1 g = none := fun g e => Classical.byContradiction fun e1 => by have := a1.lt g e1; have := (own_block_lt hown2 g e).1; omega
  refine ⟨_, col1, rfl, (a1.step hb2).aside (F := fun k => k = w.heap.size + 1) (Only.setRow (.inl rfl) (Only.refl _ _)) (fun k e => by subst e; exact ⟨hcc, by have := HL.out; omega⟩), (f1.trans (Fr.below hb2)).setRow (.inr (by omega)), row_keep (Mem.row_less hown2 (by omega)) fun g e => setRow_other _ _ _ _ (fun e1 => ?_), hcg⟩
  have := (own_block_lt hown2 g e).1
  omega
theorem look_run2 {M : Nat} (h : Run W w M b col seed s) (hM : M + 1 ≤ 1050000) (k : ByteArray) (env : Env) (hk : k.size ≤ maxLen) {x : Nat} (hy : (s.find k env).1 = some x) :
    Calls Tryz.prog 33 #[.pointer (some ⟨b, 0, none⟩), .string k, .agg env.arr] w fun e w' => ∃ v col', e = .returned (.tuple #[.agg ((s.ent x).it.arr v), .bool true]) ∧ Run W w' (M + 1) b col' seed (s.find k env).2 ∧ Fr col col' w w' ∧ OwnB w' w.heap.size v (s.ent x).it.val ∧ ∀ g, v.ownBlock = some g → col' g = none := by
  have hn := nn_max (M := M) (by omega)
  have hol := h.olen
  have hns := nn_succ M
  refine (look_own h.at_ k env hk (by omega) h.inv.smallN (by omega) (by rw [remove_drops]; have := h.inv.dl; show s.drops.length ≤ _; omega) (fun x hx => h.vals _ ((Tab.get_mem h.inv.rise.nodup).1 hx)) hy).mono ?_
  rintro e w' ⟨v, col', h1, h2, h3, h4, h5⟩
  exact ⟨v, col', h1, ⟨h2.more (by omega) (by omega), (h.inv.find k env).mono (by omega) (by omega)⟩, h3, h4, h5⟩
end
end Go.Proofs.YtpghckiochjogaaGreatDoor.Shard

/- Layer 12, plain: each kind of commands, by what a key has. -/
namespace Go.Proofs.YtpghckiochjogaaGreatDoor.Exec
open Go Go.Proofs.YtpghckiochjogaaGreatDoor.Shard
section
variable {n N : Nat} {s : St} {c : Cmd} {env : Env} {it : Shard.Item} {f : Nat}
def looked (c : Cmd) (env : Env) (s : St) : St := used (s.find c.key env).2 c.key
theorem looked_inv (h : Inv n N s) : Inv n (N + 1) (looked c env s) := Exec.Inv.used (h.find c.key env) c.key
theorem looked_has (h : Inv n N s) (k : ByteArray) : has (looked c env s) k = if k = c.key then seen s c.key env else has s k := has_find h c.key env k
theorem looked_key (h : Inv n N s) : has (looked c env s) c.key = seen s c.key env := by rw [looked_has h, if_pos rfl]
theorem seen_has (hs : seen s c.key env = some it) : has s c.key = some it ∧ it.live env = true := by
  unfold seen at hs
  rw [Option.filter_eq_some_iff] at hs
  exact hs
theorem has_seen {k : ByteArray} (h1 : has s k = some it) (h2 : it.live env = true) : seen s k env = some it := by
  unfold seen
  rw [h1, Option.filter_some, if_pos h2]
theorem run_miss (hk : 0 ≤ c.op ∧ c.op ≤ 12) (hs : seen s c.key env = none) : run c env f s = without c env f (looked c env s) := by
  rw [run_eq c env f s (by omega) (decide_eq_true hk), hs]; rfl
theorem run_hit (hk : 0 ≤ c.op ∧ c.op ≤ 12) (hs : seen s c.key env = some it) : run c env f s = withI c env it f (looked c env s) := by
  rw [run_eq c env f s (by omega) (decide_eq_true hk), hs]; rfl
theorem change_has (h : Inv n N s) (hs : seen s c.key env = some it) (it' : Shard.Item) (hk : it'.key = it.key) (hv : it'.val = it.val) (k : ByteArray) : has ((looked c env s).update it').2 k = if k = c.key then some it' else has s k := by
  have hl := looked_key (env := env) (c := c) h
  rw [hs] at hl
  have hkey : it'.key = c.key := hk.trans (has_key (looked_inv h) hl).1
  have hu := has_update (looked_inv (c := c) (env := env) h) (it := it') (a := it) (by rw [hkey]; exact hl) (by rw [hv]) k
  rw [hu, hkey]
  by_cases e : k = c.key
  · rw [if_pos e, if_pos e]
  · rw [if_neg e, if_neg e, looked_has h, if_neg e]
theorem get_hit (h : Inv n N s) (hc : c.op = 0) (hs : seen s c.key env = some it) : (run c env f s).1 = view { it with seen := true } env ∧ ∀ k, has (run c env f s).2 k = if k = c.key then some { it with seen := true } else has s k := by
  rw [run_hit (by omega) hs]
  have e : withI c env it f (looked c env s) = (view { it with seen := true } env, ((looked c env s).update { it with seen := true }).2) := by simp [withI, hc]
  rw [e]
  exact ⟨rfl, change_has h hs _ rfl rfl⟩
theorem none_miss (h : Inv n N s) (hc : c.op = 0 ∨ c.op = 1 ∨ c.op = 2 ∨ c.op = 8 ∨ c.op = 9) (hs : seen s c.key env = none) : (run c env f s).1 = only 1 ∧ ∀ k, has (run c env f s).2 k = if k = c.key then none else has s k := by
  rw [run_miss (by omega) hs]
  have e : without c env f (looked c env s) = (only 1, looked c env s) := by rcases hc with hc | hc | hc | hc | hc <;> simp [without, hc]
  rw [e]
  exact ⟨rfl, fun k => by rw [looked_has h, hs]⟩
theorem doStore_two (h : Inv n N s) (hks : it.key.size ≤ 2000000) (hf : ∀ p ∈ s.tab.L, p.2 ≠ f) : ((doStore env it f s).1 = { only 2 with cas := it.cas } ∧ has (doStore env it f s).2 it.key = some it) ∨ (doStore env it f s).1 = only 3 ∨ (doStore env it f s).1 = only 9 := by
  rcases store_code h it env f with e | e | e | e
  · exact .inl ⟨by unfold doStore storeR; rw [if_pos e], has_store h e hks hf⟩
  · exact .inr (.inr (by unfold doStore storeR; rw [e]; rfl))
  · exact .inr (.inr (by unfold doStore storeR; rw [e]; rfl))
  · exact .inr (.inl (by unfold doStore storeR; rw [e]; rfl))
theorem stored_there (h : Inv n N s) (hc : c.op = 3 ∨ c.op = 4 ∨ c.op = 5) (hks : c.key.size ≤ 2000000) (hfl : ∀ p ∈ (looked c env s).tab.L, p.2 ≠ f) (h2 : (run c env f s).1.status = 2) :
    (run c env f s).1 = { only 2 with cas := IntKind.u64.wrap (env.seq + 1) } ∧ has (run c env f s).2 c.key = some (freshI c env c.val c.flags (atS c.exp env.now)) := by
  have hin := looked_inv (c := c) (env := env) h
  have hd : ∀ y, run c env f s = y → (y = doStore env (freshI c env c.val c.flags (atS c.exp env.now)) f (looked c env s) ∨ y.1.status ≠ 2) → (run c env f s).1 = { only 2 with cas := IntKind.u64.wrap (env.seq + 1) } ∧ has (run c env f s).2 c.key = some (freshI c env c.val c.flags (atS c.exp env.now)) := by
    rintro y hy (e | e)
    · rw [hy, e]
      rw [hy, e] at h2
      rcases doStore_two (it := freshI c env c.val c.flags (atS c.exp env.now)) (env := env) hin hks hfl with ⟨e1, e2⟩ | e1 | e1
      · exact ⟨e1, e2⟩
      · rw [e1] at h2; cases h2
      · rw [e1] at h2; cases h2
    · rw [hy] at h2; exact absurd h2 e
  rcases hs : seen s c.key env with _ | it
  · refine hd _ (run_miss (by omega) hs) ?_
    rcases hc with hc | hc | hc
    · by_cases h0 : c.cas = 0
      · exact .inl (by simp [without, hc, h0])
      · exact .inr (by simp [without, hc, h0, only])
    · exact .inl (by simp [without, hc])
    · exact .inr (by simp [without, hc, only])
  · refine hd _ (run_hit (by omega) hs) ?_
    by_cases hcc : c.cas ≠ 0 ∧ c.cas ≠ it.cas
    · rcases hc with hc | hc | hc <;> exact .inr (by simp [withI, hc, hcc, only])
    · rcases hc with hc | hc | hc
      · exact .inl (by simp [withI, hc, hcc])
      · exact .inr (by simp [withI, hc, only])
      · exact .inl (by simp [withI, hc, hcc])
end
end Go.Proofs.YtpghckiochjogaaGreatDoor.Exec

