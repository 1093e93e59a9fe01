/- Part33: Exec14b, one behind the other. -/
import Derived.Test.YtpghckiochjogaaGreatDoorPart32
/- Layer 12: Do. -/
namespace Go.Proofs.YtpghckiochjogaaGreatDoor.Exec
set_option maxRecDepth 100000
open Go Go.RowKit Go.Proofs.YtpghckiochjogaaGreatDoor.Mem Go.Proofs.YtpghckiochjogaaGreatDoor.App Go.Proofs.YtpghckiochjogaaGreatDoor.Shard
theorem found_size {n N : Nat} {s : St} {k : ByteArray} {env : Env} {x : Nat} (h : Inv n N s) (hf : (s.find k env).1 = some x) : (s.ent x).it.key.size ≤ 2000000 ∧ (s.ent x).it.val.length ≤ 1100000 := by
  have h1 := (h.ents (k, x) ((Tab.get_mem h.rise.nodup).1 (find_some hf).1))
  have h2 : (s.ent x).it.size ≤ 2048 := h1.2.2.1
  have h3 : (s.ent x).it.key = k := h1.1
  have h4 : k.size ≤ 2048 := h1.2.1
  unfold Item.size at h2
  rw [h3] at h2 ⊢
  constructor <;> omega
def ExecF (W w : World) (M b : Nat) (col : Col) (seed : Int) (L : Tab.Pairs Nat) (g : Nat → Res × St) (e : Ending) (w' : World) : Prop :=
  ∃ f v col', (∀ p ∈ L, p.2 ≠ f) ∧ e = .returned (.agg ((g f).1.arr v)) ∧ Run W w' M b col' seed (g f).2 ∧ Fr col col' w w' ∧ Val w' col' v (g f).1.val ∧ ∀ k, (g f).1.val ≠ [] → v.ownBlock = some k → w.heap.size ≤ k
theorem ExecF.p {W w w' : World} {M b : Nat} {col : Col} {seed : Int} {L : Tab.Pairs Nat} {g : Nat → Res × St} {e : Ending} (h : ExecF W w M b col seed L g e w') : ExecP W w M b col seed L g e w' := by
  obtain ⟨f, v, col', h1, h2, h3, h4, h5, _⟩ := h
  exact ⟨f, v, col', h1, h2, h3, h4, h5⟩
theorem ExecP.f {W w w' : World} {M b : Nat} {col : Col} {seed : Int} {L : Tab.Pairs Nat} {g : Nat → Res × St} {e : Ending} (h : ExecP W w M b col seed L g e w') (hg : ∀ f, (g f).1.val = []) : ExecF W w M b col seed L g e w' := by
  obtain ⟨f, v, col', h1, h2, h3, h4, h5⟩ := h
  exact ⟨f, v, col', h1, h2, h3, h4, h5, fun k hn => absurd (hg f) hn⟩
theorem In.stopF {W w0 w : World} {M b B1 B2 : Nat} {col0 col : Col} {seed : Int} {t : St} {L : Tab.Pairs Nat} {g : Nat → Res × St} {f : Nat} {r : Res} {v : Value} (h : In W w0 w M b col0 col seed t B1 B2) (hf : ∀ p ∈ L, p.2 ≠ f) (hg : g f = (r, t)) (hv : Val w col v r.val) (hn : ∀ k, r.val ≠ [] → v.ownBlock = some k → w0.heap.size ≤ k) : ExecF W w0 M b col0 seed L g (.returned (.agg (r.arr v))) w :=
  ⟨f, v, col, hf, by rw [hg], by rw [hg]; exact h.run, h.fr, by rw [hg]; exact hv, by rw [hg]; exact hn⟩
section
variable {W w : World} {M b : Nat} {col : Col} {seed : Int} {s : St} {c : Cmd} {env : Env}
set_option maxHeartbeats 4000000 in
theorem doSome (h : Run W w M b col seed s) (hM : M + 2 ≤ 1050000) (hp : Pows W) (he : Errs W) {a : Option Addr} {n k : Nat} (hn : c.val.length = n) (hks : c.key.size ≤ 2000000) (hvs : c.val.length ≤ 1100000) (hv : Val w col (.slice a n k) c.val) (hi : 0 ≤ c.initial) (hi2 : c.initial < 18446744073709551616) (hd : 0 ≤ c.delta) (hd2 : c.delta < 18446744073709551616) (hop : c.op ≠ 15 ∧ keyed c.op = true) {x : Nat} (hfd : (s.find c.key env).1 = some x) :
    Calls Tryz.prog 19 #[.pointer (some ⟨b, 0, none⟩), .agg (c.arr (.slice a n k)), .agg env.arr] w (ExecF W w (M + 2) b col seed (looked c env s).tab.L fun f => run c env f s) := by
  have HF := Lib.hid hfd
  have hb2 : Below w.heap.size w (((w.alloc (.cells (c.arr (.slice a n k)) 33)).alloc (.cells (env.arr) 35)).alloc (.cells (zeroR) 37)) := Mem.al (Mem.al (Mem.al (Below.refl _ _) _) _) _
  have n1 : (((w.alloc (.cells (c.arr (.slice a n k)) 33)).alloc (.cells (env.arr) 35)).alloc (.cells (zeroR) 37)).heap[w.heap.size]? = some (.cells (c.arr (.slice a n k)) 33 (0, 0)) := Mem.new_later (Mem.new_later (Mem.new_block w _) _) _
  have n2 : (((w.alloc (.cells (c.arr (.slice a n k)) 33)).alloc (.cells (env.arr) 35)).alloc (.cells (zeroR) 37)).heap[w.heap.size + 1]? = some (.cells (env.arr) 35 (0, 0)) := Mem.new_later (Mem.new_block2 w _ _) _
  have n3 : (((w.alloc (.cells (c.arr (.slice a n k)) 33)).alloc (.cells (env.arr) 35)).alloc (.cells (zeroR) 37)).heap[w.heap.size + 1 + 1]? = some (.cells (zeroR) 37 (0, 0)) := new_block3 w _ _ _
  have hz : (((w.alloc (.cells (c.arr (.slice a n k)) 33)).alloc (.cells (env.arr) 35)).alloc (.cells (zeroR) 37)).heap.size = w.heap.size + 3 := by simp
  obtain ⟨w1, hw1⟩ : ∃ w1, (((w.alloc (.cells (c.arr (.slice a n k)) 33)).alloc (.cells (env.arr) 35)).alloc (.cells (zeroR) 37)) = w1 := ⟨_, rfl⟩
  rw [hw1] at hb2 hz n1 n2 n3
  have q0 := Mem.row_cell n1 0
  have q1 := Mem.row_cell n1 1
  have q2 := Mem.row_cell n1 2
  have q3 := Mem.row_cell n1 3
  have q4 := Mem.row_cell n1 4
  have q5 := Mem.row_cell n1 5
  have q6 := Mem.row_cell n1 6
  have q7 := Mem.row_cell n1 7
  have q8 := Mem.row_cell n1 8
  have q9 := Mem.row_cell n1 9
  simp only [Cmd.arr, List.getElem?_toArray, List.getElem?_cons_zero, List.getElem?_cons_succ] at q0 q1 q2 q3 q4 q5 q6 q7 q8 q9
  have v0 := Mem.row_cell n2 0
  have v1 := Mem.row_cell n2 1
  have v2 := Mem.row_cell n2 2
  have v3 := Mem.row_cell n2 3
  simp only [Shard.Env.arr, List.getElem?_toArray, List.getElem?_cons_zero, List.getElem?_cons_succ] at v0 v1 v2 v3
  have hin := In.start h hb2
  rw [hz] at hin
  have HB := Lib.hid (And.intro hin (And.intro n1 (And.intro n2 (And.intro n3 hz))))
  have HK := Lib.hid (And.intro hM (And.intro hn (And.intro hks (And.intro hvs (And.intro hv (And.intro hi (And.intro hi2 (And.intro hd (And.intro hd2 (And.intro hp he))))))))))
  clear hb2 n1 n2 n3 hz hin h hM hn hks hvs hv hi hi2 hd hd2 hp he
  unfold Cmd.arr Shard.Env.arr zeroR at hw1
  unfold Cmd.arr Shard.Env.arr
  go_enter Tryz.func19, Tryz.ntmps19
  have e15 : (c.op == 15) = false := by simpa using hop.1
  have HZ := Lib.hid hop
  have hkq := hop.2
  clear hop
  go_wp2_with fail
  refine (keyed_any c.op _).mono ?_
  rintro e wk ⟨rfl, hwk⟩
  subst hwk
  rw [hkq]
  clear hkq
  go_upto_region 6 with (fail)
  have nR := Mem.new_block w1 (.cells (rarr b c (.slice a n k) env) 86)
  have hbR := Mem.al (Below.refl w1.heap.size w1) (.cells (rarr b c (.slice a n k) env) 86)
  have hin2 := HB.out.1.more hbR (by have := HB.out.2.2.2.2; omega)
  have nZ := (hbR.block (w.heap.size + 1 + 1) (by have := HB.out.2.2.2.2; omega)).trans HB.out.2.2.2.1
  have nC := (hbR.block (w.heap.size) (by have := HB.out.2.2.2.2; omega)).trans HB.out.2.1
  have nE := (hbR.block (w.heap.size + 1) (by have := HB.out.2.2.2.2; omega)).trans HB.out.2.2.1
  rw [World.size_alloc] at hin2
  obtain ⟨w2, hw2⟩ : ∃ w2, w1.alloc (.cells (rarr b c (.slice a n k) env) 86) = w2 := ⟨_, rfl⟩
  rw [hw2] at nR hin2 nZ nC nE
  clear hbR q0 q1 q2 q3 q4 q5 q6 q7 q8 q9 v0 v1 v2 v3
  have q0 := Mem.row_cell nC 0
  have q1 := Mem.row_cell nC 1
  have q2 := Mem.row_cell nC 2
  have q3 := Mem.row_cell nC 3
  have q4 := Mem.row_cell nC 4
  have q5 := Mem.row_cell nC 5
  have q6 := Mem.row_cell nC 6
  have q7 := Mem.row_cell nC 7
  have q8 := Mem.row_cell nC 8
  have q9 := Mem.row_cell nC 9
  simp only [Cmd.arr, List.getElem?_toArray, List.getElem?_cons_zero, List.getElem?_cons_succ] at q0 q1 q2 q3 q4 q5 q6 q7 q8 q9
  have v0 := Mem.row_cell nE 0
  have v1 := Mem.row_cell nE 1
  have v2 := Mem.row_cell nE 2
  have v3 := Mem.row_cell nE 3
  simp only [Shard.Env.arr, List.getElem?_toArray, List.getElem?_cons_zero, List.getElem?_cons_succ] at v0 v1 v2 v3
  have H2 := Lib.hid (And.intro hin2 (And.intro nR (And.intro nZ nC)))
  clear hin2 nR nZ nC nE
  unfold rarr at hw2
  have hlk := look_run2 H2.out.1.run (Nat.le_of_succ_le HK.out.1) c.key env (by have := HK.out.2.2.1; unfold maxLen; omega) hfd
  obtain ⟨it, hit⟩ : ∃ it, (s.ent x).it = it := ⟨_, rfl⟩
  rw [hit] at hlk
  have HT := Lib.hid hit
  have hsz : it.key.size ≤ 2000000 ∧ it.val.length ≤ 1100000 := by
    rw [← hit]
    exact found_size H2.out.1.run.inv hfd
  clear hit
  unfold Shard.Env.arr at hlk
  go_wp2_with fail
  refine hlk.mono ?_
  rintro e wL ⟨v, colL, rfl, hrL, hfL, hown, hcv⟩
  obtain ⟨a2, k2, hsh⟩ := (SrcB.of_row hown).shape
  subst hsh
  obtain ⟨m2, hm2⟩ : ∃ m2, it.val.length = m2 := ⟨_, rfl⟩
  have hvL : Val wL colL (.slice a2 it.val.length k2) it.val := ⟨SrcB.of_row hown, fun _ g e => hcv g e⟩
  have hvZ : ∀ g, Value.ownBlock (.slice a2 it.val.length k2) = some g → w2.heap.size ≤ g := fun g e => (own_block_lt hown g e).1
  have hinL := H2.out.1.turn2 hrL hfL
  have nR := H2.out.1.row (by have := HB.out.2.2.2.2; omega) (by omega) hfL H2.out.2.1
  have nZ := H2.out.1.row (by omega) (by have := HB.out.2.2.2.2; omega) hfL H2.out.2.2.1
  have nC := H2.out.1.row (by omega) (by have := HB.out.2.2.2.2; omega) hfL H2.out.2.2.2
  rw [hm2] at hvL hvZ ⊢
  have HL := Lib.hid (And.intro hinL (And.intro nR (And.intro nZ (And.intro nC (And.intro hvL (And.intro hvZ (And.intro hm2 hsz)))))))
  clear hrL hfL hown hcv hvL hvZ hinL nR nZ nC hlk hsz q0 q1 q2 q3 q4 q5 q6 q7 q8 q9 v0 v1 v2 v3 hw2 hm2
  unfold Item.arr
  go_upto_region 7 with (fail)
  have hbI := Mem.al (Below.refl wL.heap.size wL) (.cells (it.arr (.slice a2 m2 k2)) 51)
  have hinI := HL.out.1.below hbI
  have hlt := HL.out.1.hi
  have hlt1 := HB.out.2.2.2.2
  have nI := Mem.new_block wL (.cells (it.arr (.slice a2 m2 k2)) 51)
  have nR := (hbI.block _ (by omega)).trans HL.out.2.1
  have nZ := (hbI.block _ (by omega)).trans HL.out.2.2.1
  have nC := (hbI.block _ (by omega)).trans HL.out.2.2.2.1
  have hvI := HL.out.2.2.2.2.1.below hbI
  have cI : colL wL.heap.size = none := Run.none HL.out.1.run (Nat.le_refl _)
  obtain ⟨wI, hwI⟩ : ∃ wI, wL.alloc (.cells (it.arr (.slice a2 m2 k2)) 51) = wI := ⟨_, rfl⟩
  rw [hwI] at hinI nR nZ nC nI hvI
  have q1 := Mem.row_cell nC 1
  simp only [Cmd.arr, List.getElem?_toArray, List.getElem?_cons_zero, List.getElem?_cons_succ] at q1
  have hus := use_run hinI.run (by have := HK.out.1; omega) c.key (by have := HK.out.2.2.1; unfold maxLen; omega)
  have HI := Lib.hid (And.intro hinI (And.intro nR (And.intro nZ (And.intro nI (And.intro cI hvI)))))
  clear hinI nR nZ nC nI cI hvI hlt hlt1 hbI
  unfold Item.arr at hwI
  go_wp2_with fail
  refine hus.mono ?_
  rintro e wU ⟨rfl, hT⟩
  obtain ⟨colU, hinU, hfU⟩ := HI.out.1.turn hT
  have nR := HI.out.1.row (by have := HB.out.2.2.2.2; omega) (by omega) hfU HI.out.2.1
  have nZ := HI.out.1.row (by omega) (by have := HB.out.2.2.2.2; omega) hfU HI.out.2.2.1
  have nI := (Box.turn hfU HI.out.2.2.2.1 HI.out.2.2.2.2.1).1
  have hvU := HI.out.2.2.2.2.2.turn hfU
  clear hwI q1 hus hT hfU
  have r0 := Mem.row_cell nR 0
  have r1 := Mem.row_cell nR 1
  have r2 := Mem.row_cell nR 2
  have r3 := Mem.row_cell nR 3
  have r4 := Mem.row_cell nR 4
  have r5 := Mem.row_cell nR 5
  have r6 := Mem.row_cell nR 6
  have r7 := Mem.row_cell nR 7
  have r8 := Mem.row_cell nR 8
  have r9 := Mem.row_cell nR 9
  have r10 := Mem.row_cell nR 10
  have r11 := Mem.row_cell nR 11
  have r12 := Mem.row_cell nR 12
  have r13 := Mem.row_cell nR 13
  have r14 := Mem.row_cell nR 14
  simp only [rarr, List.getElem?_toArray, List.getElem?_cons_zero, List.getElem?_cons_succ] at r0 r1 r2 r3 r4 r5 r6 r7 r8 r9 r10 r11 r12 r13 r14
  have i0 := Mem.row_cell nI 0
  have i1 := Mem.row_cell nI 1
  have i2 := Mem.row_cell nI 2
  have i3 := Mem.row_cell nI 3
  have i4 := Mem.row_cell nI 4
  have i5 := Mem.row_cell nI 5
  have i6 := Mem.row_cell nI 6
  have i7 := Mem.row_cell nI 7
  have i8 := Mem.row_cell nI 8
  have i9 := Mem.row_cell nI 9
  simp only [Item.arr, List.getElem?_toArray, List.getElem?_cons_zero, List.getElem?_cons_succ] at i0 i1 i2 i3 i4 i5 i6 i7 i8 i9
  have hwt := with_any hinU.run HK.out.1 it (c := c) (env := env) HL.out.2.2.2.2.2.2.1 HL.out.2.2.2.2.2.2.2.1 HL.out.2.2.2.2.2.2.2.2 hvU HK.out.2.1 HK.out.2.2.1 HK.out.2.2.2.1 (hinU.val HK.out.2.2.2.2.1) HK.out.2.2.2.2.2.2.2.1 HK.out.2.2.2.2.2.2.2.2.1 HK.out.2.2.2.2.2.2.2.2.2.1 HK.out.2.2.2.2.2.2.2.2.2.2
  unfold rarr Item.arr at hwt
  have HU := Lib.hid (And.intro hinU (And.intro nZ hvU))
  clear hinU nR nZ nI hvU
  go_wp2_with fail
  refine hwt.mono ?_
  rintro en wT h9
  obtain ⟨f, r, t, va, vn, vk, col', hf, hg, rfl, hvn, hinT, hfr, hval, hq⟩ := h9.use HU.out.1
  have hzT := HU.out.1.row (by omega) (by have := HB.out.2.2.2.2; omega) hfr HU.out.2.1
  have hvT := HU.out.2.2.turn hfr
  have H3 := Lib.hid (And.intro hinT (And.intro hzT (And.intro hval (And.intro hf (And.intro hg (And.intro hq hvT))))))
  clear h9 hf hg hinT hfr hval hzT hvn hwt hq hvT r0 r1 r2 r3 r4 r5 r6 r7 r8 r9 r10 r11 r12 r13 r14 i0 i1 i2 i3 i4 i5 i6 i7 i8 i9
  go_wp2_with (first
    | (refine wpList_store_row rfl 37 _ _ rfl (w.heap.size + 1 + 1) (r.arr (.slice va vn vk)) rfl rfl 37 zeroR H3.out.2.1 (res_size _ _) rfl (res_one _ _ _ _) ?_)
    | fail)
  refine bodyPost_ret (results_cell_row Tryz.results19 _ _ (w.heap.size + 1 + 1) _ _ _ _ rfl (setRow_heap _ _ _ (r.arr (.slice va vn vk)) _ _ H3.out.2.1) Tryz.underlying37 rfl (res_size _ _)) rfl ?_
  have hlt1 := HB.out.2.2.2.2
  have hlt2 := H2.out.1.hi
  have hvf : Val (wT.setRow (w.heap.size + 1 + 1) (r.arr (.slice va vn vk))) col' (.slice va vn vk) r.val := by
    rcases H3.out.2.2.2.2.2.1 with e | ⟨e1, e2⟩
    · exact H3.out.2.2.1.void e (by simp)
    · rw [e1, e2]
      exact H3.out.2.2.2.2.2.2.aside (k := w.heap.size + 1 + 1) (Only.setRow (.inl rfl) (Only.refl _ _)) fun _ e => by
        have := HL.out.2.2.2.2.2.1 _ e
        omega
  refine (H3.out.1.setRow (k := w.heap.size + 1 + 1) (by omega) (by omega) _).stopF (r := r) (v := .slice va vn vk) H3.out.2.2.2.1 ?_ hvf fun k hnn hk => ?_
  · show run c env f s = _
    unfold run
    rw [if_neg HZ.out.1, if_neg (by rw [HZ.out.2]; decide), HF.out]
    show withI c env (s.ent x).it f _ = _
    rw [HT.out]
    exact H3.out.2.2.2.2.1
  · rcases H3.out.2.2.2.2.2.1 with e | ⟨e1, e2⟩
    · exact absurd e hnn
    · rw [e1] at hk
      have := HL.out.2.2.2.2.2.1 _ hk
      omega
end
end Go.Proofs.YtpghckiochjogaaGreatDoor.Exec

