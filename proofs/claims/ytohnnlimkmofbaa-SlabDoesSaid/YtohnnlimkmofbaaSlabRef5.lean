/- The document's own slab of layer 7: Free. -/
import Derived.Test.YtohnnlimkmofbaaSlabRef4
import Derived.Deep.AppendLies
namespace Go.Proofs.Ytohnnlimkmofbaa.RefSlab
open Go Go.RowKit Go.Proofs.Ytohnnlimkmofbaa.Slab Go.Proofs.Ytohnnlimkmofbaa.Mem

def rfree (r : RSt) (c : Int × Int) : Int × RSt := if c ∈ r.inn then (0, { r with inn := r.inn.erase c, gone := r.gone ++ [c] }) else (1, r)
def RFreePost (w : World) (b : Nat) (F : Nat → Prop) (r : RSt) (c : Int × Int) (e : Ending) (w' : World) : Prop :=
  ∃ F', e = .returned (.int .i64 (rfree r c).1) ∧ RAt w' b F' (rfree r c).2 ∧ Only F w w' ∧ Grows w F F'

set_option maxRecDepth 20000 in
set_option maxHeartbeats 2000000 in
theorem free_any {w : World} {b : Nat} {F : Nat → Prop} {r : RSt} (h : RAt w b F r) (hl : r.inn.length ≤ 1000000) (hl2 : r.gone.length ≤ 1000000) (c n : Int) :
    Calls Try.prog 20 #[.pointer (some ⟨b, 0, none⟩), .agg #[.int .i64 c, .int .i64 n]] w (RFreePost w b F r (c, n)) := by
  have hst : Below w.heap.size w (w.alloc (.cells #[.int .i64 c, .int .i64 n] 34)) := Mem.al (Below.refl _ _) _
  have h1 := h.below hst
  have hlt0 := h.lt
  have hk := Mem.new_block w (.cells #[.int .i64 c, .int .i64 n] 34)
  have H1 := Lib.hid (And.intro h1 hk)
  have H0 := Lib.hid (And.intro hst hlt0)
  clear h h1 hk hst hlt0
  go_enter Try.func20, Try.ntmps20
  go_wp2
  generalize w.alloc (.cells #[.int .i64 c, .int .i64 n] 34) = w1 at *
  obtain ⟨sz, hsz⟩ : ∃ sz, w.heap.size = sz := ⟨_, rfl⟩
  rw [hsz] at H1
  have HS := Lib.hid hsz
  simp only [hsz]
  clear hsz
  go_loopg [5] r.inn.length (fun g i wr => ∃ j : Nat, i = .int .i64 j ∧ g + j = r.inn.length ∧ Below w1.heap.size w1 wr ∧ (c, n) ∉ r.inn.take j)
  case atStart => exact ⟨0, rfl, by omega, Below.refl _ _, by simp⟩
  case round =>
    obtain ⟨j, rfl, hg, hb, hno⟩ := hrel
    have HG := Lib.hid hg
    obtain ⟨vi, vg, gm, h⟩ := H1.out.1.below hb
    obtain ⟨ya, yc, hv⟩ := row_shape h.ri
    have c1 : wr.cell? ⟨b, 1, none⟩ = some vi := Mem.row_cell h.blk 1
    have hkb := (hb.block sz (Array.getElem?_eq_some_iff.1 H1.out.2).1).trans H1.out.2
    have p0 := Mem.row_cell hkb 0
    have p1 := Mem.row_cell hkb 1
    simp only [List.getElem?_toArray, List.getElem?_cons_zero, List.getElem?_cons_succ] at p0 p1
    have HB := Lib.hid (And.intro hb hno)
    by_cases hj : j < r.inn.length
    · obtain ⟨⟨cj, nj⟩, hcj⟩ : ∃ q, r.inn[j]? = some q := ⟨_, List.getElem?_eq_getElem hj⟩
      obtain ⟨g', cap', hya, z0, z1⟩ := row_at h.ri hcj
      subst hv
      injection hya with hya hle hyc
      clear hle
      subst hya hyc
      have hji : (j : Int) < r.inn.length := by omega
      have htk : r.inn.take (j + 1) = r.inn.take j ++ [(cj, nj)] := by rw [List.take_add_one, hcj]; rfl
      have HT := Lib.hid (And.intro htk hcj)
      have HW := Lib.hid (And.intro h hkb)
      clear h hkb hb hno hcj htk hg
      by_cases hcc : cj = c
      · subst hcc
        by_cases hnn : nj = n
        · subst hnn
          go_wp2
          go_quiet (fail)
          have h5 := HW.out.1.same (w' := wr.drewN nq) (fun _ _ => rfl) (Nat.le_refl _)
          have hk5 : (wr.drewN nq).heap[sz]? = some (.cells #[.int .i64 cj, .int .i64 nj] 34 (0, 0)) := HW.out.2
          have hb5 : Below w1.heap.size w1 (wr.drewN nq) := Mem.tr HB.out.1 (Mem.dn (Below.refl _ _) _)
          have d1 : (wr.drewN nq).cell? ⟨b, 1, none⟩ = some (.slice (some ⟨g', 0, none⟩) r.inn.length yc) := Mem.row_cell h5.blk 1
          have f1 : (wr.drewN nq).frozen? ⟨b, 1, none⟩ = false := Mem.row_free h5.blk 1
          clear c1 p0 p1 z0 z1
          generalize wr.drewN nq = w5 at *
          have hcap : r.inn.length ≤ yc := by
            rcases h5.ri.2 with ⟨e1, _⟩ | ⟨g1, c1, cur, e1, _, _, e2, _⟩
            · cases e1
            · injection e1 with _ _ e1; omega
          have hrd : ReadsC w5 g' 0 r.inn := fun i u hu => by
            obtain ⟨n', hn'⟩ : ∃ n', r.inn.length = n' + 1 := ⟨r.inn.length - 1, by omega⟩
            have ho := h5.ri
            rw [hn'] at ho
            obtain ⟨g1, c1, cur, e1, _, e2, _, _, e3⟩ := Mem.row_block ho
            injection e1 with e1
            injection e1 with e1
            injection e1 with e1
            subst e1
            rw [Nat.zero_add]
            exact (Mem.row_cell e2 _).trans (e3 _ _ hu)
          have hgl : g' < w5.heap.size := h5.lt _ (h5.fi g' rfl)
          have hl1 : (r.inn.take j).length = j := by rw [List.length_take]; omega
          have hl2 : (r.inn.drop (j + 1)).length = r.inn.length - (j + 1) := by rw [List.length_drop]
          have hcapi : (j : Int) ≤ yc := by omega
          have hcapi1 : (r.inn.length : Int) ≤ yc := by omega
          have hw1 : IntKind.i64.wrap ((j : Int) + 1) = (j : Int) + 1 := by rw [IntKind.wrap_i64]; omega
          have htn : ((j : Int) + 1).toNat = j + 1 := by omega
          have hk1i : (j : Int) + 1 ≤ r.inn.length := by omega
          have hk01 : (0 : Int) ≤ (j : Int) + 1 := by omega
          obtain ⟨off2, hoff2, hrd2⟩ : ∃ off2, (if yc = j + 1 then some (⟨g', 0, none⟩ : Addr) else some ⟨g', (j + 1) * 2, none⟩) = some ⟨g', off2, none⟩ ∧ ReadsC w5 g' off2 (r.inn.drop (j + 1)) := by
            by_cases hy : yc = j + 1
            · refine ⟨0, by rw [if_pos hy], ?_⟩
              rw [List.drop_eq_nil_of_le (by omega)]
              exact fun i u hu => by simp [cellsC] at hu
            · refine ⟨(j + 1) * 2, by rw [if_neg hy], ?_⟩
              have := hrd.drop (j + 1)
              rwa [Nat.zero_add] at this
          have H5 := Lib.hid (And.intro h5 (And.intro hk5 (And.intro hb5 (And.intro hrd hrd2))))
          clear h5 hk5 hb5 hrd hrd2
          have hlb : b < w5.heap.size := H5.out.1.lt _ H5.out.1.fb
          have hls : sz < w5.heap.size := (Array.getElem?_eq_some_iff.1 H5.out.2.1).1
          have hkeep1 : ∀ w6, w5.grownBy w6 (Value.slice none 0 0).ownBlock → ∀ k, k < w5.heap.size → w6.heap[k]? = w5.heap[k]? := fun w6 hg k hk => hg.block k hk (fun e => by cases e)
          have hkeep2 : ∀ (w6 w7 : World) (v1 : Value), w5.grownBy w6 (Value.slice none 0 0).ownBlock → w6.grownBy w7 v1.ownBlock → (v1.ownBlock = (Value.slice none 0 0).ownBlock ∨ v1.ownBlock = some w5.heap.size) → ∀ k, k < w5.heap.size → w7.heap[k]? = w5.heap[k]? := fun w6 w7 v1 hg hg2 hat k hk =>
            (hg2.block k (Nat.lt_of_lt_of_le hk hg.size) (fun e => by
              rcases hat with e1 | e1
              · rw [e1] at e; cases e
              · rw [e1] at e; injection e with e; omega)).trans (hkeep1 w6 hg k hk)
          have HK2 := Lib.hid hkeep2
          have HK1 := Lib.hid hkeep1
          clear hkeep1 hkeep2
          go_wp2_with (first
            | (at_builtin; refine list_appC _ _ 0 _ [] (r.inn.take j) g' 0 yc rfl rfl rfl (by rw [hl1]; kernel_rfl) (World.ownsRow_nil _ _ _ _) (H5.out.2.2.2.1.take j) (by rw [hl1]; simp; omega) (Nat.zero_le _) ?_; intro v1 w6 hown1 hgrow1 hat1; have d1' : w6.cell? ⟨b, 1, none⟩ = some (.slice (some ⟨g', 0, none⟩) r.inn.length yc) := (World.cell?_of_block (HK1.out _ hgrow1 b hlb)).trans d1)
            | (at_builtin; refine list_appC _ _ 0 v1 (r.inn.take j) (r.inn.drop (j + 1)) g' off2 (yc - (j + 1)) rfl rfl rfl (by rw [hl2]; kernel_rfl) hown1 (H5.out.2.2.2.2.same (HK1.out _ hgrow1 g' hgl)) (by rw [hl1, hl2]; omega) (Nat.zero_le _) ?_; intro v2 w7 hown2 hgrow2 hat2; obtain ⟨xs, hxs⟩ : ∃ xs, r.inn.take j ++ r.inn.drop (j + 1) = xs := ⟨_, rfl⟩; rw [hxs] at hown2; obtain ⟨ya2, yc2, hv2⟩ := row_shape hown2; subst hv2; have d2' : w7.cell? ⟨b, 1, none⟩ = some (.slice (some ⟨g', 0, none⟩) r.inn.length yc) := (World.cell?_of_block (HK2.out _ _ _ hgrow1 hgrow2 hat1 b hlb)).trans d1; have f2' : w7.frozen? ⟨b, 1, none⟩ = false := (World.frozen?_of_block (HK2.out _ _ _ hgrow1 hgrow2 hat1 b hlb)).trans f1))
          have h7 := HK2.out _ _ _ hgrow1 hgrow2 hat1
          have hat7 : ∀ g, (Value.slice ya2 xs.length yc2).ownBlock = some g → w5.heap.size ≤ g := fun g e => by
            rw [e] at hat2
            rcases hat2 with e1 | e1
            · rcases hat1 with e2 | e2
              · rw [e2] at e1; cases e1
              · rw [e2] at e1; injection e1 with e1; omega
            · injection e1 with e1
              have := hgrow1.size; omega
          have hz7 : w5.heap.size ≤ w7.heap.size := Nat.le_trans hgrow1.size hgrow2.size
          have h8 := H5.out.1.inn (fun k hk _ => h7 k (H5.out.1.lt k hk)) hz7 hown2 (fun g e => .inr (hat7 g e))
          have ho7 : Only F w5 w7 := ((Only.refl F w5).grown hgrow1 (fun g e => (by cases e))).grown hgrow2 (fun g e => .inr (by
            rcases hat1 with e2 | e2
            · rw [e2] at e; cases e
            · rw [e2] at e; injection e with e; omega))
          have ho8 : Only F w5 (w7.setCell ⟨b, 1, none⟩ (.slice ya2 xs.length yc2)) := ho7.setCell (.inl H5.out.1.fb) _
          have hsb : sz ≠ b := fun e => by subst e; have := HS.out; have := H0.out.2 _ H5.out.1.fb; omega
          have hk8 : (w7.setCell ⟨b, 1, none⟩ (.slice ya2 xs.length yc2)).heap[sz]? = some (.cells #[.int .i64 cj, .int .i64 nj] 34 (0, 0)) := (Below.heap_setCell _ _ _ _ (by simpa using hsb)).trans ((h7 sz hls).trans H5.out.2.1)
          have hgr8 : Grows w5 F (fun k => F k ∨ (Value.slice ya2 xs.length yc2).ownBlock = some k) := fun k hk => hk.imp id (hat7 k)
          have H8 := Lib.hid (And.intro h8 (And.intro ho8 (And.intro hk8 (And.intro hgr8 hxs))))
          clear h7 hat7 hz7 h8 ho7 ho8 hk8 hgr8 hown1 hown2 hgrow1 hgrow2 hat1 hat2 hxs d1' d2' f2' d1 f1
          generalize w7.setCell ⟨b, 1, none⟩ (.slice ya2 xs.length yc2) = w8 at *
          obtain ⟨i0, hi, hz0, hz1, hz2⟩ := info_parts infoChunk
          have ck : w8.cell? ⟨b, 2, none⟩ = some vg := Mem.row_cell H8.out.1.blk 2
          have fk := Mem.row_free H8.out.1.blk 2
          have d0' := Mem.row_cell H8.out.2.2.1 0
          have d1' := Mem.row_cell H8.out.2.2.1 1
          simp only [List.getElem?_toArray, List.getElem?_cons_zero, List.getElem?_cons_succ] at d0' d1'
          have hrow := H8.out.1.rg
          have hlb8 : b < w8.heap.size := H8.out.1.lt _ H8.out.1.fb
          have hls8 : sz < w8.heap.size := (Array.getElem?_eq_some_iff.1 H8.out.2.2.1).1
          have hne : vg.ownBlock ≠ some b := row_not H8.out.1.rg H8.out.1.blk (by decide)
          have hneR : vg.ownBlock ≠ some sz := fun e => by have := H0.out.2 sz (HW.out.1.fg sz e); have := HS.out; omega
          obtain ⟨L, hL⟩ : ∃ L, r.gone.length = L := ⟨_, rfl⟩
          obtain ⟨X, hX⟩ : ∃ X, cellsC r.gone = X := ⟨_, rfl⟩
          simp only [hL, hX] at hrow
          have hmx : L + 1 ≤ maxLen := by unfold maxLen; omega
          have hby : (L + 1) * 16 ≤ 140737488355328 := by omega
          have HLX := Lib.hid (And.intro hL hX)
          clear hL hX
          have hstep : ∀ {ops : Array Oper} {o : Oper} {a : Act} {K : Act → World → Prop} {Q : Exit → Act → World → Prop} {E : Prop}, o.guard = none → o.op = .call { callee := .builtin .append, args := #[.tmp 49, .tmp 51], argTypes := #[31, 31] } → a.eval (.tmp 49) = vg → a.eval (.tmp 51) = .slice (some ⟨w8.heap.size, 0, none⟩) 1 1 → (∀ g cap w', w'.ownsRow 0 34 2 (.slice (some ⟨g, 0, none⟩) (L + 1) cap) (L + 1) (X ++ [.int .i64 cj, .int .i64 nj]) → (w8.alloc (.cells #[.int .i64 cj, .int .i64 nj] 34)).drew.grownBy w' vg.ownBlock → (vg.ownBlock = some g ∨ g = w8.heap.size + 1) → g < w'.heap.size → K (a.put o.dst (.slice (some ⟨g, 0, none⟩) (L + 1) cap)) w') → if Region.wanted o (yielded ops a.tmps) = true then Oper.wp Try.prog o a (w8.alloc (.cells #[.int .i64 cj, .int .i64 nj] 34)).drew K Q else E := fun hg ho he hx hK => step_append_lies _ hg _ _ _ ho 0 34 i0 _ 2 16 Try.underlying31 hi hz0 hz1 hz2 rfl (by omega) vg L X he ((hrow.alloc _).drew) ⟨w8.heap.size, 0, none⟩ 1 1 [.int .i64 cj, .int .i64 nj] hx rfl (World.news_of_block (cs := #[.int .i64 cj, .int .i64 nj]) (t := 34) (fr := (0, 0)) (heap_alloc_new w8 _)) (by simp [Value.oneCell']) (by decide) hmx hby (Nat.zero_le _) (w8.heap.size + 1) (by simp) hK
          have hsl : b < (w8.alloc (.cells #[.int .i64 cj, .int .i64 nj] 34)).drew.heap.size := by simp; omega
          have hblk : ∀ w1 : World, (w8.alloc (.cells #[.int .i64 cj, .int .i64 nj] 34)).drew.grownBy w1 vg.ownBlock → w1.heap[b]? = w8.heap[b]? := fun w1 hg => (hg.block b hsl (Ne.symm hne)).trans (Below.heap_alloc w8 _ _ hlb8)
          have hfarb : ∀ w1 : World, (w8.alloc (.cells #[.int .i64 cj, .int .i64 nj] 34)).drew.grownBy w1 vg.ownBlock → w1.cell? ⟨b, 2, none⟩ = some vg ∧ w1.frozen? ⟨b, 2, none⟩ = false := fun w1 hg => ⟨(World.cell?_of_block (hblk w1 hg)).trans ck, (World.frozen?_of_block (hblk w1 hg)).trans fk⟩
          have hsl2 : sz < (w8.alloc (.cells #[.int .i64 cj, .int .i64 nj] 34)).drew.heap.size := by simp; omega
          have hfars : ∀ w1 : World, (w8.alloc (.cells #[.int .i64 cj, .int .i64 nj] 34)).drew.grownBy w1 vg.ownBlock → w1.cell? ⟨sz, 0, none⟩ = some (.int .i64 cj) ∧ w1.cell? ⟨sz, 1, none⟩ = some (.int .i64 nj) := fun w1 hg => by
            have e2 := (hg.block sz hsl2 (Ne.symm hneR)).trans (Below.heap_alloc w8 _ _ hls8)
            exact ⟨(World.cell?_of_block e2).trans d0', (World.cell?_of_block e2).trans d1'⟩
          go_cut [] from 7 to 54 (fun wx => ∃ g cap w1, w1.ownsRow 0 34 2 (.slice (some ⟨g, 0, none⟩) (L + 1) cap) (L + 1) (X ++ [.int .i64 cj, .int .i64 nj]) ∧ (w8.alloc (.cells #[.int .i64 cj, .int .i64 nj] 34)).drew.grownBy w1 vg.ownBlock ∧ (vg.ownBlock = some g ∨ g = w8.heap.size + 1) ∧ g < w1.heap.size ∧ wx = w1.setCell ⟨b, 2, none⟩ (.slice (some ⟨g, 0, none⟩) (L + 1) cap))
          case first =>
            go_region_law (refine hstep (by rfl) (by rfl) (by kernel_rfl) (by kernel_rfl) ?_; intro gg cap w1 hown1 hgrow hat hlt; have cw1 := (hfarb w1 hgrow).1; have fw1 := (hfarb w1 hgrow).2; have ew1 := (hfars w1 hgrow).1; have gw1 := (hfars w1 hgrow).2)
            all_goals (go_wp2_with fail; go_meet; exact ⟨_, _, _, hown1, hgrow, hat, hlt, rfl⟩)
          case rest =>
            obtain ⟨g, cap, w9, hown, hgrow, hat, hlt, rfl⟩ := hcut
            have hX := HLX.out.2
            have hL := HLX.out.1
            subst hX hL
            have hw5 : w.heap.size ≤ w5.heap.size := by have h1 := H0.out.1.size; have h2 := H5.out.2.2.1.size; omega
            have hw8 := H8.out.2.1.size
            have hw89 : w8.heap.size ≤ w9.heap.size := Nat.le_trans (by simp) hgrow.size
            have hown' : w9.ownsRow 0 34 2 (.slice (some ⟨g, 0, none⟩) (r.gone.length + 1) cap) (r.gone ++ [(cj, nj)]).length (cellsC (r.gone ++ [(cj, nj)])) := by
              rw [List.length_append, cellsC_app]; exact hown
            have hat' : ∀ x, (Value.slice (some ⟨g, 0, none⟩) (r.gone.length + 1) cap).ownBlock = some x → vg.ownBlock = some x ∨ w8.heap.size ≤ x := fun x e => by
              have : g = x := by simpa [Value.ownBlock] using e
              subst this
              exact hat.imp id (fun e => by omega)
            have h10 := H8.out.1.gne (w' := w9) (fun k hk hv => (hgrow.block k (by have := H8.out.1.lt k hk; simp; omega) (fun e => hv e.symm)).trans (Below.heap_alloc _ _ _ (H8.out.1.lt k hk))) hw89 hown' hat'
            have ho10 : Only F w (w9.setCell ⟨b, 2, none⟩ (.slice (some ⟨g, 0, none⟩) (r.gone.length + 1) cap)) :=
              ((((Only.of_below (F := F) (Mem.tr H0.out.1 H5.out.2.2.1) (fun k h1 h2 => by omega)).trans H8.out.2.1 (fun _ e => .inl e)).alloc _).drew.grown hgrow (fun x e => .inl (H5.out.1.fg x e))).setCell (.inl H5.out.1.fb) _
            have hg10 : Grows w F (fun k => (F k ∨ (Value.slice ya2 xs.length yc2).ownBlock = some k) ∨ (Value.slice (some ⟨g, 0, none⟩) (r.gone.length + 1) cap).ownBlock = some k) := fun x hx => by
              rcases hx with hx | hx
              · exact (H8.out.2.2.2.1 x hx).imp id (fun e => by omega)
              · rcases hat' x hx with e | e
                · exact .inl (H5.out.1.fg x e)
                · exact .inr (by omega)
            have hmem : (cj, nj) ∈ r.inn := List.mem_of_getElem? HT.out.2
            have hr : rfree r (cj, nj) = (0, { r with inn := xs, gone := r.gone ++ [(cj, nj)] }) := by
              unfold rfree
              rw [if_pos hmem, erase_first _ j _ HB.out.2 HT.out.2, H8.out.2.2.2.2]
            have H10 := Lib.hid (And.intro h10 (And.intro ho10 (And.intro hg10 hr)))
            clear h10 ho10 hg10 hr hown hgrow hat hlt hown' hat' hstep hblk hfarb hfars hmem
            go_wp2
            go_ret
            unfold RFreePost
            rw [H10.out.2.2.2]
            exact ⟨_, rfl, ⟨_, _, _, H10.out.1⟩, H10.out.2.1, H10.out.2.2.1⟩
        · have hnb : (nj == n) = false := by simp; exact hnn
          have HN := Lib.hid hnn
          go_wp2
          go_quiet (fail)
          go_wp2
          go_roundg (r.inn.length - (j + 1))
          case measure => have := HG.out; omega
          case rel => exact ⟨j + 1, by go_num, by have := HG.out; omega, Mem.tr HB.out.1 (Mem.dn (Below.refl _ _) _), by rw [HT.out.1]; simp; exact ⟨HB.out.2, fun e => HN.out e.symm⟩⟩
      · have hnb : (cj == c) = false := by simp; exact hcc
        have HN := Lib.hid hcc
        go_wp2
        go_quiet (fail)
        go_wp2
        go_roundg (r.inn.length - (j + 1))
        case measure => have := HG.out; omega
        case rel => exact ⟨j + 1, by go_num, by have := HG.out; omega, Mem.tr HB.out.1 (Mem.dn (Below.refl _ _) _), by rw [HT.out.1]; simp; exact ⟨HB.out.2, fun e => absurd e.symm HN.out⟩⟩
    · have hjs : (r.inn.length : Int) ≤ j := by omega
      have hno' : (c, n) ∉ r.inn := by rw [List.take_of_length_le (by omega)] at hno; exact hno
      have HN := Lib.hid hno'
      subst hv
      clear h hkb hb hno hno' hg
      go_wp2
      go_ret
      have hbw := Mem.tr H0.out.1 HB.out.1
      unfold RFreePost rfree
      rw [if_neg HN.out]
      exact ⟨F, rfl, H1.out.1.below HB.out.1, Only.of_below hbw (fun k h1 h2 => by omega), Grows.refl _ _⟩
end Go.Proofs.Ytohnnlimkmofbaa.RefSlab
