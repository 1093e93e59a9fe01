/- SlabDoes answers true for every budget and list of calls. Conditions: the numbers are ints. -/
import Derived.Test.YtohnnlimkmofbaaSlabAwake
import Derived.Test.YtohnnlimkmofbaaSlab6
import Derived.Test.YtohnnlimkmofbaaSlabBoth
import Derived.Deep.LoopGhost
import Derived.Deep.QuietTactic
import Derived.BigQuiet
import Derived.Deep.CutRange
import Derived.Deep.RegionLaw
import Derived.Deep.RegionHeld3
import Derived.Deep.CutBlock
namespace Go.Proofs.Ytohnnlimkmofbaa.RefSlab
open Go Go.RowKit Go.Proofs.Ytohnnlimkmofbaa.Slab Go.Proofs.Ytohnnlimkmofbaa.Mem Go.Proofs.Ytohnnlimkmofbaa.Ops Go.Proofs.Ytohnnlimkmofbaa.RefSlab

def opObj (o : Slab.Op) : Obj := .cells #[.int .i64 o.kind, .int .i64 o.size, .int .i64 o.no, .bool o.raw, .int .i64 o.c, .int .i64 o.n] 38 (0, 0)
def cObj (c n : Int) : Obj := .cells #[.int .i64 c, .int .i64 n] 34 (0, 0)
theorem Off.write {w : World} {F G : Nat → Prop} {va : Value} {cb : Nat} {c n c' n' : Int} (h : Off w F G va cb (cObj c n)) :
    Below w.heap.size w w ∧ Off ((w.setCell ⟨cb, 0, none⟩ (.int .i64 c')).setCell ⟨cb, 1, none⟩ (.int .i64 n')) F G va cb (cObj c' n') :=
  ⟨Below.refl _ _, Mem.row_set (Mem.row_set h.is 0 (.int .i64 c')) 1 (.int .i64 n'), h.nf, h.ng, h.nv⟩
theorem Off.far {w : World} {F G : Nat → Prop} {va : Value} {ob cb : Nat} {o : Obj} (h : Off w F G va ob o) (hne : ob ≠ cb) (i : Nat) (v : Value) : Off (w.setCell ⟨cb, i, none⟩ v) F G va ob o :=
  ⟨(Below.heap_setCell _ _ _ _ hne).trans h.is, h.nf, h.ng, h.nv⟩
theorem Both.far {W w : World} {N b rb cb : Nat} {F G : Nat → Prop} {s : St} {r : RSt} {va : Value} {had : List (Int × Int)} {o : Obj} (h : Both W w N b F s rb G r va had) (ho : Off w F G va cb o) (hW : W.heap.size ≤ cb) (i : Nat) (v : Value) :
    Both W (w.setCell ⟨cb, i, none⟩ v) N b F s rb G r va had := by
  have hs : ∀ k, k ≠ cb → (w.setCell ⟨cb, i, none⟩ v).heap[k]? = w.heap[k]? := fun k hk => Below.heap_setCell _ _ _ _ hk
  have hz : (w.setCell ⟨cb, i, none⟩ v).heap.size = w.heap.size := by simp [World.setCell]
  exact ⟨⟨h.run.at_.same (fun k hk => hs k (fun e => ho.nf (e ▸ hk))) (Nat.le_of_eq hz.symm), h.run.low, h.run.below.setCell hW v, h.run.good⟩, h.ref.same (fun k hk => hs k (fun e => ho.ng (e ▸ hk))) (Nat.le_of_eq hz.symm), h.rlow, h.apart, h.link,
    ⟨row_same h.row.own fun g e => hs g (fun e1 => ho.nv (e1 ▸ e)), h.row.off⟩, h.hl⟩
theorem Both.drew {W w : World} {N b rb : Nat} {F G : Nat → Prop} {s : St} {r : RSt} {va : Value} {had : List (Int × Int)} (h : Both W w N b F s rb G r va had) : Both W w.drew N b F s rb G r va had := h.step (Below.drew (Below.refl _ _))
theorem Off.drew {w : World} {F G : Nat → Prop} {va : Value} {ob : Nat} {o : Obj} (h : Off w F G va ob o) : Off w.drew F G va ob o := h.step (Below.drew (Below.refl _ _))
theorem Off.grown {w w' : World} {F G : Nat → Prop} {va : Value} {ob : Nat} {o : Obj} (h : Off w F G va ob o) (hg : w.grownBy w' va.ownBlock) (_ : ∀ g, va.ownBlock = some g → g < w.heap.size) : Off w' F G va ob o :=
  ⟨(hg.block ob h.lt (Ne.symm h.nv)).trans h.is, h.nf, h.ng, h.nv⟩
theorem Off.list {w : World} {F G : Nat → Prop} {va v : Value} {ob : Nat} {o : Obj} (h : Off w F G va ob o) (hv : v.ownBlock ≠ some ob) : Off w F G v ob o := ⟨h.is, h.nf, h.ng, hv⟩
theorem Off.two' {w : World} {F G : Nat → Prop} {va : Value} {cb : Nat} {c n : Int} (h : Off w F G va cb (cObj c n)) : w.cell? ⟨cb, 0, none⟩ = some (.int .i64 c) ∧ w.cell? ⟨cb, 1, none⟩ = some (.int .i64 n) :=
  ⟨Mem.row_cell h.is 0, Mem.row_cell h.is 1⟩
end Go.Proofs.Ytohnnlimkmofbaa.RefSlab
namespace Go.Proofs.Ytohnnlimkmofbaa.SlabDoes
open Go Go.RowKit Go.Proofs.Ytohnnlimkmofbaa.Slab Go.Proofs.Ytohnnlimkmofbaa.Mem Go.Proofs.Ytohnnlimkmofbaa.Ops Go.Proofs.Ytohnnlimkmofbaa.RefSlab

set_option maxRecDepth 20000 in
set_option maxHeartbeats 4000000 in
theorem walk (W : World) (budget : Int) (x : Option Addr) (n c : Nat) (l : List Slab.Op) (hb : isI budget) (hl : n = l.length ∧ n ≤ maxLen ∧ (∀ a ∈ l, OpOk a) ∧ Lies W 6 encO x l) :
    Calls Try.prog 6 #[.int .i64 budget, .slice x n c] W fun e W' => e = .returned (.bool true) ∧ Below W.heap.size W W' := by
  obtain ⟨rfl, -, hok, hlies⟩ := hl
  have HL := Lib.hid hlies
  have HO := Lib.hid hok
  obtain ⟨i0, hi, hz0, hz1, hz2⟩ := info_parts infoChunk
  clear hlies hok
  go_enter Try.func6, Try.ntmps6
  go_wp2_with fail
  refine (awake_any _).mono ?_
  rintro e w1 ⟨rfl, hb1⟩
  go_wp2_with fail
  refine (Slab.new_gives _ _).mono ?_
  rintro e w2 ⟨b, F, rfl, h0, hF, hb2⟩
  have r0 : Run W w2 0 b F (new budget) := ⟨h0, fun k hk => Nat.le_trans hb1.size (hF k hk), hb1.trans (hb2.mono hb1.size), Slab.Good.new budget hb⟩
  clear h0 hF hb1 hb2
  by_cases hn : 200 < l.length
  · go_wp2_with fail
    go_ret
    exact ⟨rfl, r0.below⟩
  go_wp2_with fail
  refine (RefSlab.new_gives _ _).mono ?_
  rintro e w3 ⟨rb, G, rfl, h1, hG, hb3⟩
  have h3 : Both W w3 0 b F (new budget) rb G (rnew budget) (.slice none 0 0) [] :=
    ⟨r0.step hb3, h1, fun k hk => Nat.le_trans r0.below.size (hG k hk), fun k hk e => by have := r0.lt k hk; have := hG k e; omega, Link.new budget, Row.nil _ _ _, Nat.le_refl _⟩
  clear h1 hG hb3 r0
  go_wp2_with fail
  go_loopg [8, 9] l.length (fun g va i wr => ∃ (m : Nat) (F G : Nat → Prop) (s : St) (r : RSt) (had : List (Int × Int)), i = .int .i64 m ∧ g + m = l.length ∧ Hid (Both W wr (2 * m) b F s rb G r va had))
  case atStart => exact ⟨0, F, G, new budget, rnew budget, [], rfl, by omega, Lib.hid h3⟩
  case round =>
    obtain ⟨m, F1, G1, s, r, had, rfl, hg, HM⟩ := hrel
    clear h3
    by_cases hm : m < l.length
    · obtain ⟨o, ho⟩ : ∃ o, l[m]? = some o := ⟨_, List.getElem?_eq_getElem hm⟩
      obtain ⟨B, off, rfl, hB, hc⟩ := HL.out m o ho
      have hce : ∀ j u, (encO o)[j]? = some u → wr.cell? ⟨B, off + m * 6 + j, none⟩ = some u := fun j u hj => (World.cell?_of_block (HM.out.run.below.block B hB)).trans (hc j u hj)
      have ce0 : wr.cell? ⟨B, off + m * 6, none⟩ = some (.int .i64 o.kind) := hce 0 _ rfl
      have ce1 := hce 1 _ rfl
      have ce2 := hce 2 _ rfl
      have ce3 := hce 3 _ rfl
      have ce4 := hce 4 _ rfl
      have ce5 := hce 5 _ rfl
      have HG := Lib.hid hg
      have hm200 : m ≤ 200 := by omega
      obtain ⟨ya, yc, hva⟩ := HM.out.row.shape
      subst hva
      have hoo := HO.out o (List.mem_of_getElem? ho)
      have hno := hoo.no
      have hsi := hoo.size
      clear hc ho hg hce hoo
      have hmi : (m : Int) < l.length := by omega
      go_upto_region 11 with (fail)
      have ho1 := HM.out.new (opObj o)
      have hM1 := HM.out.step (Mem.al (Below.refl _ _) (opObj o))
      unfold opObj at ho1 hM1
      have hWr := HM.out.run.below.size
      clear HM
      generalize wr.alloc (.cells #[.int .i64 o.kind, .int .i64 o.size, .int .i64 o.no, .bool o.raw, .int .i64 o.c, .int .i64 o.n] 38) = wa at *
      obtain ⟨ob, hob⟩ : ∃ ob, wr.heap.size = ob := ⟨_, rfl⟩
      have hWo : W.heap.size ≤ ob := by rw [← hob]; exact hWr
      clear hWr
      rw [hob] at ho1
      simp only [hob]
      clear hob hmi ce0 ce1 ce2 ce3 ce4 ce5
      have b4 := Mem.row_cell ho1.is 4
      have b5 := Mem.row_cell ho1.is 5
      simp only [List.getElem?_toArray, List.getElem?_cons_zero, List.getElem?_cons_succ] at b4 b5
      have HM := Lib.hid hM1
      have HA := Lib.hid ho1
      clear hM1 ho1
      go_upto_region 12 with (fail)
      have hc2 := HM.out.new (cObj o.c o.n)
      have ho2 := HA.out.step (Mem.al (Below.refl _ _) (cObj o.c o.n))
      have hM2 := HM.out.step (Mem.al (Below.refl _ _) (cObj o.c o.n))
      have hoc : ob ≠ wa.heap.size := by have := HA.out.lt; omega
      have hWc : W.heap.size ≤ wa.heap.size := HM.out.run.below.size
      unfold cObj at hc2 ho2 hM2
      clear HM HA b4 b5
      generalize wa.alloc (.cells #[.int .i64 o.c, .int .i64 o.n] 34) = wb at *
      obtain ⟨cb, hcb⟩ : ∃ cb, wa.heap.size = cb := ⟨_, rfl⟩
      rw [hcb] at hc2 hoc hWc
      simp only [hcb]
      clear hcb
      have b2 := Mem.row_cell ho2.is 2
      have b3 := Mem.row_cell ho2.is 3
      simp only [List.getElem?_toArray, List.getElem?_cons_zero, List.getElem?_cons_succ] at b2 b3
      have HM := Lib.hid hM2
      have HA := Lib.hid ho2
      have HC := Lib.hid hc2
      have HW := Lib.hid (And.intro hWo (And.intro hWc hoc))
      clear hM2 ho2 hc2 hWo hWc hoc
      have hlen : had.length ≤ 400 := by have := HM.out.hl; omega
      go_cut [62] from 38 to 151 (fun v wx => ∃ q, v = .bool q ∧ (q = true → 0 < had.length ∧ 0 ≤ o.no) ∧ wx = wb)
      case first =>
        by_cases h1 : o.raw = true
        · have h1' : (!o.raw) = false := by simp [h1]
          go_wp2_with fail
          go_meet
          exact ⟨false, rfl, by simp, rfl⟩
        · have h1' : o.raw = false := by simpa using h1
          clear h1
          have h1 : (!o.raw) = true := by simp [h1']
          by_cases h3 : 0 ≤ o.no
          · by_cases h2 : 0 < had.length
            · have h2' : (0 : Int) < had.length := by omega
              go_wp2_with fail
              go_meet
              exact ⟨true, rfl, fun _ => ⟨h2, h3⟩, rfl⟩
            · have h2' : (had.length : Int) ≤ 0 := by omega
              go_wp2_with fail
              go_meet
              exact ⟨false, rfl, by simp, rfl⟩
          · go_wp2_with fail
            go_meet
            exact ⟨false, rfl, by simp, rfl⟩
      case rest =>
        obtain ⟨q, rfl, hq, rfl⟩ := hcut
        have HQ := Lib.hid hq
        clear hq b3
        go_upto_if 62 with (fail)
        go_cut [] from 38 to 151 (fun wx => ∃ cc nn, Both W wx (2 * m) b F1 s rb G1 r (.slice ya had.length yc) had ∧ Off wx F1 G1 (.slice ya had.length yc) ob (opObj o) ∧ Off wx F1 G1 (.slice ya had.length yc) cb (cObj cc nn))
        case first =>
          cases q with
          | true =>
            obtain ⟨h2, h3⟩ := HQ.out rfl
            obtain ⟨kk, hkk⟩ : ∃ kk : Nat, o.no.tmod had.length = kk := ⟨(o.no.tmod had.length).toNat, by
              have := Int.tmod_nonneg (had.length : Int) h3; omega⟩
            have hkl : kk < had.length := by
              have := Int.tmod_lt_of_pos o.no (show (0 : Int) < had.length by omega); omega
            have hmod : o.no % (had.length : Int) = kk := by rw [← hkk, Int.tmod_eq_emod_of_nonneg h3]
            obtain ⟨⟨cc, nn⟩, hck⟩ : ∃ q, had[kk]? = some q := ⟨_, List.getElem?_eq_getElem hkl⟩
            obtain ⟨g, cap, hya, hgl, q0, q1⟩ := HM.out.row.get hck
            injection hya with hya _ hyc
            subst hya hyc
            have hkki : (kk : Int) < had.length := by omega
            have hkk0 : (0 : Int) ≤ kk := by omega
            have hlp : ¬ (had.length : Int) = 0 := by omega
            have f0 := Mem.row_free HC.out.is 0
            have f1 := Mem.row_free HC.out.is 1
            have k0 := Mem.row_cell HC.out.is 0
            have k1 := Mem.row_cell HC.out.is 1
            simp only [List.getElem?_toArray, List.getElem?_cons_zero, List.getElem?_cons_succ] at k0 k1
            clear hck
            go_wp2_with fail
            go_meet
            have hcc := (Off.write (c' := cc) (n' := nn) HC.out).2
            exact ⟨cc, nn, Both.far (Both.far HM.out HC.out HW.out.2.1 0 _) (o := cObj cc o.n) ⟨Mem.row_set HC.out.is 0 _, HC.out.nf, HC.out.ng, HC.out.nv⟩ HW.out.2.1 1 _, Off.far (Off.far HA.out HW.out.2.2 0 _) HW.out.2.2 1 _, hcc⟩
          | false =>
            go_wp2_with fail
            go_meet
            exact ⟨_, _, HM.out, HA.out, HC.out⟩
        case rest =>
          obtain ⟨cc, nn, hM3, hA3, hC3⟩ := hcut
          clear HM HA HC b2
          have b0 := Mem.row_cell hA3.is 0
          have b1 := Mem.row_cell hA3.is 1
          have b2 := Mem.row_cell hA3.is 2
          have k0 := Mem.row_cell hC3.is 0
          have k1 := Mem.row_cell hC3.is 1
          simp only [List.getElem?_toArray, List.getElem?_cons_zero, List.getElem?_cons_succ] at b0 b1 b2 k0 k1
          have HM := Lib.hid hM3
          have HA := Lib.hid hA3
          have HC := Lib.hid hC3
          clear hM3 hA3 hC3
          go_upto_block 2 with fail
          go_cut [8, 12, 13, 14, 15, 16] from 38 to 151 (fun va v12 _ _ _ _ wx => ∃ F G s r had, v12 = .bool true ∧ Both W wx (2 * m + 2) b F s rb G r va had ∧ Off wx F G va cb (cObj cc nn))
          case first =>
            by_cases hk0 : o.kind = 0
            · have hkb : (o.kind == 0) = true := by simpa using hk0
              clear hk0 k0 k1 b2
              have hbd := HM.out.link.bounds HM.out.run.good (by omega)
              have hc1 := Slab.take_any HM.out.run.at_ HM.out.run.good.small (by omega) o.size
              have hc2 : ∀ w3, RAt w3 rb G1 r → Calls Try.prog 19 #[.pointer (some ⟨rb, 0, none⟩), .int .i64 o.size] w3 (RTakePost w3 rb G1 r o.size) := fun w3 h => RefSlab.take_any h hbd.1 hbd.2.1 hbd.2.2.1 hbd.2.2.2 o.size
              have hG := HM.out.run.good.take o.size
              have hlk := fun {c n err : Int} {r' : RSt} (ht : RTook r o.size c n err r') => HM.out.link.take HM.out.run.good ht
              unfold TakePost at hc1
              generalize hst : s.take o.size = y at *
              obtain ⟨⟨⟨c1, n1⟩, e1⟩, s1⟩ := y
              simp only at hc1 hG hlk
              clear hst hbd
              have HK := Lib.hid (And.intro hG @hlk)
              clear hG hlk
              go_wp2_with fail
              refine hc1.mono ?_
              rintro e w4 ⟨F4, rfl, h4, o4, q4⟩
              have hs4 := HM.out.slab h4 o4 q4 HK.out.1
              have nf : ¬ F4 w4.heap.size := fun e => by have := hs4.1.lt _ e; omega
              have ng : ¬ G1 w4.heap.size := fun e => by have := hs4.2.1.lt _ e; omega
              have nv : (Value.slice ya had.length yc).ownBlock ≠ some w4.heap.size := fun e => by have := (ownsRow_lt hs4.2.2.2.own _ e).2; omega
              have h5 := h4.below (Mem.al (Below.refl _ _) (.cells #[.int .i64 c1, .int .i64 n1] 34))
              have o5 := o4.alloc (.cells #[.int .i64 c1, .int .i64 n1] 34)
              have k5 : Off (w4.alloc (.cells #[.int .i64 c1, .int .i64 n1] 34)) F4 G1 (.slice ya had.length yc) w4.heap.size (cObj c1 n1) := ⟨Mem.new_block w4 _, nf, ng, nv⟩
              have hr5 := hs4.2.1.below (Mem.al (Below.refl _ _) (.cells #[.int .i64 c1, .int .i64 n1] 34))
              have H5 := Lib.hid (And.intro h5 (And.intro o5 (And.intro k5 (And.intro hr5 q4))))
              have b1' := Mem.row_cell (HA.out.two o5 q4 (Only.refl _ _) (Grows.refl _ _)).is 1
              simp only [List.getElem?_toArray, List.getElem?_cons_zero, List.getElem?_cons_succ] at b1'
              clear hs4 nf ng nv h5 o5 k5 hr5 h4 o4 q4 hc1
              have hc2 := hc2 _ H5.out.2.2.2.1
              go_wp2_with fail
              refine hc2.mono ?_
              rintro e w6 ⟨c2, n2, e2, r2, G2, rfl, h6, o6, q6, ht⟩
              obtain ⟨heq, hl6⟩ := HK.out.2 ht
              injection heq with heq he1
              injection heq with heq he2
              subst heq he1 he2
              have hM6 := HM.out.two H5.out.1 H5.out.2.1 H5.out.2.2.2.2 HK.out.1 h6 o6 q6 hl6 (by omega)
              have hC6 := HC.out.two H5.out.2.1 H5.out.2.2.2.2 o6 q6
              have k6 := H5.out.2.2.1.two (Only.refl _ _) (Grows.refl _ _) o6 q6
              clear h6 o6 q6 hl6 ht hc2 b0 b1 b1'
              have hee : (e1 == e1) = true := by simp
              have hcc1 : (c1 == c1) = true := by simp
              have hnn1 : (n1 == n1) = true := by simp
              have hM7 := hM6.step (Mem.al (Below.refl _ _) (.cells #[.int .i64 c1, .int .i64 n1] 34))
              have hC7 := hC6.step (Mem.al (Below.refl _ _) (.cells #[.int .i64 c1, .int .i64 n1] 34))
              have k7 := k6.step (Mem.al (Below.refl _ _) (.cells #[.int .i64 c1, .int .i64 n1] 34))
              have kb := Mem.new_block w6 (.cells #[.int .i64 c1, .int .i64 n1] 34)
              clear hM6 hC6 k6
              go_upto_region 19 with (fail)
              generalize w6.alloc (.cells #[.int .i64 c1, .int .i64 n1] 34) = w7 at *
              have p0 := k7.two'.1
              have p1 := k7.two'.2
              have p2 := Mem.row_cell kb 0
              have p3 := Mem.row_cell kb 1
              simp only [List.getElem?_toArray, List.getElem?_cons_zero, List.getElem?_cons_succ] at p2 p3
              have hM8 := hM7.step (Mem.al (Below.refl _ _) (.cells #[.int .i64 c1, .int .i64 n1] 34))
              have hC8 := hC7.step (Mem.al (Below.refl _ _) (.cells #[.int .i64 c1, .int .i64 n1] 34))
              have HE := Lib.hid (And.intro hM8 hC8)
              have hWw : W.heap.size ≤ w7.heap.size := hM7.run.below.size
              clear hM7 hC7 hM8 hC8 kb k7 H5
              go_wp2_with (at_builtin; refine wpList_append_lies _ rfl _ _ _ rfl W.heap.size 34 i0 _ 2 16 Try.underlying31 hi hz0 hz1 hz2 rfl (by decide) _ had.length (cellsC had) rfl HE.out.1.row.own ⟨w7.heap.size, 0, none⟩ 1 1 [.int .i64 c1, .int .i64 n1] rfl rfl (World.news_of_block (Mem.new_block w7 _)) (by simp [Value.oneCell']) (by decide) (by unfold maxLen; omega) (by omega) (by simp; omega) (w7.heap.size + 1) (by simp) ?_; intro gg cap w9 hown hgrow hat hlt)
              go_meet
              have hM9 := HE.out.1.grown (c := (c1, n1)) hgrow hown (hat.imp id fun e => by rw [e]; simp) (M := 2 * m + 2) (by omega)
              have hC9 := (HE.out.2.grown hgrow (fun g e => by have := (ownsRow_lt HE.out.1.row.own g e); exact this.2)).list (v := .slice (some ⟨gg, 0, none⟩) (had.length + 1) cap) (fun e => by
                have : gg = cb := by simpa [Value.ownBlock] using e
                subst this
                exact hat.elim (fun e1 => HE.out.2.nv e1) (fun e1 => by have := HE.out.2.lt; simp at this; omega))
              exact ⟨_, _, _, _, _, rfl, hM9, hC9⟩
            have hkb0 : (o.kind == 0) = false := by simpa using hk0
            clear hk0
            have HD := Lib.hid HM.out.drew
            by_cases hk1 : o.kind = 1
            · have hkb : (o.kind == 1) = true := by simpa using hk1
              clear hk1 b1 b2
              have hc1 := Slab.free_any HD.out.run.at_ HD.out.run.good.small (by omega) cc nn
              have hlk := HM.out.link.free HM.out.run.good (cc, nn)
              have hG := HM.out.run.good.free (cc, nn)
              have hbd := HM.out.link.bounds HM.out.run.good (by omega)
              have hc2 : ∀ w3, RAt w3 rb G1 r → Calls Try.prog 20 #[.pointer (some ⟨rb, 0, none⟩), .agg #[.int .i64 cc, .int .i64 nn]] w3 (RFreePost w3 rb G1 r (cc, nn)) := fun w3 h => RefSlab.free_any h hbd.1 hbd.2.1 cc nn
              unfold FreePost at hc1
              unfold RFreePost at hc2
              rw [hlk.1] at hc2
              obtain ⟨q, hq⟩ : ∃ q, (s.free (cc, nn)).1 = q := ⟨_, rfl⟩
              rw [hq] at hc1 hc2
              have hqq : (q == q) = true := by simp
              have HL2 := Lib.hid (And.intro hlk.2 hG)
              clear hq hlk hG hbd
              go_wp2_with fail
              go_region_held3 (fun W' : World => W'.cell? ⟨cb, 0, none⟩ = some (.int .i64 cc) ∧ W'.cell? ⟨cb, 1, none⟩ = some (.int .i64 nn))
                (first | exact ⟨k0, k1⟩ | exact (HC.out.drew.two o3 q3 o4 q4).two' | exact (HC.out.drew.two o3 q3 (Only.refl _ _) (Grows.refl _ _)).two')
                (first
                  | (go_at_call 16; refine hc1.mono ?_; rintro e w3 ⟨F3, rfl, h3, o3, q3⟩)
                  | (go_at_call 20; refine (hc2 _ (HD.out.slab h3 o3 q3 HL2.out.2).2.1).mono ?_; rintro e w4 ⟨F4, rfl, h4, o4, q4⟩))
              have hM4 := (HD.out.two h3 o3 q3 HL2.out.2 h4 o4 q4 HL2.out.1 (by omega)).mono (M := 2 * m + 2) (by omega)
              have hC4 := HC.out.drew.two o3 q3 o4 q4
              have HF := Lib.hid (And.intro hM4 hC4)
              clear hM4 hC4 h3 o3 q3 h4 o4 q4 hc1 hc2
              go_wp2_with fail
              go_meet
              exact ⟨_, _, _, _, had, rfl, HF.out.1, HF.out.2⟩
            have hkb1 : (o.kind == 1) = false := by simpa using hk1
            clear hk1
            by_cases hk2 : o.kind = 2
            · have hkb : (o.kind == 2) = true := by simpa using hk2
              clear hk2 b1 b2
              have hbd := HM.out.link.bounds HM.out.run.good (by omega)
              obtain ⟨q, hq⟩ : ∃ q, decide ((cc, nn) ∈ s.inn) = q := ⟨_, rfl⟩
              have hc1 := Slab.has_any HD.out.run.at_ cc nn
              have hc2 : ∀ w3, RAt w3 rb G1 r → Calls Try.prog 21 #[.pointer (some ⟨rb, 0, none⟩), .agg #[.int .i64 cc, .int .i64 nn]] w3 fun e w' => e = .returned (.bool q) ∧ Below w3.heap.size w3 w' := fun w3 h => by
                have := RefSlab.has_any h hbd.1 cc nn
                rwa [HM.out.link.inn, hq] at this
              rw [hq] at hc1
              have hqq : (q == q) = true := by simp
              clear hq hbd
              go_wp2_with fail
              go_region_held3 (fun W' : World => W'.cell? ⟨cb, 0, none⟩ = some (.int .i64 cc) ∧ W'.cell? ⟨cb, 1, none⟩ = some (.int .i64 nn))
                (first | exact ⟨k0, k1⟩ | exact ((HC.out.drew.step hb3).step hb4).two' | exact (HC.out.drew.step hb3).two')
                (first
                  | (go_at_call 17; refine hc1.mono ?_; rintro e w3 ⟨rfl, hb3⟩)
                  | (go_at_call 21; refine (hc2 _ (HD.out.step hb3).ref).mono ?_; rintro e w4 ⟨rfl, hb4⟩))
              have HF := Lib.hid (And.intro (((HD.out.step hb3).step hb4).mono (M := 2 * m + 2) (by omega)) ((HC.out.drew.step hb3).step hb4))
              clear hb3 hb4 hc1 hc2
              go_wp2_with fail
              go_meet
              exact ⟨_, _, _, _, had, rfl, HF.out.1, HF.out.2⟩
            have hkb2 : (o.kind == 2) = false := by simpa using hk2
            clear hk2
            by_cases hk3 : o.kind = 3
            · have hkb : (o.kind == 3) = true := by simpa using hk3
              clear hk3 k0 k1
              have hbd := HM.out.link.bounds HM.out.run.good (by omega)
              obtain ⟨q, hq⟩ : ∃ q, s.fits o.size o.no = q := ⟨_, rfl⟩
              have hc1 := Slab.fits_any HD.out.run.at_ HD.out.run.good.small (by omega) o.size o.no hno
              have hc2 : ∀ w3, RAt w3 rb G1 r → Calls Try.prog 23 #[.pointer (some ⟨rb, 0, none⟩), .int .i64 o.size, .int .i64 o.no] w3 fun e w' => e = .returned (.bool q) ∧ ∃ n, w' = w3.drewN n := fun w3 h => by
                have := RefSlab.fits_any h hbd.1 o.size o.no hno
                rwa [HM.out.link.fits HM.out.run.good, hq] at this
              rw [hq] at hc1
              have hqq : (q == q) = true := by simp
              clear hq hbd
              go_wp2_with fail
              go_region_held3 (fun W' : World => W'.cell? ⟨ob, 1, none⟩ = some (.int .i64 o.size) ∧ W'.cell? ⟨ob, 2, none⟩ = some (.int .i64 o.no))
                (exact ⟨b1, b2⟩)
                (first
                  | (go_at_call 22; refine hc1.mono ?_; rintro e w3 ⟨rfl, d3, rfl⟩)
                  | (go_at_call 23; refine (hc2 _ (HM.out.step (Mem.dn (Below.refl _ _) (1 + d3))).ref).mono ?_; rintro e w4 ⟨rfl, d4, rfl⟩))
              have HF := Lib.hid (And.intro ((HM.out.step (Mem.dn (Below.refl _ _) (1 + d3 + d4))).mono (M := 2 * m + 2) (by omega)) (HC.out.step (Mem.dn (Below.refl _ _) (1 + d3 + d4))))
              clear hc1 hc2
              go_wp2_with fail
              go_meet
              exact ⟨_, _, _, _, had, rfl, HF.out.1, HF.out.2⟩
            have hkb3 : (o.kind == 3) = false := by simpa using hk3
            clear hk3
            go_wp2_with fail
            go_meet
            exact ⟨F1, G1, s, r, had, rfl, HM.out.mono (by omega), HC.out⟩
          case rest =>
            obtain ⟨F2, G2, s2, r2, had2, rfl, hM4, hC4⟩ := hcut
            clear HM HA HC b0 b1 b2 k0 k1
            have HM := Lib.hid hM4
            have HC := Lib.hid hC4
            clear hM4 hC4
            have k0 := HC.out.two'.1
            have k1 := HC.out.two'.2
            have hbd := HM.out.link.bounds HM.out.run.good (by omega)
            obtain ⟨q, hq⟩ : ∃ q, decide ((cc, nn) ∈ s2.inn) = q := ⟨_, rfl⟩
            obtain ⟨u, hu⟩ : ∃ u, s2.used = u := ⟨_, rfl⟩
            have hc3 : ∀ w3, Below wc.heap.size wc w3 → Calls Try.prog 17 #[.pointer (some ⟨b, 0, none⟩), .agg #[.int .i64 cc, .int .i64 nn]] w3 fun e w' => e = .returned (.bool q) ∧ Below w3.heap.size w3 w' := fun w3 h => by
              have := Slab.has_any (HM.out.step h).run.at_ cc nn
              rwa [hq] at this
            have hc4 : ∀ w3, Below wc.heap.size wc w3 → Calls Try.prog 21 #[.pointer (some ⟨rb, 0, none⟩), .agg #[.int .i64 cc, .int .i64 nn]] w3 fun e w' => e = .returned (.bool q) ∧ Below w3.heap.size w3 w' := fun w3 h => by
              have := RefSlab.has_any (HM.out.step h).ref hbd.1 cc nn
              rwa [HM.out.link.inn, hq] at this
            have hc1 : ∀ w3, Below wc.heap.size wc w3 → Calls Try.prog 15 #[.pointer (some ⟨b, 0, none⟩)] w3 fun e w' => e = .returned (.int .i64 u) ∧ w3 = w' := fun w3 h => by
              have := Slab.used_any (HM.out.step h).run.at_
              rwa [hu] at this
            have hc2 : ∀ w3, Below wc.heap.size wc w3 → Calls Try.prog 24 #[.pointer (some ⟨rb, 0, none⟩)] w3 fun e w' => e = .returned (.int .i64 u) ∧ w3 = w' := fun w3 h => by
              have := RefSlab.used_any (HM.out.step h).ref hbd.1
              rwa [HM.out.link.used HM.out.run.good, hu] at this
            have hqq : (q != q) = false := by simp
            have huu : (u != u) = false := by simp
            have hd := Below.drew (Below.refl wc.heap.size wc)
            clear hq hu hbd
            go_wp2_with fail
            go_region_held3 (fun W' : World => W'.cell? ⟨cb, 0, none⟩ = some (.int .i64 cc) ∧ W'.cell? ⟨cb, 1, none⟩ = some (.int .i64 nn))
              (first | exact ⟨k0, k1⟩ | exact ((HC.out.drew.step hb3).step hb4).two' | exact (HC.out.drew.step hb3).two')
              (first
                | (go_at_call 15; refine (hc1 _ hd).mono ?_; rintro e w3 ⟨rfl, rfl⟩)
                | (go_at_call 24; refine (hc2 _ hd).mono ?_; rintro e w3 ⟨rfl, rfl⟩)
                | (go_at_call 17; refine (hc3 _ hd).mono ?_; rintro e w3 ⟨rfl, hb3⟩)
                | (go_at_call 21; refine (hc4 _ (Mem.tr hd hb3)).mono ?_; rintro e w4 ⟨rfl, hb4⟩))
            have HF := Lib.hid (HM.out.step (Mem.tr (Mem.tr hd hb3) hb4))
            clear hb3 hb4 hd hc1 hc2 hc3 hc4 k0 k1
            go_wp2_with fail
            go_roundg (l.length - (m + 1))
            case measure => have := HG.out; omega
            case rel => exact ⟨m + 1, F2, G2, s2, r2, had2, by go_num, by have := HG.out; omega, HF⟩
    · have hml : (l.length : Int) ≤ m := by omega
      go_wp2_with fail
      go_ret
      exact ⟨rfl, HM.out.run.below⟩
end Go.Proofs.Ytohnnlimkmofbaa.SlabDoes
