/- The slab's map: its keys are chunks, structs of two ints. -/
import Derived.Test.YtohnnlimkmofbaaSlab1
import Derived.Test.YtohnnlimkmofbaaMaps
import Derived.KernelRfl
namespace Go.Proofs.Ytohnnlimkmofbaa.Slab
open Go Go.RowKit

def encC (c : Int × Int) : Value := .agg #[.int .i64 c.1, .int .i64 c.2]

theorem chunk_equal (a b : Int × Int) (w : World) : (Op.equal 34 (encC a) (encC b)).run Try.prog w = .ok (decide (a = b)) w := by
  have hf : Try.prog.underlying 34 = some (.struct (Try.prog.fieldsOf 34)) := by kernel_rfl
  show (Op.equalIn (9999 + 1) 34 (encC a) (encC b)).run Try.prog w = _
  unfold encC
  rw [run_equalIn_struct w 9999 _ _ _ hf (by kernel_rfl)]
  have hl : (Try.prog.fieldsOf 34).toList.map (fun f => (f.name, f.type, f.offset)) = [("Class", 3, 0), ("No", 3, 1)] := by kernel_rfl
  generalize (Try.prog.fieldsOf 34).toList = L at hl
  obtain ⟨f0, f1, rfl⟩ : ∃ f0 f1, L = [f0, f1] := by
    have h := congrArg List.length hl
    simp only [List.length_map, List.length_cons, List.length_nil] at h
    match L, h with
    | [f0, f1], _ => exact ⟨f0, f1, rfl⟩
  simp only [List.map_cons, List.map_nil, List.cons.injEq, Prod.mk.injEq, and_true] at hl
  obtain ⟨⟨n0, t0, o0⟩, n1, t1, o1⟩ := hl
  obtain ⟨a1, a2⟩ := a
  obtain ⟨b1, b2⟩ := b
  simp only [Op.eqFields, n0, n1, t0, t1, o0, o1]
  go_simp
  by_cases h1 : a1 = b1 <;> by_cases h2 : a2 = b2 <;> simp [h1, h2]

theorem chunk_check (em : Bool) (a : Int × Int) (w : World) : (Instr.checkKey em 10000 34 (encC a)).run Try.prog w = .ok () w := by
  have hf : Try.prog.underlying 34 = some (.struct (Try.prog.fieldsOf 34)) := by kernel_rfl
  have hl : (Try.prog.fieldsOf 34).toList.map (fun f => (f.name, f.type, f.offset)) = [("Class", 3, 0), ("No", 3, 1)] := by kernel_rfl
  show (Instr.checkKey em (9998 + 1 + 1) 34 (encC a)).run Try.prog w = _
  generalize 9998 = n
  unfold encC
  rw [Instr.checkKey]
  simp only [Sem.run_bind, run_underlying hf, Result.andThen_ok]
  rw [← Array.forIn_toList]
  generalize (Try.prog.fieldsOf 34).toList = L at hl
  obtain ⟨f0, f1, rfl⟩ : ∃ f0 f1, L = [f0, f1] := by
    have h := congrArg List.length hl
    simp only [List.length_map, List.length_cons, List.length_nil] at h
    match L, h with
    | [f0, f1], _ => exact ⟨f0, f1, rfl⟩
  simp only [List.map_cons, List.map_nil, List.cons.injEq, Prod.mk.injEq, and_true] at hl
  obtain ⟨⟨n0, t0, o0⟩, n1, t1, o1⟩ := hl
  have hi : ∀ (x : Int) (w : World), (Instr.checkKey em (n + 1) 3 (.int .i64 x)).run Try.prog w = .ok () w := fun x w => by
    simp [Instr.checkKey, run_underlying Try.underlying3]
  simp only [List.forIn_cons, List.forIn_nil, n0, n1, t0, t1, o0, o1]
  go_simp

theorem chunkLaw : Maps.KeyLaw Try.prog 34 encC :=
  .of_wide (by kernel_rfl) chunk_check chunk_equal fun a => by simp [Instr.sameBits, encC]
end Go.Proofs.Ytohnnlimkmofbaa.Slab
