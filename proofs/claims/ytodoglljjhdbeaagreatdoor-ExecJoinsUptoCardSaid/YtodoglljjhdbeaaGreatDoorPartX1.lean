/- PartX1: Bytes12, one behind the other. -/
import Derived.Test.YtodoglljjhdbeaaGreatDoorPart35
import Derived.Test.YtodoglljjhdbeaaGreatDoorPart20
/- Layer 12: bytes and one command, as arguments that are not too great. -/
namespace Go.Proofs.YtodoglljjhdbeaaGreatDoor.Exec
set_option maxRecDepth 100000
open Go Go.ChangeShapes Go.WideShapes Go.Deep Go.RowKit Go.Proofs.YtodoglljjhdbeaaGreatDoor.Ops Go.Proofs.YtodoglljjhdbeaaGreatDoor.App Go.Proofs.YtodoglljjhdbeaaGreatDoor.Shard

theorem bs_append (xs ys : List UInt8) : bs (xs ++ ys) = bs xs ++ bs ys := by
  apply ByteArray.ext
  simp [bs, ByteArray.data_append]
theorem bs_size (xs : List UInt8) : (bs xs).size = xs.length := by
  show xs.toArray.size = _
  rw [List.size_toArray]
section
variable {H : Type} {enc : TypeId × Value → H} {w : World} {base : Nat} {spare : Nat → Bool} {held : Bool}
theorem open_bytesB {r : Reach} {b0 : Nat} {v : Value} {d : DataW H} {ps : List MemPlace} (hval : Value.okWide Tryz.prog w r b0 23 v) (hd : DataW.Trod enc Tryz.prog w base spare held 23 v d ps) (hN : Rows.uptoBulk d ≤ 1048576) :
    ∃ (xs : List UInt8) (a : Option Addr) (c : Nat), v = .slice a xs.length c ∧ xs.length ≤ 1048576 ∧ SrcB w (.slice a xs.length c) xs := by
  obtain ⟨a, n, c, rfl⟩ := okWide_slice Tryz.underlying23 hval
  obtain ⟨fuel, hf⟩ := hd
  obtain ⟨xs, hs, hl⟩ := open_bytes (cv := .slice a n c) hf
  have hb := bytes_bulk (cv := .slice a n c) hf hs
  obtain ⟨a', c', e⟩ := hs.shape
  rw [e] at hs
  exact ⟨xs, a', c', e, Nat.le_trans hb hN, hs⟩
end
end Go.Proofs.YtodoglljjhdbeaaGreatDoor.Exec

