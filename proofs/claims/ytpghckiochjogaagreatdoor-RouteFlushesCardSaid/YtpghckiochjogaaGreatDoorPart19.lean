/- Part19: Exec9, Conv, one behind the other. -/
import Derived.Test.YtpghckiochjogaaGreatDoorPart15
import Derived.Test.YtpghckiochjogaaGreatDoorPart16
import Derived.Test.YtpghckiochjogaaGreatDoorPart17
import Derived.Test.YtpghckiochjogaaGreatDoorPart18
import Derived.Test.YtpghckiochjogaaGreatDoorPart10
import Derived.Laws.BytesArg
import Derived.Laws.IdiomStrings
/- Layer 12: without. -/
namespace Go.Proofs.YtpghckiochjogaaGreatDoor.Exec
set_option maxRecDepth 100000
open Go Go.RowKit Go.Proofs.YtpghckiochjogaaGreatDoor.Mem Go.Proofs.YtpghckiochjogaaGreatDoor.App Go.Proofs.YtpghckiochjogaaGreatDoor.Shard
section
variable {W w : World} {M b : Nat} {col : Col} {seed : Int} {s : St} {c : Cmd} {env : Env}
theorem without_any (h : Run W w M b col seed s) (hM : M + 1 ≤ 1050000) (hp : Pows w) {a : Option Addr} {n k : Nat} (hn : c.val.length = n) (hks : c.key.size ≤ 2000000) (hvs : c.val.length ≤ 2000000) (hv : Val w col (.slice a n k) c.val) (hi : 0 ≤ c.initial) (hi2 : c.initial < 18446744073709551616) :
    Calls Tryz.prog 35 #[.agg (rarr b c (.slice a n k) env)] w (ExecP W w (M + 1) b col seed s.tab.L fun f => without c env f s) := by
  by_cases h5 : c.op = 5
  · exact without5 h hM hp hn hks hvs hv hi hi2 h5
  by_cases h6 : c.op = 6
  · exact without6 h hM hp hn hks hvs hv hi hi2 h6
  by_cases h7 : c.op = 7
  · exact without7 h hM hp hn hks hvs hv hi hi2 h7
  by_cases h3 : c.op = 3
  · exact without3 h hM hp hn hks hvs hv hi hi2 h3
  by_cases h4 : c.op = 4
  · exact without4 h hM hp hn hks hvs hv hi hi2 h4
  by_cases h10 : c.op = 10
  · exact without10 h hM hp hn hks hvs hv hi hi2 h10
  by_cases h11 : c.op = 11
  · exact without11 h hM hp hn hks hvs hv hi hi2 h11
  by_cases h12 : c.op = 12
  · exact without12 h hM hp hn hks hvs hv hi hi2 h12
  exact withoutE h hM hp hn hks hvs hv hi hi2 h5 h6 h7 h3 h4 h10 h11 h12
end
end Go.Proofs.YtpghckiochjogaaGreatDoor.Exec

/- Layer 11: bytes as a string. -/
namespace Go.Proofs.YtpghckiochjogaaGreatDoor.Shard
set_option maxRecDepth 100000
open Go Go.RowKit Go.Proofs.YtpghckiochjogaaGreatDoor.Mem Go.Proofs.YtpghckiochjogaaGreatDoor.App
def bs (xs : List UInt8) : ByteArray := ⟨xs.toArray⟩
theorem conv_any {w : World} {v : Value} {xs : List UInt8} (h : SrcB w v xs) : (convert 30 9 v).run Tryz.prog w = .ok (.string (bs xs)) w := by
  rcases h with ⟨rfl, a, c, rfl⟩ | ⟨rfl, h1, h2⟩ | ⟨g, off, c, rfl, h1, h2, h3⟩
  · have := run_convert_bytes_back (P := Tryz.prog) w 30 9 5 a c [] Tryz.underlying30 Tryz.underlying5 Tryz.underlying9 (fun j hj => by simp at hj)
    exact this
  · have hx : xs = [] := List.eq_nil_of_length_eq_zero h2
    subst hx
    exact run_convert_bytes_nil w 30 5 Tryz.underlying30 Tryz.underlying5 0 0 9 Tryz.underlying9
  · refine run_convert_bytes_back (P := Tryz.prog) w 30 9 5 ⟨g, off, none⟩ c xs Tryz.underlying30 Tryz.underlying5 Tryz.underlying9 (fun j hj => ?_)
    rw [addr_add]
    refine h3 j _ ?_
    simp [cellsB, List.getElem?_eq_getElem hj]
end Go.Proofs.YtpghckiochjogaaGreatDoor.Shard

