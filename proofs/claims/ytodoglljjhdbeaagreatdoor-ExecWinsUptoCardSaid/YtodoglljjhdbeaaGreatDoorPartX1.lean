/- PartX1: Wins12, one behind the other. -/
import Derived.Test.YtodoglljjhdbeaaGreatDoorPart35
/- Layer 12: fewer of a law's own boxes and values. -/
namespace Go.Proofs.YtodoglljjhdbeaaGreatDoor.Exec
open Go Go.RowKit Go.Proofs.YtodoglljjhdbeaaGreatDoor.Mem Go.Proofs.YtodoglljjhdbeaaGreatDoor.Shard

theorem LS.sub {seed B : Int} {W w : World} {M b : Nat} {s : St} {bs bs' : List (Nat × Obj)} {vs vs' : List (Value × List UInt8)} (h : LS seed B W w M b s bs vs) (hb : ∀ p ∈ bs', p ∈ bs) (hv : ∀ p ∈ vs', p ∈ vs) : LS seed B W w M b s bs' vs' := by
  obtain ⟨⟨col, h1, h2, h3⟩, h4⟩ := h
  exact ⟨⟨col, h1, ⟨fun p hp => h2 p (hb p hp), fun p hp => h3 p (hv p hp)⟩⟩, h4⟩
end Go.Proofs.YtodoglljjhdbeaaGreatDoor.Exec

