/- RomWrites: the walk, as the row wants it. -/
import Derived.Test.YtnljnccfpkpgfaaDoorRomM
namespace Go.Proofs.YtnljnccfpkpgfaaDoor.RomWalk
open Go.RowKit Go.Proofs.YtnljnccfpkpgfaaDoor.Aid Go.Proofs.YtnljnccfpkpgfaaDoorW.PrintWords
theorem RomWrites_walk (A : Option Addr) (n c : Nat) (B : Option Addr) (m d : Nat) (ws : List Int) (es : Ents) (nm : ByteArray) (W : World) (hwr : WR ws) (h : RomIn W A n c B m d ws es) (hnm : nm.size ≤ maxLen) :
    Calls Tryd.prog 3 #[.agg #[.slice A n c, .slice B m d], .string nm] W fun e w' => e = .returned (.bool true) ∧ Below W.heap.size W w' :=
  writes_w W A n c B m d ws es nm hwr hnm h
end Go.Proofs.YtnljnccfpkpgfaaDoor.RomWalk
