/- Bytes of one page lie side by side, those of two frames apart: the pure statement behind PtePlaces. No condition. -/
import Derived.Test.YtjflepoifdcadaaPPtePlacesx1
import Derived.Test.YtjflepoifdcadaaAid
namespace Go.Proofs.Ytjflepoifdcadaa.Pure
open Go.RowKit Go.Proofs.Ytjflepoifdcadaa.Aid Go.Proofs.Ytjflepoifdcadaa.PPtePlaces Go.Proofs.YtjflepoifdcadaaW.PrintWords Go.Proofs.YtjflepoifdcadaaW.PrintLast

theorem and_frames (x : Nat) (h : x < 4294967296) : Go.bits .and .u32 (x : Int) 2097151 = ((x % 2097152 : Nat) : Int) := by
  rw [show (2097151 : Int) = ((2097151 : Nat) : Int) from rfl, u32_and_nat x 2097151 h (by decide), nat_mask21]

theorem and_511 (x : Nat) (h : x < 4294967296) : Go.bits .and .u32 (x : Int) 511 = ((x % 512 : Nat) : Int) := by
  rw [show (511 : Int) = ((511 : Nat) : Int) from rfl, u32_and_nat x 511 h (by decide), nat_mask9]

theorem frame_is (x : Nat) (h : x < 4294967296) : pte_Frame.f (x : Int) = some ((x % 2097152 : Nat) : Int) := by
  unfold pte_Frame.f; rw [and_frames x h]

theorem place_is (x v : Nat) (h : x < 4294967296) (hv : v < 4294967296) : pte_Place.f (x : Int) (v : Int) = some ((x % 2097152 * 512 + v % 512 : Nat) : Int) := by
  unfold pte_Place.f
  rw [frame_is x h, and_511 v hv]
  simp only [Option.bind_some]
  have e : (((x % 2097152 : Nat) : Int) * 512) % 4294967296 = ((x % 2097152 * 512 : Nat) : Int) := by omega
  rw [e, u32_or_nat _ _ (by omega) (by omega), nat_join 9 _ _ (by omega) (by omega)]

theorem alive_is : camshaftlaw03_alive.f = some true := by decide +kernel

theorem PtePlaces : camshaftlaw03_PtePlaces.Pure := by
  intro a0 a1 a2 a3 w0 w1 w2 w3
  obtain ⟨x, rfl, hx⟩ := u32_nat w0
  obtain ⟨y, rfl, hy⟩ := u32_nat w1
  obtain ⟨v, rfl, hv⟩ := u32_nat w2
  obtain ⟨m, rfl, hm⟩ := u32_nat w3
  have e1 : (512 - Int.tmod (v : Int) 512) % 4294967296 = ((512 - v % 512 : Nat) : Int) := by
    rw [show (512 : Int) = ((512 : Nat) : Int) from rfl, tmod_nat]; omega
  have hp : 0 < 512 - v % 512 := by omega
  have hlt := Nat.mod_lt m hp
  unfold camshaftlaw03_PtePlaces.f
  rw [alive_is, e1, tmod_nat]
  generalize m % (512 - v % 512) = n at *
  have hn : v % 512 + n < 512 := by omega
  simp only [Option.bind_some, if_true]
  rw [place_is x v hx hv]
  simp only [Option.bind_some]
  rw [if_neg (by omega), show ((v : Int) + (n : Int)) % 4294967296 = (((v + n) % 4294967296 : Nat) : Int) from by omega,
    place_is x _ hx (by omega)]
  simp only [Option.bind_some]
  rw [if_pos (by omega), frame_is x hx, frame_is y hy, place_is y m hy hm]
  simp only [Option.bind_some]
  split
  · rfl
  · simp; omega

end Go.Proofs.Ytjflepoifdcadaa.Pure
