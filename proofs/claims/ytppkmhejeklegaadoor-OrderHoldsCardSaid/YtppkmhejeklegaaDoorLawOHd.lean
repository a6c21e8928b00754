/- The law OrderHolds: the whole. -/
import Derived.Test.YtppkmhejeklegaaDoorLawOHb
import Derived.Test.YtppkmhejeklegaaDoorLawOHc
namespace Go.Proofs.YtppkmhejeklegaaDoor
open Go.RowKit

theorem orderHolds_any (A : Option Addr) (c : Nat) (h : List Ev) (i k m n : Int) (w : World) (hK : Kinds w) (hE : Sl rEv (· < w.heap.size) w A c h) :
    Calls Tryd.prog 5 #[.slice A h.length c, .int .i64 i, .int .i64 k, .int .i64 m, .int .i64 n] w fun en w' => en = .returned (.bool true) ∧ Below w.heap.size w w' := by
  by_cases hx : ordE (h.take 65) = []
  · exact orderHolds_none A c (h.take 65) i k m n h.length w hK (hE.take 65) (by rw [List.length_take, Nat.min_comm]) hE.1 hx
  · have he : properErr (h.take 65) = 0 := by
      rcases Classical.em (properErr (h.take 65) = 0) with he | he
      · exact he
      · exact absurd (by unfold ordE; rw [if_neg he]) hx
    have hp : 0 < (ordE (h.take 65)).length := List.length_pos_iff.2 hx
    by_cases h65 : h.length ≤ 65
    · have ht : h.take 65 = h := List.take_of_length_le h65
      rw [ht] at he hp
      exact orderHolds_small A c h _ i k m n w hK hE h65 he rfl hp
    · exact orderHolds_large A c (h.take 65) _ i k m n w hK (hE.take 65) h.length (by rw [List.length_take]; omega) (by omega) hE.1 he rfl hp
end Go.Proofs.YtppkmhejeklegaaDoor
