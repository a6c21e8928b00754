/- The law OrderHolds: refused events. -/
import Derived.Test.YtppkmhejeklegaaDoorLawOH
namespace Go.Proofs.YtppkmhejeklegaaDoor
open Go.RowKit

set_option maxRecDepth 20000 in
set_option maxHeartbeats 1000000 in
theorem orderHolds_none (A : Option Addr) (c : Nat) (h0 : List Ev) (i k m n : Int) (n0 : Nat) (w : World) (hK : Kinds w) (hE : Sl rEv (· < w.heap.size) w A c h0) (hl : h0.length = min n0 65) (hnc : n0 ≤ c) (hx : ordE h0 = []) :
    Calls Tryd.prog 5 #[.slice A n0 c, .int .i64 i, .int .i64 k, .int .i64 m, .int .i64 n] w fun en w' => en = .returned (.bool true) ∧ Below w.heap.size w w' := by
  have hc2 := hE.2.1
  have hA : ∀ W, Below w.heap.size w W → Calls Tryd.prog 22 #[.slice A h0.length c] W (RetSlE rN W [] (properErr h0)) := fun W hB => by
    have := After_any A c h0 W (hK.below hB) ((hE.below hB).wide (fun j _ hj => Nat.lt_of_lt_of_le hj hB.size))
    rwa [hx] at this
  clear hE hx
  generalize properErr h0 = er at *
  by_cases h65 : n0 ≤ 65
  · have h65' : ((n0 : Nat) : Int) ≤ 65 := by omega
    rw [show h0.length = n0 by omega] at hA
    have HA := Lib.hid hA
    clear hA hl
    by_cases he : er = 0
    · subst he
      go_enter Tryd.func5, Tryd.ntmps5
      go_wp2_with fail
      have hB0 : Below w.heap.size w (w.alloc (.cells #[.slice A n0 c] 22)) := (Below.refl _ _).alloc (Nat.le_refl _) _
      refine (HA.out _ hB0).mono ?_
      rintro en w1 ⟨A1, c1, rfl, hS, hB1⟩
      have hB01 := hB0.trans (hB1.mono hB0.size)
      go_wp2_with fail
      have hbl := Blk.new w1 #[.slice A1 0 c1] 23
      have hB2 : Below w.heap.size w (w1.alloc (.cells #[.slice A1 0 c1] 23)) := hB01.alloc hB01.size _
      refine (alive7_any _ (hK.below hB2)).mono ?_
      rintro en w3 ⟨rfl, hB3⟩
      have d0 := (hbl.below hB3).cell 0 rfl
      go_wp2
      go_ret
      exact ⟨rfl, hB2.next hB3⟩
    · have hne : (er != 0) = true := by simpa using he
      go_enter Tryd.func5, Tryd.ntmps5
      go_wp2_with fail
      have hB0 : Below w.heap.size w (w.alloc (.cells #[.slice A n0 c] 22)) := (Below.refl _ _).alloc (Nat.le_refl _) _
      refine (HA.out _ hB0).mono ?_
      rintro en w1 ⟨A1, c1, rfl, hS, hB1⟩
      have hB01 := hB0.trans (hB1.mono hB0.size)
      go_wp2_with fail
      have hbl := Blk.new w1 #[.slice A1 0 c1] 23
      have hB2 : Below w.heap.size w (w1.alloc (.cells #[.slice A1 0 c1] 23)) := hB01.alloc hB01.size _
      refine (alive7_any _ (hK.below hB2)).mono ?_
      rintro en w3 ⟨rfl, hB3⟩
      have d0 := (hbl.below hB3).cell 0 rfl
      go_wp2
      go_ret
      exact ⟨rfl, hB2.next hB3⟩
  · have h65' : (65 : Int) < ((n0 : Nat) : Int) := by omega
    have h65c : 65 ≤ c := by omega
    rw [show h0.length = 65 by omega] at hA
    have HA := Lib.hid hA
    clear hA hl
    by_cases he : er = 0
    · subst he
      go_enter Tryd.func5, Tryd.ntmps5
      go_wp2_with fail
      have hB0 : Below w.heap.size w (w.alloc (.cells #[.slice A 65 c] 22)) := (Below.refl _ _).alloc (Nat.le_refl _) _
      refine (HA.out _ hB0).mono ?_
      rintro en w1 ⟨A1, c1, rfl, hS, hB1⟩
      have hB01 := hB0.trans (hB1.mono hB0.size)
      go_wp2_with fail
      have hbl := Blk.new w1 #[.slice A1 0 c1] 23
      have hB2 : Below w.heap.size w (w1.alloc (.cells #[.slice A1 0 c1] 23)) := hB01.alloc hB01.size _
      refine (alive7_any _ (hK.below hB2)).mono ?_
      rintro en w3 ⟨rfl, hB3⟩
      have d0 := (hbl.below hB3).cell 0 rfl
      go_wp2
      go_ret
      exact ⟨rfl, hB2.next hB3⟩
    · have hne : (er != 0) = true := by simpa using he
      go_enter Tryd.func5, Tryd.ntmps5
      go_wp2_with fail
      have hB0 : Below w.heap.size w (w.alloc (.cells #[.slice A 65 c] 22)) := (Below.refl _ _).alloc (Nat.le_refl _) _
      refine (HA.out _ hB0).mono ?_
      rintro en w1 ⟨A1, c1, rfl, hS, hB1⟩
      have hB01 := hB0.trans (hB1.mono hB0.size)
      go_wp2_with fail
      have hbl := Blk.new w1 #[.slice A1 0 c1] 23
      have hB2 : Below w.heap.size w (w1.alloc (.cells #[.slice A1 0 c1] 23)) := hB01.alloc hB01.size _
      refine (alive7_any _ (hK.below hB2)).mono ?_
      rintro en w3 ⟨rfl, hB3⟩
      have d0 := (hbl.below hB3).cell 0 rfl
      go_wp2
      go_ret
      exact ⟨rfl, hB2.next hB3⟩

end Go.Proofs.YtppkmhejeklegaaDoor
