/- Package slices over []int: by a closure. -/
import Derived.Test.YtppkmhejeklegaaDoorText
namespace Go.Proofs.YtppkmhejeklegaaDoor
open Go.RowKit

set_option maxRecDepth 20000 in
set_option maxHeartbeats 400000 in
theorem indexFuncInt_any (F : Nat → Prop) (A : Option Addr) (c : Nat) (h : List Int) (fid : Nat) (cap : Array Value) (hcf : Enters Tryd.prog fid) (p : Int → Bool) (w : World) (hE : Sl rI F w A c h)
   (hp : ∀ e ∈ h, ∀ w1, Below w.heap.size w w1 → Calls Tryd.prog fid (#[.int .i64 e] ++ cap) w1 fun en w2 => en = .returned (.bool (p e)) ∧ Below w1.heap.size w1 w2) :
   Calls Tryd.prog 144 #[.slice A h.length c, .func (.func fid) #[] cap] w fun en w' => en = .returned (.int .i64 (idx p h)) ∧ Below w.heap.size w w' := by
  have hlim := hE.len
  have Hp := Lib.hid hp; clear hp
  unfold Enters at hcf
  go_enter Tryd.func144, Tryd.ntmps144
  go_wp2
  go_loopw [5, 8] (fun _ i wr => ∃ k : Nat, k ≤ h.length ∧ i = .int .i64 k ∧ (∀ j e, j < k → h[j]? = some e → p e = false) ∧ Below w.heap.size w wr) (fun _ i _ => h.length - (intOf i).toNat)
  case atStart => exact ⟨0, Nat.zero_le _, rfl, fun j e hj => absurd hj (Nat.not_lt_zero _), Below.refl _ _⟩
  case round =>
    obtain ⟨k, hk, rfl, hno, hB⟩ := hrel
    have Hno := Lib.hid hno; clear hno
    by_cases hlt : k < h.length
    · obtain ⟨e, he⟩ := some_at hlt
      obtain ⟨b, o, rfl, hb, hF, c0⟩ := hE.one_at he
      have d0 : wr.cell? ⟨b, o + k, none⟩ = some (.int .i64 e) := (hB.cell (p := ⟨b, o + k, none⟩) hb).trans c0
      have He := Lib.hid he
      clear c0 he
      go_wp2_with fail
      refine (Hp.out e (List.mem_of_getElem? He.out) wr hB).mono ?_
      rintro en w2 ⟨rfl, hB2⟩
      have hB' : Below w.heap.size w w2 := hB.next hB2
      cases hpe : p e
      · go_wp2
        go_roundw
        case rel => exact ⟨k + 1, by omega, by go_num, no_step Hno.out He.out hpe, hB'⟩
        case measure => simp [intOf]; omega
      · go_wp2
        go_ret
        exact ⟨by rw [idx_at He.out hpe Hno.out]; rfl, hB'⟩
    · go_wp2
      go_ret
      obtain rfl : k = h.length := by omega
      exact ⟨by rw [idx_none Hno.out]; rfl, hB⟩

theorem containsFuncInt_any (F : Nat → Prop) (A : Option Addr) (c : Nat) (h : List Int) (fid : Nat) (cap : Array Value) (hcf : Enters Tryd.prog fid) (p : Int → Bool) (w : World) (hE : Sl rI F w A c h)
   (hp : ∀ e ∈ h, ∀ w1, Below w.heap.size w w1 → Calls Tryd.prog fid (#[.int .i64 e] ++ cap) w1 fun en w2 => en = .returned (.bool (p e)) ∧ Below w1.heap.size w1 w2) :
   Calls Tryd.prog 87 #[.slice A h.length c, .func (.func fid) #[] cap] w fun en w' => en = .returned (.bool (h.any p)) ∧ Below w.heap.size w w' := by
  have Hp := Lib.hid hp; clear hp
  go_enter Tryd.func87, Tryd.ntmps87
  go_wp2_with fail
  refine (indexFuncInt_any F A c h fid cap hcf p w hE Hp.out).mono ?_
  rintro en w2 ⟨rfl, hB⟩
  go_wp2
  go_ret
  exact ⟨ret_bool (idx_ge p h), hB⟩
end Go.Proofs.YtppkmhejeklegaaDoor
