/- Layer order: Before. -/
import Derived.Test.YtppkmhejeklegaaDoorOrderP
namespace Go.Proofs.YtppkmhejeklegaaDoor
open Go.RowKit

/-- What Before answers. -/
def befAt (xs : List Nat) (i k : Int) : Bool := (xs.getD i.toNat 0).testBit k.toNat
def inRowB (xs : List Nat) (i : Int) : Bool := decide (0 ≤ i) && decide (i < xs.length)
def befE (er : Int) (xs : List Nat) (i k : Int) : Bool × Int := if er ≠ 0 then (false, er) else if inRowB xs i && inRowB xs k then (befAt xs i k, 0) else (false, 7)
theorem shr_and (a k : Nat) (ha : a < 4294967296) : (bits .and .u32 ((a : Int) / 2 ^ k) 1 == 1) = a.testBit k := by
  have h1 : (a : Int) / 2 ^ k = ((a >>> k : Nat) : Int) := by
    rw [Nat.shiftRight_eq_div_pow]
    simp
  have h2 : a >>> k ≤ a := Nat.shiftRight_le a k
  rw [h1, show (1 : Int) = ((1 : Nat) : Int) from rfl, bits_and_u32 _ _ (by omega) (by omega), ← bit_and_one]
  generalize a >>> k &&& 1 = z
  rw [Bool.eq_iff_iff]
  simp only [beq_iff_eq]
  omega
theorem ordE_lt {h : List Ev} (he : properErr h = 0) : (∀ a ∈ ordE h, a < 4294967296) ∧ (ordE h).length ≤ 6 := by
  unfold ordE
  rw [if_pos he]
  have hl := tableF_len he
  refine ⟨fun a ha => ?_, by rw [ordF_len]; exact hl⟩
  obtain ⟨i, _, rfl⟩ := List.mem_map.1 ha
  have h1 := mkBits_lt (beforeB (tableF h) i) (tableF h).length
  have h2 : 2 ^ (tableF h).length ≤ 2 ^ 6 := Nat.pow_le_pow_right (by omega) hl
  omega

set_option maxRecDepth 20000 in
set_option maxHeartbeats 1000000 in
theorem Before_any (A : Option Addr) (c : Nat) (h : List Ev) (i k : Int) (w : World) (hK : Kinds w) (hE : Sl rEv (· < w.heap.size) w A c h) :
    Calls Tryd.prog 24 #[.slice A h.length c, .int .i64 i, .int .i64 k] w fun en w' =>
      en = .returned (.tuple #[.bool (befE (properErr h) (ordE h) i k).1, .int .i64 (befE (properErr h) (ordE h) i k).2]) ∧ Below w.heap.size w w' := by
  have hA := Lib.hid (After_any A c h w hK hE)
  have hlt := @ordE_lt h
  generalize ordE h = xs at *
  generalize properErr h = er at *
  by_cases he : er = 0
  · subst he
    obtain ⟨hx, hl⟩ := hlt rfl
    have HX := Lib.hid hx
    clear hlt hx
    have bad : (inRowB xs i && inRowB xs k) = false → befE 0 xs i k = (false, 7) := fun h => by simp [befE, h]
    by_cases hi0 : i < 0
    · rw [bad (by simp [inRowB]; omega)]
      clear bad
      go_enter Tryd.func24, Tryd.ntmps24
      go_wp2_with fail
      refine hA.out.mono ?_
      rintro en w1 ⟨A1, c1, rfl, hS, hB⟩
      go_wp2
      go_ret2
      exact ⟨rfl, hB⟩
    by_cases hi1 : (xs.length : Int) ≤ i
    · rw [bad (by simp [inRowB]; omega)]
      clear bad
      go_enter Tryd.func24, Tryd.ntmps24
      go_wp2_with fail
      refine hA.out.mono ?_
      rintro en w1 ⟨A1, c1, rfl, hS, hB⟩
      go_wp2
      go_ret2
      exact ⟨rfl, hB⟩
    by_cases hk0 : k < 0
    · rw [bad (by simp [inRowB]; omega)]
      clear bad
      go_enter Tryd.func24, Tryd.ntmps24
      go_wp2_with fail
      refine hA.out.mono ?_
      rintro en w1 ⟨A1, c1, rfl, hS, hB⟩
      go_wp2
      go_ret2
      exact ⟨rfl, hB⟩
    by_cases hk1 : (xs.length : Int) ≤ k
    · rw [bad (by simp [inRowB]; omega)]
      clear bad
      go_enter Tryd.func24, Tryd.ntmps24
      go_wp2_with fail
      refine hA.out.mono ?_
      rintro en w1 ⟨A1, c1, rfl, hS, hB⟩
      go_wp2
      go_ret2
      exact ⟨rfl, hB⟩
    obtain ⟨i, rfl⟩ := Int.eq_ofNat_of_zero_le (show 0 ≤ i by omega)
    obtain ⟨k, rfl⟩ := Int.eq_ofNat_of_zero_le (show 0 ≤ k by omega)
    have hi : i < xs.length := by omega
    have hk : k < xs.length := by omega
    obtain ⟨a, ha⟩ := some_at hi
    have hsa := shr_and a k (HX.out a (List.mem_of_getElem? ha))
    have hg : befE 0 xs i k = (a.testBit k, 0) := by simp [befE, befAt, inRowB, hi, hk, (List.getElem?_eq_some_iff.1 ha).2]
    rw [hg]
    have Ha := Lib.hid ha
    clear hg ha bad
    go_enter Tryd.func24, Tryd.ntmps24
    go_wp2_with fail
    refine hA.out.mono ?_
    rintro en w1 ⟨A1, c1, rfl, hS, hB⟩
    obtain ⟨b, o, rfl, _, _, d0⟩ := hS.one_at Ha.out
    have d0' : w1.cell? ⟨b, o + i, none⟩ = some (.int .u32 (a : Int)) := d0
    clear d0
    go_wp2
    go_ret2
    exact ⟨rfl, hB⟩
  · have hg : befE er xs i k = (false, er) := by simp [befE, he]
    rw [hg]
    have hne : (er != 0) = true := by simpa using he
    clear hg
    go_enter Tryd.func24, Tryd.ntmps24
    go_wp2_with fail
    refine hA.out.mono ?_
    rintro en w1 ⟨A1, c1, rfl, hS, hB⟩
    go_wp2
    go_ret2
    exact ⟨rfl, hB⟩
end Go.Proofs.YtppkmhejeklegaaDoor
