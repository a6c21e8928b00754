/- Layer order: Keeps. -/
import Derived.Test.YtppkmhejeklegaaDoorOrderB
import Derived.Test.YtppkmhejeklegaaDoorSliceI
import Derived.BigQuiet
import Derived.Deep.QuietTactic
namespace Go.Proofs.YtppkmhejeklegaaDoor
open Go.RowKit

/-- Does a row keep the order, behind those of seen? -/
def keepsR (xs : List Nat) : Nat → List Int → Bool
  | _, [] => true
  | seen, i :: r => if (xs.getD i.toNat 0 ||| 2 ^ i.toNat) &&& seen = 0 then keepsR xs (seen ||| 2 ^ i.toNat) r else false
def keepsE (er : Int) (xs : List Nat) (row : List Int) : Bool × Int := if er ≠ 0 then (false, er) else if row.any (fun i => !inRowB xs i) then (false, 7) else (keepsR xs 0 row, 0)

theorem enters_keeps1 : Enters Tryd.prog 88 := fun _ _ => by kernel_rfl
set_option maxRecDepth 20000 in
theorem keeps1_any (i : Int) (b : Nat) (A : Option Addr) (n c : Nat) (xs : List Nat) (hn : n = xs.length) (w : World) (h0 : w.cell? ⟨b, 0, none⟩ = some (.slice A n c)) :
    Calls Tryd.prog 88 #[.int .i64 i, .pointer (some ⟨b, 0, none⟩)] w fun en w' => en = .returned (.bool (!inRowB xs i)) ∧ Below w.heap.size w w' := by
  by_cases h1 : i < 0
  · go_enter Tryd.func88, Tryd.ntmps88
    go_wp2
    go_ret
    exact ⟨ret_bool (by simp [inRowB]; omega), Below.refl _ _⟩
  by_cases h2 : (n : Int) ≤ i
  · go_enter Tryd.func88, Tryd.ntmps88
    go_wp2
    go_ret
    exact ⟨ret_bool (by rw [Bool.eq_iff_iff]; simp [inRowB]; omega), Below.refl _ _⟩
  · go_enter Tryd.func88, Tryd.ntmps88
    go_wp2
    go_ret
    exact ⟨ret_bool (by rw [Bool.eq_iff_iff]; simp [inRowB]; omega), Below.refl _ _⟩

theorem or_bit (a n : Nat) (ha : a < 4294967296) (hn : n < 32) : bits .or .u32 (a : Int) (2 ^ n % 4294967296) = ((a ||| 2 ^ n : Nat) : Int) := by
  have h1 := pow_lt hn
  have h2 : (2 : Int) ^ n % 4294967296 = ((2 ^ n : Nat) : Int) := by
    have : (2 : Int) ^ n = ((2 ^ n : Nat) : Int) := by simp
    rw [this]
    generalize 2 ^ n = z at h1
    omega
  rw [h2, bits_or_u32 _ _ ha h1]
theorem met (a n seen : Nat) (ha : a < 4294967296) (hn : n < 32) (hs : seen < 4294967296) : (bits .and .u32 (bits .or .u32 (a : Int) (2 ^ n % 4294967296)) (seen : Int) != 0) = !decide ((a ||| 2 ^ n) &&& seen = 0) := by
  rw [or_bit a n ha hn, bits_and_u32 _ _ (or_lt ha (pow_lt hn)) hs]
  generalize (a ||| 2 ^ n) &&& seen = z
  rw [Bool.eq_iff_iff]
  simp
set_option maxRecDepth 20000 in
theorem keepsRow_any (A A1 : Option Addr) (b c c1 : Nat) (xs : List Nat) (row : List Int) (W : World) (hR : Sl rI (· < W.heap.size) W A c row) (hb : b < W.heap.size) (h0 : W.cell? ⟨b, 0, none⟩ = some (.slice A1 xs.length c1)) :
    Calls Tryd.prog 87 #[.slice A row.length c, .func (.func 88) #[] #[.pointer (some ⟨b, 0, none⟩)]] W fun en w' => en = .returned (.bool (row.any (fun i => !inRowB xs i))) ∧ Below W.heap.size W w' :=
  containsFuncInt_any (· < W.heap.size) A c row 88 #[.pointer (some ⟨b, 0, none⟩)] enters_keeps1 (fun i => !inRowB xs i) W hR (fun e _ w2 hB => keeps1_any e b A1 xs.length c1 xs rfl w2 ((hB.cell (p := ⟨b, 0, none⟩) hb).trans h0))
theorem keepsR_step {xs : List Nat} {seen k : Nat} {row : List Int} {i : Int} (hi : row[k]? = some i) :
    keepsR xs seen (row.drop k) = if (xs.getD i.toNat 0 ||| 2 ^ i.toNat) &&& seen = 0 then keepsR xs (seen ||| 2 ^ i.toNat) (row.drop (k + 1)) else false := by
  have hk : k < row.length := (List.getElem?_eq_some_iff.1 hi).1
  have hd : row.drop k = i :: row.drop (k + 1) := by
    rw [List.drop_eq_getElem_cons hk]
    congr 1
    exact (List.getElem?_eq_some_iff.1 hi).2
  rw [hd]
  rfl

set_option maxRecDepth 20000 in
set_option maxHeartbeats 2000000 in
theorem Keeps_any (A : Option Addr) (c : Nat) (h : List Ev) (A' : Option Addr) (c' : Nat) (row : List Int) (w : World) (hK : Kinds w) (hE : Sl rEv (· < w.heap.size) w A c h) (hR : Sl rI (· < w.heap.size) w A' c' row) :
    Calls Tryd.prog 25 #[.slice A h.length c, .slice A' row.length c'] w fun en w' =>
      en = .returned (.tuple #[.bool (keepsE (properErr h) (ordE h) row).1, .int .i64 (keepsE (properErr h) (ordE h) row).2]) ∧ Below w.heap.size w w' := by
  have hA := Lib.hid (After_any A c h w hK hE)
  have hrl := hR.len
  have hlt := @ordE_lt h
  generalize ordE h = xs at *
  generalize properErr h = er at *
  by_cases he : er = 0
  · subst he
    obtain ⟨hx, hl⟩ := hlt rfl
    have HX := Lib.hid hx
    clear hlt hx
    cases hany : row.any (fun i => !inRowB xs i)
    · have hg : keepsE 0 xs row = (keepsR xs 0 row, 0) := by simp [keepsE, hany]
      rw [hg]
      clear hg
      have hin : ∀ i ∈ row, 0 ≤ i ∧ i < xs.length := fun i hi => by
        have := List.any_eq_false.1 hany i hi
        simpa [inRowB] using this
      have HIN := Lib.hid hin
      clear hin
      go_enter Tryd.func25, Tryd.ntmps25
      go_wp2_with fail
      refine hA.out.mono ?_
      rintro en w1 ⟨A1, c1, rfl, hS, hB⟩
      go_wp2_with fail
      have hBk := Blk.new w1 #[.slice A1 xs.length c1] 23
      have hBW : Below w.heap.size w (w1.alloc (.cells #[.slice A1 xs.length c1] 23)) := hB.alloc hB.size _
      have hb1 : w1.heap.size < (w1.alloc (.cells #[.slice A1 xs.length c1] 23)).heap.size := hBk.lt
      have hSW := (hS.wide (F' := (· < w1.heap.size)) (fun k hk _ => hk)).below (B := w1.heap.size) ((Below.refl w1.heap.size w1).alloc (Nat.le_refl _) (.cells #[.slice A1 xs.length c1] 23))
      generalize hW : w1.alloc (.cells #[.slice A1 xs.length c1] 23) = W at *
      have hRW := (hR.below hBW).wide (F' := (· < W.heap.size)) (fun k hk _ => hk)
      have hc0 : W.cell? ⟨w1.heap.size, 0, none⟩ = some (.slice A1 xs.length c1) := hBk.cell 0 rfl
      refine (keepsRow_any A' A1 w1.heap.size c' c1 xs row W hRW hb1 hc0).mono ?_
      rintro en w2 ⟨rfl, hB2⟩
      rw [hany]
      have hBk2 := hBk.below hB2
      have hBW2 := hBW.next hB2
      have hSW2 := hSW.below (hB2.mono (by omega))
      have hRW2 := hR.below hBW2
      have hsz := hB2.size
      have hsz0 := hB.size
      clear hany hW hS hBk hBW hB2 hSW
      go_wp2_with fail
      go_loopw [8, 10, 24] (fun s _ i wr => ∃ k seen : Nat, k ≤ row.length ∧ i = .int .i64 k ∧ s = .int .u32 (seen : Int) ∧ seen < 4294967296 ∧ keepsR xs seen (row.drop k) = keepsR xs 0 row ∧ Below w2.heap.size w2 wr) (fun _ _ i _ => row.length - (intOf i).toNat)
      case atStart => exact ⟨0, 0, Nat.zero_le _, rfl, rfl, by decide, by simp, Below.refl _ _⟩
      case round =>
        obtain ⟨k, seen, hk, rfl, rfl, hseen, hkr, hBr⟩ := hrel
        have HKR := Lib.hid hkr
        clear hkr
        by_cases hlt' : k < row.length
        · obtain ⟨v, hv⟩ := some_at hlt'
          obtain ⟨hv0, hvl⟩ := HIN.out v (List.mem_of_getElem? hv)
          obtain ⟨n, rfl⟩ := Int.eq_ofNat_of_zero_le hv0
          obtain ⟨a, ha⟩ := some_at (show n < xs.length by omega)
          have hstep := keepsR_step (xs := xs) (seen := seen) hv
          rw [HKR.out] at hstep
          have hget : xs.getD ((n : Int)).toNat 0 = a := by simp [ha]
          rw [hget, Int.toNat_natCast] at hstep
          have ha32 := HX.out a (List.mem_of_getElem? ha)
          obtain ⟨b2, o2, rfl, hb2, _, d2⟩ := (hRW2.below (hBr.mono (by omega))).one_at hv
          obtain ⟨b1, o1, rfl, _, _, d1⟩ := (hSW2.below (hBr.mono (by omega))).one_at ha
          have d1' : wr.cell? ⟨b1, o1 + n, none⟩ = some (.int .u32 (a : Int)) := d1
          have d2' : wr.cell? ⟨b2, o2 + k, none⟩ = some (.int .i64 (n : Int)) := d2
          have d3 := (hBk2.below hBr).cell 0 rfl
          have hmet := met a n seen ha32 (by omega) hseen
          have hor := or_bit seen n hseen (by omega)
          have hseen2 := or_lt hseen (pow_lt (show n < 32 by omega))
          by_cases hz : (a ||| 2 ^ n) &&& seen = 0
          · rw [if_pos hz] at hstep
            have Hstep := Lib.hid hstep
            rw [decide_eq_true hz] at hmet
            clear d1 d2 ha hv hget hstep hz
            go_wp2
            go_quiet (fail)
            go_wp2
            go_roundw
            case rel => exact ⟨k + 1, _, by omega, by go_num, rfl, hseen2, Hstep.out.symm, hBr.drewN nq⟩
            case measure => simp [intOf]; omega
          · rw [if_neg hz] at hstep
            have Hstep := Lib.hid hstep
            rw [decide_eq_false hz] at hmet
            clear d1 d2 ha hv hget hstep hz
            go_wp2
            go_quiet (fail)
            go_wp2
            go_ret2
            exact ⟨by rw [Hstep.out]; rfl, hBW2.next (hBr.drewN nq)⟩
        · obtain rfl : k = row.length := by omega
          rw [List.drop_length] at HKR
          go_wp2
          go_ret2
          exact ⟨by rw [← HKR.out]; rfl, hBW2.next hBr⟩
    · have hg : keepsE 0 xs row = (false, 7) := by simp only [keepsE, hany]; rfl
      rw [hg]
      clear hg
      go_enter Tryd.func25, Tryd.ntmps25
      go_wp2_with fail
      refine hA.out.mono ?_
      rintro en w1 ⟨A1, c1, rfl, hS, hB⟩
      go_wp2_with fail
      have hBk := Blk.new w1 #[.slice A1 xs.length c1] 23
      have hBW : Below w.heap.size w (w1.alloc (.cells #[.slice A1 xs.length c1] 23)) := hB.alloc hB.size _
      have hb1 : w1.heap.size < (w1.alloc (.cells #[.slice A1 xs.length c1] 23)).heap.size := hBk.lt
      generalize hW : w1.alloc (.cells #[.slice A1 xs.length c1] 23) = W at *
      have hRW := (hR.below hBW).wide (F' := (· < W.heap.size)) (fun k hk _ => hk)
      have hc0 : W.cell? ⟨w1.heap.size, 0, none⟩ = some (.slice A1 xs.length c1) := hBk.cell 0 rfl
      refine (keepsRow_any A' A1 w1.heap.size c' c1 xs row W hRW hb1 hc0).mono ?_
      rintro en w2 ⟨rfl, hB2⟩
      rw [hany]
      have hBW2 := hBW.next hB2
      clear hW hBW
      go_wp2
      go_ret2
      exact ⟨rfl, hBW2⟩
  · have hg : keepsE er xs row = (false, er) := by simp [keepsE, he]
    rw [hg]
    have hne : (er != 0) = true := by simpa using he
    clear hg
    go_enter Tryd.func25, Tryd.ntmps25
    go_wp2_with fail
    refine hA.out.mono ?_
    rintro en w1 ⟨A1, c1, rfl, hS, hB⟩
    go_wp2
    go_ret2
    exact ⟨rfl, hB.alloc hB.size _⟩
end Go.Proofs.YtppkmhejeklegaaDoor
