/- The law OrderGrows: its walk. -/
import Derived.Test.YtppkmhejeklegaaDoorOrderG
import Derived.BigQuiet
import Derived.Deep.QuietTactic
namespace Go.Proofs.YtppkmhejeklegaaDoor
open Go.RowKit

def evCells (e : Ev) : List Value := [.int .i64 e.kind, .int .i64 e.tx, .int .i64 e.var, .int .i64 e.val]
theorem flat_at : ∀ (es : List Ev) (i j : Nat) (e : Ev) (u : Value), es[i]? = some e → (evCells e)[j]? = some u → (es.flatMap evCells)[i * 4 + j]? = some u
  | [], i, j, e, u, h, _ => by simp at h
  | a :: r, 0, j, e, u, h, hj => by
    simp at h
    subst h
    rw [List.flatMap_cons, Nat.zero_mul, Nat.zero_add, List.getElem?_append_left (List.getElem?_eq_some_iff.1 hj).1]
    exact hj
  | a :: r, i + 1, j, e, u, h, hj => by
    rw [List.flatMap_cons, List.getElem?_append_right (by simp [evCells]; omega)]
    have := flat_at r i j e u (by simpa using h) hj
    rw [← this]
    congr 1
    simp [evCells]
    omega
/-- Events as they lie in a block of their own. -/
theorem Sl.of_evs {F : Nat → Prop} {W : World} {b t c : Nat} {cs : Array Value} {es : List Ev} (h : Blk W b t cs) (hc : cs.toList = es.flatMap evCells) (hF : F b) (hl : es.length ≤ c) (hc2 : c ≤ 9223372036854775807) : Sl rEv F W (some ⟨b, 0, none⟩) c es := by
  refine ⟨hl, hc2, fun _ => ⟨b, 0, rfl, h.lt, hF, fun i x hi => ⟨evCells x, rfl, fun j u hj => ?_⟩⟩⟩
  have := flat_at es i j x u hi hj
  rw [← hc, Array.getElem?_toList] at this
  have := h.cell _ this
  rw [show 0 + i * rEv.sz + j = i * 4 + j from by rw [Nat.zero_add]; rfl]
  exact this

def aliveEvs : List Ev := [⟨0, 1, 0, 0⟩, ⟨9, 1, 0, 0⟩, ⟨0, 2, 0, 0⟩]
theorem alive_err : properErr aliveEvs = 0 := by decide
theorem alive_ord : ordE aliveEvs = [2, 0] := by decide

set_option maxRecDepth 20000 in
set_option maxHeartbeats 1000000 in
theorem alive7_any (w : World) (hK : Kinds w) : Calls Tryd.prog 23 #[] w fun en w' => en = .returned (.bool true) ∧ Below w.heap.size w w' := by
  go_enter Tryd.func23, Tryd.ntmps23
  have hb : ∀ W : World, Below w.heap.size w W → Calls Tryd.prog 22 #[.slice (some ⟨w.heap.size, 0, none⟩) 3 3] (w.alloc (.cells #[.int .i64 0, .int .i64 1, .int .i64 0, .int .i64 0, .int .i64 9, .int .i64 1, .int .i64 0, .int .i64 0, .int .i64 0, .int .i64 2, .int .i64 0, .int .i64 0] 71)) (RetSlE rN (w.alloc (.cells #[.int .i64 0, .int .i64 1, .int .i64 0, .int .i64 0, .int .i64 9, .int .i64 1, .int .i64 0, .int .i64 0, .int .i64 0, .int .i64 2, .int .i64 0, .int .i64 0] 71)) [2, 0] 0) := fun _ _ => by
    have := After_any (some ⟨w.heap.size, 0, none⟩) 3 aliveEvs _ (hK.below ((Below.refl _ _).alloc (Nat.le_refl _) _)) (Sl.of_evs (Blk.new w #[.int .i64 0, .int .i64 1, .int .i64 0, .int .i64 0, .int .i64 9, .int .i64 1, .int .i64 0, .int .i64 0, .int .i64 0, .int .i64 2, .int .i64 0, .int .i64 0] 71) rfl (by simp) (by decide) (by decide))
    rwa [alive_err, alive_ord] at this
  go_wp2_with fail
  refine (hb _ (Below.refl _ _)).mono ?_
  rintro en w2 ⟨A, c, rfl, hS, hB⟩
  obtain ⟨b, o, rfl, hbl, _, c0⟩ := hS.one_at (i := 0) rfl
  obtain ⟨b', o', hA, _, _, c1⟩ := hS.one_at (i := 1) rfl
  cases hA
  have d0 : w2.cell? ⟨b, o, none⟩ = some (.int .u32 2) := c0
  have d1 : w2.cell? ⟨b, o + 1, none⟩ = some (.int .u32 0) := c1
  clear c0 c1
  go_wp2
  go_ret
  exact ⟨rfl, ((Below.refl _ _).alloc (Nat.le_refl _) _).next hB⟩

theorem wrap64_id {n : Int} (h1 : -9223372036854775808 ≤ n) (h2 : n ≤ 9223372036854775807) : wrap64 n = n := by
  unfold wrap64
  omega
/-- A number, turned into one from 0 to n. -/
theorem rem_le (m : Int) (n : Nat) (hn : n ≤ 1000) : ∃ k : Nat, (wrap64 (wrap64 (m.tmod ((n : Int) + 1) + (n : Int)) + 1)).tmod ((n : Int) + 1) = (k : Int) ∧ k ≤ n := by
  have h1 := Int.tmod_lt_of_pos m (b := (n : Int) + 1) (by omega)
  have h2 := Int.lt_tmod_of_pos m (b := (n : Int) + 1) (by omega)
  rw [wrap64_id (n := m.tmod ((n : Int) + 1) + (n : Int)) (by omega) (by omega), wrap64_id (by omega) (by omega)]
  have h3 := Int.tmod_lt_of_pos (m.tmod ((n : Int) + 1) + (n : Int) + 1) (b := (n : Int) + 1) (by omega)
  have h4 := Int.tmod_nonneg ((n : Int) + 1) (a := m.tmod ((n : Int) + 1) + (n : Int) + 1) (by omega)
  refine ⟨((m.tmod ((n : Int) + 1) + (n : Int) + 1).tmod ((n : Int) + 1)).toNat, by omega, by omega⟩

/-- What the order law asks of two rows. -/
structure Within (xs ys : List Nat) : Prop where
  len : xs.length ≤ 6
  le : ys.length ≤ xs.length
  bits : ∀ (i a b : Nat), xs[i]? = some a → ys[i]? = some b → a &&& (2 ^ ys.length - 1) = b
  lt : ∀ a ∈ xs, a < 4294967296
theorem ordF_lt {l : List Txn} (hl : l.length ≤ 6) : ∀ a ∈ ordF l, a < 4294967296 := by
  intro a ha
  obtain ⟨i, _, rfl⟩ := List.mem_map.1 ha
  have h1 := mkBits_lt (beforeB l i) l.length
  have h2 : 2 ^ l.length ≤ 2 ^ 6 := Nat.pow_le_pow_right (by omega) hl
  omega
theorem within {h : List Ev} (he : properErr h = 0) {k : Nat} (hk : k ≤ h.length) : Within (ordF (tableF h)) (ordF (tableF (h.take k))) :=
  ⟨by rw [ordF_len]; exact tableF_len he, by rw [ordF_len, ordF_len]; exact table_len_grows he hk, fun i a b ha hb => by rw [ordF_len]; exact ord_grows he hk hb ha, ordF_lt (tableF_len he)⟩
theorem and_ones (x y n : Nat) (hn : n < 32) (hx : x < 4294967296) (h : x &&& (2 ^ n - 1) = y) : (bits .and .u32 (x : Int) (((2 : Int) ^ n - 1) % 4294967296) != (y : Int)) = false := by
  have h1 := pow_lt hn
  have h2 : 0 < 2 ^ n := Nat.two_pow_pos n
  have h3 : ((2 : Int) ^ n - 1) % 4294967296 = ((2 ^ n - 1 : Nat) : Int) := by
    have : (2 : Int) ^ n = ((2 ^ n : Nat) : Int) := by simp
    rw [this]
    omega
  rw [h3, bits_and_u32 _ _ hx (by omega), h]
  simp

set_option maxRecDepth 20000 in
set_option maxHeartbeats 2000000 in
theorem orderGrows_any (A : Option Addr) (c : Nat) (h : List Ev) (m : Int) (w : World) (hK : Kinds w) (hE : Sl rEv (· < w.heap.size) w A c h) :
    Calls Tryd.prog 3 #[.slice A h.length c, .int .i64 m] w fun en w' => en = .returned (.bool true) ∧ Below w.heap.size w w' := by
  have hlim := hE.len
  have hc := hE.1
  have hc2 := hE.2.1
  obtain ⟨n, hn⟩ : ∃ n, h.length = n := ⟨_, rfl⟩
  rw [hn] at hlim hc ⊢
  obtain ⟨h0, hE0, hl, hn0⟩ : ∃ h0, Sl rEv (· < w.heap.size) w A c h0 ∧ h0.length = min n 65 ∧ h0.length ≤ 65 := ⟨h.take 65, hE.take 65, by rw [List.length_take, hn, Nat.min_comm], by rw [List.length_take]; omega⟩
  by_cases he : properErr h0 = 0
  · have hord : ordE h0 = ordF (tableF h0) := by unfold ordE; rw [if_pos he]
    have hwi : ∀ k, k ≤ h0.length → Within (ordF (tableF h0)) (ordE (h0.take k)) := fun k hk => by unfold ordE; rw [if_pos (properErr_take he k)]; exact within he hk
    have hA1 := After_any A c h0 w hK hE0
    have hA2 := fun k w1 (hB : Below w.heap.size w w1) => After_any A c (h0.take k) w1 (hK.below hB) (((hE0.below hB).wide (fun j _ hj => Nat.lt_of_lt_of_le hj hB.size)).take k)
    rw [hord, he] at hA1
    have hA2' : ∀ k, k ≤ h0.length → ∀ w1, Below w.heap.size w w1 → Calls Tryd.prog 22 #[.slice A k c] w1 (RetSlE rN w1 (ordE (h0.take k)) 0) := fun k hk w1 hB => by
      have := hA2 k w1 hB
      rwa [properErr_take he k, List.length_take, Nat.min_eq_left hk] at this
    clear hA2 hord
    generalize ordF (tableF h0) = xs at *
    by_cases h65 : n ≤ 65
    · have hl' : h0.length = n := by omega
      rw [hl'] at hA1 hA2' hwi
      obtain ⟨k, hk, hkn⟩ := rem_le m n (by omega)
      obtain ⟨ys, hys⟩ : ∃ ys, ordE (h0.take k) = ys := ⟨_, rfl⟩
      have HA2 := Lib.hid (hA2' k hkn)
      have HW := hwi k hkn
      rw [hys] at HW HA2
      have HA1 := Lib.hid hA1
      clear hl hl' hn0 hA1 hA2' hwi hys he hn hE hE0
      have h65' : ((n : Nat) : Int) ≤ 65 := by omega
      have HK := Lib.hid hk
      clear hk
      obtain ⟨hxl, hyl, hbits, hxlt⟩ := HW
      have HB := Lib.hid hbits
      have HX := Lib.hid hxlt
      clear hbits hxlt
      go_enter Tryd.func3, Tryd.ntmps3
      go_wp2_with fail
      rw [HK.out]
      refine HA1.out.mono ?_
      rintro en w1 ⟨A1, c1, rfl, hS1, hB1⟩
      go_wp2_with fail
      refine (HA2.out w1 hB1).mono ?_
      rintro en w2 ⟨A2, c2, rfl, hS2, hB2⟩
      have hB02 := hB1.next hB2
      go_wp2_with fail
      refine (alive7_any _ (hK.below hB02)).mono ?_
      rintro en w3 ⟨rfl, hB3⟩
      have hB03 := hB02.next hB3
      have hS1' := ((hS1.wide (F' := (· < w1.heap.size)) (fun k hk _ => hk)).below hB2).below (hB3.mono hB2.size)
      have hS2' := (hS2.wide (F' := (· < w2.heap.size)) (fun k hk _ => hk)).below hB3
      clear hS1 hS2
      have hs1 : w1.heap.size ≤ w3.heap.size := Nat.le_trans hB2.size hB3.size
      have hs2 := hB3.size
      go_wp2_with fail
      go_loopw [64] (fun i wr => ∃ j : Nat, j ≤ ys.length ∧ i = .int .i64 j ∧ Below w3.heap.size w3 wr) (fun i _ => ys.length - (intOf i).toNat)
      case atStart => exact ⟨0, Nat.zero_le _, rfl, Below.refl _ _⟩
      case round =>
        obtain ⟨j, hj, rfl, hBr⟩ := hrel
        by_cases hlt : j < ys.length
        · obtain ⟨y, hy⟩ := some_at hlt
          obtain ⟨x, hx⟩ := some_at (Nat.lt_of_lt_of_le hlt hyl)
          obtain ⟨b1, o1, rfl, _, _, d1⟩ := (hS1'.below (hBr.mono hs1)).one_at hx
          obtain ⟨b2, o2, rfl, _, _, d2⟩ := (hS2'.below (hBr.mono hs2)).one_at hy
          have d1' : wr.cell? ⟨b1, o1 + j, none⟩ = some (.int .u32 (x : Int)) := d1
          have d2' : wr.cell? ⟨b2, o2 + j, none⟩ = some (.int .u32 (y : Int)) := d2
          have hbb := HB.out j x y hx hy
          have hx32 := HX.out x (List.mem_of_getElem? hx)
          have hj2 : j < xs.length := by omega
          have hne := and_ones x y ys.length (by omega) hx32 hbb
          clear d1 d2 hx hy
          go_wp2
          go_quiet (fail)
          go_wp2
          go_roundw
          case rel => exact ⟨j + 1, by omega, by go_num, hBr.drewN nq⟩
          case measure => simp [intOf]; omega
        · go_wp2
          go_ret
          exact ⟨rfl, hB03.next hBr⟩
    · have hl' : h0.length = 65 := by omega
      rw [hl'] at hA1 hA2' hwi
      obtain ⟨k, hk, hkn⟩ : ∃ k : Nat, (wrap64 (wrap64 (m.tmod 66 + 65) + 1)).tmod 66 = (k : Int) ∧ k ≤ 65 := rem_le m 65 (by decide)
      obtain ⟨ys, hys⟩ : ∃ ys, ordE (h0.take k) = ys := ⟨_, rfl⟩
      have HA2 := Lib.hid (hA2' k hkn)
      have HW := hwi k hkn
      rw [hys] at HW HA2
      have HA1 := Lib.hid hA1
      clear hl hl' hn0 hA1 hA2' hwi hys he hn hE hE0
      have h65' : (65 : Int) < ((n : Nat) : Int) := by omega
      have h65c : 65 ≤ c := by omega
      have HK := Lib.hid hk
      clear hk
      obtain ⟨hxl, hyl, hbits, hxlt⟩ := HW
      have HB := Lib.hid hbits
      have HX := Lib.hid hxlt
      clear hbits hxlt
      go_enter Tryd.func3, Tryd.ntmps3
      go_wp2_with fail
      rw [HK.out]
      refine HA1.out.mono ?_
      rintro en w1 ⟨A1, c1, rfl, hS1, hB1⟩
      go_wp2_with fail
      refine (HA2.out w1 hB1).mono ?_
      rintro en w2 ⟨A2, c2, rfl, hS2, hB2⟩
      have hB02 := hB1.next hB2
      go_wp2_with fail
      refine (alive7_any _ (hK.below hB02)).mono ?_
      rintro en w3 ⟨rfl, hB3⟩
      have hB03 := hB02.next hB3
      have hS1' := ((hS1.wide (F' := (· < w1.heap.size)) (fun k hk _ => hk)).below hB2).below (hB3.mono hB2.size)
      have hS2' := (hS2.wide (F' := (· < w2.heap.size)) (fun k hk _ => hk)).below hB3
      clear hS1 hS2
      have hs1 : w1.heap.size ≤ w3.heap.size := Nat.le_trans hB2.size hB3.size
      have hs2 := hB3.size
      go_wp2_with fail
      go_loopw [64] (fun i wr => ∃ j : Nat, j ≤ ys.length ∧ i = .int .i64 j ∧ Below w3.heap.size w3 wr) (fun i _ => ys.length - (intOf i).toNat)
      case atStart => exact ⟨0, Nat.zero_le _, rfl, Below.refl _ _⟩
      case round =>
        obtain ⟨j, hj, rfl, hBr⟩ := hrel
        by_cases hlt : j < ys.length
        · obtain ⟨y, hy⟩ := some_at hlt
          obtain ⟨x, hx⟩ := some_at (Nat.lt_of_lt_of_le hlt hyl)
          obtain ⟨b1, o1, rfl, _, _, d1⟩ := (hS1'.below (hBr.mono hs1)).one_at hx
          obtain ⟨b2, o2, rfl, _, _, d2⟩ := (hS2'.below (hBr.mono hs2)).one_at hy
          have d1' : wr.cell? ⟨b1, o1 + j, none⟩ = some (.int .u32 (x : Int)) := d1
          have d2' : wr.cell? ⟨b2, o2 + j, none⟩ = some (.int .u32 (y : Int)) := d2
          have hbb := HB.out j x y hx hy
          have hx32 := HX.out x (List.mem_of_getElem? hx)
          have hj2 : j < xs.length := by omega
          have hne := and_ones x y ys.length (by omega) hx32 hbb
          clear d1 d2 hx hy
          go_wp2
          go_quiet (fail)
          go_wp2
          go_roundw
          case rel => exact ⟨j + 1, by omega, by go_num, hBr.drewN nq⟩
          case measure => simp [intOf]; omega
        · go_wp2
          go_ret
          exact ⟨rfl, hB03.next hBr⟩
  · have hord : ordE h0 = [] := by unfold ordE; rw [if_neg he]
    have hne : (properErr h0 != 0) = true := by simpa using he
    have hA1 := After_any A c h0 w hK hE0
    rw [hord] at hA1
    clear hord he
    generalize properErr h0 = er at *
    by_cases h65 : n ≤ 65
    · have hl' : h0.length = n := by omega
      rw [hl'] at hA1
      have HA1 := Lib.hid hA1
      clear hl hl' hn0 hA1 hn hE hE0
      have h65' : ((n : Nat) : Int) ≤ 65 := by omega
      go_enter Tryd.func3, Tryd.ntmps3
      go_wp2_with fail
      refine HA1.out.mono ?_
      rintro en w1 ⟨A1, c1, rfl, hS1, hB1⟩
      go_wp2_with fail
      refine (alive7_any _ (hK.below hB1)).mono ?_
      rintro en w3 ⟨rfl, hB3⟩
      go_wp2
      go_ret
      exact ⟨rfl, hB1.next hB3⟩
    · have hl' : h0.length = 65 := by omega
      rw [hl'] at hA1
      have HA1 := Lib.hid hA1
      clear hl hl' hn0 hA1 hn hE hE0
      have h65' : (65 : Int) < ((n : Nat) : Int) := by omega
      have h65c : 65 ≤ c := by omega
      go_enter Tryd.func3, Tryd.ntmps3
      go_wp2_with fail
      refine HA1.out.mono ?_
      rintro en w1 ⟨A1, c1, rfl, hS1, hB1⟩
      go_wp2_with fail
      refine (alive7_any _ (hK.below hB1)).mono ?_
      rintro en w3 ⟨rfl, hB3⟩
      go_wp2
      go_ret
      exact ⟨rfl, hB1.next hB3⟩
end Go.Proofs.YtppkmhejeklegaaDoor
