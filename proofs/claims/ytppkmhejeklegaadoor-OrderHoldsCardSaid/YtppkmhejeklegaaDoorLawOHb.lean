/- The law OrderHolds: its walk, long inputs. -/
import Derived.Test.YtppkmhejeklegaaDoorLawOH
namespace Go.Proofs.YtppkmhejeklegaaDoor
open Go.RowKit

set_option maxRecDepth 20000 in
set_option maxHeartbeats 16000000 in
theorem orderHolds_large (A : Option Addr) (c : Nat) (h0 : List Ev) (xs : List Nat) (i k m n : Int) (w : World) (hK : Kinds w) (hE : Sl rEv (· < w.heap.size) w A c h0) (n0 : Nat) (h65 : (65 : Nat) = h0.length) (hn0 : 65 < n0) (hnc : n0 ≤ c) (he : properErr h0 = 0) (hxs : ordE h0 = xs) (h0x : 0 < xs.length) :
    Calls Tryd.prog 5 #[.slice A n0 c, .int .i64 i, .int .i64 k, .int .i64 m, .int .i64 n] w fun en w' => en = .returned (.bool true) ∧ Below w.heap.size w w' := by
  have hlim := hE.len
  have hc := hE.1
  have hc2 := hE.2.1
  have hl' : (65 : Int) < ((n0 : Nat) : Int) := by omega
  have hc65 : 65 ≤ c := by omega
  have hA : ∀ W, Below w.heap.size w W → Calls Tryd.prog 22 #[.slice A h0.length c] W (RetSlE rN W xs 0) := fun W hB => by
    have := After_any A c h0 W (hK.below hB) ((hE.below hB).wide (fun j _ hj => Nat.lt_of_lt_of_le hj hB.size))
    rwa [hxs, he] at this
  have HA := Lib.hid hA
  have hx6 : xs.length ≤ 6 := by rw [← hxs]; exact (ordE_lt he).2
  clear hA
  go_enter Tryd.func5, Tryd.ntmps5
  go_wp2_with fail
  clear h65 hn0 hnc hl' hc65
  have hbh := Blk.new w #[.slice A h0.length c] 22
  have hB0 : Below w.heap.size w (w.alloc (.cells #[.slice A h0.length c] 22)) := (Below.refl _ _).alloc (Nat.le_refl _) _
  have hA0 := HA.out _ hB0
  generalize w.alloc (.cells #[.slice A h0.length c] 22) = W0 at *
  refine hA0.mono ?_
  rintro en w1 ⟨A1, c1, rfl, hS, hB1⟩
  clear hA0
  have hS1 := hS.wide (F' := (· < w1.heap.size)) (fun k hk _ => hk)
  clear hS
  have hS2 := hS1.below (B := w1.heap.size) ((Below.refl w1.heap.size w1).alloc (Nat.le_refl _) (.cells #[.slice A1 xs.length c1] 23))
  have hne : ((xs.length : Int) == 0) = false := beq_eq_false_iff_ne.2 (by omega)
  have hne2 : (xs.length == 0) = false := beq_eq_false_iff_ne.2 (by omega)
  go_wp2_with fail
  have hbl := Blk.new w1 #[.slice A1 xs.length c1] 23
  have hB01 : Below w.heap.size w (w1.alloc (.cells #[.slice A1 xs.length c1] 23)) := (hB0.trans (hB1.mono hB0.size)).alloc (Nat.le_trans hB0.size hB1.size) _
  have hbh1 : Blk (w1.alloc (.cells #[.slice A1 xs.length c1] 23)) w.heap.size 22 #[.slice A h0.length c] := (hbh.below hB1).alloc _
  have hlt1 : w.heap.size < w1.heap.size := Nat.lt_of_lt_of_le hbh.lt hB1.size
  generalize w1.alloc (.cells #[.slice A1 xs.length c1] 23) = W1 at *
  clear hS1 hbh hB0 hB1
  refine (at7_any i _ A1 xs.length c1 h0x (by omega) W1 (hbl.cell 0 rfl)).mono ?_
  rintro en w2 ⟨i, hi, rfl, hB2⟩
  go_wp2_with fail
  refine (at7_any k _ A1 xs.length c1 h0x (by omega) w2 ((hbl.below hB2).cell 0 rfl)).mono ?_
  rintro en w3 ⟨k, hk, rfl, hB3⟩
  have hB3 := hB2.next hB3
  go_wp2_with fail
  refine (at7_any m _ A1 xs.length c1 h0x (by omega) w3 ((hbl.below hB3).cell 0 rfl)).mono ?_
  rintro en w4 ⟨m, hm, rfl, hB4⟩
  have hB4 := hB3.next hB4
  go_wp2_with fail
  refine (at7_any n _ A1 xs.length c1 h0x (by omega) w4 ((hbl.below hB4).cell 0 rfl)).mono ?_
  rintro en w5 ⟨n, hn, rfl, hB5⟩
  have hB5 := hB4.next hB5
  have hB05 := hB01.trans (hB5.mono hB01.size)
  go_wp2_with fail
  refine (alive7_any _ (hK.below hB05)).mono ?_
  rintro en w6 ⟨rfl, hB6⟩
  have hB6 := hB5.next hB6
  have hB06 := hB01.trans (hB6.mono hB01.size)
  clear hB2 hB3 hB4 hB5 hB05
  go_wp2_with fail
  have hI : HInv w A c h0 A1 c1 xs w.heap.size w1.heap.size w6.heap.size (w6.alloc (.cells #[.bool true] 4)) := by
    have hl1 := hbl.lt
    have hs6 := hB6.size
    refine ⟨hB06.alloc hB06.size _, hK, (hE.below hB06).mono (Fr.alloc (Fr.refl (fun _ => False) _) _) (fun _ _ h => h), ?_, (hbh1.below hB6).alloc _, (hbl.below hB6).alloc _, Blk.new _ _ _, hB06.size, by omega, by omega⟩
    exact ((hS2.below (hB6.mono (by omega))).mono (Fr.alloc (Fr.refl (fun _ => False) _) _) (fun _ _ h => h)).wide (fun k _ hk => by omega)
  generalize w6.alloc (.cells #[.bool true] 4) = W at *
  generalize w6.heap.size = bg at *
  generalize w1.heap.size = bl at *
  obtain ⟨bh, hbh⟩ : ∃ bh, w.heap.size = bh := ⟨_, rfl⟩
  rw [hbh] at hI
  rw [hbh]
  clear hbl hB01 hbh1 hlt1 hS2 hB6 hB06 hK hE
  obtain ⟨pii, pt, px⟩ := holdsF he hxs hi hk hm hn
  cases hik : befAt xs i k
  · clear pt px
    refine (before7_any he hxs hI i i hi hi).mono ?_
    rintro en W ⟨rfl, hI⟩
    rw [pii]
    go_wp2_with fail
    refine (before7_any he hxs hI i k hi hk).mono ?_
    rintro en W ⟨rfl, hI⟩
    rw [hik]
    go_wp2_with fail
    refine (before7_any he hxs hI i k hi hk).mono ?_
    rintro en W ⟨rfl, hI⟩
    rw [hik]
    have d1 := hI.cl.cell 0 rfl
    go_wp2_with fail
    have hcg := hI.cg.lt
    go_loopw [16, 109] (fun v i wr => ∃ j : Nat, j ≤ xs.length ∧ i = .int .i64 j ∧ Own rI No W.heap.size 3 wr v (ownRow j) ∧ HInv w A c h0 A1 c1 xs bh bl bg wr ∧ W.heap.size ≤ wr.heap.size) (fun _ i _ => xs.length - (intOf i).toNat)
    case atStart => exact ⟨0, Nat.zero_le _, rfl, by simpa [ownRow] using Own.nil rI No _ _ W, hI, Nat.le_refl _⟩
    case round =>
      clear hI
      obtain ⟨j, hj, rfl, hO, hI, hsz⟩ := hrel
      by_cases hlt : j < xs.length
      · have hb8 : ((ownRow j).length + 1) * 8 ≤ 140737488355328 := by rw [ownRow_len]; omega
        have hsn : ownRow j ++ [(j : Int)] = ownRow (j + 1) := by simp [ownRow, List.range_succ]
        go_wp2_with (at_builtin; refine wpList_app rI No W.heap.size 3 wr rfl _ _ 30 rfl Tryd.underlying30 info_int rfl (by decide) (by decide) hO (j : Int) _ rfl rfl no_lt rfl rfl rfl hb8 hsz ?_; intro v1 w8 hO1 hf1 hat1 hs1)
        rw [hsn] at hO1
        go_wp2
        go_roundw
        case rel => exact ⟨j + 1, by omega, by go_num, hO1, hI.after hf1 (fun k hk => by have := (hO.lt k hk.symm).1; omega) (hI.cg.mono hf1 (fun hS => by have := (hO.lt _ hS.symm).1; omega)), Nat.le_trans hsz hf1.size⟩
        case measure => simp [intOf]; omega
      · obtain rfl : j = xs.length := by omega
        obtain ⟨A', c', rfl, hS'⟩ := hO.toSl
        have d0 := hI.ch.cell 0 rfl
        go_wp2_with fail
        refine (Keeps_any A c h0 A' c' (ownRow xs.length) wr (hI.k0.below hI.hB) (hI.evs.wide (fun k hk _ => hk)) (hS'.wide (fun k hk _ => hk))).mono ?_
        rintro en w9 ⟨rfl, hB9⟩
        rw [hxs, he, holdsK he hxs]
        have hI9 := hI.below hB9
        have d2 := hI9.cg.cell 0 rfl
        go_wp2
        go_ret
        exact ⟨rfl, hI9.hB⟩
  · have px := px hik
    have pt := pt hik
    cases hkm : befAt xs k m
    · clear pt
      cases hmn : befAt xs m n
      · clear px
        refine (before7_any he hxs hI i i hi hi).mono ?_
        rintro en W ⟨rfl, hI⟩
        rw [pii]
        go_wp2_with fail
        refine (before7_any he hxs hI i k hi hk).mono ?_
        rintro en W ⟨rfl, hI⟩
        rw [hik]
        go_wp2_with fail
        refine (before7_any he hxs hI k m hk hm).mono ?_
        rintro en W ⟨rfl, hI⟩
        rw [hkm]
        go_wp2_with fail
        refine (before7_any he hxs hI i k hi hk).mono ?_
        rintro en W ⟨rfl, hI⟩
        rw [hik]
        go_wp2_with fail
        refine (before7_any he hxs hI m n hm hn).mono ?_
        rintro en W ⟨rfl, hI⟩
        rw [hmn]
        have d1 := hI.cl.cell 0 rfl
        go_wp2_with fail
        have hcg := hI.cg.lt
        go_loopw [16, 109] (fun v i wr => ∃ j : Nat, j ≤ xs.length ∧ i = .int .i64 j ∧ Own rI No W.heap.size 3 wr v (ownRow j) ∧ HInv w A c h0 A1 c1 xs bh bl bg wr ∧ W.heap.size ≤ wr.heap.size) (fun _ i _ => xs.length - (intOf i).toNat)
        case atStart => exact ⟨0, Nat.zero_le _, rfl, by simpa [ownRow] using Own.nil rI No _ _ W, hI, Nat.le_refl _⟩
        case round =>
          clear hI
          obtain ⟨j, hj, rfl, hO, hI, hsz⟩ := hrel
          by_cases hlt : j < xs.length
          · have hb8 : ((ownRow j).length + 1) * 8 ≤ 140737488355328 := by rw [ownRow_len]; omega
            have hsn : ownRow j ++ [(j : Int)] = ownRow (j + 1) := by simp [ownRow, List.range_succ]
            go_wp2_with (at_builtin; refine wpList_app rI No W.heap.size 3 wr rfl _ _ 30 rfl Tryd.underlying30 info_int rfl (by decide) (by decide) hO (j : Int) _ rfl rfl no_lt rfl rfl rfl hb8 hsz ?_; intro v1 w8 hO1 hf1 hat1 hs1)
            rw [hsn] at hO1
            go_wp2
            go_roundw
            case rel => exact ⟨j + 1, by omega, by go_num, hO1, hI.after hf1 (fun k hk => by have := (hO.lt k hk.symm).1; omega) (hI.cg.mono hf1 (fun hS => by have := (hO.lt _ hS.symm).1; omega)), Nat.le_trans hsz hf1.size⟩
            case measure => simp [intOf]; omega
          · obtain rfl : j = xs.length := by omega
            obtain ⟨A', c', rfl, hS'⟩ := hO.toSl
            have d0 := hI.ch.cell 0 rfl
            go_wp2_with fail
            refine (Keeps_any A c h0 A' c' (ownRow xs.length) wr (hI.k0.below hI.hB) (hI.evs.wide (fun k hk _ => hk)) (hS'.wide (fun k hk _ => hk))).mono ?_
            rintro en w9 ⟨rfl, hB9⟩
            rw [hxs, he, holdsK he hxs]
            have hI9 := hI.below hB9
            have d2 := hI9.cg.cell 0 rfl
            go_wp2
            go_ret
            exact ⟨rfl, hI9.hB⟩
      · have px := px hmn
        cases hin : befAt xs i n
        · have hmk := px hin
          clear px
          refine (before7_any he hxs hI i i hi hi).mono ?_
          rintro en W ⟨rfl, hI⟩
          rw [pii]
          go_wp2_with fail
          refine (before7_any he hxs hI i k hi hk).mono ?_
          rintro en W ⟨rfl, hI⟩
          rw [hik]
          go_wp2_with fail
          refine (before7_any he hxs hI k m hk hm).mono ?_
          rintro en W ⟨rfl, hI⟩
          rw [hkm]
          go_wp2_with fail
          refine (before7_any he hxs hI i k hi hk).mono ?_
          rintro en W ⟨rfl, hI⟩
          rw [hik]
          go_wp2_with fail
          refine (before7_any he hxs hI m n hm hn).mono ?_
          rintro en W ⟨rfl, hI⟩
          rw [hmn]
          go_wp2_with fail
          refine (before7_any he hxs hI i n hi hn).mono ?_
          rintro en W ⟨rfl, hI⟩
          rw [hin]
          go_wp2_with fail
          refine (before7_any he hxs hI m k hm hk).mono ?_
          rintro en W ⟨rfl, hI⟩
          rw [hmk]
          have d1 := hI.cl.cell 0 rfl
          go_wp2_with fail
          have hcg := hI.cg.lt
          go_loopw [16, 109] (fun v i wr => ∃ j : Nat, j ≤ xs.length ∧ i = .int .i64 j ∧ Own rI No W.heap.size 3 wr v (ownRow j) ∧ HInv w A c h0 A1 c1 xs bh bl bg wr ∧ W.heap.size ≤ wr.heap.size) (fun _ i _ => xs.length - (intOf i).toNat)
          case atStart => exact ⟨0, Nat.zero_le _, rfl, by simpa [ownRow] using Own.nil rI No _ _ W, hI, Nat.le_refl _⟩
          case round =>
            clear hI
            obtain ⟨j, hj, rfl, hO, hI, hsz⟩ := hrel
            by_cases hlt : j < xs.length
            · have hb8 : ((ownRow j).length + 1) * 8 ≤ 140737488355328 := by rw [ownRow_len]; omega
              have hsn : ownRow j ++ [(j : Int)] = ownRow (j + 1) := by simp [ownRow, List.range_succ]
              go_wp2_with (at_builtin; refine wpList_app rI No W.heap.size 3 wr rfl _ _ 30 rfl Tryd.underlying30 info_int rfl (by decide) (by decide) hO (j : Int) _ rfl rfl no_lt rfl rfl rfl hb8 hsz ?_; intro v1 w8 hO1 hf1 hat1 hs1)
              rw [hsn] at hO1
              go_wp2
              go_roundw
              case rel => exact ⟨j + 1, by omega, by go_num, hO1, hI.after hf1 (fun k hk => by have := (hO.lt k hk.symm).1; omega) (hI.cg.mono hf1 (fun hS => by have := (hO.lt _ hS.symm).1; omega)), Nat.le_trans hsz hf1.size⟩
              case measure => simp [intOf]; omega
            · obtain rfl : j = xs.length := by omega
              obtain ⟨A', c', rfl, hS'⟩ := hO.toSl
              have d0 := hI.ch.cell 0 rfl
              go_wp2_with fail
              refine (Keeps_any A c h0 A' c' (ownRow xs.length) wr (hI.k0.below hI.hB) (hI.evs.wide (fun k hk _ => hk)) (hS'.wide (fun k hk _ => hk))).mono ?_
              rintro en w9 ⟨rfl, hB9⟩
              rw [hxs, he, holdsK he hxs]
              have hI9 := hI.below hB9
              have d2 := hI9.cg.cell 0 rfl
              go_wp2
              go_ret
              exact ⟨rfl, hI9.hB⟩
        · clear px
          refine (before7_any he hxs hI i i hi hi).mono ?_
          rintro en W ⟨rfl, hI⟩
          rw [pii]
          go_wp2_with fail
          refine (before7_any he hxs hI i k hi hk).mono ?_
          rintro en W ⟨rfl, hI⟩
          rw [hik]
          go_wp2_with fail
          refine (before7_any he hxs hI k m hk hm).mono ?_
          rintro en W ⟨rfl, hI⟩
          rw [hkm]
          go_wp2_with fail
          refine (before7_any he hxs hI i k hi hk).mono ?_
          rintro en W ⟨rfl, hI⟩
          rw [hik]
          go_wp2_with fail
          refine (before7_any he hxs hI m n hm hn).mono ?_
          rintro en W ⟨rfl, hI⟩
          rw [hmn]
          go_wp2_with fail
          refine (before7_any he hxs hI i n hi hn).mono ?_
          rintro en W ⟨rfl, hI⟩
          rw [hin]
          have d1 := hI.cl.cell 0 rfl
          go_wp2_with fail
          have hcg := hI.cg.lt
          go_loopw [16, 109] (fun v i wr => ∃ j : Nat, j ≤ xs.length ∧ i = .int .i64 j ∧ Own rI No W.heap.size 3 wr v (ownRow j) ∧ HInv w A c h0 A1 c1 xs bh bl bg wr ∧ W.heap.size ≤ wr.heap.size) (fun _ i _ => xs.length - (intOf i).toNat)
          case atStart => exact ⟨0, Nat.zero_le _, rfl, by simpa [ownRow] using Own.nil rI No _ _ W, hI, Nat.le_refl _⟩
          case round =>
            clear hI
            obtain ⟨j, hj, rfl, hO, hI, hsz⟩ := hrel
            by_cases hlt : j < xs.length
            · have hb8 : ((ownRow j).length + 1) * 8 ≤ 140737488355328 := by rw [ownRow_len]; omega
              have hsn : ownRow j ++ [(j : Int)] = ownRow (j + 1) := by simp [ownRow, List.range_succ]
              go_wp2_with (at_builtin; refine wpList_app rI No W.heap.size 3 wr rfl _ _ 30 rfl Tryd.underlying30 info_int rfl (by decide) (by decide) hO (j : Int) _ rfl rfl no_lt rfl rfl rfl hb8 hsz ?_; intro v1 w8 hO1 hf1 hat1 hs1)
              rw [hsn] at hO1
              go_wp2
              go_roundw
              case rel => exact ⟨j + 1, by omega, by go_num, hO1, hI.after hf1 (fun k hk => by have := (hO.lt k hk.symm).1; omega) (hI.cg.mono hf1 (fun hS => by have := (hO.lt _ hS.symm).1; omega)), Nat.le_trans hsz hf1.size⟩
              case measure => simp [intOf]; omega
            · obtain rfl : j = xs.length := by omega
              obtain ⟨A', c', rfl, hS'⟩ := hO.toSl
              have d0 := hI.ch.cell 0 rfl
              go_wp2_with fail
              refine (Keeps_any A c h0 A' c' (ownRow xs.length) wr (hI.k0.below hI.hB) (hI.evs.wide (fun k hk _ => hk)) (hS'.wide (fun k hk _ => hk))).mono ?_
              rintro en w9 ⟨rfl, hB9⟩
              rw [hxs, he, holdsK he hxs]
              have hI9 := hI.below hB9
              have d2 := hI9.cg.cell 0 rfl
              go_wp2
              go_ret
              exact ⟨rfl, hI9.hB⟩
    · have him := pt hkm
      clear pt
      cases hmn : befAt xs m n
      · clear px
        refine (before7_any he hxs hI i i hi hi).mono ?_
        rintro en W ⟨rfl, hI⟩
        rw [pii]
        go_wp2_with fail
        refine (before7_any he hxs hI i k hi hk).mono ?_
        rintro en W ⟨rfl, hI⟩
        rw [hik]
        go_wp2_with fail
        refine (before7_any he hxs hI k m hk hm).mono ?_
        rintro en W ⟨rfl, hI⟩
        rw [hkm]
        go_wp2_with fail
        refine (before7_any he hxs hI i m hi hm).mono ?_
        rintro en W ⟨rfl, hI⟩
        rw [him]
        go_wp2_with fail
        refine (before7_any he hxs hI i k hi hk).mono ?_
        rintro en W ⟨rfl, hI⟩
        rw [hik]
        go_wp2_with fail
        refine (before7_any he hxs hI m n hm hn).mono ?_
        rintro en W ⟨rfl, hI⟩
        rw [hmn]
        have d1 := hI.cl.cell 0 rfl
        go_wp2_with fail
        have hcg := hI.cg.lt
        go_loopw [16, 109] (fun v i wr => ∃ j : Nat, j ≤ xs.length ∧ i = .int .i64 j ∧ Own rI No W.heap.size 3 wr v (ownRow j) ∧ HInv w A c h0 A1 c1 xs bh bl bg wr ∧ W.heap.size ≤ wr.heap.size) (fun _ i _ => xs.length - (intOf i).toNat)
        case atStart => exact ⟨0, Nat.zero_le _, rfl, by simpa [ownRow] using Own.nil rI No _ _ W, hI, Nat.le_refl _⟩
        case round =>
          clear hI
          obtain ⟨j, hj, rfl, hO, hI, hsz⟩ := hrel
          by_cases hlt : j < xs.length
          · have hb8 : ((ownRow j).length + 1) * 8 ≤ 140737488355328 := by rw [ownRow_len]; omega
            have hsn : ownRow j ++ [(j : Int)] = ownRow (j + 1) := by simp [ownRow, List.range_succ]
            go_wp2_with (at_builtin; refine wpList_app rI No W.heap.size 3 wr rfl _ _ 30 rfl Tryd.underlying30 info_int rfl (by decide) (by decide) hO (j : Int) _ rfl rfl no_lt rfl rfl rfl hb8 hsz ?_; intro v1 w8 hO1 hf1 hat1 hs1)
            rw [hsn] at hO1
            go_wp2
            go_roundw
            case rel => exact ⟨j + 1, by omega, by go_num, hO1, hI.after hf1 (fun k hk => by have := (hO.lt k hk.symm).1; omega) (hI.cg.mono hf1 (fun hS => by have := (hO.lt _ hS.symm).1; omega)), Nat.le_trans hsz hf1.size⟩
            case measure => simp [intOf]; omega
          · obtain rfl : j = xs.length := by omega
            obtain ⟨A', c', rfl, hS'⟩ := hO.toSl
            have d0 := hI.ch.cell 0 rfl
            go_wp2_with fail
            refine (Keeps_any A c h0 A' c' (ownRow xs.length) wr (hI.k0.below hI.hB) (hI.evs.wide (fun k hk _ => hk)) (hS'.wide (fun k hk _ => hk))).mono ?_
            rintro en w9 ⟨rfl, hB9⟩
            rw [hxs, he, holdsK he hxs]
            have hI9 := hI.below hB9
            have d2 := hI9.cg.cell 0 rfl
            go_wp2
            go_ret
            exact ⟨rfl, hI9.hB⟩
      · have px := px hmn
        cases hin : befAt xs i n
        · have hmk := px hin
          clear px
          refine (before7_any he hxs hI i i hi hi).mono ?_
          rintro en W ⟨rfl, hI⟩
          rw [pii]
          go_wp2_with fail
          refine (before7_any he hxs hI i k hi hk).mono ?_
          rintro en W ⟨rfl, hI⟩
          rw [hik]
          go_wp2_with fail
          refine (before7_any he hxs hI k m hk hm).mono ?_
          rintro en W ⟨rfl, hI⟩
          rw [hkm]
          go_wp2_with fail
          refine (before7_any he hxs hI i m hi hm).mono ?_
          rintro en W ⟨rfl, hI⟩
          rw [him]
          go_wp2_with fail
          refine (before7_any he hxs hI i k hi hk).mono ?_
          rintro en W ⟨rfl, hI⟩
          rw [hik]
          go_wp2_with fail
          refine (before7_any he hxs hI m n hm hn).mono ?_
          rintro en W ⟨rfl, hI⟩
          rw [hmn]
          go_wp2_with fail
          refine (before7_any he hxs hI i n hi hn).mono ?_
          rintro en W ⟨rfl, hI⟩
          rw [hin]
          go_wp2_with fail
          refine (before7_any he hxs hI m k hm hk).mono ?_
          rintro en W ⟨rfl, hI⟩
          rw [hmk]
          have d1 := hI.cl.cell 0 rfl
          go_wp2_with fail
          have hcg := hI.cg.lt
          go_loopw [16, 109] (fun v i wr => ∃ j : Nat, j ≤ xs.length ∧ i = .int .i64 j ∧ Own rI No W.heap.size 3 wr v (ownRow j) ∧ HInv w A c h0 A1 c1 xs bh bl bg wr ∧ W.heap.size ≤ wr.heap.size) (fun _ i _ => xs.length - (intOf i).toNat)
          case atStart => exact ⟨0, Nat.zero_le _, rfl, by simpa [ownRow] using Own.nil rI No _ _ W, hI, Nat.le_refl _⟩
          case round =>
            clear hI
            obtain ⟨j, hj, rfl, hO, hI, hsz⟩ := hrel
            by_cases hlt : j < xs.length
            · have hb8 : ((ownRow j).length + 1) * 8 ≤ 140737488355328 := by rw [ownRow_len]; omega
              have hsn : ownRow j ++ [(j : Int)] = ownRow (j + 1) := by simp [ownRow, List.range_succ]
              go_wp2_with (at_builtin; refine wpList_app rI No W.heap.size 3 wr rfl _ _ 30 rfl Tryd.underlying30 info_int rfl (by decide) (by decide) hO (j : Int) _ rfl rfl no_lt rfl rfl rfl hb8 hsz ?_; intro v1 w8 hO1 hf1 hat1 hs1)
              rw [hsn] at hO1
              go_wp2
              go_roundw
              case rel => exact ⟨j + 1, by omega, by go_num, hO1, hI.after hf1 (fun k hk => by have := (hO.lt k hk.symm).1; omega) (hI.cg.mono hf1 (fun hS => by have := (hO.lt _ hS.symm).1; omega)), Nat.le_trans hsz hf1.size⟩
              case measure => simp [intOf]; omega
            · obtain rfl : j = xs.length := by omega
              obtain ⟨A', c', rfl, hS'⟩ := hO.toSl
              have d0 := hI.ch.cell 0 rfl
              go_wp2_with fail
              refine (Keeps_any A c h0 A' c' (ownRow xs.length) wr (hI.k0.below hI.hB) (hI.evs.wide (fun k hk _ => hk)) (hS'.wide (fun k hk _ => hk))).mono ?_
              rintro en w9 ⟨rfl, hB9⟩
              rw [hxs, he, holdsK he hxs]
              have hI9 := hI.below hB9
              have d2 := hI9.cg.cell 0 rfl
              go_wp2
              go_ret
              exact ⟨rfl, hI9.hB⟩
        · clear px
          refine (before7_any he hxs hI i i hi hi).mono ?_
          rintro en W ⟨rfl, hI⟩
          rw [pii]
          go_wp2_with fail
          refine (before7_any he hxs hI i k hi hk).mono ?_
          rintro en W ⟨rfl, hI⟩
          rw [hik]
          go_wp2_with fail
          refine (before7_any he hxs hI k m hk hm).mono ?_
          rintro en W ⟨rfl, hI⟩
          rw [hkm]
          go_wp2_with fail
          refine (before7_any he hxs hI i m hi hm).mono ?_
          rintro en W ⟨rfl, hI⟩
          rw [him]
          go_wp2_with fail
          refine (before7_any he hxs hI i k hi hk).mono ?_
          rintro en W ⟨rfl, hI⟩
          rw [hik]
          go_wp2_with fail
          refine (before7_any he hxs hI m n hm hn).mono ?_
          rintro en W ⟨rfl, hI⟩
          rw [hmn]
          go_wp2_with fail
          refine (before7_any he hxs hI i n hi hn).mono ?_
          rintro en W ⟨rfl, hI⟩
          rw [hin]
          have d1 := hI.cl.cell 0 rfl
          go_wp2_with fail
          have hcg := hI.cg.lt
          go_loopw [16, 109] (fun v i wr => ∃ j : Nat, j ≤ xs.length ∧ i = .int .i64 j ∧ Own rI No W.heap.size 3 wr v (ownRow j) ∧ HInv w A c h0 A1 c1 xs bh bl bg wr ∧ W.heap.size ≤ wr.heap.size) (fun _ i _ => xs.length - (intOf i).toNat)
          case atStart => exact ⟨0, Nat.zero_le _, rfl, by simpa [ownRow] using Own.nil rI No _ _ W, hI, Nat.le_refl _⟩
          case round =>
            clear hI
            obtain ⟨j, hj, rfl, hO, hI, hsz⟩ := hrel
            by_cases hlt : j < xs.length
            · have hb8 : ((ownRow j).length + 1) * 8 ≤ 140737488355328 := by rw [ownRow_len]; omega
              have hsn : ownRow j ++ [(j : Int)] = ownRow (j + 1) := by simp [ownRow, List.range_succ]
              go_wp2_with (at_builtin; refine wpList_app rI No W.heap.size 3 wr rfl _ _ 30 rfl Tryd.underlying30 info_int rfl (by decide) (by decide) hO (j : Int) _ rfl rfl no_lt rfl rfl rfl hb8 hsz ?_; intro v1 w8 hO1 hf1 hat1 hs1)
              rw [hsn] at hO1
              go_wp2
              go_roundw
              case rel => exact ⟨j + 1, by omega, by go_num, hO1, hI.after hf1 (fun k hk => by have := (hO.lt k hk.symm).1; omega) (hI.cg.mono hf1 (fun hS => by have := (hO.lt _ hS.symm).1; omega)), Nat.le_trans hsz hf1.size⟩
              case measure => simp [intOf]; omega
            · obtain rfl : j = xs.length := by omega
              obtain ⟨A', c', rfl, hS'⟩ := hO.toSl
              have d0 := hI.ch.cell 0 rfl
              go_wp2_with fail
              refine (Keeps_any A c h0 A' c' (ownRow xs.length) wr (hI.k0.below hI.hB) (hI.evs.wide (fun k hk _ => hk)) (hS'.wide (fun k hk _ => hk))).mono ?_
              rintro en w9 ⟨rfl, hB9⟩
              rw [hxs, he, holdsK he hxs]
              have hI9 := hI.below hB9
              have d2 := hI9.cg.cell 0 rfl
              go_wp2
              go_ret
              exact ⟨rfl, hI9.hB⟩
end Go.Proofs.YtppkmhejeklegaaDoor
