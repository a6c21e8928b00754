/- Layer proper: which event may not be there. -/
import Derived.Test.YtppkmhejeklegaaDoorText
import Derived.Test.YtppkmhejeklegaaDoorMapI
import Derived.Maps.OwnOps
namespace Go.Proofs.YtppkmhejeklegaaDoor
open Go.RowKit

theorem zero_st (w : World) : (zeroValue 240).run Tryd.prog w = .ok (.int .i64 0) w := by kernel_rfl
theorem zero_mv (w : World) : (zeroValue 181).run Tryd.prog w = .ok (.map none) w := by kernel_rfl

/-- The moves, as maps. -/
def mv0 : List (Int × Int) := [(0, 1)]
def mv1 : List (Int × Int) := [(1, 2), (9, 7)]
def mv2 : List (Int × Int) := [(2, 3), (4, 4), (6, 5), (8, 6)]
def mv3 : List (Int × Int) := [(3, 2), (9, 7)]
def mv4 : List (Int × Int) := [(5, 2), (9, 7)]
def mv5 : List (Int × Int) := [(7, 7), (9, 7)]
def mv6 : List (Int × Int) := [(9, 7)]
def mvs : List (List (Int × Int)) := [mv0, mv1, mv2, mv3, mv4, mv5, mv6]
def ints (l : List (Int × Int)) : List (Int × Value) := l.map (fun p => (p.1, Value.int .i64 p.2))

structure Moves (w : World) (b : Nat) : Prop where
  top : MapI w b [(0, .map (some (b + 1))), (1, .map (some (b + 2))), (2, .map (some (b + 3))), (3, .map (some (b + 4))), (4, .map (some (b + 5))), (5, .map (some (b + 6))), (6, .map (some (b + 7)))]
  sub : ∀ i l, mvs[i]? = some l → MapI w (b + 1 + i) (ints l)

theorem Moves.lt {w : World} {b : Nat} (h : Moves w b) : b + 7 < w.heap.size := (h.sub 6 _ rfl).lt
theorem Moves.mono {w w' : World} {b : Nat} {S : Nat → Prop} (h : Moves w b) (hf : Fr S w w') (hs : ∀ k, b ≤ k → k < b + 8 → ¬ S k) : Moves w' b :=
  ⟨h.top.mono hf (hs b (Nat.le_refl _) (by omega)), fun i l hl => (h.sub i l hl).mono hf (hs _ (by omega) (by
    have : i < mvs.length := (List.getElem?_eq_some_iff.1 hl).1
    simp [mvs] at this; omega))⟩
theorem App.mapI {w : World} {objs : List Obj} {es : Array MapEntry} {cl : Nat} {kv : List (Int × Value)} (i : Nat) (h : objs[i]? = some (.map es cl)) (he : es.toList.map (fun e => (e.key, e.val)) = kv.map (fun p => (Value.int .i64 p.1, p.2))) : MapI (App w objs) (w.heap.size + i) kv :=
  ⟨es, cl, (App.at_ w objs i).trans h, he⟩

set_option maxRecDepth 20000 in
set_option maxHeartbeats 1000000 in
theorem moves_app (w : World) : Calls Tryd.prog 190 #[] (App w []) fun en w' => en = .returned (.map (some w.heap.size)) ∧ Moves w' w.heap.size ∧ Below w.heap.size w w' := by
  go_enter Tryd.func190, Tryd.ntmps190
  go_wp2_with (first | refine wpList_makeApp rfl _ rfl ?_ | refine wpList_insApp rfl _ _ _ _ rfl Tryd.underlying181 Tryd.underlying3 rfl rfl rfl rfl rfl ?_ | refine wpList_insApp (i := 0) rfl _ _ _ _ rfl Tryd.underlying238 Tryd.underlying240 rfl rfl rfl rfl rfl ?_)
  go_ret
  refine ⟨rfl, ⟨App.mapI 0 rfl rfl, fun i l hl => ?_⟩, App.below _ _⟩
  match i, hl with
  | 0, hl => cases hl; exact App.mapI 1 rfl rfl
  | 1, hl => cases hl; exact App.mapI 2 rfl rfl
  | 2, hl => cases hl; exact App.mapI 3 rfl rfl
  | 3, hl => cases hl; exact App.mapI 4 rfl rfl
  | 4, hl => cases hl; exact App.mapI 5 rfl rfl
  | 5, hl => cases hl; exact App.mapI 6 rfl rfl
  | 6, hl => cases hl; exact App.mapI 7 rfl rfl
  | i + 7, hl => simp [mvs] at hl
theorem moves_any (w : World) : Calls Tryd.prog 190 #[] w fun en w' => en = .returned (.map (some w.heap.size)) ∧ Moves w' w.heap.size ∧ Below w.heap.size w w' := by
  have h := moves_app w
  rwa [App.nil] at h

/-- The state that comes next. -/
def nextS (s k : Int) : Option Int := if s < 0 then none else (mvs[s.toNat]?).bind fun l => (l.find? (fun p => k == p.1)).map (·.2)
def getI (kv : List (Int × Int)) (k : Int) : Option Int := (kv.find? (fun p => k == p.1)).map (·.2)
def setI : List (Int × Int) → Int → Int → List (Int × Int)
  | [], k, v => [(k, v)]
  | p :: r, k, v => if k = p.1 then (k, v) :: r else p :: setI r k v
theorem kvGet_ints (l : List (Int × Int)) (k : Int) : kvGet (ints l) k = (getI l k).map (Value.int .i64) := by
  induction l with
  | nil => rfl
  | cons p r ih =>
    by_cases h : k = p.1
    · simp [kvGet, ints, getI, h]
    · have h1 : kvGet (ints (p :: r)) k = kvGet (ints r) k := by simp [kvGet, ints, beq_eq_false_iff_ne.2 h]
      have h2 : getI (p :: r) k = getI r k := by simp [getI, beq_eq_false_iff_ne.2 h]
      rw [h1, h2, ih]
theorem kvSet_ints (l : List (Int × Int)) (k v : Int) : kvSet (ints l) k (.int .i64 v) = ints (setI l k v) := by
  induction l with
  | nil => rfl
  | cons p r ih =>
    by_cases h : k = p.1
    · simp [kvSet, ints, setI, h]
    · have : kvSet (ints (p :: r)) k (.int .i64 v) = (p.1, Value.int .i64 p.2) :: kvSet (ints r) k (.int .i64 v) := by simp [kvSet, ints, h]
      rw [this, ih]
      simp [setI, h, ints]
theorem kvVal_ints (l : List (Int × Int)) (k : Int) : kvVal (ints l) k (.int .i64 0) false = .int .i64 ((getI l k).getD 0) := by
  simp only [kvVal, kvGet_ints]
  cases getI l k <;> rfl
theorem kvVal_ints_ok (l : List (Int × Int)) (k : Int) : kvVal (ints l) k (.int .i64 0) true = .tuple #[.int .i64 ((getI l k).getD 0), .bool (getI l k).isSome] := by
  simp only [kvVal, kvGet_ints]
  cases getI l k <;> rfl

/-- Where the moves of a state lie. -/
def mvAt (b : Nat) (s : Int) : Option Nat := if 0 ≤ s ∧ s < 7 then some (b + 1 + s.toNat) else none
theorem kvVal_top (b : Nat) (s : Int) : kvVal [(0, .map (some (b + 1))), (1, .map (some (b + 2))), (2, .map (some (b + 3))), (3, .map (some (b + 4))), (4, .map (some (b + 5))), (5, .map (some (b + 6))), (6, .map (some (b + 7)))] s (.map none) false = .map (mvAt b s) := by
  unfold mvAt
  by_cases h : 0 ≤ s ∧ s < 7
  · rw [if_pos h]
    obtain ⟨h0, h7⟩ := h
    have : s = 0 ∨ s = 1 ∨ s = 2 ∨ s = 3 ∨ s = 4 ∨ s = 5 ∨ s = 6 := by omega
    rcases this with rfl | rfl | rfl | rfl | rfl | rfl | rfl <;> simp [kvVal, kvGet] <;> omega
  · rw [if_neg h]
    have e : ∀ j : Int, 0 ≤ j → j < 7 → (s == j) = false := fun j a b => beq_eq_false_iff_ne.2 (by omega)
    simp [kvVal, kvGet, e]

/-- Goes on with an event: transactions' states then. -/
def stepR (kv : List (Int × Int)) (e : Ev) : Option (List (Int × Int)) := (nextS ((getI kv e.tx).getD 0) e.kind).map fun s => setI kv e.tx s
/-- How many events go well, and transactions' states then. -/
def runL : List (Int × Int) → List Ev → Nat × List (Int × Int)
  | kv, [] => (0, kv)
  | kv, e :: r => match stepR kv e with
    | none => (0, kv)
    | some kv' => ((runL kv' r).1 + 1, (runL kv' r).2)
theorem runL_len : ∀ (h : List Ev) (kv : List (Int × Int)), (runL kv h).1 ≤ h.length := by
  intro h
  induction h with
  | nil => intro kv; simp [runL]
  | cons e r ih =>
    intro kv
    unfold runL
    cases stepR kv e with
    | none => simp
    | some kv' => have := ih kv'; simp; omega

def RunPost (w : World) (h : List Ev) (en : Ending) (w' : World) : Prop :=
  ∃ b, en = .returned (.tuple #[.int .i64 (runL [] h).1, .map (some b)]) ∧ MapI w' b (ints (runL [] h).2) ∧ Below w.heap.size w w'

set_option maxRecDepth 20000 in
set_option maxHeartbeats 1000000 in
theorem run_any (A : Option Addr) (c : Nat) (h : List Ev) (w : World) (hE : Sl rEv (· < w.heap.size) w A c h) :
    Calls Tryd.prog 134 #[.slice A h.length c] w (RunPost w h) := by
  have hlim := hE.len
  go_enter Tryd.func134, Tryd.ntmps134
  go_wp2_with fail
  refine (moves_any w).mono ?_
  rintro en w1 ⟨rfl, hM, hB1⟩
  have hmm := @run_makeMap Tryd.prog
  go_wp2_with fail
  have hN0 : MapI (w1.alloc (.map #[] 0)) w1.heap.size (ints []) := MapI.made w1
  have hlt := hM.lt
  have hM0 : Moves (w1.alloc (.map #[] 0)) w.heap.size := hM.mono ((Fr.refl (fun _ => False) w1).alloc _) (fun _ _ _ h => h)
  have hB2 : Below w.heap.size w (w1.alloc (.map #[] 0)) := hB1.alloc hB1.size _
  generalize w1.alloc (.map #[] 0) = w2 at hN0 hM0 hB2 ⊢
  have hlt2 := hN0.lt
  generalize w1.heap.size = NB at hN0 hlt hlt2 ⊢
  clear hM hB1 hmm
  go_loopw [14] (fun i wr => ∃ (k : Nat) (kv : List (Int × Int)), k ≤ h.length ∧ i = .int .i64 k ∧ MapI wr NB (ints kv) ∧ Moves wr w.heap.size ∧ runL [] h = ((runL kv (h.drop k)).1 + k, (runL kv (h.drop k)).2) ∧ Below w.heap.size w wr) (fun i _ => h.length - (intOf i).toNat)
  case atStart => exact ⟨0, [], Nat.zero_le _, rfl, hN0, hM0, by simp, hB2⟩
  case round =>
    clear hN0 hM0 hB2 hlt2
    obtain ⟨k, kv, hk, rfl, hN, hM, hrun, hB⟩ := hrel
    have Hr := Lib.hid hrun; clear hrun
    by_cases hlk : k < h.length
    · obtain ⟨e, he⟩ := some_at hlk
      obtain ⟨b, o, rfl, hb, hF, c0, c1, c2, c3⟩ := hE.ev_at he
      have d0 := (hB.cell (p := ⟨b, o + k * 4, none⟩) hb).trans c0
      have d1 := (hB.cell (p := ⟨b, o + k * 4 + 1, none⟩) hb).trans c1
      have d2 := (hB.cell (p := ⟨b, o + k * 4 + 2, none⟩) hb).trans c2
      have d3 := (hB.cell (p := ⟨b, o + k * 4 + 3, none⟩) hb).trans c3
      have hdrop : h.drop k = e :: h.drop (k + 1) := by
        obtain ⟨hlt', rfl⟩ := List.getElem?_eq_some_iff.1 he
        exact List.drop_eq_getElem_cons hlt'
      have Hd := Lib.hid hdrop
      clear c0 c1 c2 c3 he hdrop
      obtain ⟨s, hs⟩ : ∃ s, (getI kv e.tx).getD 0 = s := ⟨_, rfl⟩
      have Hs := Lib.hid hs; clear hs
      have Hm := Lib.hid (kvVal_top w.heap.size s)
      have hv1 : kvVal (ints kv) e.tx (.int .i64 0) false = .int .i64 s := by rw [kvVal_ints, Hs.out]
      have Hv1 := Lib.hid hv1; clear hv1
      have hok : ∃ i : Option Nat, ∃ l, mvAt w.heap.size s = i ∧ nextS s e.kind = getI l e.kind ∧ (match i with | some i => MapI wr i (ints l) ∧ i ≠ NB | none => l = []) := by
        by_cases h07 : 0 ≤ s ∧ s < 7
        · obtain ⟨i, rfl⟩ := Int.eq_ofNat_of_zero_le h07.1
          obtain ⟨l, hl⟩ : ∃ l, mvs[i]? = some l := ⟨_, List.getElem?_eq_getElem (show i < mvs.length by simp [mvs]; omega)⟩
          refine ⟨some (w.heap.size + 1 + i), l, by rw [mvAt, if_pos h07]; rfl, ?_, hM.sub i l hl, by omega⟩
          unfold nextS
          rw [if_neg (by omega), Int.toNat_natCast, hl]; rfl
        · refine ⟨none, [], by rw [mvAt, if_neg h07], ?_, rfl⟩
          unfold nextS
          by_cases h0 : s < 0
          · rw [if_pos h0]; rfl
          · rw [if_neg h0, List.getElem?_eq_none (by simp [mvs]; omega)]; rfl
      obtain ⟨i, l, hi, hnx, hml⟩ := hok
      rw [Hid, hi] at Hm
      have Hnx := Lib.hid hnx; clear hnx hi
      have HB' : Below w.heap.size w (wr.alloc (.cells #[.int .i64 e.kind, .int .i64 e.tx, .int .i64 e.var, .int .i64 e.val] 71)) := hB.alloc hB.size _
      cases hn : getI l e.kind with
      | none =>
        have Hv3 := Lib.hid (kvVal_ints_ok l e.kind); rw [Hid, hn] at Hv3
        simp only [Option.getD_none, Option.isSome_none] at Hv3
        have Hn := Lib.hid hn; clear hn
        have Hfin : Hid (runL [] h = (k, kv)) := by
          have : stepR kv e = none := by unfold stepR; rw [Hs.out, Hnx.out, Hn.out]; rfl
          rw [Hid, Hr.out, Hd.out]; simp [runL, this]
        cases i with
        | none =>
          subst hml
          go_wp2_with (at_lookup; first | refine wpList_lookI rfl _ _ 181 false rfl Tryd.underlying181 Tryd.underlying3 (zero_st _) (hN.alloc _) rfl rfl _ Hv1 ?_ | refine wpList_lookI rfl _ _ 238 false rfl Tryd.underlying238 Tryd.underlying240 (zero_mv _) (hM.top.alloc _) rfl rfl _ Hm ?_ | refine wpList_look0 rfl _ _ 181 true rfl Tryd.underlying181 Tryd.underlying3 (zero_st _) rfl rfl _ Hv3 ?_)
          go_ret2
          exact ⟨NB, by rw [Hfin.out]; rfl, by rw [Hfin.out]; exact hN.alloc _, HB'⟩
        | some i =>
          obtain ⟨hml, _⟩ := hml
          go_wp2_with (at_lookup; first | refine wpList_lookI rfl _ _ 181 false rfl Tryd.underlying181 Tryd.underlying3 (zero_st _) (hN.alloc _) rfl rfl _ Hv1 ?_ | refine wpList_lookI rfl _ _ 238 false rfl Tryd.underlying238 Tryd.underlying240 (zero_mv _) (hM.top.alloc _) rfl rfl _ Hm ?_ | refine wpList_lookI rfl _ _ 181 true rfl Tryd.underlying181 Tryd.underlying3 (zero_st _) (hml.alloc _) rfl rfl _ Hv3 ?_)
          go_ret2
          exact ⟨NB, by rw [Hfin.out]; rfl, by rw [Hfin.out]; exact hN.alloc _, HB'⟩
      | some s' =>
        have Hv3 := Lib.hid (kvVal_ints_ok l e.kind); rw [Hid, hn] at Hv3
        simp only [Option.getD_some, Option.isSome_some] at Hv3
        have Hn := Lib.hid hn; clear hn
        have Hst : Hid (stepR kv e = some (setI kv e.tx s')) := by unfold stepR; rw [Hid, Hs.out, Hnx.out, Hn.out]; rfl
        cases i with
        | none => subst hml; have := Hn.out; cases this
        | some i =>
          obtain ⟨hml, hne⟩ := hml
          go_wp2_with (first | (at_mapUpdate; refine wpList_setI rfl _ _ _ 181 rfl Tryd.underlying181 Tryd.underlying3 (hN.alloc _) rfl rfl ?_; intro w3 hN3 hf3) | (at_lookup; first | refine wpList_lookI rfl _ _ 181 false rfl Tryd.underlying181 Tryd.underlying3 (zero_st _) (hN.alloc _) rfl rfl _ Hv1 ?_ | refine wpList_lookI rfl _ _ 238 false rfl Tryd.underlying238 Tryd.underlying240 (zero_mv _) (hM.top.alloc _) rfl rfl _ Hm ?_ | refine wpList_lookI rfl _ _ 181 true rfl Tryd.underlying181 Tryd.underlying3 (zero_st _) (hml.alloc _) rfl rfl _ Hv3 ?_))
          go_roundw
          case rel => exact ⟨k + 1, setI kv e.tx s', by omega, by go_num, by rw [← kvSet_ints]; exact hN3, (hM.mono ((Fr.refl (fun _ => False) wr).alloc _) (fun _ _ _ h => h)).mono hf3 (fun q h1 h2 => by omega), by rw [Hr.out, Hd.out]; simp [runL, Hst.out]; omega, HB'.trans (hf3.below HB'.size (fun q _ hq => by omega))⟩
          case measure => simp [intOf]; omega
    · obtain rfl : k = h.length := by omega
      go_wp2
      go_ret2
      have hfin : runL [] h = (h.length, kv) := by rw [Hr.out]; simp [runL]
      exact ⟨NB, by rw [hfin]; rfl, by rw [hfin]; exact hN, hB⟩

/-- Why events may not be; 0: they may. -/
def properErr (h : List Ev) : Int := if RightB h then (if (runL [] h).1 < h.length then 6 else 0) else 1
def properAt (h : List Ev) : Int := if RightB h then (runL [] h).1 else 0

set_option maxRecDepth 20000 in
set_option maxHeartbeats 1000000 in
theorem Check_any (A : Option Addr) (c : Nat) (h : List Ev) (w : World) (hK : Kinds w) (hE : Sl rEv (· < w.heap.size) w A c h) :
    Calls Tryd.prog 70 #[.slice A h.length c] w fun en w' => en = .returned (.tuple #[.int .i64 (properAt h), .int .i64 (properErr h)]) ∧ Below w.heap.size w w' := by
  have hlim := hE.len
  cases hR : RightB h
  · go_enter Tryd.func70, Tryd.ntmps70
    go_wp2_with fail
    refine (Right_any A c h w hK hE).mono ?_
    rintro en w1 ⟨rfl, hB⟩
    rw [hR]
    go_wp2
    go_ret2
    exact ⟨by simp [properAt, properErr, hR], hB⟩
  · go_enter Tryd.func70, Tryd.ntmps70
    go_wp2_with fail
    refine (Right_any A c h w hK hE).mono ?_
    rintro en w1 ⟨rfl, hB⟩
    rw [hR]
    go_wp2_with fail
    refine (run_any A c h w1 ((hE.below hB).wide (fun k _ hk => Nat.lt_of_lt_of_le hk hB.size))).mono ?_
    rintro en w2 ⟨b, rfl, _, hB2⟩
    have hl := runL_len h []
    by_cases hlt : (runL [] h).1 < h.length
    · go_wp2
      go_ret2
      exact ⟨by simp [properAt, properErr, hR, hlt], hB.next hB2⟩
    · go_wp2
      go_ret2
      exact ⟨by simp [properAt, properErr, hR, hlt], hB.next hB2⟩
end Go.Proofs.YtppkmhejeklegaaDoor
