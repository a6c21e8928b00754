/- What every row of this seat wants: events that came in, the table of kinds, the witness. -/
import Derived.Test.YtppkmhejeklegaaDoorRows
import Derived.Test.YtppkmhejeklegaaDoorText
import Derived.ProofKit
import Derived.LaidMore
import Derived.OpenShut
import Derived.Stop.Joined
import Derived.Deep.Slices
namespace Go.Proofs.YtppkmhejeklegaaDoor
open Go.ChangeShapes Go.WideShapes Go.ChangeAt Go.RowKit

theorem own : ownKnob Tryd.prog.godebug = none := by kernel_rfl
theorem laidOut : laidOutB Tryd.prog = true := by kernel_rfl
abbrev laidKinds : List (String × DataW Unit) := [("recant/text.kinds", Rows.laid_recant_text_kinds)]
theorem gKinds : Tryd.prog.globalNamed "recant/text.kinds" = some 0 := by kernel_rfl
theorem tKinds : (Tryd.prog.globals[0]?).map (·.type) = some 275 := by kernel_rfl
theorem cells_ev : Tryd.prog.cellsOf 71 = 4 := by kernel_rfl
theorem cells_int : Tryd.prog.cellsOf 3 = 1 := by kernel_rfl
theorem cells_kind : Tryd.prog.cellsOf 274 = 3 := by kernel_rfl

/-- An event, as its cells say. -/
def evOf (cs : List Value) : Ev := match cs with
  | [.int _ a, .int _ b, .int _ c, .int _ d] => ⟨a, b, c, d⟩
  | _ => ⟨0, 0, 0, 0⟩

section
variable {H : Type} {enc : TypeId × Value → H}
set_option maxRecDepth 20000 in
theorem trod_ev {W : World} {base : Nat} {sp : Nat → Bool} {hd : Bool} {n : Nat} {cs : List Value} {x : DataW H × List MemPlace} (h : DataW.trod enc Tryd.prog W base sp hd n 71 cs = some x) :
    ∃ e : Ev, cs = [.int .i64 e.kind, .int .i64 e.tx, .int .i64 e.var, .int .i64 e.val] := by
  obtain ⟨xs, m, _, _, hl, hxl, hf⟩ := DataW.trod_struct Tryd.underlying71 h
  rw [cells_ev] at hl
  match cs, hl with
  | [v0, v1, v2, v3], _ =>
    match xs, hxl with
    | [y0, y1, y2, y3], _ =>
      have g0 := hf 0 _ rfl
      have g1 := hf 1 _ rfl
      have g2 := hf 2 _ rfl
      have g3 := hf 3 _ rfl
      simp [cells_int] at g0 g1 g2 g3
      obtain ⟨a, e0, _, _⟩ := DataW.trod_int Tryd.underlying3 g0
      obtain ⟨b, e1, _, _⟩ := DataW.trod_int Tryd.underlying3 g1
      obtain ⟨c, e2, _, _⟩ := DataW.trod_int Tryd.underlying3 g2
      obtain ⟨d, e3, _, _⟩ := DataW.trod_int Tryd.underlying3 g3
      simp at e0 e1 e2 e3
      subst e0; subst e1; subst e2; subst e3
      exact ⟨⟨a, b, c, d⟩, rfl⟩

/-- Events that came in. -/
theorem open_evs {W : World} {base : Nat} {hd : Bool} {n : Nat} {v : Value} {A : Option Addr} {len cap : Nat} {x : DataW H × List MemPlace} (hv : v = .slice A len cap)
    (h : DataW.trod enc Tryd.prog W base (fun _ => true) hd n 22 [v] = some x) :
    ∃ l : List Ev, len = l.length ∧ Sl rEv (· < W.heap.size) W A cap l := by
  subst hv
  rcases Deep.open_slice Tryd.underlying22 h with ⟨hcs, _⟩ | ⟨a, len', cap', m, k, D, Pl, hcs, _, hl, hm, hmm, _, hx⟩
  · simp at hcs
    obtain ⟨rfl, rfl, rfl⟩ := hcs
    exact ⟨[], rfl, Sl.nil _ _ _ _ _ (by decide)⟩
  · simp at hcs
    obtain ⟨rfl, rfl, rfl⟩ := hcs
    simp only [if_true] at hmm
    subst hmm
    have hx' : ∀ i, i < len → ∃ e : Ev, ∀ j u, [Value.int .i64 e.kind, .int .i64 e.tx, .int .i64 e.var, .int .i64 e.val][j]? = some u → W.cell? (a.add (i * 4 + j)) = some u := by
      intro i hi
      obtain ⟨cs', h1, h2⟩ := hx i (by omega)
      obtain ⟨e, he⟩ := trod_ev h2
      subst he
      rw [cells_ev] at h1
      obtain ⟨_, _, hc⟩ := World.cells?_some h1
      refine ⟨e, fun j u hj => ?_⟩
      have hj4 : j < 4 := by simpa using (List.getElem?_eq_some_iff.1 hj).1
      have := hc j hj4
      rw [Deep.add_add] at this
      rw [this]
      exact hj
    obtain ⟨f, hf⟩ := Deep.choose_lt hx'
    have hcap : m ≤ 9223372036854775807 := Nat.le_trans hm (by decide)
    refine ⟨(List.range len).map f, by simp, by simpa using hl, hcap, fun hne => ?_⟩
    have h0 : 0 < len := by
      rcases Nat.eq_zero_or_pos len with rfl | h0
      · simp at hne
      · exact h0
    obtain ⟨b, o, s⟩ := a
    have c0 := hf 0 h0 0 _ rfl
    have hs : s = none := by simpa [Addr.add] using World.cell?_spot c0
    subst hs
    have hlt : b < W.heap.size := by simpa [Addr.add] using World.block_lt_of_cell? W _ c0
    refine ⟨b, o, rfl, hlt, hlt, fun i e hi => ⟨_, rfl, fun j u hj => ?_⟩⟩
    have hi' : i < len := by have := (List.getElem?_eq_some_iff.1 hi).1; simpa using this
    have he : f i = e := by rw [List.getElem?_map] at hi; simpa [hi'] using hi
    subst he
    have := hf i hi' j u hj
    rw [add_plain, ← Nat.add_assoc] at this
    exact this
end

/-- A kind's datum. -/
def kd (i : Nat) : DataW Unit := .agg [.lit (.string (kword i).data.toList), .lit (.bool (kvar i)), .lit (.bool (kval i))]
theorem kinds_datum : (Rows.laid_recant_text_kinds : DataW Unit) = .agg ((List.range 10).map kd) := by rfl
theorem bytes_ext {a b : ByteArray} (h : a.data.toList = b.data.toList) : a = b := by
  obtain ⟨⟨x⟩⟩ := a
  obtain ⟨⟨y⟩⟩ := b
  cases h
  rfl
/-- The table of kinds, as laid. -/
theorem of_laid {W : World} (h : laidMetH Tryd.prog laidKinds W) : Kinds W := by
  rw [MakeChecks.laidMetH_plain _ _ _ (by kernel_rfl)] at h
  obtain ⟨ps, ⟨g, t, cs, fuel, p, q, hg, ht, hv, hd, _, _⟩, _, _⟩ := h
  obtain rfl := Option.some.inj (gKinds.symm.trans hg)
  obtain rfl := Option.some.inj (tKinds.symm.trans ht)
  rw [kinds_datum] at hd
  obtain ⟨xs, m, _, ex, _, hl, hel⟩ := DataW.trod_array Tryd.underlying275 hd
  have e3 : (xs.map (·.1)) = (List.range 10).map kd := (DataW.agg.inj (Prod.mk.inj ex).1).symm
  have each : ∀ i : Nat, i < 10 → cs.toList[i * 3]? = some (.string (kword i)) ∧ cs.toList[i * 3 + 1]? = some (.bool (kvar i)) ∧ cs.toList[i * 3 + 2]? = some (.bool (kval i)) := by
    intro i hi
    have hE := hel i hi
    rw [cells_kind, List.getElem?_eq_getElem (by omega)] at hE
    have e4 : (xs[i]'(by omega)).1 = kd i := by
      have : (xs.map (·.1))[i]? = ((List.range 10).map kd)[i]? := by rw [e3]
      rw [List.getElem?_map, List.getElem?_map, List.getElem?_eq_getElem (by omega), List.getElem?_eq_getElem (by simpa using hi)] at this
      simpa using this
    obtain ⟨ys, k, _, hy, hcl, hyl, hf⟩ := DataW.trod_struct Tryd.underlying274 hE
    rw [hy] at e4
    rw [cells_kind] at hcl
    have hget : ∀ j, j < 3 → cs.toList[i * 3 + j]? = ((cs.toList.drop (i * 3)).take 3)[j]? := by
      intro j hj
      rw [List.getElem?_take, if_pos hj, List.getElem?_drop]
    match hq : (cs.toList.drop (i * 3)).take 3, hcl with
    | [v0, v1, v2], _ =>
      rw [hq] at hf hget
      match ys, hyl with
      | [y0, y1, y2], _ =>
        have g0 := hf 0 _ rfl
        have g1 := hf 1 _ rfl
        have g2 := hf 2 _ rfl
        have cs9 : Tryd.prog.cellsOf 9 = 1 := by kernel_rfl
        have cs4 : Tryd.prog.cellsOf 4 = 1 := by kernel_rfl
        simp [cs9, cs4] at g0 g1 g2
        obtain ⟨a, e0, d0, _⟩ := DataW.trod_string Tryd.underlying9 g0
        obtain ⟨b, e1, d1⟩ := DataW.trod_bool Tryd.underlying4 g1
        obtain ⟨c, e2, d2⟩ := DataW.trod_bool Tryd.underlying4 g2
        simp at e0 e1 e2
        subst e0; subst e1; subst e2; subst d0; subst d1; subst d2
        simp only [kd, List.map_cons, List.map_nil, DataW.agg.injEq, List.cons.injEq, DataW.lit.injEq, Lit.string.injEq, Lit.bool.injEq, and_true] at e4
        obtain ⟨ea, eb, ec⟩ := e4
        have ea' := bytes_ext ea
        subst ea'; subst eb; subst ec
        exact ⟨hget 0 (by omega), hget 1 (by omega), hget 2 (by omega)⟩
  have hcell : ∀ j u, cs.toList[j]? = some u → W.cell? ⟨0, j, none⟩ = some u := fun j u hj => by
    rw [World.var?_cell hg hv j, ← Array.getElem?_toList]
    exact hj
  refine ⟨World.block_lt_of_cell? W _ (hcell _ _ (each 0 (by decide)).1), fun i hi => ⟨hcell _ _ (each i hi).1, hcell _ _ (each i hi).2.1, hcell _ _ (each i hi).2.2⟩⟩
end Go.Proofs.YtppkmhejeklegaaDoor
