/- Ranges over functions: words that all of them use. -/
import Derived.Test.YtppkmhejeklegaaDoorOwn
import Derived.RangeFuncNested
import Derived.RangeFuncBound
import Derived.RangeFuncCalls
import Derived.RangeFuncLeaves
import Derived.RangeFuncBox
import Derived.Shelf.Abstract
import Derived.OwnWalkIn
import Derived.TacticsInMore
import Derived.LoopNIn
import Derived.LoopIn
import Derived.RegionIn
import Derived.Sort.QuietTacIn
import Derived.Sort.BigQuietIn
import Derived.Shelf.RegionOpen
namespace Go.Proofs.YtppkmhejeklegaaDoor
open Go.RowKit Go.Shelf

/-- What a round that goes on keeps: one cell of the iterator's. -/
def KeepC (b : Nat) (W W' : World) : Prop := ∀ v, W.cell? ⟨b, 0, none⟩ = some v → W'.cell? ⟨b, 0, none⟩ = some v
theorem keepC_t {b : Nat} {A B C : World} (h : KeepC b A B) (k : KeepC b B C) : KeepC b A C := fun v hv => k v (h v hv)
theorem keepC_b {b : Nat} {w : World} (W : World) (l : Nat) (o o' : Obj) (_ : w.heap.size ≤ l) (h : W.heap[l]? = some o) (hc : o.isCells = false) (_ : o.isWalk = false) : KeepC b W (W.putObj l o') := by
  intro v hv
  have hne : b ≠ l := by
    rintro rfl
    unfold World.cell? at hv
    simp only [h] at hv
    cases o <;> simp_all [Obj.isCells]
  have hb := World.block_lt_of_cell? W _ hv
  rw [World.cell?_of_block (w := W) (w' := W.putObj l o') ((grownBy_putObj' W l o').block b hb (by simpa using hne))]
  exact hv
/-- A block of cells abides the turn of what is no cells. -/
theorem Blk.turn {W W' : World} {b t : Nat} {cs : Array Value} {row : Option Nat} (h : Blk W b t cs) (hg : W.grownBy W' row) (hr : ∀ r, row = some r → ∃ o : Obj, W.heap[r]? = some o ∧ o.isCells = false) : Blk W' b t cs := by
  refine (hg.block b h.lt (fun e => ?_)).trans h
  obtain ⟨o, ho, hc⟩ := hr b e.symm
  unfold Blk at h
  rw [h] at ho
  cases ho
  simp [Obj.isCells] at hc
theorem ownFrom_blk {β : Type} (B b t : Nat) (f : β → Array Value) : OwnFrom B (fun (s : β) W => Blk W b t (f s)) := fun _ _ _ _ hs hg hr => hs.turn hg (fun r e => (hr r e).2)
theorem ownFrom_false {β : Type} (B : Nat) : OwnFrom B (fun (_ : β) (_ : World) => False) := fun _ _ _ _ hs _ _ => hs
theorem Sl.of_blk {α : Type} {enc : α → Value} {F : Nat → Prop} {W : World} {b t : Nat} {l : List α} (h : Blk W b t (l.map enc).toArray) (hF : F b) (hl : l.length ≤ 9223372036854775807) : Sl (Rep.one enc) F W (some ⟨b, 0, none⟩) l.length l := by
  refine ⟨Nat.le_refl _, hl, fun _ => ⟨b, 0, rfl, h.lt, hF, fun i x hi => ⟨[enc x], rfl, fun j u hj => ?_⟩⟩⟩
  cases j with
  | zero =>
    simp at hj
    subst hj
    have := h.cell i (v := enc x) (by simp [hi])
    simpa [Rep.one] using this
  | succ j => simp at hj

section
variable {F : Fence} {n : Nat} {P : Program} {ops : Array Oper} {md : Region.Mode} {C : World → Prop}
/-- No operation is a defer statement. -/
def noDefer (o : Oper) : Bool := match o.op with | .defer _ => false | _ => true
theorem noDefer_ne {o : Oper} (h : noDefer o = true) : ∀ c, o.op ≠ .defer c := by
  intro c e
  unfold noDefer at h
  rw [e] at h
  cases h
theorem wpOpIn_round {i : Nat} {a : Act} {K : Act → Prop} {K' : Act → World → Prop} {Q' : Exit → Act → World → Prop} {w : World} (hd : ops.toList.all noDefer = true) (hC : C w) (h : ∀ a w', C w' → K a → K' a w')
    (hh : qOpIn F n P ops C i K a) : wpOpIn F n P ops Q' i K' a w := by
  unfold qOpIn at hh
  unfold wpOpIn
  split
  · rename_i ho; simp only [ho] at hh; exact h _ _ hC hh
  · rename_i o ho
    simp only [ho] at hh
    obtain ⟨ha, hh⟩ := hh
    have hno := noDefer_ne (List.all_eq_true.1 hd o (by
      have := Array.mem_of_getElem? ho
      simpa using this))
    split
    · rename_i hw
      simp only [hw, if_true] at hh
      obtain ⟨v, h1, h2⟩ := hh
      have h3 := h1 w hC
      unfold Oper.quietAtIn at h3
      unfold Oper.wpIn
      refine ⟨ha w hC, ?_⟩
      rw [Oper.semAt_eq _ _ _ hno]
      generalize (execOp a.eval o).run P w = r at *
      cases r with
      | ok x w' =>
        cases x <;> simp only [Oper.quietUponIn] at h3 <;> simp only [Oper.uponIn]
        case value u =>
          obtain ⟨e1, e2⟩ := h3
          rw [e1, e2]
          exact h _ _ hC h2
        case skip =>
          obtain ⟨e1, e2⟩ := h3
          rw [e1, ← e2]
          exact h _ _ hC h2
        case enter f args =>
          obtain ⟨e1, hd, hc⟩ := h3
          rw [e1]
          exact ⟨hd, hc.mono fun e w'' ⟨he, hw''⟩ => by subst he; exact h _ _ hw'' h2⟩
      | halt x w' => simp only [Oper.quietUponIn] at h3
    · rename_i hw; simp only [hw] at hh; exact ⟨ha w hC, h _ _ hC hh⟩
theorem wpAnyIn_round {Q : Act → Prop} {Q' : Exit → Act → World → Prop} (hd : ops.toList.all noDefer = true) (hQ : ∀ a w, C w → Q a → Q' .normal a w) : ∀ (fuel : Nat) (listed : Array Bool) (a : Act) (w : World), C w →
    wpAnyQIn F n P md ops C Q fuel listed a → wpAnyIn F n P md ops Q' fuel listed a w
  | 0, _, _, _, hw, h => ⟨h.1, hQ _ _ hw h.2⟩
  | fuel + 1, _, _, _, hw, h => ⟨fun h0 => hQ _ _ hw (h.1 h0), fun i hi => wpOpIn_round hd hw (fun a' w' hw' => wpAnyIn_round hd hQ fuel _ a' w' hw') (h.2 i hi)⟩
/-- In a round too: a region that draws its order, and only reads: one walk serves every order. -/
theorem wpIn_round_quiet {id : Nat} {Q : Exit → Act → World → Prop} {a : Act} {w : World} {l : List Oper} (hd : l.all noDefer = true) (hm : P.follows .mixedOrders = true) (hB : Region.lexB .any l.toArray = true)
    (h : wpQuietIn F n P l.toArray (fun w' => ∃ n, w' = w.drewN n) (fun a' => ∀ w', (∃ n, w' = w.drewN n) → Q .normal a' w') l a) : (Code.region id l.toArray true).wpIn F n P Q a w := by
  simp only [Region.lexB, Bool.and_eq_true] at hB
  refine wpIn_region_any hm (wpAnyIn_round (C := fun w' => ∃ n, w' = w.drewN n) (Q := fun a' => ∀ w', (∃ n, w' = w.drewN n) → Q .normal a' w') (by simpa using hd) (fun _ w' hw' h => h w' hw') _ _ _ _ ⟨1, rfl⟩ ?_)
  have := wpAnyQIn_lex (F := F) (n := n) (C := fun w' => ∃ n, w' = w.drewN n) (md := .any) hB.1 l 0 (Array.replicate l.toArray.size false) a (by simp) (by simpa using hB.2) (by simpa using h)
  simpa using this
end
theorem drewN_heap (W : World) (n : Nat) : (W.drewN n).heap = W.heap := rfl
theorem Blk.drewN {W : World} {b t : Nat} {cs : Array Value} (h : Blk W b t cs) (n : Nat) : Blk (W.drewN n) b t cs := h
theorem _root_.Go.RowKit.Below.drewN {B : Nat} {w W : World} (h : Below B w W) (n : Nat) : Below B w (W.drewN n) := ⟨h.os, h.tape, h.output, h.size, h.block⟩
theorem _root_.Go.KeepsOthers.drewN (W : World) (n : Nat) : KeepsOthers W (W.drewN n) := ⟨Nat.le_refl _, fun _ _ h _ => h⟩
theorem KeepC.drewN (b : Nat) (W : World) (n : Nat) : KeepC b W (W.drewN n) := fun _ h => h
theorem KeepC.refl (b : Nat) (W : World) : KeepC b W W := fun _ h => h
theorem KeepC.setCell {b : Nat} (W : World) {p : Addr} (hp : p.block ≠ b) (u : Value) : KeepC b W (W.setCell p u) := fun v h => by
  rw [World.cell?_of_block (w := W) (w' := W.setCell p u) (Below.heap_setCell W p u b (Ne.symm hp))]; exact h
end Go.Proofs.YtppkmhejeklegaaDoor
