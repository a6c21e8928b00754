/- Plain words on memory that all later texts use: what a slice reads as (with the blocks it reaches), what a call may have turned, small facts on lists. -/
import Derived.WalkKit
import Derived.WalkLawsBesides
import Derived.WalkSpells
import Derived.Outline
import Derived.LoopTactic
import Derived.Lib.Hide
import Derived.Deep.LoopGhost
import Derived.Maps.AppendAt
namespace Go.Proofs.YtppkmhejeklegaaDoor
open Go.RowKit

/-- Of what was there only blocks in S may have turned. -/
structure Fr (S : Nat → Prop) (w w' : World) : Prop where
  os : w'.os = w.os
  tape : w'.tape = w.tape
  output : w'.output = w.output
  size : w.heap.size ≤ w'.heap.size
  block : ∀ k, k < w.heap.size → ¬ S k → w'.heap[k]? = w.heap[k]?

theorem Fr.refl (S : Nat → Prop) (w : World) : Fr S w w := ⟨rfl, rfl, rfl, Nat.le_refl _, fun _ _ _ => rfl⟩
theorem Fr.mono {S T : Nat → Prop} {a b : World} (h : Fr S a b) (hs : ∀ k, k < a.heap.size → S k → T k) : Fr T a b :=
  ⟨h.os, h.tape, h.output, h.size, fun i hi ht => h.block i hi (fun hsi => ht (hs i hi hsi))⟩
theorem Fr.trans {S : Nat → Prop} {a b c : World} (h : Fr S a b) (k : Fr S b c) : Fr S a c :=
  ⟨k.os.trans h.os, k.tape.trans h.tape, k.output.trans h.output, Nat.le_trans h.size k.size, fun i hi hs => (k.block i (Nat.lt_of_lt_of_le hi h.size) hs).trans (h.block i hi hs)⟩
/-- Two steps: what the second one turns of what lay before the first is in S. -/
theorem Fr.then {S T : Nat → Prop} {a b c : World} (h : Fr S a b) (k : Fr T b c) (hs : ∀ i, i < a.heap.size → T i → S i) : Fr S a c :=
  ⟨k.os.trans h.os, k.tape.trans h.tape, k.output.trans h.output, Nat.le_trans h.size k.size, fun i hi hn => (k.block i (Nat.lt_of_lt_of_le hi h.size) (fun ht => hn (hs i hi ht))).trans (h.block i hi hn)⟩
theorem Fr.of_below {B : Nat} {w w' : World} (h : Below B w w') : Fr (fun k => B ≤ k) w w' :=
  ⟨h.os, h.tape, h.output, h.size, fun k _ hk => h.block k (by omega)⟩
theorem Fr.below {S : Nat → Prop} {w w' : World} {B : Nat} (h : Fr S w w') (hB : B ≤ w.heap.size) (hs : ∀ k, k < w.heap.size → S k → B ≤ k) : Below B w w' :=
  ⟨h.os, h.tape, h.output, h.size, fun k hk => h.block k (by omega) (fun hS => by have := hs k (by omega) hS; omega)⟩
theorem Fr.of_grownBy {w w' : World} {row : Option Nat} (h : w.grownBy w' row) : Fr (fun k => some k = row) w w' :=
  ⟨h.os, h.tape, h.output, h.size, fun k hk hne => h.block k hk hne⟩
theorem Fr.new {w w' : World} (h : Below w.heap.size w w') : Fr (fun _ => False) w w' :=
  (Fr.of_below h).mono (fun k hk hS => by omega)
theorem Fr.alloc {S : Nat → Prop} {a w : World} (h : Fr S a w) (o : Obj) : Fr S a (w.alloc o) :=
  h.then (Fr.of_below ((Below.refl w.heap.size w).alloc (Nat.le_refl _) o)) (fun i hi hS => by have := h.size; omega)
theorem Fr.setCell {S : Nat → Prop} {a w : World} (h : Fr S a w) {p : Addr} (hp : p.block < a.heap.size → S p.block) (u : Value) : Fr S a (w.setCell p u) :=
  ⟨h.os, h.tape, h.output, by simpa [World.setCell] using h.size, fun k hk hS => by
    rw [Below.heap_setCell _ _ _ _ (by rintro rfl; exact hS (hp hk))]; exact h.block k hk hS⟩
theorem Fr.drew {S : Nat → Prop} {a w : World} (h : Fr S a w) : Fr S a w.drew := ⟨h.os, h.tape, h.output, h.size, h.block⟩
theorem Fr.cell {S : Nat → Prop} {w w' : World} (h : Fr S w w') {p : Addr} {v : Value} (hc : w.cell? p = some v) (hn : ¬ S p.block) : w'.cell? p = some v :=
  (World.cell?_of_block (w := w) (h.block p.block (World.block_lt_of_cell? w p hc) hn)).trans hc

/-- What a value reads as, as a row of cells; the blocks that it leads to are in F. -/
structure Rep (α : Type) where
  sz : Nat
  K : (Nat → Prop) → World → α → List Value → Prop
  len : ∀ {F w x cs}, K F w x cs → cs.length = sz
  mono : ∀ {F w x cs S w'}, K F w x cs → Fr S w w' → (∀ k, F k → ¬ S k) → K F w' x cs
  wide : ∀ {F F' w x cs}, K F w x cs → (∀ k, k < w.heap.size → F k → F' k) → K F' w x cs

/-- A slice reads as a list. -/
def Sl {α : Type} (d : Rep α) (F : Nat → Prop) (w : World) (A : Option Addr) (c : Nat) (xs : List α) : Prop :=
  xs.length ≤ c ∧ c ≤ 9223372036854775807 ∧ (xs ≠ [] → ∃ b o, A = some ⟨b, o, none⟩ ∧ b < w.heap.size ∧ F b ∧
    ∀ i x, xs[i]? = some x → ∃ cs, d.K F w x cs ∧ ∀ j u, cs[j]? = some u → w.cell? ⟨b, o + i * d.sz + j, none⟩ = some u)

theorem Sl.nil {α : Type} (d : Rep α) (F : Nat → Prop) (w : World) (A : Option Addr) (c : Nat) (hc : c ≤ 9223372036854775807) : Sl d F w A c ([] : List α) := ⟨Nat.zero_le _, hc, fun h => absurd rfl h⟩
theorem Sl.mono {α : Type} {d : Rep α} {F : Nat → Prop} {w w' : World} {A : Option Addr} {c : Nat} {xs : List α} {S : Nat → Prop} (h : Sl d F w A c xs) (hf : Fr S w w') (hs : ∀ k, F k → ¬ S k) : Sl d F w' A c xs := by
  refine ⟨h.1, h.2.1, fun hx => ?_⟩
  obtain ⟨b, o, hA, hb, hF, hc⟩ := h.2.2 hx
  refine ⟨b, o, hA, Nat.lt_of_lt_of_le hb hf.size, hF, fun i x hi => ?_⟩
  obtain ⟨cs, hk, hcs⟩ := hc i x hi
  exact ⟨cs, d.mono hk hf hs, fun j u hj => hf.cell (hcs j u hj) (hs _ hF)⟩
theorem Sl.wide {α : Type} {d : Rep α} {F F' : Nat → Prop} {w : World} {A : Option Addr} {c : Nat} {xs : List α} (h : Sl d F w A c xs) (hF : ∀ k, k < w.heap.size → F k → F' k) : Sl d F' w A c xs := by
  refine ⟨h.1, h.2.1, fun hx => ?_⟩
  obtain ⟨b, o, hA, hb, hFb, hc⟩ := h.2.2 hx
  exact ⟨b, o, hA, hb, hF b hb hFb, fun i x hi => let ⟨cs, hk, hcs⟩ := hc i x hi; ⟨cs, d.wide hk hF, hcs⟩⟩
/-- Old memory below B. -/
theorem Sl.below {α : Type} {d : Rep α} {B : Nat} {w w' : World} {A : Option Addr} {c : Nat} {xs : List α} (h : Sl d (· < B) w A c xs) (hb : Below B w w') : Sl d (· < B) w' A c xs :=
  h.mono (Fr.of_below hb) (fun k hk hn => by omega)
theorem Sl.len {α : Type} {d : Rep α} {F : Nat → Prop} {w : World} {A : Option Addr} {c : Nat} {xs : List α} (h : Sl d F w A c xs) : xs.length ≤ 9223372036854775807 := Nat.le_trans h.1 h.2.1
theorem Sl.take {α : Type} {d : Rep α} {F : Nat → Prop} {w : World} {A : Option Addr} {c : Nat} {xs : List α} (h : Sl d F w A c xs) (n : Nat) : Sl d F w A c (xs.take n) := by
  refine ⟨Nat.le_trans (List.length_take_le' n xs) h.1, h.2.1, fun hx => ?_⟩
  obtain ⟨b, o, hA, hb, hF, hc⟩ := h.2.2 (by intro e; subst e; simp at hx)
  refine ⟨b, o, hA, hb, hF, fun i x hi => hc i x ?_⟩
  rw [List.getElem?_take] at hi
  split at hi
  · exact hi
  · cases hi

/-- Values of one cell. -/
def Rep.one {α : Type} (enc : α → Value) : Rep α where
  sz := 1
  K := fun _ _ x cs => cs = [enc x]
  len := fun h => by rw [h]; rfl
  mono := fun h _ _ => h
  wide := fun h _ => h
def rI : Rep Int := Rep.one (Value.int .i64)
def rU : Rep Int := Rep.one (Value.int .u32)
/-- A slice as a value of one cell. -/
def Rep.sl {α : Type} (d : Rep α) : Rep (List α) where
  sz := 1
  K := fun F w xs cs => ∃ A c, cs = [.slice A xs.length c] ∧ Sl d F w A c xs
  len := fun ⟨_, _, h, _⟩ => by rw [h]; rfl
  mono := fun ⟨A, c, h, hs⟩ hf hS => ⟨A, c, h, hs.mono hf hS⟩
  wide := fun ⟨A, c, h, hs⟩ hF => ⟨A, c, h, hs.wide hF⟩

/-- An element of one cell. -/
theorem Sl.one_at {α : Type} {enc : α → Value} {F : Nat → Prop} {w : World} {A : Option Addr} {c : Nat} {xs : List α} (h : Sl (Rep.one enc) F w A c xs) {i : Nat} {x : α} (hi : xs[i]? = some x) :
    ∃ b o, A = some ⟨b, o, none⟩ ∧ b < w.heap.size ∧ F b ∧ w.cell? ⟨b, o + i, none⟩ = some (enc x) := by
  obtain ⟨b, o, hA, hb, hF, hc⟩ := h.2.2 (by intro e; subst e; simp at hi)
  obtain ⟨cs, hk, hcs⟩ := hc i x hi
  obtain rfl : cs = [enc x] := hk
  exact ⟨b, o, hA, hb, hF, by simpa [Rep.one] using hcs 0 _ rfl⟩

structure Ev where
  kind : Int
  tx : Int
  var : Int
  val : Int
  deriving DecidableEq, Inhabited
def evv (e : Ev) : Value := .agg #[.int .i64 e.kind, .int .i64 e.tx, .int .i64 e.var, .int .i64 e.val]
def rEv : Rep Ev where
  sz := 4
  K := fun _ _ e cs => cs = [.int .i64 e.kind, .int .i64 e.tx, .int .i64 e.var, .int .i64 e.val]
  len := fun h => by rw [h]; rfl
  mono := fun h _ _ => h
  wide := fun h _ => h
theorem Sl.ev_at {F : Nat → Prop} {w : World} {A : Option Addr} {c : Nat} {xs : List Ev} (h : Sl rEv F w A c xs) {i : Nat} {e : Ev} (hi : xs[i]? = some e) :
    ∃ b o, A = some ⟨b, o, none⟩ ∧ b < w.heap.size ∧ F b ∧ w.cell? ⟨b, o + i * 4, none⟩ = some (.int .i64 e.kind) ∧ w.cell? ⟨b, o + i * 4 + 1, none⟩ = some (.int .i64 e.tx) ∧
      w.cell? ⟨b, o + i * 4 + 2, none⟩ = some (.int .i64 e.var) ∧ w.cell? ⟨b, o + i * 4 + 3, none⟩ = some (.int .i64 e.val) := by
  obtain ⟨b, o, hA, hb, hF, hc⟩ := h.2.2 (by intro e; subst e; simp at hi)
  obtain ⟨cs, hk, hcs⟩ := hc i e hi
  obtain rfl : cs = _ := hk
  exact ⟨b, o, hA, hb, hF, hcs 0 _ rfl, hcs 1 _ rfl, hcs 2 _ rfl, hcs 3 _ rfl⟩

structure Op where
  write : Bool
  var : Int
  val : Int
  deriving DecidableEq, Inhabited
def opv (o : Op) : Value := .agg #[.bool o.write, .int .i64 o.var, .int .i64 o.val]
def rOp : Rep Op where
  sz := 3
  K := fun _ _ e cs => cs = [.bool e.write, .int .i64 e.var, .int .i64 e.val]
  len := fun h => by rw [h]; rfl
  mono := fun h _ _ => h
  wide := fun h _ => h
theorem Sl.op_at {F : Nat → Prop} {w : World} {A : Option Addr} {c : Nat} {xs : List Op} (h : Sl rOp F w A c xs) {i : Nat} {e : Op} (hi : xs[i]? = some e) :
    ∃ b o, A = some ⟨b, o, none⟩ ∧ b < w.heap.size ∧ F b ∧ w.cell? ⟨b, o + i * 3, none⟩ = some (.bool e.write) ∧ w.cell? ⟨b, o + i * 3 + 1, none⟩ = some (.int .i64 e.var) ∧
      w.cell? ⟨b, o + i * 3 + 2, none⟩ = some (.int .i64 e.val) := by
  obtain ⟨b, o, hA, hb, hF, hc⟩ := h.2.2 (by intro e; subst e; simp at hi)
  obtain ⟨cs, hk, hcs⟩ := hc i e hi
  obtain rfl : cs = _ := hk
  exact ⟨b, o, hA, hb, hF, hcs 0 _ rfl, hcs 1 _ rfl, hcs 2 _ rfl⟩

structure Txn where
  name : Int
  first : Int
  last : Int
  state : Int
  ops : List Op
  deriving DecidableEq, Inhabited
def rTx : Rep Txn where
  sz := 5
  K := fun F w t cs => ∃ A c, cs = [.int .i64 t.name, .int .i64 t.first, .int .i64 t.last, .int .i64 t.state, .slice A t.ops.length c] ∧ Sl rOp F w A c t.ops
  len := fun ⟨_, _, h, _⟩ => by rw [h]; rfl
  mono := fun ⟨A, c, h, hs⟩ hf hS => ⟨A, c, h, hs.mono hf hS⟩
  wide := fun ⟨A, c, h, hs⟩ hF => ⟨A, c, h, hs.wide hF⟩
theorem Sl.tx_at {F : Nat → Prop} {w : World} {A : Option Addr} {c : Nat} {xs : List Txn} (h : Sl rTx F w A c xs) {i : Nat} {e : Txn} (hi : xs[i]? = some e) :
    ∃ b o A' c', A = some ⟨b, o, none⟩ ∧ b < w.heap.size ∧ F b ∧ Sl rOp F w A' c' e.ops ∧ w.cell? ⟨b, o + i * 5, none⟩ = some (.int .i64 e.name) ∧ w.cell? ⟨b, o + i * 5 + 1, none⟩ = some (.int .i64 e.first) ∧
      w.cell? ⟨b, o + i * 5 + 2, none⟩ = some (.int .i64 e.last) ∧ w.cell? ⟨b, o + i * 5 + 3, none⟩ = some (.int .i64 e.state) ∧ w.cell? ⟨b, o + i * 5 + 4, none⟩ = some (.slice A' e.ops.length c') := by
  obtain ⟨b, o, hA, hb, hF, hc⟩ := h.2.2 (by intro e; subst e; simp at hi)
  obtain ⟨cs, ⟨A', c', rfl, hs⟩, hcs⟩ := hc i e hi
  exact ⟨b, o, A', c', hA, hb, hF, hs, hcs 0 _ rfl, hcs 1 _ rfl, hcs 2 _ rfl, hcs 3 _ rfl, hcs 4 _ rfl⟩

/-- The function is entered as it stands. -/
def Enters (P : Program) (fid : Nat) : Prop := ∀ (args : Array Value) (w : World), (callFunc fid args).run P w = .ok (.enter fid args) w

/-- The first place at which p says yes; -1: there is none. -/
def idx {α : Type} (p : α → Bool) (l : List α) : Int := match l.findIdx? p with | some i => (i : Int) | none => -1
theorem idx_at {α : Type} {p : α → Bool} {l : List α} {k : Nat} {e : α} (he : l[k]? = some e) (hp : p e = true) (hno : ∀ j x, j < k → l[j]? = some x → p x = false) : idx p l = k := by
  unfold idx
  have : l.findIdx? p = some k := by
    rw [List.findIdx?_eq_some_iff_getElem]
    obtain ⟨hk, rfl⟩ := List.getElem?_eq_some_iff.1 he
    exact ⟨hk, hp, fun j hj => by simp [hno j _ hj (List.getElem?_eq_getElem (by omega))]⟩
  rw [this]
theorem idx_none {α : Type} {p : α → Bool} {l : List α} (hno : ∀ j x, j < l.length → l[j]? = some x → p x = false) : idx p l = -1 := by
  unfold idx
  have : l.findIdx? p = none := by
    rw [List.findIdx?_eq_none_iff]
    intro x hx
    obtain ⟨j, hj⟩ := List.getElem?_of_mem hx
    exact hno j x (List.getElem?_eq_some_iff.1 hj).1 hj
  rw [this]
theorem idx_ge {α : Type} (p : α → Bool) (l : List α) : (decide (0 ≤ idx p l)) = l.any p := by
  unfold idx
  cases h : l.findIdx? p with
  | none =>
    rw [List.findIdx?_eq_none_iff] at h
    have : l.any p = false := by rw [List.any_eq_false]; intro x hx; simp [h x hx]
    simp [this]
  | some i =>
    obtain ⟨hk, hp, _⟩ := List.findIdx?_eq_some_iff_getElem.1 h
    have : l.any p = true := List.any_eq_true.2 ⟨_, List.getElem_mem hk, hp⟩
    simp [this]
/-- The next round of a search that has found nothing so far. -/
theorem no_step {α : Type} {p : α → Bool} {l : List α} {k : Nat} {e : α} (hno : ∀ j x, j < k → l[j]? = some x → p x = false) (he : l[k]? = some e) (hp : p e = false) : ∀ j x, j < k + 1 → l[j]? = some x → p x = false := by
  intro j x hj hx
  rcases Nat.lt_or_ge j k with h' | h'
  · exact hno j x h' hx
  · obtain rfl : j = k := by omega
    rw [he] at hx; cases hx; exact hp
theorem some_at {α : Type} {l : List α} {k : Nat} (h : k < l.length) : ∃ e, l[k]? = some e := ⟨l[k], List.getElem?_eq_getElem h⟩
theorem ret_int {k : IntKind} {a b : Int} (h : a = b) : Ending.returned (.int k a) = .returned (.int k b) := by rw [h]
theorem ret_bool {a b : Bool} (h : a = b) : Ending.returned (.bool a) = .returned (.bool b) := by rw [h]
/-- All old cells and marks read as before. -/
theorem bcell {W w1 : World} (hb : Below W.heap.size W w1) : (∀ b o, b < W.heap.size → w1.cell? ⟨b, o, none⟩ = W.cell? ⟨b, o, none⟩) ∧ (∀ b o, b < W.heap.size → w1.frozen? ⟨b, o, none⟩ = W.frozen? ⟨b, o, none⟩) :=
  ⟨fun b o h => hb.cell (p := ⟨b, o, none⟩) h, fun b o h => hb.frozen (p := ⟨b, o, none⟩) h⟩
/-- Two steps from a call's begin on. -/
theorem _root_.Go.RowKit.Below.later {B : Nat} {w w1 w2 : World} (h : Below B w w1) (k : Below w1.heap.size w1 w2) (hB : B ≤ w.heap.size) : Below B w w2 := h.trans (k.mono (Nat.le_trans hB h.size))
theorem _root_.Go.RowKit.Below.next {w w1 w2 : World} (h : Below w.heap.size w w1) (k : Below w1.heap.size w1 w2) : Below w.heap.size w w2 := h.later k (Nat.le_refl _)

/-- A block of cells, known whole. -/
def Blk (w : World) (b t : Nat) (cs : Array Value) : Prop := w.heap[b]? = some (.cells cs t (0, 0))
section
variable {w w' : World} {b t : Nat} {cs : Array Value}
theorem Blk.lt (h : Blk w b t cs) : b < w.heap.size := (Array.getElem?_eq_some_iff.1 h).1
theorem Blk.cell (h : Blk w b t cs) (j : Nat) {v : Value} (hj : cs[j]? = some v) : w.cell? ⟨b, j, none⟩ = some v := by
  rw [cell_of_row w b j cs t (0, 0) h]; exact hj
theorem Blk.free (h : Blk w b t cs) (j : Nat) : w.frozen? ⟨b, j, none⟩ = false := by
  unfold Blk at h
  simp [World.frozen?, h]
theorem Blk.mono {S : Nat → Prop} (h : Blk w b t cs) (hf : Fr S w w') (hs : ¬ S b) : Blk w' b t cs := (hf.block b h.lt hs).trans h
theorem Blk.below (h : Blk w b t cs) (hb : Below w.heap.size w w') : Blk w' b t cs := (hb.block b h.lt).trans h
theorem Blk.alloc (h : Blk w b t cs) (o : Obj) : Blk (w.alloc o) b t cs := h.mono ((Fr.refl (fun _ => False) w).alloc o) (fun h => h)
theorem Blk.new (w : World) (cs : Array Value) (t : Nat) : Blk (w.alloc (.cells cs t)) w.heap.size t cs := heap_alloc_new w _
theorem Blk.set (h : Blk w b t cs) (j : Nat) (v : Value) : Blk (w.setCell ⟨b, j, none⟩ v) b t (cs.setIfInBounds j v) := by
  unfold Blk at *
  simp only [World.setCell, Array.getElem?_modify, h]
  simp
theorem Blk.other (h : Blk w b t cs) {b' : Nat} (hb : b ≠ b') (j : Nat) (v : Value) : Blk (w.setCell ⟨b', j, none⟩ v) b t cs := by
  unfold Blk at *
  rw [Below.heap_setCell _ _ _ _ (by simpa using hb)]; exact h
theorem Blk.drew (h : Blk w b t cs) : Blk w.drew b t cs := h
/-- Two blocks of different types are two. -/
theorem Blk.ne {b' t' : Nat} {cs' : Array Value} (h : Blk w b t cs) (h' : Blk w b' t' cs') (ht : t ≠ t') : b ≠ b' := by
  rintro rfl
  unfold Blk at *
  rw [h] at h'
  injection h' with h'
  injection h' with _ h2
  exact ht h2
end
end Go.Proofs.YtppkmhejeklegaaDoor
