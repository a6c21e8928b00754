/- Layer table: a transaction goes on with an event. -/
import Derived.Test.YtppkmhejeklegaaDoorProper
import Derived.Deep.RegionHeld3
import Derived.Deep.RegionLaw
import Derived.Deep.AppendLies
namespace Go.Proofs.YtppkmhejeklegaaDoor
open Go.RowKit

/-- A transaction, and what it asked last. -/
structure Kp where
  t : Txn
  a : Ev
def kpCells (x : Kp) (v : Value) : Array Value := #[.int .i64 x.t.name, .int .i64 x.t.first, .int .i64 x.t.last, .int .i64 x.t.state, v, .int .i64 x.a.kind, .int .i64 x.a.tx, .int .i64 x.a.var, .int .i64 x.a.val]
/-- Block b is a keeper, that owns its Ops' row v. -/
structure KpAt (w : World) (base b : Nat) (v : Value) (x : Kp) : Prop where
  blk : Blk w b 159 (kpCells x v)
  own : Own rOp No base 117 w v x.t.ops
def takeK (x : Kp) (i : Int) (e : Ev) : Kp :=
  let t := { x.t with last := i, state := 0 }
  if e.kind = 2 ∨ e.kind = 4 then ⟨t, e⟩
  else if e.kind = 3 then ⟨{ t with ops := t.ops ++ [⟨false, x.a.var, e.val⟩] }, x.a⟩
  else if e.kind = 5 then ⟨{ t with ops := t.ops ++ [⟨true, x.a.var, x.a.val⟩] }, x.a⟩
  else if e.kind = 6 then ⟨{ t with state := 1 }, x.a⟩
  else if e.kind = 7 then ⟨{ t with state := 2 }, x.a⟩
  else if e.kind = 9 then ⟨{ t with state := 3 }, x.a⟩
  else ⟨t, x.a⟩
def TakePost (w : World) (base b : Nat) (v : Value) (x : Kp) (i : Int) (e : Ev) (en : Ending) (w' : World) : Prop :=
  en = .returned (.tuple #[]) ∧ ∃ v', KpAt w' base b v' (takeK x i e) ∧ Fr (fun k => k = b ∨ some k = v.ownBlock) w w' ∧ (v'.ownBlock = v.ownBlock ∨ ∃ g, v'.ownBlock = some g ∧ w.heap.size ≤ g)

theorem take_fin {w w' : World} {base b : Nat} {v : Value} {x : Kp} {i : Int} {e : Ev} {st : Int} {a' : Ev} {cs : Array Value} (ht : takeK x i e = ⟨{ x.t with last := i, state := st }, a'⟩) (hk : KpAt w base b v x)
    (hb : Blk w' b 159 cs) (hcs : cs = kpCells ⟨{ x.t with last := i, state := st }, a'⟩ v) (hf : Fr (fun k => k = b) w w') : TakePost w base b v x i e (.returned (.tuple #[])) w' := by
  refine ⟨rfl, v, ?_, hf.mono (fun k _ h => .inl h), .inl rfl⟩
  rw [ht]
  exact ⟨hcs ▸ hb, hk.own.mono hf (fun _ h => h.elim) (hk.own.blk_ne hk.blk (by decide))⟩

set_option maxRecDepth 20000 in
set_option maxHeartbeats 1000000 in
theorem take_6 (w : World) (base b : Nat) (v : Value) (x : Kp) (i : Int) (e : Ev) (hk : KpAt w base b v x) (h : e.kind = 6) :
    Calls Tryd.prog 125 #[.pointer (some ⟨b, 0, none⟩), .int .i64 i, evv e] w (TakePost w base b v x i e) := by
  have ht : takeK x i e = ⟨{ x.t with last := i, state := 1 }, x.a⟩ := by unfold takeK; simp [h]
  unfold evv
  have hb := hk.blk.lt
  have c2 := hk.blk.cell 2 rfl
  have c3 := hk.blk.cell 3 rfl
  have f2 := hk.blk.free 2
  have f3 := hk.blk.free 3
  have hne : b ≠ w.heap.size := Nat.ne_of_lt hb
  have Ht := Lib.hid ht; clear ht
  go_enter Tryd.func125, Tryd.ntmps125
  go_wp2
  go_end0
  exact take_fin Ht.out hk ((((hk.blk.set 2 _).set 3 _).set 3 _).alloc _) rfl (((((Fr.refl (fun k => k = b) w).setCell (fun _ => rfl) _).setCell (fun _ => rfl) _).setCell (fun _ => rfl) _).alloc _)

set_option maxRecDepth 20000 in
set_option maxHeartbeats 1000000 in
theorem take_7 (w : World) (base b : Nat) (v : Value) (x : Kp) (i : Int) (e : Ev) (hk : KpAt w base b v x) (h : e.kind = 7) :
    Calls Tryd.prog 125 #[.pointer (some ⟨b, 0, none⟩), .int .i64 i, evv e] w (TakePost w base b v x i e) := by
  have ht : takeK x i e = ⟨{ x.t with last := i, state := 2 }, x.a⟩ := by unfold takeK; simp [h]
  unfold evv
  have hb := hk.blk.lt
  have c2 := hk.blk.cell 2 rfl
  have c3 := hk.blk.cell 3 rfl
  have f2 := hk.blk.free 2
  have f3 := hk.blk.free 3
  have hne : b ≠ w.heap.size := Nat.ne_of_lt hb
  have Ht := Lib.hid ht; clear ht
  go_enter Tryd.func125, Tryd.ntmps125
  go_wp2
  go_end0
  exact take_fin Ht.out hk ((((hk.blk.set 2 _).set 3 _).set 3 _).alloc _) rfl (((((Fr.refl (fun k => k = b) w).setCell (fun _ => rfl) _).setCell (fun _ => rfl) _).setCell (fun _ => rfl) _).alloc _)

set_option maxRecDepth 20000 in
set_option maxHeartbeats 1000000 in
theorem take_9 (w : World) (base b : Nat) (v : Value) (x : Kp) (i : Int) (e : Ev) (hk : KpAt w base b v x) (h : e.kind = 9) :
    Calls Tryd.prog 125 #[.pointer (some ⟨b, 0, none⟩), .int .i64 i, evv e] w (TakePost w base b v x i e) := by
  have ht : takeK x i e = ⟨{ x.t with last := i, state := 3 }, x.a⟩ := by unfold takeK; simp [h]
  unfold evv
  have hb := hk.blk.lt
  have c2 := hk.blk.cell 2 rfl
  have c3 := hk.blk.cell 3 rfl
  have f2 := hk.blk.free 2
  have f3 := hk.blk.free 3
  have hne : b ≠ w.heap.size := Nat.ne_of_lt hb
  have Ht := Lib.hid ht; clear ht
  go_enter Tryd.func125, Tryd.ntmps125
  go_wp2
  go_end0
  exact take_fin Ht.out hk ((((hk.blk.set 2 _).set 3 _).set 3 _).alloc _) rfl (((((Fr.refl (fun k => k = b) w).setCell (fun _ => rfl) _).setCell (fun _ => rfl) _).setCell (fun _ => rfl) _).alloc _)

set_option maxRecDepth 20000 in
set_option maxHeartbeats 1000000 in
theorem take_no (w : World) (base b : Nat) (v : Value) (x : Kp) (i : Int) (e : Ev) (hk : KpAt w base b v x) (h2 : e.kind ≠ 2) (h3 : e.kind ≠ 3) (h4 : e.kind ≠ 4) (h5 : e.kind ≠ 5) (h6 : e.kind ≠ 6) (h7 : e.kind ≠ 7) (h9 : e.kind ≠ 9) :
    Calls Tryd.prog 125 #[.pointer (some ⟨b, 0, none⟩), .int .i64 i, evv e] w (TakePost w base b v x i e) := by
  have ht : takeK x i e = ⟨{ x.t with last := i, state := 0 }, x.a⟩ := by unfold takeK; simp [h2, h3, h4, h5, h6, h7, h9]
  unfold evv
  have hb := hk.blk.lt
  have c2 := hk.blk.cell 2 rfl
  have c3 := hk.blk.cell 3 rfl
  have f2 := hk.blk.free 2
  have f3 := hk.blk.free 3
  have hne : b ≠ w.heap.size := Nat.ne_of_lt hb
  have Ht := Lib.hid ht; clear ht
  go_enter Tryd.func125, Tryd.ntmps125
  go_wp2
  go_end0
  exact take_fin Ht.out hk (((hk.blk.set 2 _).set 3 _).alloc _) rfl ((((Fr.refl (fun k => k = b) w).setCell (fun _ => rfl) _).setCell (fun _ => rfl) _).alloc _)

set_option maxRecDepth 20000 in
set_option maxHeartbeats 1000000 in
theorem take_2 (w : World) (base b : Nat) (v : Value) (x : Kp) (i : Int) (e : Ev) (hk : KpAt w base b v x) (h : e.kind = 2) :
    Calls Tryd.prog 125 #[.pointer (some ⟨b, 0, none⟩), .int .i64 i, evv e] w (TakePost w base b v x i e) := by
  have ht : takeK x i e = ⟨{ x.t with last := i, state := 0 }, e⟩ := by unfold takeK; simp [h]
  unfold evv
  have hb := hk.blk.lt
  have c2 := hk.blk.cell 2 rfl
  have c3 := hk.blk.cell 3 rfl
  have c5 := hk.blk.cell 5 rfl
  have c6 := hk.blk.cell 6 rfl
  have c7 := hk.blk.cell 7 rfl
  have c8 := hk.blk.cell 8 rfl
  have f2 := hk.blk.free 2
  have f3 := hk.blk.free 3
  have f5 := hk.blk.free 5
  have f6 := hk.blk.free 6
  have f7 := hk.blk.free 7
  have f8 := hk.blk.free 8
  have hne : b ≠ w.heap.size := Nat.ne_of_lt hb
  have Ht := Lib.hid ht; clear ht
  go_enter Tryd.func125, Tryd.ntmps125
  go_wp2
  go_end0
  exact take_fin Ht.out hk (((((((hk.blk.set 2 _).set 3 _).set 5 _).set 6 _).set 7 _).set 8 _).alloc _) (by simp [kpCells, h]) (((((((Fr.refl (fun k => k = b) w).setCell (fun _ => rfl) _).setCell (fun _ => rfl) _).setCell (fun _ => rfl) _).setCell (fun _ => rfl) _).setCell (fun _ => rfl) _).setCell (fun _ => rfl) _ |>.alloc _)

set_option maxRecDepth 20000 in
set_option maxHeartbeats 1000000 in
theorem take_4 (w : World) (base b : Nat) (v : Value) (x : Kp) (i : Int) (e : Ev) (hk : KpAt w base b v x) (h : e.kind = 4) :
    Calls Tryd.prog 125 #[.pointer (some ⟨b, 0, none⟩), .int .i64 i, evv e] w (TakePost w base b v x i e) := by
  have ht : takeK x i e = ⟨{ x.t with last := i, state := 0 }, e⟩ := by unfold takeK; simp [h]
  unfold evv
  have hb := hk.blk.lt
  have c2 := hk.blk.cell 2 rfl
  have c3 := hk.blk.cell 3 rfl
  have c5 := hk.blk.cell 5 rfl
  have c6 := hk.blk.cell 6 rfl
  have c7 := hk.blk.cell 7 rfl
  have c8 := hk.blk.cell 8 rfl
  have f2 := hk.blk.free 2
  have f3 := hk.blk.free 3
  have f5 := hk.blk.free 5
  have f6 := hk.blk.free 6
  have f7 := hk.blk.free 7
  have f8 := hk.blk.free 8
  have hne : b ≠ w.heap.size := Nat.ne_of_lt hb
  have Ht := Lib.hid ht; clear ht
  go_enter Tryd.func125, Tryd.ntmps125
  go_wp2
  go_end0
  exact take_fin Ht.out hk (((((((hk.blk.set 2 _).set 3 _).set 5 _).set 6 _).set 7 _).set 8 _).alloc _) (by simp [kpCells, h]) (((((((Fr.refl (fun k => k = b) w).setCell (fun _ => rfl) _).setCell (fun _ => rfl) _).setCell (fun _ => rfl) _).setCell (fun _ => rfl) _).setCell (fun _ => rfl) _).setCell (fun _ => rfl) _ |>.alloc _)

theorem take_fin2 {w W W2 w1 : World} {base b : Nat} {v v1 : Value} {x : Kp} {i : Int} {e : Ev} {y : Op} (ht : takeK x i e = ⟨{ x.t with last := i, state := 0, ops := x.t.ops ++ [y] }, x.a⟩) (hfW : Fr (fun k => k = b) w W)
    (hf0 : Fr (fun _ => False) W W2) (hO : Own rOp No base 117 w1 v1 (x.t.ops ++ [y])) (hf1 : Fr (fun k => some k = v.ownBlock) W2 w1) (hat : v1.ownBlock = v.ownBlock ∨ v1.ownBlock = some W2.heap.size)
    (hb : Blk w1 b 159 (kpCells ⟨{ x.t with last := i, state := 0 }, x.a⟩ v)) : TakePost w base b v x i e (.returned (.tuple #[])) (w1.setCell ⟨b, 4, none⟩ v1) := by
  have hs : Fr (fun k => k = b) w1 (w1.setCell ⟨b, 4, none⟩ v1) := (Fr.refl (fun k => k = b) w1).setCell (p := ⟨b, 4, none⟩) (fun _ => rfl) _
  have hsz := Nat.le_trans hfW.size hf0.size
  refine ⟨rfl, v1, ?_, ?_, ?_⟩
  · rw [ht]
    exact ⟨hb.set 4 v1, hO.mono hs (fun _ h => h.elim) (hO.blk_ne hb (by decide))⟩
  · exact (((hfW.mono (fun k _ h => Or.inl h)).then hf0 (fun _ _ h => h.elim)).then hf1 (fun k _ h => .inr h)).then hs (fun k _ h => .inl h)
  · rcases hat with h | h
    · exact .inl h
    · exact .inr ⟨_, h, hsz⟩

set_option maxRecDepth 20000 in
set_option maxHeartbeats 1000000 in
theorem take_3 (w : World) (base b : Nat) (v : Value) (x : Kp) (i : Int) (e : Ev) (hk : KpAt w base b v x) (h : e.kind = 3) (hl : x.t.ops.length ≤ 1000) (hbase : base ≤ w.heap.size) :
    Calls Tryd.prog 125 #[.pointer (some ⟨b, 0, none⟩), .int .i64 i, evv e] w (TakePost w base b v x i e) := by
  have ht : takeK x i e = ⟨{ x.t with last := i, state := 0, ops := x.t.ops ++ [⟨false, x.a.var, e.val⟩] }, x.a⟩ := by unfold takeK; simp [h]
  unfold evv
  have hb := hk.blk.lt
  have c2 := hk.blk.cell 2 rfl
  have c3 := hk.blk.cell 3 rfl
  have c4 := hk.blk.cell 4 rfl
  have c7 := hk.blk.cell 7 rfl
  have f2 := hk.blk.free 2
  have f3 := hk.blk.free 3
  have f4 := hk.blk.free 4
  have hne : b ≠ w.heap.size := Nat.ne_of_lt hb
  have Ht := Lib.hid ht; clear ht
  obtain ⟨A, c, rfl⟩ := hk.own.slice
  go_enter Tryd.func125, Tryd.ntmps125
  go_wp2
  obtain ⟨W, hW, hbW, hxW, hOW, hfW⟩ : ∃ W, ((w.setCell ⟨b, 2, none⟩ (.int .i64 i)).setCell ⟨b, 3, none⟩ (.int .i64 0)).alloc (.cells #[.int .i64 3, .int .i64 e.tx, .int .i64 e.var, .int .i64 e.val] 71) = W ∧
      Blk W b 159 (kpCells ⟨{ x.t with last := i, state := 0 }, x.a⟩ (.slice A x.t.ops.length c)) ∧ Blk W w.heap.size 71 #[.int .i64 3, .int .i64 e.tx, .int .i64 e.var, .int .i64 e.val] ∧
      Own rOp No base 117 W (.slice A x.t.ops.length c) x.t.ops ∧ Fr (fun k => k = b) w W := by
    have hf := (((Fr.refl (fun k => k = b) w).setCell (fun _ => rfl) (p := ⟨b, 2, none⟩) (.int .i64 i)).setCell (fun _ => rfl) (p := ⟨b, 3, none⟩) (.int .i64 0)).alloc (.cells #[.int .i64 3, .int .i64 e.tx, .int .i64 e.var, .int .i64 e.val] 71)
    refine ⟨_, rfl, ((hk.blk.set 2 _).set 3 _).alloc _, ?_, hk.own.mono hf (fun _ h => h.elim) (hk.own.blk_ne hk.blk (by decide)), hf⟩
    have := Blk.new ((w.setCell ⟨b, 2, none⟩ (.int .i64 i)).setCell ⟨b, 3, none⟩ (.int .i64 0)) #[.int .i64 3, .int .i64 e.tx, .int .i64 e.var, .int .i64 e.val] 71
    simpa [World.setCell] using this
  rw [hW]
  have Hv := Lib.hid (hOW.blk_ne hbW (by decide)) 
  clear hW c2 c3 c4 c7 f2 f3 f4
  have g4 : W.cell? ⟨b, 4, none⟩ = some (.slice A x.t.ops.length c) := hbW.cell 4 rfl
  have g7 : W.cell? ⟨b, 7, none⟩ = some (.int .i64 x.a.var) := hbW.cell 7 rfl
  have g3 : W.cell? ⟨w.heap.size, 3, none⟩ = some (.int .i64 e.val) := hxW.cell 3 rfl
  have hbl := hbW.lt
  have hxl := hxW.lt
  have hbase2 : ∀ o, base ≤ ((W.alloc o).drew).heap.size := fun o => by have := hfW.size; simp [World.drew]; omega
  have hl24 : (x.t.ops.length + 1) * 24 ≤ 140737488355328 := by omega
  go_region_law ((refine step_app rOp No base 117 _ rfl _ _ 84 rfl Tryd.underlying84 info_op rfl (by decide) (by decide) ((hOW.alloc no_lt' _).mono ((Fr.refl (fun _ => False) _).drew) (fun _ h => h.elim) (fun _ _ h => h)) ⟨false, x.a.var, e.val⟩ #[.bool false, .int .i64 x.a.var, .int .i64 e.val] (Blk.new W _ _) rfl rfl (fun _ h => h.elim) rfl rfl hl24 (hbase2 _) ?_; intro v1 w1 hO1 hf1 hat1 hs1; obtain ⟨A1, c1, rfl⟩ := hs1; have hb1 := Blk.mono (((hbW.alloc _).drew)) hf1 (fun h => Hv.out b h.symm rfl); have fr4 := hb1.free 4; have q4 := hf1.cell ((((Fr.refl (fun _ => False) W).alloc _).drew).cell g4 (fun h => h)) (fun h => Hv.out b h.symm rfl); have q7 := hf1.cell ((((Fr.refl (fun _ => False) W).alloc _).drew).cell g7 (fun h => h)) (fun h => Hv.out b h.symm rfl); have q3 := hf1.cell ((((Fr.refl (fun _ => False) W).alloc _).drew).cell g3 (fun h => h)) (fun h => hOW.blk_ne hxW (by decide) _ h.symm rfl)))
  all_goals
    go_end0
    exact take_fin2 Ht.out hfW (((Fr.refl (fun _ => False) W).alloc _).drew) hO1 hf1 hat1 hb1

set_option maxRecDepth 20000 in
set_option maxHeartbeats 1000000 in
theorem take_5 (w : World) (base b : Nat) (v : Value) (x : Kp) (i : Int) (e : Ev) (hk : KpAt w base b v x) (h : e.kind = 5) (hl : x.t.ops.length ≤ 1000) (hbase : base ≤ w.heap.size) :
    Calls Tryd.prog 125 #[.pointer (some ⟨b, 0, none⟩), .int .i64 i, evv e] w (TakePost w base b v x i e) := by
  have ht : takeK x i e = ⟨{ x.t with last := i, state := 0, ops := x.t.ops ++ [⟨true, x.a.var, x.a.val⟩] }, x.a⟩ := by unfold takeK; simp [h]
  unfold evv
  have hb := hk.blk.lt
  have c2 := hk.blk.cell 2 rfl
  have c3 := hk.blk.cell 3 rfl
  have c4 := hk.blk.cell 4 rfl
  have c7 := hk.blk.cell 7 rfl
  have c8 := hk.blk.cell 8 rfl
  have f2 := hk.blk.free 2
  have f3 := hk.blk.free 3
  have f4 := hk.blk.free 4
  have hne : b ≠ w.heap.size := Nat.ne_of_lt hb
  have Ht := Lib.hid ht; clear ht
  obtain ⟨A, c, rfl⟩ := hk.own.slice
  go_enter Tryd.func125, Tryd.ntmps125
  go_wp2
  obtain ⟨W, hW, hbW, hxW, hOW, hfW⟩ : ∃ W, ((w.setCell ⟨b, 2, none⟩ (.int .i64 i)).setCell ⟨b, 3, none⟩ (.int .i64 0)).alloc (.cells #[.int .i64 5, .int .i64 e.tx, .int .i64 e.var, .int .i64 e.val] 71) = W ∧
      Blk W b 159 (kpCells ⟨{ x.t with last := i, state := 0 }, x.a⟩ (.slice A x.t.ops.length c)) ∧ Blk W w.heap.size 71 #[.int .i64 5, .int .i64 e.tx, .int .i64 e.var, .int .i64 e.val] ∧
      Own rOp No base 117 W (.slice A x.t.ops.length c) x.t.ops ∧ Fr (fun k => k = b) w W := by
    have hf := (((Fr.refl (fun k => k = b) w).setCell (fun _ => rfl) (p := ⟨b, 2, none⟩) (.int .i64 i)).setCell (fun _ => rfl) (p := ⟨b, 3, none⟩) (.int .i64 0)).alloc (.cells #[.int .i64 5, .int .i64 e.tx, .int .i64 e.var, .int .i64 e.val] 71)
    refine ⟨_, rfl, ((hk.blk.set 2 _).set 3 _).alloc _, ?_, hk.own.mono hf (fun _ h => h.elim) (hk.own.blk_ne hk.blk (by decide)), hf⟩
    have := Blk.new ((w.setCell ⟨b, 2, none⟩ (.int .i64 i)).setCell ⟨b, 3, none⟩ (.int .i64 0)) #[.int .i64 5, .int .i64 e.tx, .int .i64 e.var, .int .i64 e.val] 71
    simpa [World.setCell] using this
  rw [hW]
  have Hv := Lib.hid (hOW.blk_ne hbW (by decide)) 
  clear hW c2 c3 c4 c7 c8 f2 f3 f4
  have g4 : W.cell? ⟨b, 4, none⟩ = some (.slice A x.t.ops.length c) := hbW.cell 4 rfl
  have g7 : W.cell? ⟨b, 7, none⟩ = some (.int .i64 x.a.var) := hbW.cell 7 rfl
  have g3 : W.cell? ⟨b, 8, none⟩ = some (.int .i64 x.a.val) := hbW.cell 8 rfl
  have hbl := hbW.lt
  have hxl := hxW.lt
  have hbase2 : ∀ o, base ≤ ((W.alloc o).drew).heap.size := fun o => by have := hfW.size; simp [World.drew]; omega
  have hl24 : (x.t.ops.length + 1) * 24 ≤ 140737488355328 := by omega
  go_region_law ((refine step_app rOp No base 117 _ rfl _ _ 84 rfl Tryd.underlying84 info_op rfl (by decide) (by decide) ((hOW.alloc no_lt' _).mono ((Fr.refl (fun _ => False) _).drew) (fun _ h => h.elim) (fun _ _ h => h)) ⟨true, x.a.var, x.a.val⟩ #[.bool true, .int .i64 x.a.var, .int .i64 x.a.val] (Blk.new W _ _) rfl rfl (fun _ h => h.elim) rfl rfl hl24 (hbase2 _) ?_; intro v1 w1 hO1 hf1 hat1 hs1; obtain ⟨A1, c1, rfl⟩ := hs1; have hb1 := Blk.mono (((hbW.alloc _).drew)) hf1 (fun h => Hv.out b h.symm rfl); have fr4 := hb1.free 4; have q4 := hf1.cell ((((Fr.refl (fun _ => False) W).alloc _).drew).cell g4 (fun h => h)) (fun h => Hv.out b h.symm rfl); have q7 := hf1.cell ((((Fr.refl (fun _ => False) W).alloc _).drew).cell g7 (fun h => h)) (fun h => Hv.out b h.symm rfl); have q3 := hf1.cell ((((Fr.refl (fun _ => False) W).alloc _).drew).cell g3 (fun h => h)) (fun h => Hv.out b h.symm rfl)))
  all_goals
    go_end0
    exact take_fin2 Ht.out hfW (((Fr.refl (fun _ => False) W).alloc _).drew) hO1 hf1 hat1 hb1

theorem take_any (w : World) (base b : Nat) (v : Value) (x : Kp) (i : Int) (e : Ev) (hk : KpAt w base b v x) (hl : x.t.ops.length ≤ 1000) (hbase : base ≤ w.heap.size) :
    Calls Tryd.prog 125 #[.pointer (some ⟨b, 0, none⟩), .int .i64 i, evv e] w (TakePost w base b v x i e) := by
  by_cases h2 : e.kind = 2
  · exact take_2 w base b v x i e hk h2
  by_cases h3 : e.kind = 3
  · exact take_3 w base b v x i e hk h3 hl hbase
  by_cases h4 : e.kind = 4
  · exact take_4 w base b v x i e hk h4
  by_cases h5 : e.kind = 5
  · exact take_5 w base b v x i e hk h5 hl hbase
  by_cases h6 : e.kind = 6
  · exact take_6 w base b v x i e hk h6
  by_cases h7 : e.kind = 7
  · exact take_7 w base b v x i e hk h7
  by_cases h9 : e.kind = 9
  · exact take_9 w base b v x i e hk h9
  exact take_no w base b v x i e hk h2 h3 h4 h5 h6 h7 h9
end Go.Proofs.YtppkmhejeklegaaDoor
