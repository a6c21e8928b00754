/- Maps with whole numbers as keys, as a list of their entries in the order in which they came: look-up, store. -/
import Derived.Test.YtppkmhejeklegaaDoorOwn
namespace Go.Proofs.YtppkmhejeklegaaDoor
open Go.RowKit

/-- Block b is a map with these entries. -/
def MapI (w : World) (b : Nat) (kv : List (Int × Value)) : Prop :=
  ∃ es clock, w.heap[b]? = some (.map es clock) ∧ es.toList.map (fun e => (e.key, e.val)) = kv.map (fun p => (Value.int .i64 p.1, p.2))
def kvGet (kv : List (Int × Value)) (k : Int) : Option Value := (kv.find? (fun p => k == p.1)).map (·.2)
def kvSet : List (Int × Value) → Int → Value → List (Int × Value)
  | [], k, v => [(k, v)]
  | p :: r, k, v => if k = p.1 then (k, v) :: r else p :: kvSet r k v
theorem kvGet_set (kv : List (Int × Value)) (k : Int) (v : Value) (k' : Int) : kvGet (kvSet kv k v) k' = if k' = k then some v else kvGet kv k' := by
  induction kv with
  | nil => by_cases h : k' = k <;> simp [kvSet, kvGet, h]
  | cons p r ih =>
    unfold kvSet
    by_cases h : k = p.1
    · subst h
      by_cases h' : k' = p.1 <;> simp [kvGet, h']
    · rw [if_neg h]
      by_cases h' : k' = p.1
      · subst h'
        have : ¬ p.1 = k := fun e => h e.symm
        simp [kvGet, this]
      · have e1 : kvGet (p :: kvSet r k v) k' = kvGet (kvSet r k v) k' := by simp [kvGet, beq_eq_false_iff_ne.2 h']
        have e2 : kvGet (p :: r) k' = kvGet r k' := by simp [kvGet, beq_eq_false_iff_ne.2 h']
        rw [e1, e2, ih]
theorem kvSet_len (kv : List (Int × Value)) (k : Int) (v : Value) : (kvSet kv k v).length ≤ kv.length + 1 := by
  induction kv with
  | nil => simp [kvSet]
  | cons p r ih => unfold kvSet; split <;> simp; omega

theorem MapI.lt {w : World} {b : Nat} {kv : List (Int × Value)} (h : MapI w b kv) : b < w.heap.size := by
  obtain ⟨es, c, hb, _⟩ := h
  exact (Array.getElem?_eq_some_iff.1 hb).1
theorem MapI.mono {w w' : World} {b : Nat} {kv : List (Int × Value)} {S : Nat → Prop} (h : MapI w b kv) (hf : Fr S w w') (hs : ¬ S b) : MapI w' b kv := by
  obtain ⟨es, c, hb, he⟩ := h
  exact ⟨es, c, (hf.block b (Array.getElem?_eq_some_iff.1 hb).1 hs).trans hb, he⟩
theorem MapI.below {w w' : World} {b B : Nat} {kv : List (Int × Value)} (h : MapI w b kv) (hf : Below B w w') (hs : b < B) : MapI w' b kv := h.mono (Fr.of_below hf) (by omega)
theorem MapI.alloc {w : World} {b : Nat} {kv : List (Int × Value)} (h : MapI w b kv) (o : Obj) : MapI (w.alloc o) b kv := h.mono ((Fr.refl (fun _ => False) w).alloc o) (fun h => h)
/-- A map is no row. -/
theorem MapI.ne_blk {w : World} {b b' t : Nat} {kv : List (Int × Value)} {cs : Array Value} (h : MapI w b kv) (h' : Blk w b' t cs) : b ≠ b' := by
  rintro rfl
  obtain ⟨es, c, hb, _⟩ := h
  unfold Blk at h'
  rw [hb] at h'
  cases h'
theorem MapI.ne_own {α : Type} {d : Rep α} {F : Nat → Prop} {base e : Nat} {v : Value} {xs : List α} {w : World} {b : Nat} {kv : List (Int × Value)} (h : MapI w b kv) (h' : Own d F base e w v xs) : v.ownBlock ≠ some b := by
  intro hv
  obtain ⟨css, _, _, ho⟩ := h'
  rcases ho.2 with ⟨rfl, _⟩ | ⟨g, cap, cur, rfl, _, hg, _⟩
  · simp [Value.ownBlock] at hv
  · simp [Value.ownBlock] at hv
    subst hv
    exact h.ne_blk (show Blk w g e cur from hg) rfl
theorem MapI.made (w : World) : MapI (w.alloc (.map #[] 0)) w.heap.size [] := ⟨#[], 0, heap_alloc_new w _, rfl⟩

theorem findNow_ints (k : Int) : ∀ (es : List MapEntry) (kv : List (Int × Value)) (i : Nat), es.map (fun e => (e.key, e.val)) = kv.map (fun p => (Value.int .i64 p.1, p.2)) →
    ∃ r, Instr.findNow (.int .i64) (.int .i64 k) es i = some r ∧ r.map (·.2) = kvGet kv k ∧ (∀ j v, r = some (j, v) → i ≤ j ∧ ∃ p, kv[j - i]? = some p ∧ k = p.1 ∧ (∀ j' p', j' < j - i → kv[j']? = some p' → k ≠ p'.1)) := by
  intro es
  induction es with
  | nil =>
    intro kv i h
    cases kv with
    | nil => exact ⟨none, rfl, rfl, fun j v h => by cases h⟩
    | cons p r => simp at h
  | cons e es ih =>
    intro kv i h
    cases kv with
    | nil => simp at h
    | cons p r =>
      simp only [List.map_cons, List.cons.injEq, Prod.mk.injEq] at h
      obtain ⟨⟨hk, hv⟩, hr⟩ := h
      unfold Instr.findNow
      rw [hk]
      by_cases he : k = p.1
      · have : Instr.sameNow (.int .i64) (.int .i64 k) (.int .i64 p.1) = some true := by simp [Instr.sameNow, he]
        rw [this]
        refine ⟨some (i, e.val), rfl, by simp [kvGet, he, hv], fun j v h => ?_⟩
        cases h
        exact ⟨Nat.le_refl _, p, by simp, he, fun j' p' hj => absurd hj (by omega)⟩
      · have : Instr.sameNow (.int .i64) (.int .i64 k) (.int .i64 p.1) = some false := by simp [Instr.sameNow, he]
        rw [this]
        obtain ⟨x, h1, h2, h3⟩ := ih r (i + 1) hr
        refine ⟨x, h1, ?_, fun j v h => ?_⟩
        · rw [h2]; simp [kvGet, beq_eq_false_iff_ne.2 he]
        · obtain ⟨hij, q, hq, hkq, hno⟩ := h3 j v h
          refine ⟨by omega, q, ?_, hkq, fun j' p' hj' hp' => ?_⟩
          · rw [show j - i = (j - (i + 1)) + 1 by omega]; simpa using hq
          · cases j' with
            | zero => simp at hp'; subst hp'; exact he
            | succ j' => exact hno j' p' (by omega) (by simpa using hp')

section
variable {P : Program} {t kt et : TypeId}

theorem run_checkKey_succ (w : World) (hk : P.underlying kt = some (.int .i64)) (e : Bool) (n : Nat) (k : Int) : (Instr.checkKey e (n + 1) kt (.int .i64 k)).run P w = .ok () w := by
  simp [Instr.checkKey, run_underlying hk]
theorem run_checkKey_int (w : World) (hk : P.underlying kt = some (.int .i64)) (e : Bool) (k : Int) : (Instr.checkKey e 10000 kt (.int .i64 k)).run P w = .ok () w := run_checkKey_succ w hk e 9999 k
/-- What a look-up comes to. -/
def kvVal (kv : List (Int × Value)) (k : Int) (z : Value) (c : Bool) : Value :=
  let v := (kvGet kv k).getD z
  if c then .tuple #[v, .bool (kvGet kv k).isSome] else v
theorem run_lookup_ints {w : World} {b : Nat} {kv : List (Int × Value)} (h : MapI w b kv) (ht : P.underlying t = some (.map kt et)) (hk : P.underlying kt = some (.int .i64)) {z : Value} (hz : (zeroValue et).run P w = .ok z w) (k : Int) (c : Bool) :
    (Instr.lookup t (.map (some b)) (.int .i64 k) c).run P w = .ok (kvVal kv k z c) w := by
  obtain ⟨es, clock, hb, he⟩ := h
  obtain ⟨r, hr, hg, _⟩ := findNow_ints k es.toList kv 0 he
  have hgo : (getObj b).run P w = .ok (.map es clock) w := by simp [getObj, Sem.run, hb]
  cases r with
  | none =>
    have hg' : kvGet kv k = none := by simpa using hg.symm
    cases c <;> simp [Instr.lookup, run_underlying ht, run_underlying hk, hgo, run_checkKey_int w hk, Instr.findKey, hr, hz, kvVal, hg']
  | some x =>
    have hg' : kvGet kv k = some x.2 := by simpa using hg.symm
    cases c <;> simp [Instr.lookup, run_underlying ht, run_underlying hk, hgo, run_checkKey_int w hk, Instr.findKey, hr, kvVal, hg']
theorem run_lookup_nil (w : World) (ht : P.underlying t = some (.map kt et)) (hk : P.underlying kt = some (.int .i64)) {z : Value} (hz : (zeroValue et).run P w = .ok z w) (k : Int) (c : Bool) :
    (Instr.lookup t (.map none) (.int .i64 k) c).run P w = .ok (kvVal [] k z c) w := by
  cases c <;> simp [Instr.lookup, run_underlying ht, run_underlying hk, run_checkKey_int w hk, Instr.findKey, Instr.findNow, hz, kvVal, kvGet]

theorem run_keyThatStays (w : World) (k : Int) : (Instr.keyThatStays (.int .i64 k) (.int .i64 k)).run P w = .ok (.int .i64 k) w := by
  have : Instr.sameBits 10000 (.int .i64 k) (.int .i64 k) = true := by
    show Instr.sameBits (9999 + 1) (.int .i64 k) (.int .i64 k) = true
    simp [Instr.sameBits]
  simp [Instr.keyThatStays, this]
theorem kvSet_found : ∀ (kv : List (Int × Value)) (j : Nat) (p : Int × Value) (k : Int) (v : Value), kv[j]? = some p → k = p.1 → (∀ j' p', j' < j → kv[j']? = some p' → k ≠ p'.1) → kvSet kv k v = kv.set j (k, v) := by
  intro kv
  induction kv with
  | nil => intro j p k v h; simp at h
  | cons q r ih =>
    intro j p k v h hk hno
    cases j with
    | zero =>
      simp at h; subst h
      simp [kvSet, hk]
    | succ j =>
      have hq : k ≠ q.1 := hno 0 q (by omega) rfl
      simp only [kvSet, if_neg hq, List.set_cons_succ]
      rw [ih j p k v (by simpa using h) hk (fun j' p' hj hp => hno (j' + 1) p' (by omega) (by simpa using hp))]
theorem kvSet_new : ∀ (kv : List (Int × Value)) (k : Int) (v : Value), kvGet kv k = none → kvSet kv k v = kv ++ [(k, v)] := by
  intro kv
  induction kv with
  | nil => intro k v _; rfl
  | cons q r ih =>
    intro k v h
    by_cases hq : k = q.1
    · simp [kvGet, hq] at h
    · have : kvGet (q :: r) k = kvGet r k := by simp [kvGet, beq_eq_false_iff_ne.2 hq]
      rw [this] at h
      simp [kvSet, hq, ih k v h]
theorem run_update_ints {w : World} {b : Nat} {kv : List (Int × Value)} (h : MapI w b kv) (ht : P.underlying t = some (.map kt et)) (hk : P.underlying kt = some (.int .i64)) (k : Int) (v : Value) :
    ∃ w', (Instr.mapUpdate t (.map (some b)) (.int .i64 k) v).run P w = .ok () w' ∧ MapI w' b (kvSet kv k v) ∧ Fr (fun i => i = b) w w' := by
  obtain ⟨es, clock, hb, he⟩ := h
  obtain ⟨r, hr, hg, hj⟩ := findNow_ints k es.toList kv 0 he
  have hgo : (getObj b).run P w = .ok (.map es clock) w := by simp [getObj, Sem.run, hb]
  have hlt : b < w.heap.size := (Array.getElem?_eq_some_iff.1 hb).1
  have hset : ∀ es' cl, (setObj b (.map es' cl)).run P w = .ok () { w with heap := w.heap.setIfInBounds b (.map es' cl) } := by intro es' cl; simp [setObj, Sem.run, hb]
  have hfr : ∀ es' cl, Fr (fun i => i = b) w { w with heap := w.heap.setIfInBounds b (.map es' cl) } := fun es' cl =>
    ⟨rfl, rfl, rfl, by simp, fun i hi hne => by simp [Ne.symm hne]⟩
  have hat : ∀ es' cl, ({ w with heap := w.heap.setIfInBounds b (.map es' cl) } : World).heap[b]? = some (.map es' cl) := fun es' cl => by simp [hlt]
  cases r with
  | none =>
    have hg' : kvGet kv k = none := by simpa using hg.symm
    refine ⟨_, ?_, ⟨_, _, hat (es.push { key := .int .i64 k, val := v, born := clock }) (clock + 1), ?_⟩, hfr _ _⟩
    · simp [Instr.mapUpdate, run_underlying ht, run_underlying hk, hgo, run_checkKey_int w hk, Instr.findKey, hr, hset]
    · simp [kvSet_new kv k v hg', he]
  | some x =>
    obtain ⟨_, p, hp, hkp, hno⟩ := hj x.1 x.2 rfl
    rw [Nat.sub_zero] at hp hno
    have hlen : es.toList.length = kv.length := by have := congrArg List.length he; simpa using this
    have hx : x.1 < es.size := by have := (List.getElem?_eq_some_iff.1 hp).1; rw [← hlen] at this; simpa using this
    have hek : (es[x.1]?).map (·.key) = some (.int .i64 k) := by
      have h1 : (es.toList.map (fun e => (e.key, e.val)))[x.1]? = (kv.map (fun p => (Value.int .i64 p.1, p.2)))[x.1]? := by rw [he]
      simp only [List.getElem?_map, hp, Option.map_some, Array.getElem?_toList] at h1
      rw [Array.getElem?_eq_getElem hx] at h1 ⊢
      simp only [Option.map_some, Option.some.injEq, Prod.mk.injEq] at h1 ⊢
      rw [h1.1, hkp]
    refine ⟨_, ?_, ⟨_, _, hat (es.modify x.1 fun e => { e with key := .int .i64 k, val := v }) clock, ?_⟩, hfr _ _⟩
    · simp [Instr.mapUpdate, run_underlying ht, run_underlying hk, hgo, run_checkKey_int w hk, Instr.findKey, hr, hek, run_keyThatStays, hset]
    · rw [kvSet_found kv x.1 p k v hp hkp hno, List.map_set, ← he]
      apply List.ext_getElem?
      intro i
      simp only [List.getElem?_map, Array.getElem?_toList, Array.getElem?_modify, List.getElem?_set, List.length_map, Array.length_toList]
      by_cases hi : x.1 = i
      · subst hi; simp [hx]
      · simp [hi]
end

section
variable {P : Program} {ops : Array Oper} {rest : List Oper} {o : Oper} {a : Act} {Q : Exit → Act → World → Prop}
/-- A look-up in a map with whole numbers as keys; v: what it comes to. -/
theorem wpList_lookI {W : World} (hgd : o.guard = none) (m x : Operand) (t : TypeId) (c : Bool) (ho : o.op = .lookup t m x c) {kt et : TypeId} (ht : P.underlying t = some (.map kt et)) (hk : P.underlying kt = some (.int .i64)) {z : Value}
    (hz : (zeroValue et).run P W = .ok z W) {b : Nat} {kv : List (Int × Value)} (hM : MapI W b kv) {k : Int} (hm : a.eval m = .map (some b)) (hx : a.eval x = .int .i64 k) (v : Value) (hv : kvVal kv k z c = v)
    (h : wpList P ops Q rest (a.put o.dst v) W) : wpList P ops Q (o :: rest) a W := by
  refine wpList_plain hgd fun K hK => ?_
  subst hv
  unfold Oper.wp
  simp [execOp, ho, hm, hx, run_lookup_ints hM ht hk hz, Result.andThen]
  exact hK _ _ h
theorem wpList_look0 {W : World} (hgd : o.guard = none) (m x : Operand) (t : TypeId) (c : Bool) (ho : o.op = .lookup t m x c) {kt et : TypeId} (ht : P.underlying t = some (.map kt et)) (hk : P.underlying kt = some (.int .i64)) {z : Value}
    (hz : (zeroValue et).run P W = .ok z W) {k : Int} (hm : a.eval m = .map none) (hx : a.eval x = .int .i64 k) (v : Value) (hv : kvVal [] k z c = v)
    (h : wpList P ops Q rest (a.put o.dst v) W) : wpList P ops Q (o :: rest) a W := by
  refine wpList_plain hgd fun K hK => ?_
  subst hv
  unfold Oper.wp
  simp [execOp, ho, hm, hx, run_lookup_nil W ht hk hz, Result.andThen]
  exact hK _ _ h
/-- A store into a map with whole numbers as keys. -/
theorem wpList_setI {W : World} (hgd : o.guard = none) (m x y : Operand) (t : TypeId) (ho : o.op = .mapUpdate t m x y) {kt et : TypeId} (ht : P.underlying t = some (.map kt et)) (hk : P.underlying kt = some (.int .i64))
    {b : Nat} {kv : List (Int × Value)} (hM : MapI W b kv) {k : Int} (hm : a.eval m = .map (some b)) (hx : a.eval x = .int .i64 k)
    (h : ∀ w', MapI w' b (kvSet kv k (a.eval y)) → Fr (fun i => i = b) W w' → wpList P ops Q rest (a.put o.dst undef) w') : wpList P ops Q (o :: rest) a W := by
  refine wpList_plain hgd fun K hK => ?_
  obtain ⟨w', hr, hM', hf⟩ := run_update_ints hM ht hk k (a.eval y)
  unfold Oper.wp
  simp [execOp, ho, hm, hx, hr, Result.andThen]
  exact hK _ _ (h w' hM' hf)

/-- New blocks behind a world's. -/
def App (w : World) (objs : List Obj) : World := { w with heap := w.heap ++ objs.toArray }
theorem App.nil (w : World) : App w [] = w := by simp [App]
theorem App.at_ (w : World) (objs : List Obj) (i : Nat) : (App w objs).heap[w.heap.size + i]? = objs[i]? := by
  simp only [App]
  rw [Array.getElem?_append_right (by omega)]
  simp
theorem App.below (w : World) (objs : List Obj) : Below w.heap.size w (App w objs) :=
  ⟨rfl, rfl, rfl, by simp [App], fun k hk => by simp only [App]; rw [Array.getElem?_append_left hk]⟩
theorem wpList_makeApp {w : World} {objs : List Obj} (hgd : o.guard = none) (t : TypeId) (ho : o.op = .makeMap t none)
    (h : wpList P ops Q rest (a.put o.dst (.map (some (w.heap.size + objs.length)))) (App w (objs ++ [.map #[] 0]))) : wpList P ops Q (o :: rest) a (App w objs) := by
  refine wpList_plain hgd fun K hK => ?_
  have h1 : (App w objs).heap.size = w.heap.size + objs.length := by simp [App]
  have h2 : (App w objs).alloc (.map #[] 0) = App w (objs ++ [.map #[] 0]) := by simp [App, World.alloc]
  unfold Oper.wp
  simp [execOp, ho, Instr.makeMap, Result.andThen]
  rw [h1, h2]
  exact hK _ _ h
theorem wpList_insApp {w : World} {objs : List Obj} (hgd : o.guard = none) (m x y : Operand) (t : TypeId) (ho : o.op = .insert t m x y) {kt et : TypeId} (ht : P.underlying t = some (.map kt et)) (hk : P.underlying kt = some (.int .i64))
    {i : Nat} {es : Array MapEntry} {cl : Nat} {k : Int} {N : Nat} (hm : a.eval m = .map (some N)) (hN : N = w.heap.size + i) (hx : a.eval x = .int .i64 k) (hat : objs[i]? = some (.map es cl)) (hno : Instr.findNow (.int .i64) (.int .i64 k) es.toList 0 = some none)
    (h : wpList P ops Q rest (a.put o.dst undef) (App w (objs.set i (.map (es.push { key := .int .i64 k, val := a.eval y, born := cl }) (cl + 1))))) : wpList P ops Q (o :: rest) a (App w objs) := by
  refine wpList_plain hgd fun K hK => ?_
  subst hN
  have hb : (App w objs).heap[w.heap.size + i]? = some (.map es cl) := by rw [App.at_, hat]
  have hgo : (getObj (w.heap.size + i)).run P (App w objs) = .ok (.map es cl) (App w objs) := by simp [getObj, Sem.run, hb]
  have hset : ∀ es' cl, (setObj (w.heap.size + i) (.map es' cl)).run P (App w objs) = .ok () (App w (objs.set i (.map es' cl))) := by
    intro es' cl
    have : (App w objs).heap.setIfInBounds (w.heap.size + i) (.map es' cl) = (App w (objs.set i (.map es' cl))).heap := by
      apply Array.ext_getElem?
      intro j
      rw [Array.getElem?_setIfInBounds]
      rcases Nat.lt_or_ge j w.heap.size with hj | hj
      · rw [if_neg (by omega), (App.below w objs).block j hj, (App.below w _).block j hj]
      · obtain ⟨q, rfl⟩ : ∃ q, j = w.heap.size + q := ⟨j - w.heap.size, by omega⟩
        rw [App.at_, App.at_, List.getElem?_set]
        by_cases hq : i = q
        · subst hq
          have hlt : i < objs.length := (List.getElem?_eq_some_iff.1 hat).1
          simp [App, hlt]
        · simp [hq]
    simp only [setObj, Sem.run, hb]
    rw [this]
    rfl
  unfold Oper.wp
  simp [execOp, ho, hm, hx, Instr.mapUpdate, run_underlying ht, run_underlying hk, hgo, run_checkKey_int _ hk, Instr.findKey, hno, hset, Result.andThen]
  exact hK _ _ h
end
end Go.Proofs.YtppkmhejeklegaaDoor
