/- A slice that a call made itself: what it holds, how it grows, and that it reads as a list. -/
import Derived.Test.YtppkmhejeklegaaDoorBase
import Derived.Deep.OwnRows
namespace Go.Proofs.YtppkmhejeklegaaDoor
open Go.RowKit

/-- v is a row of the call's own, from block base on; what its elements lead to is in F. -/
def Own {α : Type} (d : Rep α) (F : Nat → Prop) (base e : Nat) (w : World) (v : Value) (xs : List α) : Prop :=
  ∃ css : List (List Value), css.length = xs.length ∧ (∀ (i : Nat) (x : α) (cs : List Value), xs[i]? = some x → css[i]? = some cs → d.K F w x cs) ∧ w.ownsRow base e d.sz v xs.length css.flatten

section
variable {α : Type} {d : Rep α} {F : Nat → Prop} {base e : Nat} {w w' : World} {v : Value} {xs : List α}

theorem Own.nil (d : Rep α) (F : Nat → Prop) (base e : Nat) (w : World) : Own d F base e w (.slice none 0 0) ([] : List α) :=
  ⟨[], rfl, fun i x cs h => by simp at h, by simpa using World.ownsRow_nil w base e d.sz⟩

theorem Own.lt (h : Own d F base e w v xs) : ∀ k, v.ownBlock = some k → base ≤ k ∧ k < w.heap.size := by
  obtain ⟨css, _, _, ho⟩ := h
  exact ho.lt

/-- The shape of the value. -/
theorem Own.form (h : Own d F base e w v xs) : (v = .slice none 0 0 ∧ xs = []) ∨ ∃ g cap, v = .slice (some ⟨g, 0, none⟩) xs.length cap ∧ base ≤ g ∧ g < w.heap.size := by
  obtain ⟨css, hl, _, ho⟩ := h
  rcases ho.2 with ⟨hv, hn⟩ | ⟨g, cap, cur, rfl, hb, hg, _⟩
  · exact .inl ⟨hv, List.eq_nil_of_length_eq_zero hn⟩
  · exact .inr ⟨g, cap, rfl, hb, (Array.getElem?_eq_some_iff.1 hg).1⟩
theorem Own.slice (h : Own d F base e w v xs) : ∃ A c, v = .slice A xs.length c := by
  rcases h.form with ⟨rfl, rfl⟩ | ⟨g, cap, rfl, _⟩
  · exact ⟨none, 0, rfl⟩
  · exact ⟨_, cap, rfl⟩

theorem Own.mono {S : Nat → Prop} (h : Own d F base e w v xs) (hf : Fr S w w') (hF : ∀ k, F k → ¬ S k) (hv : ∀ k, v.ownBlock = some k → ¬ S k) : Own d F base e w' v xs := by
  obtain ⟨css, hl, hk, ho⟩ := h
  refine ⟨css, hl, fun i x cs hx hc => d.mono (hk i x cs hx hc) hf hF, ho.1, ?_⟩
  rcases ho.2 with hn | ⟨g, cap, cur, rfl, hb, hg, rest⟩
  · exact .inl hn
  · exact .inr ⟨g, cap, cur, rfl, hb, by rw [hf.block g (Array.getElem?_eq_some_iff.1 hg).1 (hv g (by simp [Value.ownBlock]))]; exact hg, rest⟩
theorem Own.wide {F' : Nat → Prop} (h : Own d F base e w v xs) (hF : ∀ k, k < w.heap.size → F k → F' k) : Own d F' base e w v xs := by
  obtain ⟨css, hl, hk, ho⟩ := h
  exact ⟨css, hl, fun i x cs hx hc => d.wide (hk i x cs hx hc) hF, ho⟩
theorem Own.alloc (h : Own d F base e w v xs) (hF : ∀ k, F k → k < w.heap.size) (o : Obj) : Own d F base e (w.alloc o) v xs :=
  h.mono (S := fun k => w.heap.size ≤ k) (Fr.of_below ((Below.refl w.heap.size w).alloc (Nat.le_refl _) o)) (fun k hk hs => by have := hF k hk; omega) (fun k hk hs => by have := (h.lt k hk).2; omega)
theorem Own.below (h : Own d F base e w v xs) (hF : ∀ k, F k → k < w.heap.size) (hb : Below w.heap.size w w') : Own d F base e w' v xs :=
  h.mono (Fr.of_below hb) (fun k hk hs => by have := hF k hk; omega) (fun k hk hs => by have := (h.lt k hk).2; omega)

/-- The row lies in no block of another type. -/
theorem Own.blk_ne (h : Own d F base e w v xs) {b t : Nat} {cs : Array Value} (hb : Blk w b t cs) (ht : e ≠ t) : ∀ k, v.ownBlock = some k → k ≠ b := by
  rintro k hk rfl
  obtain ⟨css, _, _, ho⟩ := h
  rcases ho.2 with ⟨rfl, _⟩ | ⟨g, cap, cur, rfl, _, hg, _⟩
  · simp [Value.ownBlock] at hk
  · simp [Value.ownBlock] at hk
    subst hk
    exact Blk.ne (show Blk w g e cur from hg) hb ht rfl
/-- Two rows of different types lie in two blocks. -/
theorem Own.ne_own {β : Type} {d' : Rep β} {F' : Nat → Prop} {base' e' : Nat} {v' : Value} {ys : List β} (h : Own d F base e w v xs) (h' : Own d' F' base' e' w v' ys) (ht : e ≠ e') : ∀ k, v.ownBlock = some k → v'.ownBlock ≠ some k := by
  intro k hk hk'
  obtain ⟨css, _, _, ho⟩ := h'
  rcases ho.2 with ⟨rfl, _⟩ | ⟨g, cap, cur, rfl, _, hg, _⟩
  · simp [Value.ownBlock] at hk'
  · simp [Value.ownBlock] at hk'
    subst hk'
    exact h.blk_ne (show Blk w g e' cur from hg) ht g hk rfl
theorem flatten_piece {n : Nat} : ∀ (css : List (List Value)), (∀ cs ∈ css, cs.length = n) → ∀ (i : Nat) (cs : List Value) (j : Nat) (u : Value), css[i]? = some cs → cs[j]? = some u → css.flatten[i * n + j]? = some u := by
  intro css
  induction css with
  | nil => intro _ i cs j u h; simp at h
  | cons c rest ih =>
    intro hn i cs j u hi hj
    have hc : c.length = n := hn c (by simp)
    cases i with
    | zero =>
      simp only [List.getElem?_cons_zero, Option.some.injEq] at hi
      subst hi
      have hlt : j < c.length := (List.getElem?_eq_some_iff.1 hj).1
      simp only [List.flatten_cons, Nat.zero_mul, Nat.zero_add]
      rw [List.getElem?_append_left hlt]; exact hj
    | succ i =>
      simp only [List.getElem?_cons_succ] at hi
      have := ih (fun cs h => hn cs (by simp [h])) i cs j u hi hj
      simp only [List.flatten_cons]
      rw [List.getElem?_append_right (by rw [hc, Nat.succ_mul]; omega), hc]
      rw [show (i + 1) * n + j - n = i * n + j by rw [Nat.succ_mul]; omega]
      exact this

/-- What is owned reads as a list. -/
theorem Own.toSl (h : Own d F base e w v xs) : ∃ A c, v = .slice A xs.length c ∧ Sl d (fun k => F k ∨ base ≤ k) w A c xs := by
  obtain ⟨css, hl, hk, ho⟩ := h
  have hlen : ∀ cs ∈ css, cs.length = d.sz := by
    intro cs hcs
    obtain ⟨i, hi⟩ := List.getElem?_of_mem hcs
    have hlt : i < css.length := (List.getElem?_eq_some_iff.1 hi).1
    exact d.len (hk i _ cs (List.getElem?_eq_getElem (by omega)) hi)
  rcases ho.2 with ⟨rfl, hn⟩ | ⟨g, cap, cur, rfl, hb, hg, hnc, hcm, _, _⟩
  · obtain rfl : xs = [] := List.eq_nil_of_length_eq_zero hn
    exact ⟨none, 0, rfl, Sl.nil d _ w _ _ (by omega)⟩
  · refine ⟨_, cap, rfl, hnc, by unfold maxLen at hcm; omega, fun _ => ⟨g, 0, rfl, (Array.getElem?_eq_some_iff.1 hg).1, .inr hb, fun i x hx => ?_⟩⟩
    have hi : i < css.length := by have := (List.getElem?_eq_some_iff.1 hx).1; omega
    obtain ⟨cs, hcs⟩ : ∃ cs, css[i]? = some cs := ⟨_, List.getElem?_eq_getElem hi⟩
    refine ⟨cs, d.wide (hk i x cs hx hcs) (fun k _ h => .inl h), fun j u hj => ?_⟩
    have := ho.cells (g := g) rfl (i * d.sz + j) u (flatten_piece css hlen i cs j u hcs hj)
    rw [Addr.add_lit] at this
    rwa [Nat.add_assoc]
end

section
variable {P : Program} {ops : Array Oper} {rest : List Oper} {o : Oper} {a : Act} {α : Type}

/-- 'append(v, y)', y's cells being the first ones of block N. -/
theorem wp_app (d : Rep α) (F : Nat → Prop) (base e : Nat) (W : World) {K : Act → World → Prop} {Q : Exit → Act → World → Prop} (s x : Operand) (t : TypeId)
    (ho : o.op = .call { callee := .builtin .append, args := #[s, x], argTypes := #[t, t] })
    (ht : P.underlying t = some (.slice e)) {z : Value} {bytes : Nat} (hinfo : (P.info? e).map (fun i => (i.zero, i.size, i.bytes)) = some (some z, d.sz, bytes)) (hz : z.cells.size = d.sz) (hsz : 0 < d.sz) (hb0 : 0 < bytes)
    {v : Value} {xs : List α} (HO : Own d F base e W v xs) (y : α) (cs : Array Value) {N te : Nat} {fr : Nat × Nat} (hN : W.heap[N]? = some (.cells cs te fr)) (hy : d.K F W y cs.toList) (h1 : cs.toList.all Value.oneCell' = true) (hF : ∀ k, F k → some k ≠ v.ownBlock)
    (hs : a.eval s = v) {c : Nat} (hx : a.eval x = .slice (some ⟨N, 0, none⟩) 1 c) (hl : (xs.length + 1) * bytes ≤ 140737488355328) (hbase : base ≤ W.heap.size)
    (h : ∀ v1 w1, Own d F base e w1 v1 (xs ++ [y]) → Fr (fun k => some k = v.ownBlock) W w1 → (v1.ownBlock = v.ownBlock ∨ v1.ownBlock = some W.heap.size) → (∃ A c, v1 = .slice A (xs.length + 1) c) → K (a.put o.dst v1) w1) :
    o.wp P a W K Q := by
  obtain ⟨i0, hi, hz0, hz1, hz2⟩ := info_parts hinfo
  have hlen : xs.length + 1 ≤ 140737488355328 := Nat.le_trans (Nat.le_mul_of_pos_right _ hb0) hl
  obtain ⟨css, hcl, hck, hown⟩ := HO
  have hcs : cs.toList.length = d.sz := d.len hy
  have hnews : ∀ j u, cs.toList[j]? = some u → W.cell? ((⟨N, 0, none⟩ : Addr).add j) = some u := by
    intro j u hu
    rw [Addr.add_lit, cell_of_row _ N (0 + j) cs te fr hN]
    simpa using hu
  obtain ⟨v1, w1, hr, hown1, hg, _, hat⟩ := run_append_own_at (P := P) W base t o.type e i0 z d.sz bytes ht hi hz0 hz1 hz2 hz hsz v xs.length css.flatten hown ⟨N, 0, none⟩ 1 c cs.toList (by omega) hnews (fun u hu => List.all_eq_true.1 h1 u hu) (by unfold maxLen; omega) hl hbase
  have hfr : Fr (fun k => some k = v.ownBlock) W w1 := Fr.of_grownBy hg
  unfold Oper.wp execOp
  simp only [ho, resolve, invoke, builtin, Sem.run_bind, Sem.run_pure, Result.andThen_ok, List.map_toArray, List.map_cons, List.map_nil, hs, hx, hr]
  refine h v1 w1 ⟨css ++ [cs.toList], by simp [hcl], fun i x' cs' hx' hc' => ?_, by simpa using hown1⟩ hfr hat ?_
  · have hFv : ∀ k, F k → ¬ (some k = v.ownBlock) := fun k hk hs => hF k hk hs
    rcases Nat.lt_or_ge i xs.length with hi' | hi'
    · rw [List.getElem?_append_left hi'] at hx'
      rw [List.getElem?_append_left (by omega)] at hc'
      exact d.mono (hck i x' cs' hx' hc') hfr hFv
    · have hie : i = xs.length := by
        have := (List.getElem?_eq_some_iff.1 hx').1
        simp at this; omega
      subst hie
      obtain rfl : y = x' := by simpa using hx'
      obtain rfl : cs.toList = cs' := by
        rw [List.getElem?_append_right (by omega)] at hc'
        simpa [hcl] using hc'
      exact d.mono hy hfr hFv
  · rcases hown1.2 with ⟨rfl, hn⟩ | ⟨g, cap, cur, rfl, _⟩
    · omega
    · exact ⟨_, cap, rfl⟩

/-- The same at a step of a region that draws its order. -/
theorem step_app (d : Rep α) (F : Nat → Prop) (base e : Nat) (W : World) {K : Act → World → Prop} {Q : Exit → Act → World → Prop} {E : Prop} (hgd : o.guard = none) (s x : Operand) (t : TypeId)
    (ho : o.op = .call { callee := .builtin .append, args := #[s, x], argTypes := #[t, t] })
    (ht : P.underlying t = some (.slice e)) {z : Value} {bytes : Nat} (hinfo : (P.info? e).map (fun i => (i.zero, i.size, i.bytes)) = some (some z, d.sz, bytes)) (hz : z.cells.size = d.sz) (hsz : 0 < d.sz) (hb0 : 0 < bytes)
    {v : Value} {xs : List α} (HO : Own d F base e W v xs) (y : α) (cs : Array Value) {N te : Nat} {fr : Nat × Nat} (hN : W.heap[N]? = some (.cells cs te fr)) (hy : d.K F W y cs.toList) (h1 : cs.toList.all Value.oneCell' = true) (hF : ∀ k, F k → some k ≠ v.ownBlock)
    (hs : a.eval s = v) {c : Nat} (hx : a.eval x = .slice (some ⟨N, 0, none⟩) 1 c) (hl : (xs.length + 1) * bytes ≤ 140737488355328) (hbase : base ≤ W.heap.size)
    (h : ∀ v1 w1, Own d F base e w1 v1 (xs ++ [y]) → Fr (fun k => some k = v.ownBlock) W w1 → (v1.ownBlock = v.ownBlock ∨ v1.ownBlock = some W.heap.size) → (∃ A c, v1 = .slice A (xs.length + 1) c) → K (a.put o.dst v1) w1) :
    if Region.wanted o (yielded ops a.tmps) = true then o.wp P a W K Q else E := by
  have hw : Region.wanted o (yielded ops a.tmps) = true := by simp [Region.wanted, hgd]
  rw [if_pos hw]
  exact wp_app d F base e W s x t ho ht hinfo hz hsz hb0 HO y cs hN hy h1 hF hs hx hl hbase h

/-- In a region of one order, y's cells lying in the block that the translation has just laid. -/
theorem wpList_app (d : Rep α) (F : Nat → Prop) (base e : Nat) (W : World) {Q : Exit → Act → World → Prop} (hgd : o.guard = none) (s x : Operand) (t : TypeId)
    (ho : o.op = .call { callee := .builtin .append, args := #[s, x], argTypes := #[t, t] })
    (ht : P.underlying t = some (.slice e)) {z : Value} {bytes : Nat} (hinfo : (P.info? e).map (fun i => (i.zero, i.size, i.bytes)) = some (some z, d.sz, bytes)) (hz : z.cells.size = d.sz) (hsz : 0 < d.sz) (hb0 : 0 < bytes)
    {v : Value} {xs : List α} (HO : Own d F base e W v xs) (y : α) (cs : Array Value) (hy : d.K F W y cs.toList) (h1 : cs.toList.all Value.oneCell' = true) (hF : ∀ k, F k → k < W.heap.size ∧ some k ≠ v.ownBlock)
    (hs : a.eval s = v) {N : Nat} (hx : a.eval x = .slice (some ⟨N, 0, none⟩) 1 1) (hN : N = W.heap.size) (hl : (xs.length + 1) * bytes ≤ 140737488355328) (hbase : base ≤ W.heap.size)
    (h : ∀ v1 w1, Own d F base e w1 v1 (xs ++ [y]) → Fr (fun k => some k = v.ownBlock) W w1 → (v1.ownBlock = v.ownBlock ∨ ∃ b, v1.ownBlock = some b ∧ W.heap.size ≤ b) → (∃ A c, v1 = .slice A (xs.length + 1) c) → wpList P ops Q rest (a.put o.dst v1) w1) :
    wpList P ops Q (o :: rest) a (W.alloc (.cells cs e)) := by
  subst hN
  have hal : Fr (fun _ => False) W (W.alloc (.cells cs e)) := (Fr.refl _ W).alloc _
  refine wpList_plain hgd fun K hK => wp_app d F base e _ s x t ho ht hinfo hz hsz hb0 (HO.alloc (fun k hk => (hF k hk).1) _) y cs (heap_alloc_new W _) (d.mono hy hal (fun _ _ h => h)) h1 (fun k hk => (hF k hk).2) hs hx hl (by simp; omega) ?_
  intro v1 w1 ho1 hf hat hs1
  refine hK _ _ (h v1 w1 ho1 ((hal.mono (fun _ _ h => h.elim)).trans hf) ?_ hs1)
  rcases hat with hat | hat
  · exact .inl hat
  · exact .inr ⟨_, hat, by simp⟩
end
/-- 'make([]T, n)', each element of one cell. -/
theorem run_make_rep {P : Program} (t e : TypeId) (z : Value) {bytes : Nat} (ht : P.underlying t = some (.slice e)) (hinfo : (P.info? e).map (fun i => (i.zero, i.size, i.bytes)) = some (some z, 1, bytes)) (hz1 : z.cells = #[z])
    (n : Nat) (hbytes : bytes * n ≤ 281474976710656) (h63 : n ≤ 9223372036854775807) (w : World) :
    (Instr.makeSlice t (.int .i64 (n : Int)) (.int .i64 (n : Int))).run P w = .ok (.slice (some ⟨w.heap.size, 0, none⟩) n n) (w.alloc (.cells (List.replicate n z).toArray e)) := by
  rw [Go.run_make_row' t e z bytes ht hinfo hz1 .i64 .i64 n hbytes h63 w]
  congr 3
  apply Array.ext_getElem?
  intro i
  simp only [madeCells]
  by_cases h : i < n <;> simp [h, Nat.mod_one]
/-- What is handed back: one slice, in new memory. -/
def RetSl {α : Type} (d : Rep α) (w : World) (xs : List α) (en : Ending) (w' : World) : Prop :=
  ∃ A c, en = .returned (.slice A xs.length c) ∧ Sl d (fun k => w.heap.size ≤ k) w' A c xs ∧ Below w.heap.size w w'
/-- A slice in new memory, and an error's number. -/
def RetSlE {α : Type} (d : Rep α) (w : World) (xs : List α) (err : Int) (en : Ending) (w' : World) : Prop :=
  ∃ A c, en = .returned (.tuple #[.slice A xs.length c, .int .i64 err]) ∧ Sl d (fun k => w.heap.size ≤ k) w' A c xs ∧ Below w.heap.size w w'
/-- No block. -/
def No : Nat → Prop := fun _ => False
theorem no_lt {n : Nat} {v : Value} : ∀ k, No k → k < n ∧ some k ≠ v.ownBlock := fun _ h => h.elim
theorem no_lt' {n : Nat} : ∀ k, No k → k < n := fun _ h => h.elim
end Go.Proofs.YtppkmhejeklegaaDoor
