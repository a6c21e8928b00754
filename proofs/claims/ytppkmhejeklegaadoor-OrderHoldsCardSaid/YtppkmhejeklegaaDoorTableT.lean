/- Layer table: the table of events. -/
import Derived.Test.YtppkmhejeklegaaDoorTable
namespace Go.Proofs.YtppkmhejeklegaaDoor
open Go.RowKit

theorem takeK_name (x : Kp) (i : Int) (e : Ev) : (takeK x i e).t.name = x.t.name := by
  unfold takeK
  (repeat' split) <;> rfl
theorem takeK_ops_len (x : Kp) (i : Int) (e : Ev) : (takeK x i e).t.ops.length ≤ x.t.ops.length + 1 := by
  unfold takeK
  (repeat' split) <;> simp
def newK (i : Int) (e : Ev) : Kp := ⟨⟨e.tx, i, 0, 0, []⟩, ⟨0, 0, 0, 0⟩⟩
/-- Goes on with an event of place i. -/
def stepK (l : List Kp) (i : Int) (e : Ev) : List Kp :=
  match l.findIdx? (fun x => x.t.name == e.tx) with
  | some j => l.modify j (fun x => takeK x i e)
  | none => l ++ [takeK (newK i e) i e]
/-- The first n events. -/
def tabK (h : List Ev) : Nat → List Kp
  | 0 => []
  | n + 1 => match h[n]? with | some e => stepK (tabK h n) n e | none => tabK h n
def tableF (h : List Ev) : List Txn := (tabK h h.length).map (·.t)
theorem stepK_len (l : List Kp) (i : Int) (e : Ev) : (stepK l i e).length ≤ l.length + 1 := by
  unfold stepK
  split <;> simp
theorem stepK_ops (l : List Kp) (i : Int) (e : Ev) (n : Nat) (h : ∀ x ∈ l, x.t.ops.length ≤ n) : ∀ x ∈ stepK l i e, x.t.ops.length ≤ n + 1 := by
  intro x hx
  unfold stepK at hx
  split at hx
  · rename_i j _
    obtain ⟨q, hq⟩ := List.getElem?_of_mem hx
    rw [List.getElem?_modify] at hq
    cases hlq : l[q]? with
    | none => simp [hlq] at hq
    | some y =>
      have hy := h y (List.mem_of_getElem? hlq)
      simp [hlq] at hq
      split at hq
      · subst hq; have := takeK_ops_len y i e; omega
      · subst hq; omega
  · rw [List.mem_append] at hx
    rcases hx with hx | hx
    · have := h x hx; omega
    · simp at hx; subst hx
      have := takeK_ops_len (newK i e) i e
      simp [newK] at this ⊢; omega
theorem tabK_len (h : List Ev) (n : Nat) : (tabK h n).length ≤ n := by
  induction n with
  | zero => simp [tabK]
  | succ n ih =>
    unfold tabK
    split
    · have := stepK_len (tabK h n) n ‹_›; omega
    · omega
theorem tabK_ops (h : List Ev) (n : Nat) : ∀ x ∈ tabK h n, x.t.ops.length ≤ n := by
  induction n with
  | zero => simp [tabK]
  | succ n ih =>
    unfold tabK
    split
    · exact stepK_ops _ _ _ _ ih
    · intro x hx; have := ih x hx; omega

/-- Where a keeper lies, and its Ops. -/
structure Ent where
  b : Nat
  v : Value
  x : Kp
def Ents (w : World) (B : Nat) (l : List Ent) : Prop :=
  (∀ p ∈ l, KpAt w B p.b p.v p.x ∧ B ≤ p.b) ∧ l.Pairwise (fun p q => p.b ≠ q.b ∧ ∀ k, p.v.ownBlock = some k → q.v.ownBlock ≠ some k)
theorem KpAt.mono {w w' : World} {B b : Nat} {v : Value} {x : Kp} {S : Nat → Prop} (h : KpAt w B b v x) (hf : Fr S w w') (hb : ¬ S b) (hv : ∀ k, v.ownBlock = some k → ¬ S k) : KpAt w' B b v x :=
  ⟨h.blk.mono hf hb, h.own.mono hf (fun _ h => h.elim) hv⟩
theorem Ents.mono {w w' : World} {B : Nat} {l : List Ent} {S : Nat → Prop} (h : Ents w B l) (hf : Fr S w w') (hb : ∀ p ∈ l, ¬ S p.b) (hv : ∀ p ∈ l, ∀ k, p.v.ownBlock = some k → ¬ S k) : Ents w' B l :=
  ⟨fun p hp => ⟨(h.1 p hp).1.mono hf (hb p hp) (hv p hp), (h.1 p hp).2⟩, h.2⟩
theorem Ents.fresh {w w' : World} {B : Nat} {l : List Ent} (h : Ents w B l) (hf : Fr (fun _ => False) w w') : Ents w' B l := h.mono hf (fun _ _ h => h) (fun _ _ _ _ h => h)
theorem Ents.lt {w : World} {B : Nat} {l : List Ent} (h : Ents w B l) {p : Ent} (hp : p ∈ l) : p.b < w.heap.size ∧ ∀ k, p.v.ownBlock = some k → B ≤ k ∧ k < w.heap.size :=
  ⟨(h.1 p hp).1.blk.lt, fun k hk => (h.1 p hp).1.own.lt k hk⟩
/-- No keeper lies in another one's Ops, nor the other way round. -/
theorem Ents.cross {w : World} {B : Nat} {l : List Ent} (h : Ents w B l) {p q : Ent} (hp : p ∈ l) (hq : q ∈ l) : ∀ k, p.v.ownBlock = some k → k ≠ q.b :=
  (h.1 p hp).1.own.blk_ne (h.1 q hq).1.blk (by decide)
theorem Ents.push {w : World} {B : Nat} {l : List Ent} (h : Ents w B l) {p : Ent} (hp : KpAt w B p.b p.v p.x) (hB : B ≤ p.b) (hb : ∀ q ∈ l, q.b ≠ p.b) (hv : ∀ q ∈ l, ∀ k, q.v.ownBlock = some k → p.v.ownBlock ≠ some k) : Ents w B (l ++ [p]) := by
  refine ⟨fun q hq => ?_, ?_⟩
  · rw [List.mem_append] at hq
    rcases hq with hq | hq
    · exact h.1 q hq
    · simp at hq; subst hq; exact ⟨hp, hB⟩
  · rw [List.pairwise_append]
    exact ⟨h.2, by simp, fun q hq r hr => by simp at hr; subst hr; exact ⟨hb q hq, hv q hq⟩⟩
/-- Behind a step of the keeper at place j. -/
theorem Ents.take {w w' : World} {B : Nat} {l : List Ent} (h : Ents w B l) {j : Nat} {p : Ent} (hj : l[j]? = some p) {v' : Value} {x' : Kp} (hk : KpAt w' B p.b v' x') (hf : Fr (fun k => k = p.b ∨ some k = p.v.ownBlock) w w')
    (hv : v'.ownBlock = p.v.ownBlock ∨ ∃ g, v'.ownBlock = some g ∧ w.heap.size ≤ g) : Ents w' B (l.set j ⟨p.b, v', x'⟩) := by
  have hpl := List.mem_of_getElem? hj
  have hjl : j < l.length := (List.getElem?_eq_some_iff.1 hj).1
  have hpw : ∀ i q, l[i]? = some q → i ≠ j → q.b ≠ p.b ∧ (∀ k, q.v.ownBlock = some k → p.v.ownBlock ≠ some k) ∧ (∀ k, p.v.ownBlock = some k → q.v.ownBlock ≠ some k) := by
    intro i q hq hij
    have hil : i < l.length := (List.getElem?_eq_some_iff.1 hq).1
    have eq1 : l[i] = q := (List.getElem?_eq_some_iff.1 hq).2
    have ep1 : l[j] = p := (List.getElem?_eq_some_iff.1 hj).2
    have hP := List.pairwise_iff_getElem.1 h.2
    rcases Nat.lt_or_ge i j with hlt | hge
    · have := hP i j hil hjl hlt
      rw [eq1, ep1] at this
      exact ⟨this.1, this.2, fun k hk hk2 => this.2 k hk2 hk⟩
    · have := hP j i hjl hil (by omega)
      rw [eq1, ep1] at this
      exact ⟨fun e => this.1 e.symm, fun k hk hk2 => this.2 k hk2 hk, this.2⟩
  refine ⟨fun q hq => ?_, ?_⟩
  · obtain ⟨i, hi⟩ := List.getElem?_of_mem hq
    rw [List.getElem?_set] at hi
    split at hi
    · cases hi; exact ⟨hk, (h.1 p hpl).2⟩
    · rename_i hij
      have hql := List.mem_of_getElem? hi
      obtain ⟨h1, h2, h3⟩ := hpw i q hi (Ne.symm hij)
      exact ⟨(h.1 q hql).1.mono hf (fun hs => hs.elim h1 (fun e => h.cross hpl hql _ e.symm rfl)) (fun k hk hs => hs.elim (h.cross hql hpl k hk) (fun e => h2 k hk e.symm)), (h.1 q hql).2⟩
  · have hnew : ∀ i q, l[i]? = some q → i ≠ j → (q.b ≠ p.b ∧ (∀ k, q.v.ownBlock = some k → v'.ownBlock ≠ some k)) ∧ (p.b ≠ q.b ∧ ∀ k, v'.ownBlock = some k → q.v.ownBlock ≠ some k) := by
      intro i q hq hij
      obtain ⟨h1, h2, h3⟩ := hpw i q hq hij
      have hno : ∀ k, q.v.ownBlock = some k → v'.ownBlock ≠ some k := fun k hk hk2 => by
        rcases hv with hv | ⟨g, hg, hgs⟩
        · exact h2 k hk (hv ▸ hk2)
        · rw [hg] at hk2; cases hk2
          have := (h.lt (List.mem_of_getElem? hq)).2 _ hk
          omega
      exact ⟨⟨h1, hno⟩, ⟨fun e => h1 e.symm, fun k hk hk2 => hno k hk2 hk⟩⟩
    rw [List.pairwise_iff_getElem]
    intro a b ha hb hab
    simp only [List.length_set] at ha hb
    have hP := List.pairwise_iff_getElem.1 h.2 a b ha hb hab
    rw [List.getElem_set, List.getElem_set]
    split
    · rename_i hja
      rw [if_neg (by omega)]
      exact (hnew b _ (List.getElem?_eq_getElem hb) (by omega)).2
    · split
      · exact (hnew a _ (List.getElem?_eq_getElem ha) (by omega)).1
      · exact hP

def ptrs (l : List Ent) : List (Int × Value) := l.map (fun p => (p.x.t.name, Value.pointer (some ⟨p.b, 0, none⟩)))
def rP : Rep Nat := Rep.one (fun b => Value.pointer (some ⟨b, 0, none⟩))
theorem ptrs_get (l : List Ent) (k : Int) : (∃ j p, l[j]? = some p ∧ p.x.t.name = k ∧ kvGet (ptrs l) k = some (.pointer (some ⟨p.b, 0, none⟩)) ∧ (l.map (·.x)).findIdx? (fun x => x.t.name == k) = some j) ∨
    (kvGet (ptrs l) k = none ∧ (l.map (·.x)).findIdx? (fun x => x.t.name == k) = none) := by
  induction l with
  | nil => exact .inr ⟨rfl, rfl⟩
  | cons p r ih =>
    by_cases h : p.x.t.name = k
    · exact .inl ⟨0, p, rfl, h, by simp [kvGet, ptrs, h], by simp [List.findIdx?_cons, h]⟩
    · have h' : ¬ k = p.x.t.name := fun e => h e.symm
      have h1 : kvGet (ptrs (p :: r)) k = kvGet (ptrs r) k := by simp [kvGet, ptrs, beq_eq_false_iff_ne.2 h']
      have h2 : ((p :: r).map (·.x)).findIdx? (fun x => x.t.name == k) = ((r.map (·.x)).findIdx? (fun x => x.t.name == k)).map (· + 1) := by simp [List.findIdx?_cons, beq_eq_false_iff_ne.2 h]
      rw [h1, h2]
      rcases ih with ⟨j, q, hj, hn, hg, hi⟩ | ⟨hg, hi⟩
      · exact .inl ⟨j + 1, q, by simpa using hj, hn, hg, by rw [hi]; rfl⟩
      · exact .inr ⟨hg, by rw [hi]; rfl⟩

theorem zero_kp (w : World) : (zeroValue 157).run Tryd.prog w = .ok (.pointer none) w := by kernel_rfl
theorem info_ptr : (Tryd.prog.info? 157).map (fun i => (i.zero, i.size, i.bytes)) = some (some (.pointer none), 1, 8) := by kernel_rfl

/-- What holds between two rounds. -/
structure TabInv (w wr : World) (mb : Nat) (v : Value) (l : List Ent) : Prop where
  map : MapI wr mb (ptrs l)
  mB : w.heap.size ≤ mb
  row : Own rP No w.heap.size 157 wr v (l.map (·.b))
  ents : Ents wr w.heap.size l
  below : Below w.heap.size w wr

theorem map_set_same {α β : Type} (f : α → β) : ∀ (l : List α) (j : Nat) (p q : α), l[j]? = some p → f q = f p → (l.set j q).map f = l.map f := by
  intro l j p q hj hf
  rw [List.map_set, hf]
  apply List.ext_getElem?
  intro i
  rw [List.getElem?_set]
  by_cases hij : j = i
  · subst hij
    have hlt : j < l.length := (List.getElem?_eq_some_iff.1 hj).1
    simp [hlt]
    rw [(List.getElem?_eq_some_iff.1 hj).2]
  · simp [hij]
theorem TabInv.taken {w wr W1 w3 : World} {mb : Nat} {v : Value} {l : List Ent} {k : Nat} {e : Ev} {j : Nat} {p : Ent} {v' : Value} (hI : TabInv w wr mb v l) (hf0 : Fr (fun _ => False) wr W1) (hj : l[j]? = some p)
    (hk : KpAt w3 w.heap.size p.b v' (takeK p.x k e)) (hf : Fr (fun k => k = p.b ∨ some k = p.v.ownBlock) W1 w3)
    (hv : v'.ownBlock = p.v.ownBlock ∨ ∃ g, v'.ownBlock = some g ∧ W1.heap.size ≤ g) : TabInv w w3 mb v (l.set j ⟨p.b, v', takeK p.x k e⟩) := by
  have hpl := List.mem_of_getElem? hj
  have hm := hI.map.mono hf0 (fun h => h)
  have hr := hI.row.mono hf0 (fun _ h => h.elim) (fun _ _ h => h)
  have hE := hI.ents.fresh hf0
  have hp := (hE.1 p hpl).1
  refine ⟨?_, hI.mB, ?_, hE.take hj hk hf hv, ?_⟩
  · have : ptrs (l.set j ⟨p.b, v', takeK p.x k e⟩) = ptrs l := map_set_same _ l j p _ hj (by simp [takeK_name])
    rw [this]
    exact hm.mono hf (fun hs => hs.elim (hm.ne_blk hp.blk) (fun e => hm.ne_own hp.own e.symm))
  · have : (l.set j ⟨p.b, v', takeK p.x k e⟩).map (·.b) = l.map (·.b) := map_set_same _ l j p _ hj rfl
    rw [this]
    exact hr.mono hf (fun _ h => h.elim) (fun q hq hs => hs.elim (hr.blk_ne hp.blk (by decide) q hq) (fun e => hr.ne_own hp.own (by decide) q hq e.symm))
  · have h1 : Below w.heap.size w W1 := hI.below.trans (hf0.below hI.below.size (fun _ _ h => h.elim))
    refine h1.trans (hf.below (Nat.le_trans hI.below.size hf0.size) (fun q _ hq => ?_))
    rcases hq with rfl | hq
    · exact (hE.1 p hpl).2
    · exact (hp.own.lt q hq.symm).1
theorem tab_taken {h : List Ev} {k : Nat} {l : List Ent} {e : Ev} {j : Nat} {p q : Ent} (htab : l.map (·.x) = tabK h k) (hj : l[j]? = some p)
    (hix : (l.map (·.x)).findIdx? (fun x => x.t.name == e.tx) = some j) (ht : tabK h (k + 1) = stepK (tabK h k) k e) (hq : q.x = takeK p.x k e) : (l.set j q).map (·.x) = tabK h (k + 1) := by
  rw [ht, ← htab]
  unfold stepK
  rw [hix]
  apply List.ext_getElem?
  intro i
  simp only [List.getElem?_map, List.getElem?_set, List.getElem?_modify]
  by_cases hij : j = i
  · subst hij
    have hlt : j < l.length := (List.getElem?_eq_some_iff.1 hj).1
    simp [hlt, hq]
    rw [(List.getElem?_eq_some_iff.1 hj).2]
  · simp [hij]
theorem tab_newed {h : List Ev} {k : Nat} {l : List Ent} {e : Ev} {q : Ent} (htab : l.map (·.x) = tabK h k)
    (hix : (l.map (·.x)).findIdx? (fun x => x.t.name == e.tx) = none) (ht : tabK h (k + 1) = stepK (tabK h k) k e) (hq : q.x = takeK (newK k e) k e) : (l ++ [q]).map (·.x) = tabK h (k + 1) := by
  rw [ht, ← htab]
  unfold stepK
  rw [hix, List.map_append]
  simp [hq]
theorem TabInv.newed {w wr w4 : World} {mb : Nat} {v v1 : Value} {l : List Ent} {k : Int} {e : Ev} {kb : Nat} (hI : TabInv w wr mb v l) (hf : Fr (fun q => some q = v.ownBlock ∨ q = mb) wr w4) (hg : kvGet (ptrs l) e.tx = none)
    (hm : MapI w4 mb (kvSet (ptrs l) e.tx (.pointer (some ⟨kb, 0, none⟩)))) (hr : Own rP No w.heap.size 157 w4 v1 (l.map (·.b) ++ [kb])) (hk : Blk w4 kb 159 (kpCells (newK k e) (.slice none 0 0))) (hkb : wr.heap.size ≤ kb) :
    TabInv w w4 mb v1 (l ++ [⟨kb, .slice none 0 0, newK k e⟩]) := by
  refine ⟨?_, hI.mB, ?_, ?_, ?_⟩
  · rw [kvSet_new _ _ _ hg] at hm
    simpa [ptrs, newK] using hm
  · simpa using hr
  · refine Ents.push (hI.ents.mono hf (fun p hp hs => ?_) (fun p hp q hq hs => ?_)) ⟨hk, Own.nil rOp No _ _ _⟩ (Nat.le_trans hI.below.size hkb) (fun q hq => ?_) (fun q _ _ _ => by simp [Value.ownBlock])
    · have hpk := (hI.ents.1 p hp).1
      exact hs.elim (fun e => hI.row.blk_ne hpk.blk (by decide) _ e.symm rfl) (fun e => hI.map.ne_blk hpk.blk e.symm)
    · have hpk := (hI.ents.1 p hp).1
      exact hs.elim (fun e => hI.row.ne_own hpk.own (by decide) q e.symm hq) (fun e => hI.map.ne_own hpk.own (by rw [hq, e]))
    · have := (hI.ents.lt hq).1
      simp only
      omega
  · refine hI.below.trans (hf.below hI.below.size (fun q _ hq => ?_))
    rcases hq with hq | rfl
    · exact (hI.row.lt q hq.symm).1
    · exact hI.mB

set_option maxRecDepth 20000 in
set_option maxHeartbeats 2000000 in
theorem Table_any (A : Option Addr) (c : Nat) (h : List Ev) (w : World) (hK : Kinds w) (hE : Sl rEv (· < w.heap.size) w A c h) (he0 : properErr h = 0) (hn : h.length ≤ 60) :
    Calls Tryd.prog 65 #[.slice A h.length c] w (RetSlE rTx w (tableF h) 0) := by
  have hlim := hE.len
  have He0 := Lib.hid he0; clear he0
  go_enter Tryd.func65, Tryd.ntmps65
  go_wp2_with fail
  refine (Check_any A c h w hK hE).mono ?_
  rintro en w1 ⟨rfl, hB1⟩
  rw [He0.out]
  have hmm := @run_makeMap Tryd.prog
  go_wp2_with fail
  have hI0 : TabInv w (w1.alloc (.map #[] 0)) w1.heap.size (.slice none 0 0) [] :=
    ⟨MapI.made w1, hB1.size, Own.nil rP No _ _ _, ⟨fun p hp => by simp at hp, List.Pairwise.nil⟩, hB1.alloc hB1.size _⟩
  generalize w1.alloc (.map #[] 0) = w2 at hI0 ⊢
  generalize w1.heap.size = mb at hI0 ⊢
  clear hB1 hmm
  go_loopw [7, 25] (fun v i wr => ∃ (k : Nat) (l : List Ent), k ≤ h.length ∧ i = .int .i64 k ∧ TabInv w wr mb v l ∧ l.map (·.x) = tabK h k) (fun _ i _ => h.length - (intOf i).toNat)
  case atStart => exact ⟨0, [], Nat.zero_le _, rfl, hI0, rfl⟩
  case round =>
    clear hI0 w2
    obtain ⟨k, l, hk, rfl, hI, htb⟩ := hrel
    have Htb := Lib.hid htb; clear htb
    by_cases hlk : k < h.length
    · obtain ⟨e, he⟩ := some_at hlk
      obtain ⟨b, o, rfl, hb, hF, c0, c1, c2, c3⟩ := hE.ev_at he
      have hB := hI.below
      have d0 := (hB.cell (p := ⟨b, o + k * 4, none⟩) hb).trans c0
      have d1 := (hB.cell (p := ⟨b, o + k * 4 + 1, none⟩) hb).trans c1
      have d2 := (hB.cell (p := ⟨b, o + k * 4 + 2, none⟩) hb).trans c2
      have d3 := (hB.cell (p := ⟨b, o + k * 4 + 3, none⟩) hb).trans c3
      have htab : tabK h (k + 1) = stepK (tabK h k) k e := by rw [tabK, he]
      have Ht := Lib.hid htab
      have hll : l.length ≤ k := by have := tabK_len h k; rw [← Htb.out] at this; simpa using this
      have hol : ∀ p ∈ l, p.x.t.ops.length ≤ k := fun p hp => tabK_ops h k p.x (by rw [← Htb.out]; exact List.mem_map_of_mem hp)
      clear c0 c1 c2 c3 he htab
      have hf0 : Fr (fun _ => False) wr (wr.alloc (.cells #[.int .i64 e.kind, .int .i64 e.tx, .int .i64 e.var, .int .i64 e.val] 71)) := (Fr.refl _ wr).alloc _
      rcases ptrs_get l e.tx with ⟨j, p, hj, hpn, hg, hix⟩ | ⟨hg, hix⟩
      · have hpl := List.mem_of_getElem? hj
        have hv : kvVal (ptrs l) e.tx (.pointer none) false = .pointer (some ⟨p.b, 0, none⟩) := by simp [kvVal, hg]
        have Hv := Lib.hid hv
        have Hj := Lib.hid hj
        have Hx := Lib.hid hix
        have Hn := Lib.hid hpn
        clear hv hj hix hg hpn
        go_wp2_with (at_lookup; refine wpList_lookI rfl _ _ 155 false rfl Tryd.underlying155 Tryd.underlying3 (zero_kp _) (hI.map.alloc _) rfl rfl _ Hv ?_)
        refine (take_any _ w.heap.size p.b p.v p.x k e ((hI.ents.fresh hf0).1 p hpl).1 (by have := hol p hpl; omega) (Nat.le_trans hB.size hf0.size)).mono ?_
        rintro en w3 ⟨rfl, v', hk', hf', hv'⟩
        have hI' := hI.taken hf0 Hj.out hk' hf' hv'
        go_wp2
        go_roundw
        case rel => exact ⟨k + 1, _, by omega, by go_num, hI', tab_taken Htb.out Hj.out Hx.out Ht.out rfl⟩
        case measure => simp [intOf]; omega
      · have hv : kvVal (ptrs l) e.tx (.pointer none) false = .pointer none := by simp [kvVal, hg]
        have Hv := Lib.hid hv
        have Hg := Lib.hid hg
        have Hx := Lib.hid hix
        clear hv hix hg
        go_wp2_with (at_lookup; refine wpList_lookI rfl _ _ 155 false rfl Tryd.underlying155 Tryd.underlying3 (zero_kp _) (hI.map.alloc _) rfl rfl _ Hv ?_)
        obtain ⟨W2, hW2, hx2, hk2, hf2⟩ : ∃ W2, (wr.alloc (.cells #[.int .i64 e.kind, .int .i64 e.tx, .int .i64 e.var, .int .i64 e.val] 71)).alloc (.cells (kpCells (newK k e) (.slice none 0 0)) 159) = W2 ∧
            Blk W2 wr.heap.size 71 #[.int .i64 e.kind, .int .i64 e.tx, .int .i64 e.var, .int .i64 e.val] ∧ Blk W2 (wr.heap.size + 1) 159 (kpCells (newK k e) (.slice none 0 0)) ∧ Fr (fun _ => False) wr W2 := by
          refine ⟨_, rfl, (Blk.new wr _ _).alloc _, ?_, hf0.alloc _⟩
          have := Blk.new (wr.alloc (.cells #[.int .i64 e.kind, .int .i64 e.tx, .int .i64 e.var, .int .i64 e.val] 71)) (kpCells (newK k e) (.slice none 0 0)) 159
          simpa using this
        unfold kpCells newK at hW2
        rw [hW2]
        clear hW2
        have hm2 := hI.map.mono hf2 (fun h => h)
        have hr2 := hI.row.mono hf2 (fun _ h => h.elim) (fun _ _ h => h)
        have g1 : W2.cell? ⟨wr.heap.size, 1, none⟩ = some (.int .i64 e.tx) := hx2.cell 1 rfl
        have hbase2 : ∀ o, w.heap.size ≤ ((W2.alloc o).drew).heap.size := fun o => by have := hf2.size; have := hB.size; simp [World.drew]; omega
        have hl8 : ((l.map (·.b)).length + 1) * 8 ≤ 140737488355328 := by simp; omega
        go_region_held3 (fun w' => w'.cell? ⟨wr.heap.size, 1, none⟩ = some (.int .i64 e.tx)) (first | go_keep) ((refine step_app rP No w.heap.size 157 _ rfl _ _ 156 rfl Tryd.underlying156 info_ptr rfl (by decide) (by decide) ((hr2.alloc no_lt' _).mono ((Fr.refl (fun _ => False) _).drew) (fun _ h => h.elim) (fun _ _ h => h)) (wr.heap.size + 1) #[.pointer (some ⟨wr.heap.size + 1, 0, none⟩)] (Blk.new W2 _ _) rfl rfl (fun _ h => h.elim) rfl rfl hl8 (hbase2 _) ?_; intro v1 w3 hO3 hf3 hat3 hs3; have h23 := ((((Fr.refl (fun _ => False) W2).alloc _).drew).mono (fun _ _ h => h.elim)).trans hf3; have hm3 := hm2.mono h23 (fun h => hm2.ne_own hr2 h.symm); have hx3 := hx2.mono h23 (fun h => hr2.blk_ne hx2 (by decide) _ h.symm rfl); have hk3 := hk2.mono h23 (fun h => hr2.blk_ne hk2 (by decide) _ h.symm rfl); have q1 : w3.cell? ⟨wr.heap.size, 1, none⟩ = some (.int .i64 e.tx) := hx3.cell 1 rfl; obtain ⟨w4, hr4, hM4, hf4⟩ := run_update_ints hm3 Tryd.underlying155 Tryd.underlying3 e.tx (.pointer (some ⟨wr.heap.size + 1, 0, none⟩)); have hx4 := hx3.mono hf4 (fun h => hm3.ne_blk hx3 h.symm); have hk4 := hk3.mono hf4 (fun h => hm3.ne_blk hk3 h.symm); have p1 : w4.cell? ⟨wr.heap.size, 1, none⟩ = some (.int .i64 e.tx) := hx4.cell 1 rfl))
        have p0 : w4.cell? ⟨wr.heap.size, 0, none⟩ = some (.int .i64 e.kind) := hx4.cell 0 rfl
        have p2 : w4.cell? ⟨wr.heap.size, 2, none⟩ = some (.int .i64 e.var) := hx4.cell 2 rfl
        have p3 : w4.cell? ⟨wr.heap.size, 3, none⟩ = some (.int .i64 e.val) := hx4.cell 3 rfl
        have hf24 : Fr (fun q => some q = u7.ownBlock ∨ q = mb) wr w4 := ((hf2.mono (fun _ _ h => h.elim)).then h23 (fun _ _ h => .inl h)).then hf4 (fun _ _ h => .inr h)
        have hI4 := hI.newed hf24 Hg.out hM4 (hO3.mono hf4 (fun _ h => h.elim) (fun q hq e => hm3.ne_own hO3 (by rw [hq, e]))) hk4 (by omega)
        have hB4 := hI4.below
        have hp4 : KpAt w4 w.heap.size (wr.heap.size + 1) (.slice none 0 0) (newK k e) := ⟨hk4, Own.nil rOp No _ _ _⟩
        clear hM4 hr4 hO3 hf3 hf4 hm3 h23 hx3 hk3 q1 hat3 hs3 hf24 g1 hm2 hr2 hx2 hk2
        go_wp2_with fail
        refine (take_any _ w.heap.size (wr.heap.size + 1) (.slice none 0 0) (newK k e) k e hp4 (by simp [newK]) hB4.size).mono ?_
        rintro en w5 ⟨rfl, v', hk', hf', hv'⟩
        have hj5 : (l ++ [(⟨wr.heap.size + 1, .slice none 0 0, newK k e⟩ : Ent)])[l.length]? = some ⟨wr.heap.size + 1, .slice none 0 0, newK k e⟩ := by simp
        have hI5 := hI4.taken (Fr.refl _ w4) hj5 hk' hf' hv'
        have hset : (l ++ [(⟨wr.heap.size + 1, .slice none 0 0, newK k e⟩ : Ent)]).set l.length ⟨wr.heap.size + 1, v', takeK (newK k e) k e⟩ = l ++ [⟨wr.heap.size + 1, v', takeK (newK k e) k e⟩] := by simp
        simp only [hset] at hI5
        clear hset hj5
        go_wp2
        go_roundw
        case rel => exact ⟨k + 1, _, by omega, by go_num, hI5, tab_newed Htb.out Hx.out Ht.out rfl⟩
        case measure => simp [intOf]; omega
    · obtain rfl : k = h.length := by omega
      obtain ⟨A1, c1, rfl, hS1⟩ := hI.row.toSl
      have hE1 := hI.ents
      have hB := hI.below
      have htl : (l.map (·.x.t)) = tableF h := by unfold tableF; rw [← Htb.out, List.map_map]; rfl
      have Htl := Lib.hid htl
      have hlen : (l.map (·.b)).length = l.length := by simp
      have hll : l.length ≤ h.length := by have := tabK_len h h.length; rw [← Htb.out] at this; simpa using this
      rw [hlen]
      clear hI htl hlen Htb
      obtain ⟨wo, rfl⟩ : ∃ wo : World, wo = wr := ⟨_, rfl⟩
      go_wp2_with fail
      go_loopw [11, 57] (fun v i wr2 => ∃ m : Nat, m ≤ l.length ∧ i = .int .i64 m ∧ Own rTx (fun k => w.heap.size ≤ k ∧ k < wo.heap.size) wo.heap.size 86 wr2 v ((l.take m).map (·.x.t)) ∧ Below wo.heap.size wo wr2) (fun _ i _ => l.length - (intOf i).toNat)
      case atStart => exact ⟨0, Nat.zero_le _, rfl, by simpa using Own.nil rTx _ _ _ wo, Below.refl _ _⟩
      case round =>
        obtain ⟨m, hm, rfl, hO, hB2⟩ := hrel
        by_cases hlm : m < l.length
        · obtain ⟨p, hp⟩ := some_at hlm
          have hpl := List.mem_of_getElem? hp
          have hb1 : (l.map (·.b))[m]? = some p.b := by simp [hp]
          obtain ⟨b1, o1, rfl, hb1l, _, hc1⟩ := hS1.one_at hb1
          have e1 := (hB2.cell (p := ⟨b1, o1 + m, none⟩) hb1l).trans hc1
          have hk := (hE1.1 p hpl).1
          have hkb := hk.blk.below hB2
          obtain ⟨A2, c2, hv2, hS2⟩ := hk.own.toSl
          have q0 : wr.cell? ⟨p.b, 0, none⟩ = some (.int .i64 p.x.t.name) := hkb.cell 0 rfl
          have q1 : wr.cell? ⟨p.b, 1, none⟩ = some (.int .i64 p.x.t.first) := hkb.cell 1 rfl
          have q2 : wr.cell? ⟨p.b, 2, none⟩ = some (.int .i64 p.x.t.last) := hkb.cell 2 rfl
          have q3 : wr.cell? ⟨p.b, 3, none⟩ = some (.int .i64 p.x.t.state) := hkb.cell 3 rfl
          have q4 : wr.cell? ⟨p.b, 4, none⟩ = some (.slice A2 p.x.t.ops.length c2) := by rw [← hv2]; exact hkb.cell 4 rfl
          have hS3 : Sl rOp (fun k => w.heap.size ≤ k ∧ k < wo.heap.size) wr A2 c2 p.x.t.ops := (hS2.wide (F' := fun k => w.heap.size ≤ k ∧ k < wo.heap.size) (fun k hk h => ⟨h.elim (fun f => f.elim) id, hk⟩)).mono (Fr.of_below hB2) (fun k hk hs => by omega)
          have hy : rTx.K (fun k => w.heap.size ≤ k ∧ k < wo.heap.size) wr p.x.t [.int .i64 p.x.t.name, .int .i64 p.x.t.first, .int .i64 p.x.t.last, .int .i64 p.x.t.state, .slice A2 p.x.t.ops.length c2] := ⟨A2, c2, rfl, hS3⟩
          have hsn : (l.take (m + 1)).map (·.x.t) = (l.take m).map (·.x.t) ++ [p.x.t] := by rw [List.take_add_one, hp]; simp
          have Hsn := Lib.hid hsn
          have hown : ∀ k, (w.heap.size ≤ k ∧ k < wo.heap.size) → k < wr.heap.size ∧ some k ≠ u11.ownBlock := fun k hk => ⟨Nat.lt_of_lt_of_le hk.2 hB2.size, fun e => by have := (hO.lt k e.symm).1; omega⟩
          have hl56 : (((l.take m).map (·.x.t)).length + 1) * 56 ≤ 140737488355328 := by simp; omega
          have Hv2 := Lib.hid hv2
          clear hp hc1 hb1 hsn hv2
          go_wp2_with (at_builtin; refine wpList_app rTx (fun k => w.heap.size ≤ k ∧ k < wo.heap.size) wo.heap.size 86 wr rfl _ _ 35 rfl Tryd.underlying35 info_txn rfl (by decide) (by decide) hO p.x.t _ hy rfl hown rfl rfl rfl hl56 hB2.size ?_; intro v1 w1 hO1 hf1 hat1 hs1)
          go_roundw
          case rel => exact ⟨m + 1, by omega, by go_num, by rw [Hsn.out]; exact hO1, hB2.trans (hf1.below hB2.size (fun k _ hk => (hO.lt k hk.symm).1))⟩
          case measure => simp [intOf]; omega
        · obtain rfl : m = l.length := by omega
          rw [List.take_length] at hO
          have hO' := hO.toSl
          rw [Htl.out] at hO'
          obtain ⟨A3, c3, rfl, hS3⟩ := hO'
          go_wp2
          go_ret2
          exact ⟨A3, c3, rfl, hS3.wide (fun k _ h => h.elim (fun h => h.1) (fun h => Nat.le_trans hB.size h)), hB.trans (hB2.mono hB.size)⟩

set_option maxRecDepth 20000 in
set_option maxHeartbeats 2000000 in
theorem Table_bad (A : Option Addr) (c : Nat) (h : List Ev) (w : World) (hK : Kinds w) (hE : Sl rEv (· < w.heap.size) w A c h) (he0 : properErr h ≠ 0) :
    Calls Tryd.prog 65 #[.slice A h.length c] w (RetSlE rTx w [] (properErr h)) := by
  have hlim := hE.len
  have hc : (properErr h != 0) = true := by simpa using he0
  clear he0
  go_enter Tryd.func65, Tryd.ntmps65
  go_wp2_with fail
  refine (Check_any A c h w hK hE).mono ?_
  rintro en w1 ⟨rfl, hB1⟩
  go_wp2
  go_ret2
  exact ⟨none, 0, rfl, Sl.nil rTx _ _ _ _ (by decide), hB1⟩
/-- The table of events, or why there is none. -/
def tabE (h : List Ev) : List Txn := if properErr h = 0 then tableF h else []
theorem RightB_len {h : List Ev} (hr : RightB h = true) : h.length ≤ 60 := by
  unfold RightB at hr
  simp at hr
  exact hr.1
theorem properErr_len {h : List Ev} (he : properErr h = 0) : h.length ≤ 60 := by
  unfold properErr at he
  split at he
  · exact RightB_len ‹_›
  · cases he
theorem Table_all (A : Option Addr) (c : Nat) (h : List Ev) (w : World) (hK : Kinds w) (hE : Sl rEv (· < w.heap.size) w A c h) :
    Calls Tryd.prog 65 #[.slice A h.length c] w (RetSlE rTx w (tabE h) (properErr h)) := by
  unfold tabE
  by_cases he : properErr h = 0
  · rw [if_pos he, he]
    exact Table_any A c h w hK hE he (properErr_len he)
  · rw [if_neg he]
    exact Table_bad A c h w hK hE he
end Go.Proofs.YtppkmhejeklegaaDoor
