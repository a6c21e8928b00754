/- Plain law: how the order grows with the events. -/
import Derived.Test.YtppkmhejeklegaaDoorOrderP
namespace Go.Proofs.YtppkmhejeklegaaDoor
open Go.RowKit

theorem runL_le : ∀ (h : List Ev) (kv : List (Int × Int)) (k : Nat), (runL kv h).1 = h.length → (runL kv (h.take k)).1 = (h.take k).length
  | [], kv, k, _ => by simp [runL]
  | e :: r, kv, 0, _ => by simp [runL]
  | e :: r, kv, k + 1, hr => by
    rw [List.take_succ_cons]
    unfold runL at hr ⊢
    cases hs : stepR kv e with
    | none => rw [hs] at hr; simp at hr
    | some kv' =>
      rw [hs] at hr
      simp only [List.length_cons] at hr ⊢
      rw [runL_le r kv' k (by omega)]
theorem runL_whole {h : List Ev} (he : properErr h = 0) : (runL [] h).1 = h.length := by
  have hl := runL_len h []
  unfold properErr at he
  rw [if_pos (properErr_right (by unfold properErr; exact he))] at he
  split at he
  · cases he
  · omega
theorem addName_len_ge (l : List Ev) : ∀ acc : List Int, acc.length ≤ (l.foldl addName acc).length := by
  induction l with
  | nil => intro acc; simp
  | cons e l ih =>
    intro acc
    refine Nat.le_trans ?_ (ih _)
    unfold addName; split <;> simp
theorem namesF_take (h : List Ev) (k : Nat) : (namesF (h.take k)).length ≤ (namesF h).length := by
  conv => rhs; rw [← List.take_append_drop k h]
  unfold namesF
  rw [List.foldl_append]
  exact addName_len_ge _ _
theorem properErr_take {h : List Ev} (he : properErr h = 0) (k : Nat) : properErr (h.take k) = 0 := by
  have h1 := properErr_right he
  have h2 := runL_le h [] k (runL_whole he)
  have h3 : RightB (h.take k) = true := by
    unfold RightB at h1 ⊢
    simp only [Bool.and_eq_true, decide_eq_true_eq, Bool.not_eq_true', List.any_eq_false] at h1 ⊢
    refine ⟨Nat.le_trans (List.length_take_le' k h) h1.1, fun x hx => h1.2.1 x (List.mem_of_mem_take hx), Nat.le_trans (namesF_take h k) h1.2.2⟩
  unfold properErr
  rw [if_pos h3, if_neg (by omega)]

/-- The states after n events. -/
def kvN (h : List Ev) : Nat → List (Int × Int)
  | 0 => []
  | n + 1 => match h[n]? with | some e => (stepR (kvN h n) e).getD (kvN h n) | none => kvN h n
theorem runL_kvN {h : List Ev} (hr : (runL [] h).1 = h.length) : ∀ n, n ≤ h.length → (runL (kvN h n) (h.drop n)).1 = (h.drop n).length
  | 0, _ => by simpa [kvN] using hr
  | n + 1, hn => by
    have ih := runL_kvN hr n (by omega)
    obtain ⟨e, he⟩ := some_at (show n < h.length by omega)
    have hd : h.drop n = e :: h.drop (n + 1) := by
      rw [List.drop_eq_getElem_cons (by omega)]
      congr 1
      exact (List.getElem?_eq_some_iff.1 he).2
    rw [hd] at ih
    unfold runL at ih
    unfold kvN
    rw [he]
    dsimp only
    cases hs : stepR (kvN h n) e with
    | none => rw [hs] at ih; simp at ih
    | some kv' =>
      rw [hs] at ih
      simpa using ih
theorem step_kvN {h : List Ev} (hr : (runL [] h).1 = h.length) {n : Nat} {e : Ev} (he : h[n]? = some e) : stepR (kvN h n) e = some (kvN h (n + 1)) := by
  have hn : n < h.length := (List.getElem?_eq_some_iff.1 he).1
  have ih := runL_kvN hr n (by omega)
  have hd : h.drop n = e :: h.drop (n + 1) := by
    rw [List.drop_eq_getElem_cons (by omega)]
    congr 1
    exact (List.getElem?_eq_some_iff.1 he).2
  rw [hd] at ih
  unfold runL at ih
  cases hs : stepR (kvN h n) e with
  | none => rw [hs] at ih; simp at ih
  | some kv' =>
    unfold kvN
    rw [he]
    simp [hs]
theorem getI_setI (kv : List (Int × Int)) (t s u : Int) : getI (setI kv t s) u = if u = t then some s else getI kv u := by
  induction kv with
  | nil => by_cases h : u = t <;> simp [setI, getI, h]
  | cons p r ih =>
    unfold setI
    by_cases h : t = p.1
    · rw [if_pos h]
      subst h
      by_cases hu : u = p.1 <;> simp [getI, hu]
    · rw [if_neg h]
      by_cases hu : u = p.1
      · have : ¬ u = t := fun e => h (by omega)
        simp [getI, hu, this]
        intro e; exact absurd (hu ▸ e.symm) (fun e => h e)
      · have e1 : getI (p :: setI r t s) u = getI (setI r t s) u := by simp [getI, hu]
        have e2 : getI (p :: r) u = getI r u := by simp [getI, hu]
        rw [e1, e2, ih]
theorem nextS_cases {s k s' : Int} (h : nextS s k = some s') : s ≠ 7 ∧ (k = 7 ∨ k = 9 → s' = 7) := by
  unfold nextS at h
  split at h
  · cases h
  · rename_i hs
    obtain ⟨n, hn⟩ := Int.eq_ofNat_of_zero_le (show 0 ≤ s by omega)
    subst hn
    match n, h with
    | 0, h => exact ⟨by decide, by rintro (rfl | rfl) <;> simp [mvs, mv0] at h⟩
    | 1, h => exact ⟨by decide, by rintro (rfl | rfl) <;> simp [mvs, mv1] at h <;> omega⟩
    | 2, h => exact ⟨by decide, by rintro (rfl | rfl) <;> simp [mvs, mv2] at h⟩
    | 3, h => exact ⟨by decide, by rintro (rfl | rfl) <;> simp [mvs, mv3] at h <;> omega⟩
    | 4, h => exact ⟨by decide, by rintro (rfl | rfl) <;> simp [mvs, mv4] at h <;> omega⟩
    | 5, h => exact ⟨by decide, by rintro (rfl | rfl) <;> simp [mvs, mv5] at h <;> omega⟩
    | 6, h => exact ⟨by decide, by rintro (rfl | rfl) <;> simp [mvs, mv6] at h <;> omega⟩
    | n + 7, h =>
      rw [Int.toNat_natCast, List.getElem?_eq_none (by simp [mvs])] at h
      cases h
theorem takeK_state (x : Kp) (i : Int) (e : Ev) (h : 2 ≤ (takeK x i e).t.state) : e.kind = 7 ∨ e.kind = 9 := by
  by_cases h7 : e.kind = 7
  · exact .inl h7
  by_cases h9 : e.kind = 9
  · exact .inr h9
  exfalso
  unfold takeK at h
  simp only [h7, h9] at h
  repeat' split at h
  all_goals first | contradiction | simp at h
theorem newK_state (i : Int) (e : Ev) : (newK i e).t.state = 0 := rfl

/-- What has ended, the states know. -/
theorem ended {h : List Ev} (hr : (runL [] h).1 = h.length) : ∀ n, ∀ x ∈ tabK h n, 2 ≤ x.t.state → getI (kvN h n) x.t.name = some 7
  | 0, x, hx, _ => by simp [tabK] at hx
  | n + 1, x, hx, hs => by
    have ih := ended hr n
    cases he : h[n]? with
    | none =>
      unfold kvN
      unfold tabK at hx
      rw [he] at hx ⊢
      exact ih x hx hs
    | some e =>
      have hst := step_kvN hr he
      unfold stepR at hst
      rw [Option.map_eq_some_iff] at hst
      obtain ⟨s', hn, hkv⟩ := hst
      obtain ⟨hn7, hnk⟩ := nextS_cases hn
      unfold tabK at hx
      rw [he] at hx
      dsimp only at hx
      rw [← hkv, getI_setI]
      have hold : x ∈ tabK h n → (if x.t.name = e.tx then some s' else getI (kvN h n) x.t.name) = some 7 := by
        intro hm
        have := ih x hm hs
        by_cases hne : x.t.name = e.tx
        · rw [hne] at this
          rw [this] at hn7
          exact absurd rfl hn7
        · rw [if_neg hne]; exact this
      have hnew : ∀ y : Kp, y.t.name = e.tx → x = takeK y n e → (if x.t.name = e.tx then some s' else getI (kvN h n) x.t.name) = some 7 := by
        rintro y hy rfl
        rw [takeK_name, if_pos hy, hnk (takeK_state _ _ _ hs)]
      unfold stepK at hx
      cases hf : (tabK h n).findIdx? (fun x => x.t.name == e.tx) with
      | none =>
        rw [hf] at hx
        rcases List.mem_append.1 hx with hx | hx
        · exact hold hx
        · exact hnew (newK n e) rfl (by simpa using hx)
      | some j =>
        rw [hf] at hx
        obtain ⟨hj, hp, _⟩ := List.findIdx?_eq_some_iff_getElem.1 hf
        obtain ⟨q, hq⟩ := List.getElem?_of_mem hx
        rw [List.getElem?_modify] at hq
        by_cases hjq : j = q
        · subst hjq
          rw [List.getElem?_eq_getElem hj] at hq
          simp at hq
          exact hnew _ (by simpa using hp) hq.symm
        · simp [hjq] at hq
          exact hold (List.mem_of_getElem? hq)
/-- A step of the table: who was there stays, goes on, and is not ended then. -/
theorem tabK_step {h : List Ev} (hr : (runL [] h).1 = h.length) (n i : Nat) (x : Kp) (hx : (tabK h n)[i]? = some x) :
    (tabK h (n + 1))[i]? = some x ∨ ∃ e, x.t.state < 2 ∧ (tabK h (n + 1))[i]? = some (takeK x n e) := by
  have hi : i < (tabK h n).length := (List.getElem?_eq_some_iff.1 hx).1
  unfold tabK
  cases he : h[n]? with
  | none => exact .inl hx
  | some e =>
    dsimp only
    unfold stepK
    cases hf : (tabK h n).findIdx? (fun x => x.t.name == e.tx) with
    | none => left; dsimp only; rw [List.getElem?_append_left hi]; exact hx
    | some j =>
      dsimp only
      obtain ⟨hj, hp, _⟩ := List.findIdx?_eq_some_iff_getElem.1 hf
      rw [List.getElem?_modify, hx]
      by_cases hji : j = i
      · subst hji
        have hxe : (tabK h n)[j] = x := (List.getElem?_eq_some_iff.1 hx).2
        rw [hxe] at hp
        refine .inr ⟨e, ?_, by simp⟩
        rcases Int.lt_or_le x.t.state 2 with hlt | hge
        · exact hlt
        exfalso
        have h7 := ended hr n x (List.mem_of_getElem? hx) hge
        have hst := step_kvN hr he
        unfold stepR at hst
        rw [Option.map_eq_some_iff] at hst
        obtain ⟨s', hn, _⟩ := hst
        have hpe : x.t.name = e.tx := by simpa using hp
        rw [← hpe, h7] at hn
        exact (nextS_cases hn).1 rfl
      · left; simp [hji]
theorem tabK_first (h : List Ev) : ∀ n, ∀ x ∈ tabK h n, x.t.first < n
  | 0, x, hx => by simp [tabK] at hx
  | n + 1, x, hx => by
    have ih := tabK_first h n
    unfold tabK at hx
    cases he : h[n]? with
    | none => rw [he] at hx; have := ih x hx; omega
    | some e =>
      rw [he] at hx
      dsimp only at hx
      unfold stepK at hx
      cases hf : (tabK h n).findIdx? (fun x => x.t.name == e.tx) with
      | none =>
        rw [hf] at hx
        rcases List.mem_append.1 hx with hx | hx
        · have := ih x hx; omega
        · obtain rfl : x = takeK (newK n e) n e := by simpa using hx
          rw [takeK_first]
          show (n : Int) < _
          omega
      | some j =>
        rw [hf] at hx
        obtain ⟨q, hq⟩ := List.getElem?_of_mem hx
        rw [List.getElem?_modify] at hq
        cases hlq : (tabK h n)[q]? with
        | none => simp [hlq] at hq
        | some y =>
          have hy := ih y (List.mem_of_getElem? hlq)
          simp [hlq] at hq
          split at hq
          · subst hq; rw [takeK_first]; omega
          · subst hq; omega
theorem tabK_grows {h : List Ev} (hr : (runL [] h).1 = h.length) (n i : Nat) (x : Kp) (hx : (tabK h n)[i]? = some x) : ∀ m,
    ∃ y, (tabK h (n + m))[i]? = some y ∧ y.t.first = x.t.first ∧ (2 ≤ x.t.state → y = x) ∧ (x.t.state < 2 → y.t.state < 2 ∨ (n : Int) ≤ y.t.last)
  | 0 => ⟨x, hx, rfl, fun _ => rfl, fun h => .inl h⟩
  | m + 1 => by
    obtain ⟨y, hy, hf, hs, hl⟩ := tabK_grows hr n i x hx m
    rcases tabK_step hr (n + m) i y hy with h1 | ⟨e, h2, h1⟩
    · exact ⟨y, h1, hf, hs, hl⟩
    · refine ⟨_, h1, (takeK_first _ _ _).trans hf, fun h2x => ?_, fun _ => .inr ?_⟩
      · have := hs h2x; subst this; omega
      · rw [takeK_last]; omega
theorem tabK_take (h : List Ev) (k : Nat) : ∀ n, n ≤ k → tabK (h.take k) n = tabK h n
  | 0, _ => rfl
  | n + 1, hn => by
    have hg : (h.take k)[n]? = h[n]? := by rw [List.getElem?_take, if_pos (by omega)]
    unfold tabK
    rw [hg, tabK_take h k n (by omega)]
theorem tableF_take (h : List Ev) (k : Nat) (hk : k ≤ h.length) : tableF (h.take k) = (tabK h k).map (·.t) := by
  unfold tableF
  rw [List.length_take, Nat.min_eq_left hk, tabK_take h k k (Nat.le_refl _)]
/-- The table of fewer events, within the table. -/
theorem table_grows {h : List Ev} (he : properErr h = 0) {k : Nat} (hk : k ≤ h.length) {i : Nat} {x : Txn} (hx : (tableF (h.take k))[i]? = some x) :
    ∃ y, (tableF h)[i]? = some y ∧ y.first = x.first ∧ x.first < k ∧ (2 ≤ x.state → y = x) ∧ (x.state < 2 → y.state < 2 ∨ (k : Int) ≤ y.last) := by
  rw [tableF_take h k hk, List.getElem?_map, Option.map_eq_some_iff] at hx
  obtain ⟨p, hp, rfl⟩ := hx
  obtain ⟨y, hy, h1, h2, h3⟩ := tabK_grows (runL_whole he) k i p hp (h.length - k)
  rw [show k + (h.length - k) = h.length by omega] at hy
  refine ⟨y.t, by rw [tableF, List.getElem?_map, hy]; rfl, h1, tabK_first h k p (List.mem_of_getElem? hp), fun hs => by rw [h2 hs], h3⟩
theorem table_len_grows {h : List Ev} (he : properErr h = 0) {k : Nat} (hk : k ≤ h.length) : (tableF (h.take k)).length ≤ (tableF h).length := by
  have := namesF_take h k
  rw [← tableF_names, ← tableF_names] at this
  simpa using this
theorem before_grows {h : List Ev} (he : properErr h = 0) {k : Nat} (hk : k ≤ h.length) {i j : Nat} (hi : i < (tableF (h.take k)).length) (hj : j < (tableF (h.take k)).length) :
    beforeB (tableF h) i j = beforeB (tableF (h.take k)) i j := by
  obtain ⟨x, hx⟩ := some_at hi
  obtain ⟨z, hz⟩ := some_at hj
  obtain ⟨x', hx', _, _, hx2, hx3⟩ := table_grows he hk hx
  obtain ⟨z', hz', hz1, hz0, _, _⟩ := table_grows he hk hz
  unfold beforeB
  rw [hx, hz, hx', hz']
  dsimp only
  rw [hz1]
  rcases Int.lt_or_le x.state 2 with hs | hs
  · have e1 : decide (2 ≤ x.state) = false := by simpa using hs
    rw [e1, Bool.false_and]
    rcases hx3 hs with h1 | h1
    · have e2 : decide (2 ≤ x'.state) = false := by simpa using h1
      rw [e2, Bool.false_and]
    · have e2 : decide (x'.last < z.first) = false := by simp; omega
      rw [e2, Bool.and_false]
  · rw [hx2 hs]
theorem ord_grows {h : List Ev} (he : properErr h = 0) {k : Nat} (hk : k ≤ h.length) {i a b : Nat} (hb : (ordF (tableF (h.take k)))[i]? = some b) (ha : (ordF (tableF h))[i]? = some a) :
    a &&& (2 ^ (tableF (h.take k)).length - 1) = b := by
  rw [ordF_get] at ha hb
  have hll := table_len_grows he hk
  split at hb
  · rename_i hi
    rw [if_pos (by omega)] at ha
    cases ha
    cases hb
    apply mkBits_ext
    intro j
    rw [Nat.testBit_and, Nat.testBit_two_pow_sub_one, testBit_mkBits]
    by_cases hj : j < (tableF (h.take k)).length
    · have : j < (tableF h).length := by omega
      simp only [hj, this, decide_true, Bool.true_and, Bool.and_true]
      exact before_grows he hk hi hj
    · simp [hj]
  · cases hb
end Go.Proofs.YtppkmhejeklegaaDoor
