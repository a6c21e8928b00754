/- Plain law: what before is. -/
import Derived.Test.YtppkmhejeklegaaDoorOrderG
import Derived.Test.YtppkmhejeklegaaDoorOrderK
namespace Go.Proofs.YtppkmhejeklegaaDoor
open Go.RowKit

/-- An entry of the next table: one of the last one, or one that goes on, or the new one. -/
theorem tabK_back (h : List Ev) (n i : Nat) (y : Kp) (hy : (tabK h (n + 1))[i]? = some y) :
    (tabK h n)[i]? = some y ∨ (∃ e x, (tabK h n)[i]? = some x ∧ y = takeK x n e) ∨ (∃ e, i = (tabK h n).length ∧ y = takeK (newK n e) n e) := by
  unfold tabK at hy
  cases he : h[n]? with
  | none => rw [he] at hy; exact .inl hy
  | some e =>
    rw [he] at hy
    dsimp only at hy
    unfold stepK at hy
    cases hf : (tabK h n).findIdx? (fun x => x.t.name == e.tx) with
    | none =>
      rw [hf] at hy
      dsimp only at hy
      rcases Nat.lt_or_ge i (tabK h n).length with hlt | hge
      · rw [List.getElem?_append_left hlt] at hy
        exact .inl hy
      · rw [List.getElem?_append_right hge] at hy
        obtain ⟨h1, h2⟩ := List.getElem?_eq_some_iff.1 hy
        have h0 : i = (tabK h n).length := by simp at h1; omega
        refine .inr (.inr ⟨e, h0, ?_⟩)
        subst h0
        simpa using h2.symm
    | some j =>
      rw [hf] at hy
      dsimp only at hy
      rw [List.getElem?_modify] at hy
      cases hx : (tabK h n)[i]? with
      | none => simp [hx] at hy
      | some x =>
        by_cases hji : j = i
        · simp [hx, hji] at hy
          exact .inr (.inl ⟨e, x, rfl, hy.symm⟩)
        · simp [hx, hji] at hy
          exact .inl (by rw [hy])
theorem tabK_ends (h : List Ev) : ∀ (n i : Nat) (x : Kp), (tabK h n)[i]? = some x → x.t.first ≤ x.t.last
  | 0, i, x, hx => by simp [tabK] at hx
  | n + 1, i, x, hx => by
    rcases tabK_back h n i x hx with h1 | ⟨e, y, h1, rfl⟩ | ⟨e, _, rfl⟩
    · exact tabK_ends h n i x h1
    · have := tabK_first h n y (List.mem_of_getElem? h1)
      rw [takeK_first, takeK_last]
      omega
    · rw [takeK_first, takeK_last]
      exact Int.le_refl _
theorem tabK_sorted (h : List Ev) : ∀ (n i j : Nat) (x y : Kp), i < j → (tabK h n)[i]? = some x → (tabK h n)[j]? = some y → x.t.first < y.t.first
  | 0, i, j, x, y, _, hx, _ => by simp [tabK] at hx
  | n + 1, i, j, x, y, hij, hx, hy => by
    have ih := tabK_sorted h n
    have old : ∀ k (z : Kp), k < (tabK h n).length → (tabK h (n + 1))[k]? = some z → ∃ z', (tabK h n)[k]? = some z' ∧ z'.t.first = z.t.first := by
      intro k z hk hz
      rcases tabK_back h n k z hz with h1 | ⟨e, z', h1, rfl⟩ | ⟨e, h1, rfl⟩
      · exact ⟨z, h1, rfl⟩
      · exact ⟨z', h1, (takeK_first _ _ _).symm⟩
      · omega
    have hil : i < (tabK h n).length := by
      rcases tabK_back h n j y hy with h1 | ⟨e, z', h1, _⟩ | ⟨e, h1, _⟩
      · have := (List.getElem?_eq_some_iff.1 h1).1; omega
      · have := (List.getElem?_eq_some_iff.1 h1).1; omega
      · omega
    obtain ⟨x', hx1, hx2⟩ := old i x hil hx
    rcases tabK_back h n j y hy with h1 | ⟨e, y', h1, rfl⟩ | ⟨e, h1, rfl⟩
    · have := ih i j x' y hij hx1 h1; omega
    · have := ih i j x' y' hij hx1 h1; rw [takeK_first]; omega
    · have := tabK_first h n x' (List.mem_of_getElem? hx1)
      rw [takeK_first]
      show _ < (n : Int)
      omega
theorem tableF_ends {h : List Ev} {i : Nat} {x : Txn} (hx : (tableF h)[i]? = some x) : x.first ≤ x.last := by
  unfold tableF at hx
  rw [List.getElem?_map, Option.map_eq_some_iff] at hx
  obtain ⟨p, hp, rfl⟩ := hx
  exact tabK_ends h _ i p hp
theorem tableF_sorted {h : List Ev} {i j : Nat} {x y : Txn} (hij : i < j) (hx : (tableF h)[i]? = some x) (hy : (tableF h)[j]? = some y) : x.first < y.first := by
  unfold tableF at hx hy
  rw [List.getElem?_map, Option.map_eq_some_iff] at hx hy
  obtain ⟨p, hp, rfl⟩ := hx
  obtain ⟨q, hq, rfl⟩ := hy
  exact tabK_sorted h _ i j p q hij hp hq
theorem beforeB_iff {l : List Txn} {i k : Nat} : beforeB l i k = true ↔ ∃ x y, l[i]? = some x ∧ l[k]? = some y ∧ 2 ≤ x.state ∧ x.last < y.first := by
  unfold beforeB
  constructor
  · intro h
    cases hx : l[i]? <;> cases hy : l[k]? <;> simp [hx, hy] at h
    exact ⟨_, _, rfl, rfl, h.1, h.2⟩
  · rintro ⟨x, y, hx, hy, h1, h2⟩
    simp [hx, hy, h1, h2]
theorem before_late (h : List Ev) {i j : Nat} (hij : j ≤ i) : beforeB (tableF h) i j = false := by
  cases hb : beforeB (tableF h) i j with
  | false => rfl
  | true =>
    obtain ⟨x, y, hx, hy, _, h2⟩ := beforeB_iff.1 hb
    have h3 := tableF_ends hx
    rcases Nat.lt_or_ge j i with hlt | hge
    · have := tableF_sorted hlt hy hx; omega
    · obtain rfl : i = j := by omega
      rw [hx] at hy
      cases hy
      omega
theorem before_trans (h : List Ev) {i k m : Nat} (h1 : beforeB (tableF h) i k = true) (h2 : beforeB (tableF h) k m = true) : beforeB (tableF h) i m = true := by
  obtain ⟨x, y, hx, hy, a1, a2⟩ := beforeB_iff.1 h1
  obtain ⟨y', z, hy', hz, _, b2⟩ := beforeB_iff.1 h2
  rw [hy] at hy'
  cases hy'
  have := tableF_ends hy
  exact beforeB_iff.2 ⟨x, z, hx, hz, a1, by omega⟩
theorem before_cross (h : List Ev) {i k m n : Nat} (h1 : beforeB (tableF h) i k = true) (h2 : beforeB (tableF h) m n = true) (h3 : beforeB (tableF h) i n = false) : beforeB (tableF h) m k = true := by
  obtain ⟨x, y, hx, hy, a1, a2⟩ := beforeB_iff.1 h1
  obtain ⟨u, v, hu, hv, b1, b2⟩ := beforeB_iff.1 h2
  refine beforeB_iff.2 ⟨u, y, hu, hy, b1, ?_⟩
  have : ¬ x.last < v.first := fun hlt => by
    rw [beforeB_iff.2 ⟨x, v, hx, hv, a1, hlt⟩] at h3
    cases h3
  omega
theorem befAt_ordF (l : List Txn) (i k : Nat) (hi : i < l.length) (hk : k < l.length) : befAt (ordF l) i k = beforeB l i k := by
  unfold befAt
  simp only [Int.toNat_natCast]
  rw [List.getD_eq_getElem?_getD, ordF_get, if_pos hi]
  simp [testBit_mkBits, hk]
/-- The table's own row. -/
def ownRow (n : Nat) : List Int := (List.range n).map (fun (i : Nat) => (i : Int))
theorem ownRow_get (n k : Nat) (hk : k < n) : (ownRow n)[k]? = some (k : Int) := by
  unfold ownRow
  rw [List.getElem?_map, range_get, if_pos hk]
  rfl
theorem ownRow_len (n : Nat) : (ownRow n).length = n := by simp [ownRow]
theorem keeps_own (h : List Ev) (hl : (tableF h).length ≤ 6) : ∀ d k, k + d = (tableF h).length → keepsR (ordF (tableF h)) (2 ^ k - 1) ((ownRow (tableF h).length).drop k) = true
  | 0, k, hk => by
    rw [List.drop_eq_nil_of_le (by rw [ownRow_len]; omega)]
    rfl
  | d + 1, k, hk => by
    have hkl : k < (tableF h).length := by omega
    rw [keepsR_step (ownRow_get _ k hkl)]
    have h1 : ((ordF (tableF h)).getD ((k : Int)).toNat 0 ||| 2 ^ ((k : Int)).toNat) &&& (2 ^ k - 1) = 0 := by
      apply Nat.eq_of_testBit_eq
      intro j
      rw [Int.toNat_natCast, List.getD_eq_getElem?_getD, ordF_get, if_pos hkl, Nat.testBit_and, Nat.testBit_two_pow_sub_one, Nat.testBit_or, Nat.testBit_two_pow]
      by_cases hj : j < k
      · simp [testBit_mkBits, before_late h (show j ≤ k by omega), hj, Nat.ne_of_gt hj]
      · simp [hj]
    have h2 : (2 ^ k - 1) ||| 2 ^ ((k : Int)).toNat = 2 ^ (k + 1) - 1 := by
      apply Nat.eq_of_testBit_eq
      intro j
      rw [Int.toNat_natCast, Nat.testBit_or, Nat.testBit_two_pow, Nat.testBit_two_pow_sub_one, Nat.testBit_two_pow_sub_one, Bool.eq_iff_iff]
      simp
      omega
    rw [if_pos h1, h2]
    exact keeps_own h hl d (k + 1) (by omega)
theorem keeps_own_all {h : List Ev} (he : properErr h = 0) : keepsE 0 (ordF (tableF h)) (ownRow (tableF h).length) = (true, 0) := by
  have h1 := keeps_own h (tableF_len he) _ 0 (Nat.zero_add _)
  have h2 : (ownRow (tableF h).length).any (fun i => !inRowB (ordF (tableF h)) i) = false := by
    rw [List.any_eq_false]
    intro i hi
    obtain ⟨j, hj, rfl⟩ := List.mem_map.1 hi
    have : j < (tableF h).length := by simpa using hj
    simp [inRowB, ordF_len, this]
  unfold keepsE
  rw [if_neg (by simp), h2]
  simpa using h1
end Go.Proofs.YtppkmhejeklegaaDoor
