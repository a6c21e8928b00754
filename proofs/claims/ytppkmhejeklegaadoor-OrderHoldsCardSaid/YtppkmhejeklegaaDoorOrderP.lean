/- Plain law of the table and of the order's rows: names, lengths, bits. -/
import Derived.Test.YtppkmhejeklegaaDoorOrder
namespace Go.Proofs.YtppkmhejeklegaaDoor
open Go.RowKit

theorem range_get (n a : Nat) : (List.range n)[a]? = if a < n then some a else none := by
  by_cases h : a < n
  · rw [if_pos h, List.getElem?_eq_getElem (by simpa using h)]; simp
  · rw [if_neg h, List.getElem?_eq_none (by simpa using h)]
theorem takeK_first (x : Kp) (i : Int) (e : Ev) : (takeK x i e).t.first = x.t.first := by
  unfold takeK
  repeat' split
  all_goals rfl
theorem takeK_last (x : Kp) (i : Int) (e : Ev) : (takeK x i e).t.last = i := by
  unfold takeK
  repeat' split
  all_goals rfl
theorem stepK_names (l : List Kp) (i : Int) (e : Ev) : (stepK l i e).map (·.t.name) = addName (l.map (·.t.name)) e := by
  unfold stepK addName
  cases hf : l.findIdx? (fun x => x.t.name == e.tx) with
  | none =>
    have : e.tx ∉ l.map (·.t.name) := by
      rw [List.findIdx?_eq_none_iff] at hf
      intro hm
      obtain ⟨x, hx, he⟩ := List.mem_map.1 hm
      simpa [he] using hf x hx
    simp [this, takeK_name, newK]
  | some j =>
    obtain ⟨hj, hp, _⟩ := List.findIdx?_eq_some_iff_getElem.1 hf
    have : e.tx ∈ l.map (·.t.name) := List.mem_map.2 ⟨l[j], List.getElem_mem hj, by simpa using hp⟩
    rw [if_pos this]
    apply List.ext_getElem?
    intro k
    simp only [List.getElem?_map, List.getElem?_modify]
    by_cases hjk : j = k
    · subst hjk; cases l[j]? <;> simp [takeK_name]
    · simp [hjk]
theorem tabK_names (h : List Ev) (n : Nat) : (tabK h n).map (·.t.name) = namesF (h.take n) := by
  induction n with
  | zero => simp [tabK, namesF]
  | succ n ih =>
    unfold tabK
    cases he : h[n]? with
    | none =>
      rw [List.take_add_one, he]
      simpa using ih
    | some e =>
      rw [namesF_snoc h n e he, ← ih]
      exact stepK_names _ _ _
theorem tableF_names (h : List Ev) : (tableF h).map (·.name) = namesF h := by
  have := tabK_names h h.length
  rw [List.take_length] at this
  rw [← this, tableF, List.map_map]
  rfl
theorem properErr_right {h : List Ev} (he : properErr h = 0) : RightB h = true := by
  unfold properErr at he
  split at he
  · assumption
  · cases he
theorem tableF_len {h : List Ev} (he : properErr h = 0) : (tableF h).length ≤ 6 := by
  have h1 := congrArg List.length (tableF_names h)
  have h2 := properErr_right he
  unfold RightB at h2
  simp at h1 h2
  omega

/-- The rows half way. -/
def outP (l : List Txn) (n i k : Nat) : List Nat := (List.range n).map fun a => if a < i then mkBits (beforeB l a) n else if a = i then mkBits (beforeB l a) k else 0
theorem outP_get (l : List Txn) (n i k a : Nat) : (outP l n i k)[a]? = if a < n then some (if a < i then mkBits (beforeB l a) n else if a = i then mkBits (beforeB l a) k else 0) else none := by
  unfold outP
  rw [List.getElem?_map, range_get]
  split <;> simp
theorem outF_row (l : List Txn) (n i : Nat) (hi : i < n) (h0 : outF l (twos n (rows n i)) = outP l n i 0) (k : Nat) (hk : k ≤ n) : outF l (twos n (rows n i ++ row i k)) = outP l n i k := by
  induction k with
  | zero => simpa [row] using h0
  | succ k ih =>
    have hkn : k < n := by omega
    rw [row_snoc, ← List.append_assoc, twos_snoc n _ (i, k) ⟨hi, hkn⟩, outF_snoc, ih (by omega)]
    unfold outStep
    dsimp only
    apply List.ext_getElem?
    intro a
    cases hb : beforeB l i k
    · rw [if_neg (by simp), outP_get, outP_get]
      congr 2
      by_cases ha : a = i
      · subst ha; simp [mkBits, hb]
      · simp [ha]
    · rw [if_pos rfl, List.getElem?_set, outP_get, outP_get, List.getD_eq_getElem?_getD, outP_get]
      by_cases ha : i = a
      · subst ha; simp [mkBits, hb, hi, outP]
      · have ha' : ¬ a = i := fun e => ha e.symm
        simp [ha, ha']
theorem outF_rows (l : List Txn) (n : Nat) (i : Nat) (hi : i ≤ n) : outF l (twos n (rows n i)) = outP l n i 0 := by
  induction i with
  | zero =>
    apply List.ext_getElem?
    intro a
    rw [outP_get]
    by_cases ha : a < n
    · simp only [rows, twos, outF]
      by_cases h0 : a = 0
      · subst h0; simp [mkBits, ha]
      · simp [ha, h0]
    · simp [rows, twos, outF, ha]
  | succ i ih =>
    rw [rows_snoc, outF_row l n i (by omega) (ih (by omega)) n (Nat.le_refl _)]
    apply List.ext_getElem?
    intro a
    rw [outP_get, outP_get]
    congr 2
    by_cases h1 : a < i
    · have : a < i + 1 := by omega
      simp [h1, this]
    · by_cases h2 : a = i
      · subst h2; simp
      · have h3 : ¬ a < i + 1 := by omega
        simp [h1, h2, h3, mkBits]
/-- The order's rows. -/
def ordF (l : List Txn) : List Nat := (List.range l.length).map fun i => mkBits (beforeB l i) l.length
theorem outF_all (l : List Txn) : outF l (twos l.length (rows l.length l.length)) = ordF l := by
  rw [outF_rows l _ _ (Nat.le_refl _)]
  apply List.ext_getElem?
  intro a
  rw [outP_get, ordF, List.getElem?_map, range_get]
  by_cases h : a < l.length <;> simp [h]
theorem ordF_len (l : List Txn) : (ordF l).length = l.length := by simp [ordF]
theorem ordF_get (l : List Txn) (i : Nat) : (ordF l)[i]? = if i < l.length then some (mkBits (beforeB l i) l.length) else none := by
  rw [ordF, List.getElem?_map, range_get]
  by_cases h : i < l.length <;> simp [h]
def ordE (h : List Ev) : List Nat := if properErr h = 0 then ordF (tableF h) else []

theorem after_any (A : Option Addr) (c : Nat) (l : List Txn) (w : World) (hE : Sl rTx (· < w.heap.size) w A c l) (hn : l.length ≤ 32) :
    Calls Tryd.prog 86 #[.slice A l.length c] w (RetSl rN w (ordF l)) := by
  have := (callsIn_wide (n := 9)).1 (after_in A c l w hE hn)
  rwa [outF_all] at this

set_option maxRecDepth 20000 in
set_option maxHeartbeats 1000000 in
theorem After_any (A : Option Addr) (c : Nat) (h : List Ev) (w : World) (hK : Kinds w) (hE : Sl rEv (· < w.heap.size) w A c h) :
    Calls Tryd.prog 22 #[.slice A h.length c] w (RetSlE rN w (ordE h) (properErr h)) := by
  have hlim := hE.len
  have hT := Lib.hid (Table_all A c h w hK hE)
  by_cases he : properErr h = 0
  · have ht : tabE h = tableF h := by unfold tabE; rw [if_pos he]
    have ho : ordE h = ordF (tableF h) := by unfold ordE; rw [if_pos he]
    have hl := tableF_len he
    rw [ht, he] at hT
    rw [ho, he]
    clear ht ho he
    generalize tableF h = l at *
    go_enter Tryd.func22, Tryd.ntmps22
    go_wp2_with fail
    refine hT.out.mono ?_
    rintro en w1 ⟨A1, c1, rfl, hS, hB⟩
    have hS' := hS.wide (F' := (· < w1.heap.size)) (fun k hk _ => hk)
    have hlim1 := hS.len
    go_wp2_with fail
    refine (after_any A1 c1 l w1 hS' (by omega)).mono ?_
    rintro en w2 ⟨A2, c2, rfl, hS2, hB2⟩
    have hol := ordF_len l
    go_wp2
    go_ret2
    exact ⟨A2, c2, by rw [hol]; rfl, hS2.wide (fun k _ hk => Nat.le_trans hB.size hk), hB.next hB2⟩
  · have ht : tabE h = [] := by unfold tabE; rw [if_neg he]
    have ho : ordE h = [] := by unfold ordE; rw [if_neg he]
    have hc : (properErr h != 0) = true := by simpa using he
    rw [ht] at hT
    rw [ho]
    clear ht ho he
    generalize properErr h = er at *
    go_enter Tryd.func22, Tryd.ntmps22
    go_wp2_with fail
    refine hT.out.mono ?_
    rintro en w1 ⟨A1, c1, rfl, hS, hB⟩
    go_wp2
    go_ret2
    exact ⟨none, 0, rfl, Sl.nil rN _ _ _ _ (by decide), hB⟩
end Go.Proofs.YtppkmhejeklegaaDoor
