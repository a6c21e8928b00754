/- Layer order: what is before what. -/
import Derived.Test.YtppkmhejeklegaaDoorTableT
import Derived.Test.YtppkmhejeklegaaDoorIter
import Derived.Test.YtppkmhejeklegaaDoorU32
namespace Go.Proofs.YtppkmhejeklegaaDoor
open Go.RowKit Go.Shelf
attribute [local go_sem] Oper.semAt_some

theorem pairs_any (n : Nat) (w : World) : Calls Tryd.prog 143 #[.int .i64 n] w fun en w' => en = .returned (.func (.func 195) #[] #[.pointer (some ⟨w.heap.size, 0, none⟩)]) ∧ w' = w.alloc (.cells #[.int .i64 n] 3) := by
  go_enter Tryd.func143, Tryd.ntmps143
  go_wp2
  go_ret
  exact ⟨rfl, rfl⟩

/-- Two places of n. -/
abbrev Two (n : Nat) := { p : Nat × Nat // p.1 < n ∧ p.2 < n }
def mkTwo (n : Nat) (p : Nat × Nat) : Option (Two n) := if h : p.1 < n ∧ p.2 < n then some ⟨p, h⟩ else none
def row (i k : Nat) : List (Nat × Nat) := (List.range k).map fun b => (i, b)
def rows (n i : Nat) : List (Nat × Nat) := (List.range i).flatMap fun a => row a n
theorem row_snoc (i k : Nat) : row i (k + 1) = row i k ++ [(i, k)] := by simp [row, List.range_succ]
theorem rows_snoc (n i : Nat) : rows n (i + 1) = rows n i ++ row i n := by simp [rows, List.range_succ]
theorem row_len (i k : Nat) : (row i k).length = k := by simp [row]
theorem rows_len (n i : Nat) : (rows n i).length = i * n := by
  induction i with
  | zero => simp [rows]
  | succ i ih => rw [rows_snoc, List.length_append, ih, row_len, Nat.succ_mul]
def twos (n : Nat) (l : List (Nat × Nat)) : List (Two n) := l.filterMap (mkTwo n)
theorem twos_len (n : Nat) (l : List (Nat × Nat)) : (twos n l).length ≤ l.length := List.length_filterMap_le _ _
theorem twos_snoc (n : Nat) (l : List (Nat × Nat)) (p : Nat × Nat) (h : p.1 < n ∧ p.2 < n) : twos n (l ++ [p]) = twos n l ++ [⟨p, h⟩] := by
  unfold twos
  rw [List.filterMap_append]
  simp [mkTwo, h]

abbrev encP {n : Nat} (p : Two n) : Array Value := #[.int .i64 (p.1.1 : Int), .int .i64 (p.1.2 : Int)]

set_option maxRecDepth 20000 in
set_option maxHeartbeats 1000000 in
theorem pairs_stops (F : Fence) (m : Nat) (h5 : F.fn 195) (hro : F.round = none) (hm : 1 ≤ m) (n b : Nat) (w : World) (hn : n ≤ 1000) (hc : w.cell? ⟨b, 0, none⟩ = some (.int .i64 n)) (hb : b < w.heap.size) :
    SeqStopsK F m Tryd.prog 195 #[.pointer (some ⟨b, 0, none⟩)] (encP (n := n)) (KeepC b) (fun xs => xs = twos n (rows n n)) (fun _ => True) (n * n) w := fun l J Jx W hW _ _ hY h0 => by
  have hc' : W.cell? ⟨b, 0, none⟩ = some (.int .i64 n) := (hW.cell (p := ⟨b, 0, none⟩) hb).trans hc
  refine callsIn_of_wp Tryd.func195 rfl h5 ?_ hro
  simp only [Tryd.ntmps195, List.size_toArray, List.length_cons, List.length_nil, Nat.reduceAdd, Nat.reduceSub, Array.replicate_succ, Array.replicate_zero, List.push_toArray, List.append_toArray, List.nil_append, List.cons_append]
  gi_wp2
  gi_loopw [6] (fun i wr => ∃ i' : Nat, i' ≤ n ∧ i = .int .i64 i' ∧ J (twos n (rows n i')) wr ∧ wr.cell? ⟨b, 0, none⟩ = some (.int .i64 n)) (fun i _ => n - (intOf i).toNat)
  case atStart => exact ⟨0, Nat.zero_le _, rfl, h0, hc'⟩
  case round =>
    clear hc' hc h0
    obtain ⟨i, hi, rfl, hJ, hc⟩ := hrel
    by_cases hlt : i < n
    · obtain ⟨wo, rfl⟩ : ∃ wo : World, wo = wr := ⟨_, rfl⟩
      gi_wp2
      gi_loopw [10] (fun k wr => ∃ k' : Nat, k' ≤ n ∧ k = .int .i64 k' ∧ J (twos n (rows n i ++ row i k')) wr ∧ wr.cell? ⟨b, 0, none⟩ = some (.int .i64 n)) (fun k _ => n - (intOf k).toNat)
      case atStart => exact ⟨0, Nat.zero_le _, rfl, by simpa [row] using hJ, hc⟩
      case round =>
        clear hJ hc
        obtain ⟨k, hk, rfl, hJ, hc⟩ := hrel
        by_cases hlk : k < n
        · have hlen : (twos n (rows n i ++ row i k)).length < n * n := by
            refine Nat.lt_of_le_of_lt (twos_len _ _) ?_
            rw [List.length_append, rows_len, row_len]
            have : i * n + n ≤ n * n := by rw [← Nat.succ_mul]; exact Nat.mul_le_mul_right _ hlt
            omega
          obtain ⟨f1, t1, a1, b1, hy1, hR1⟩ := hY _ ⟨(i, k), hlt, hlk⟩ wr hJ hlen
          have Hk := Lib.hid hlen; clear hlen
          dsimp only [encP] at hy1
          gi_wp2
          refine hR1.mono ?_
          rintro e W1 (⟨rfl, hJ1, hK1⟩ | ⟨rfl, hx1⟩)
          · have hc1 := hK1 _ hc
            gi_wp2
            go_roundw
            case rel => exact ⟨k + 1, by omega, by go_num, by rw [row_snoc, ← List.append_assoc, twos_snoc n _ (i, k) ⟨hlt, hlk⟩]; exact hJ1, hc1⟩
            case measure => simp [intOf]; omega
          · gi_wp2
            refine bodyPost_ret (results_none rfl _ _ _) rfl ?_
            exact ⟨⟨_, rfl⟩, .inr ⟨_, trivial, hx1⟩⟩
        · obtain rfl : k = n := by omega
          gi_wp2
          go_roundw
          case rel => exact ⟨i + 1, by omega, by go_num, by rw [rows_snoc]; exact hJ, hc⟩
          case measure => simp [intOf]; omega
    · obtain rfl : i = n := by omega
      gi_wp2
      go_end0
      exact ⟨⟨_, rfl⟩, .inl ⟨_, rfl, hJ⟩⟩


/-- Does one end before another one begins? -/
def beforeB (l : List Txn) (i k : Nat) : Bool := match l[i]?, l[k]? with
  | some a, some b => decide (2 ≤ a.state) && decide (a.last < b.first)
  | _, _ => false
def outStep {n : Nat} (l : List Txn) (out : List Nat) (p : Two n) : List Nat := if beforeB l p.1.1 p.1.2 then out.set p.1.1 (out.getD p.1.1 0 ||| 2 ^ p.1.2) else out
def outF {n : Nat} (l : List Txn) (pre : List (Two n)) : List Nat := pre.foldl (outStep l) (List.replicate n 0)
theorem outF_snoc {n : Nat} (l : List Txn) (pre : List (Two n)) (x : Two n) : outF l (pre ++ [x]) = outStep l (outF l pre) x := by simp [outF]
theorem outF_len {n : Nat} (l : List Txn) (pre : List (Two n)) : (outF l pre).length = n := by
  unfold outF
  suffices h : ∀ (pre : List (Two n)) (o : List Nat), o.length = n → (pre.foldl (outStep l) o).length = n from h pre _ (by simp)
  intro pre
  induction pre with
  | nil => intro o h; exact h
  | cons x r ih => intro o h; exact ih _ (by unfold outStep; split <;> simp [h])
def u32s (l : List Nat) : Array Value := (l.map (fun (n : Nat) => Value.int .u32 (n : Int))).toArray
theorem outF_lt {n : Nat} (hn : n ≤ 32) (l : List Txn) (pre : List (Two n)) : ∀ v ∈ outF l pre, v < 4294967296 := by
  unfold outF
  suffices h : ∀ (pre : List (Two n)) (o : List Nat), (∀ v ∈ o, v < 4294967296) → ∀ v ∈ pre.foldl (outStep l) o, v < 4294967296 from h pre _ (by intro v hv; rw [List.mem_replicate] at hv; omega)
  intro pre
  induction pre with
  | nil => intro o h; exact h
  | cons x r ih =>
    intro o h
    refine ih _ ?_
    unfold outStep
    split
    · intro v hv
      rcases List.mem_or_eq_of_mem_set hv with hv | hv
      · exact h v hv
      · subst hv
        refine or_lt ?_ (pow_lt (by have := x.2.2; omega))
        rw [List.getD_eq_getElem?_getD]
        cases he : o[x.1.1]? with
        | none => simp
        | some y => exact h y (List.mem_of_getElem? he)
    · exact h
theorem u32s_set (l : List Nat) (i v : Nat) : u32s (l.set i v) = (u32s l).setIfInBounds i (.int .u32 (v : Int)) := by
  simp [u32s, List.map_set]

set_option maxRecDepth 20000 in
set_option maxHeartbeats 2000000 in
theorem after_in (A : Option Addr) (c : Nat) (l : List Txn) (w : World) (hE : Sl rTx (· < w.heap.size) w A c l) (hn : l.length ≤ 32) :
    CallsIn Fence.wide 9 Tryd.prog 86 #[.slice A l.length c] w (RetSl rN w (outF l (twos l.length (rows l.length l.length)))) := by
  have hlim := hE.len
  have h1 : 1 ≤ 9 := by decide
  refine callsIn_of_wp_marks Tryd.func86 rfl trivial ?_ rfl
  simp only [Tryd.ntmps86, List.size_toArray, List.length_cons, List.length_nil, Nat.reduceAdd, Nat.reduceSub, Array.replicate_succ, Array.replicate_zero, List.push_toArray, List.append_toArray, List.nil_append, List.cons_append]
  have hmk := fun W => run_make_rep (P := Tryd.prog) 23 28 (.int .u32 0) Tryd.underlying23 info_u32 rfl l.length (by omega) (by omega) W
  gi_wp2_with (refine ⟨trivial, ?_⟩; gi_at_call 143; refine (callsIn_wide.2 (pairs_any _ _)).mono ?_; rintro e w' ⟨rfl, rfl⟩)
  obtain ⟨W0, hW0, hx0, hx1, hx2, hx3, hB0⟩ : ∃ W0, (((w.alloc (.cells #[.slice A l.length c] 35)).alloc (.cells (Array.replicate l.length (.int .u32 0)) 28)).alloc (.cells #[.slice (some ⟨w.heap.size + 1, 0, none⟩) l.length l.length] 23)).alloc (.cells #[.int .i64 l.length] 3) = W0 ∧
      Blk W0 w.heap.size 35 #[.slice A l.length c] ∧ Blk W0 (w.heap.size + 1) 28 (u32s (List.replicate l.length 0)) ∧ Blk W0 (w.heap.size + 2) 23 #[.slice (some ⟨w.heap.size + 1, 0, none⟩) l.length l.length] ∧ Blk W0 (w.heap.size + 3) 3 #[.int .i64 l.length] ∧ Below w.heap.size w W0 := by
    have e1 : ∀ o : Obj, (w.alloc o).heap.size = w.heap.size + 1 := fun o => by simp
    refine ⟨_, rfl, (((Blk.new w _ _).alloc _).alloc _).alloc _, ?_, ?_, ?_, ((((Below.refl _ _).alloc (Nat.le_refl _) _).alloc (by simp) _).alloc (by simp; omega) _).alloc (by simp; omega) _⟩
    · have := ((Blk.new (w.alloc (.cells #[.slice A l.length c] 35)) (Array.replicate l.length (.int .u32 0)) 28).alloc (.cells #[.slice (some ⟨w.heap.size + 1, 0, none⟩) l.length l.length] 23)).alloc (.cells #[.int .i64 l.length] 3)
      simpa [u32s] using this
    · have := (Blk.new ((w.alloc (.cells #[.slice A l.length c] 35)).alloc (.cells (Array.replicate l.length (.int .u32 0)) 28)) #[.slice (some ⟨w.heap.size + 1, 0, none⟩) l.length l.length] 23).alloc (.cells #[.int .i64 l.length] 3)
      simpa using this
    · have := Blk.new (((w.alloc (.cells #[.slice A l.length c] 35)).alloc (.cells (Array.replicate l.length (.int .u32 0)) 28)).alloc (.cells #[.slice (some ⟨w.heap.size + 1, 0, none⟩) l.length l.length] 23)) #[.int .i64 l.length] 3
      simpa using this
  gi_wp2
  rw [hW0]
  simp only [Nat.add_assoc, Nat.reduceAdd]
  clear hW0 hmk
  refine wpIn_rangeFunc_ownF rfl h1 (gf := 195) (lb := #[.pointer (some ⟨w.heap.size + 3, 0, none⟩)]) rfl trivial (enters_of Tryd.func195 (by kernel_rfl) rfl)
    (pairs_stops Fence.wide (9 - 1) trivial rfl (by decide) l.length (w.heap.size + 3) W0 (by omega) (hx3.cell 0 rfl) hx3.lt) keepC_t keepC_b (Below.refl _ _) (fun _ => rfl)
    (fun pre W => (Blk W w.heap.size 35 #[.slice A l.length c] ∧ Blk W (w.heap.size + 1) 28 (u32s (outF l pre))) ∧ (Blk W (w.heap.size + 2) 23 #[.slice (some ⟨w.heap.size + 1, 0, none⟩) l.length l.length] ∧ Below w.heap.size w W))
    (fun _ _ _ => False)
    (((ownFrom_blk _ _ _ _).and (ownFrom_blk _ _ _ _)).and ((ownFrom_blk _ _ _ _).and (ownFrom_below (Nat.le_refl _) hB0.size)))
    (fun _ => ownFrom_false _)
    ⟨⟨hx0, hx1⟩, hx2, hB0⟩
    (fun x => { tmps := #[.slice A l.length c, .pointer (some ⟨w.heap.size, 0, none⟩), .slice none 0 0, .pointer (some ⟨w.heap.size + 2, 0, none⟩), .int .i64 (x.1.1 : Int), .int .i64 (x.1.2 : Int), .slice A l.length c, .int .i64 l.length, .slice (some ⟨w.heap.size + 1, 0, none⟩) l.length l.length, .slice A l.length c, .int .i64 l.length, .func (.func 195) #[] #[.pointer (some ⟨w.heap.size + 3, 0, none⟩)], .int .i64 (x.1.1 : Int), .int .i64 (x.1.2 : Int), undef, undef, undef, undef, undef, undef, undef, undef, undef, undef, undef, undef, undef, undef, undef, undef, undef, undef, undef, undef, undef, undef, undef, undef, undef, undef, undef, undef], defers := [] }) ?assign ?body ?done ?stop
  case assign =>
    intro l' x W K hK
    gi_wp2
    exact hK
  case stop =>
    rintro D c' pre W _ _ h _
    exact h.elim
  case done =>
    rintro D xs W hD rfl ⟨⟨h0, h1⟩, h2, hB⟩ hK
    have e2 : W.cell? ⟨w.heap.size + 2, 0, none⟩ = some (.slice (some ⟨w.heap.size + 1, 0, none⟩) l.length l.length) := h2.cell 0 rfl
    gi_wp2
    refine ⟨by simp, .inl ⟨_, _, rfl, run_takeDeferred hK, ?_⟩⟩
    refine ⟨_, results_tmp rfl _ _ _, ?_⟩
    have hg := grownBy_putObj' W D (.deferred none)
    have hr : ∀ r, some D = some r → ∃ o : Obj, W.heap[r]? = some o ∧ o.isCells = false := fun r e => by cases e; exact ⟨_, hK, rfl⟩
    have hS := Sl.of_blk (enc := fun (n : Nat) => Value.int .u32 (n : Int)) (F := fun k => w.heap.size ≤ k) (h1.turn hg hr) (by omega) (by rw [outF_len]; omega)
    exact ⟨_, _, by rw [outF_len]; rfl, hS, hB.trans (belowK_b (w := w) (Nat.le_refl _) W D _ _ (Nat.le_trans hB0.size hD) hK rfl rfl)⟩
  case body =>
    rintro l' pre x W ⟨⟨h0, h1⟩, h2, hB⟩ hlen
    clear hlen hx0 hx1 hx2 hx3
    obtain ⟨⟨i, k⟩, hi, hk⟩ := x
    dsimp only at hi hk ⊢
    obtain ⟨ti, hti⟩ := some_at hi
    obtain ⟨tk, htk⟩ := some_at hk
    have hEW := hE.below hB
    obtain ⟨b, o, A1, c1, rfl, hb, _, _, _, _, i2, i3, _⟩ := hEW.tx_at hti
    obtain ⟨b', o', A2, c2, hA, _, _, _, _, k1, _, _, _⟩ := hEW.tx_at htk
    cases hA
    have e0 : W.cell? ⟨w.heap.size, 0, none⟩ = some (.slice (some ⟨b, o, none⟩) l.length c) := h0.cell 0 rfl
    have e2 : W.cell? ⟨w.heap.size + 2, 0, none⟩ = some (.slice (some ⟨w.heap.size + 1, 0, none⟩) l.length l.length) := h2.cell 0 rfl
    have Hti := Lib.hid hti
    have Htk := Lib.hid htk
    clear hti htk hEW hE
    have hmx : Tryd.prog.follows .mixedOrders = true := by kernel_rfl
    have hol : i < (outF l pre).length := by rw [outF_len]; exact hi
    obtain ⟨ov, hov⟩ := some_at hol
    have eo : W.cell? ⟨w.heap.size + 1, i, none⟩ = some (.int .u32 (ov : Int)) := h1.cell i (by simp [u32s, hov])
    have fo := h1.free i
    have Hov := Lib.hid hov
    clear hov
    have hno : ∀ (m : Nat) (ac : Act), beforeB l i k = false → ownPostK (KeepC (w.heap.size + 3)) (fun pre W => (Blk W w.heap.size 35 #[.slice (some ⟨b, o, none⟩) l.length c] ∧ Blk W (w.heap.size + 1) 28 (u32s (outF l pre))) ∧ (Blk W (w.heap.size + 2) 23 #[.slice (some ⟨w.heap.size + 1, 0, none⟩) l.length l.length] ∧ Below w.heap.size w W))
        (fun _ _ _ => False) (pre ++ [(⟨(i, k), hi, hk⟩ : Two l.length)]) W .normal ac (W.drewN m) := by
      intro m ac hbf
      refine ⟨KeepsOthers.drewN _ _, KeepC.drewN _ _ _, ⟨h0.drewN m, ?_⟩, h2.drewN m, hB.drewN m⟩
      rw [outF_snoc]
      unfold outStep
      rw [if_neg (by simp [hbf])]
      exact h1.drewN m
    have hyes : ∀ (m : Nat) (ac : Act), beforeB l i k = true → ownPostK (KeepC (w.heap.size + 3)) (fun pre W => (Blk W w.heap.size 35 #[.slice (some ⟨b, o, none⟩) l.length c] ∧ Blk W (w.heap.size + 1) 28 (u32s (outF l pre))) ∧ (Blk W (w.heap.size + 2) 23 #[.slice (some ⟨w.heap.size + 1, 0, none⟩) l.length l.length] ∧ Below w.heap.size w W))
        (fun _ _ _ => False) (pre ++ [(⟨(i, k), hi, hk⟩ : Two l.length)]) W .normal ac ((W.drewN m).setCell ⟨w.heap.size + 1, i, none⟩ (.int .u32 (bits .or .u32 (ov : Int) (IntKind.u32.wrap (2 ^ k))))) := by
      intro m ac hbf
      have hlt : ov < 4294967296 := outF_lt hn l pre ov (List.mem_of_getElem? Hov.out)
      have hv : bits .or .u32 (ov : Int) (IntKind.u32.wrap (2 ^ k)) = ((ov ||| 2 ^ k : Nat) : Int) := by
        have h2k := shl_one k (by omega)
        rw [Int.one_mul] at h2k
        rw [h2k, bits_or_u32 _ _ hlt (pow_lt (by omega))]
      rw [hv]
      refine ⟨(KeepsOthers.drewN W m).trans (KeepsOthers.setCell _ _ _), keepC_t (KeepC.drewN _ W m) (KeepC.setCell _ (by simp) _), ⟨(h0.drewN m).other (by omega) _ _, ?_⟩, (h2.drewN m).other (by omega) _ _, (hB.drewN m).setCell (by simp) _⟩
      rw [outF_snoc]
      unfold outStep
      rw [if_pos hbf]
      simp only
      rw [List.getD_eq_getElem?_getD, Hov.out]
      simp only [Option.getD_some]
      rw [u32s_set]
      exact (h1.drewN m).set i _
    by_cases hs : 2 ≤ ti.state
    · by_cases hl : ti.last < tk.first
      · have hbf := Lib.hid (fun m ac => hyes m ac (by unfold beforeB; rw [Hti.out, Htk.out]; simp [hs, hl]))
        clear hyes hno
        gi_wp2
        refine wpIn_round_quiet (by kernel_rfl) (by kernel_rfl) (by kernel_rfl) ?_
        repeat (first | gi_big_quiet_step (fail) | quiet_step_in (fail))
        refine wpQuietIn_nil ?_
        rintro _ ⟨nq, rfl⟩
        gi_wp2
        gi_region_o
        all_goals gi_wp2
        all_goals exact hbf.out _ _
      · have hbf := Lib.hid (fun m ac => hno m ac (by unfold beforeB; rw [Hti.out, Htk.out]; simp [hs, hl]))
        clear hyes hno
        have hl' : tk.first ≤ ti.last := by omega
        gi_wp2
        refine wpIn_round_quiet (by kernel_rfl) (by kernel_rfl) (by kernel_rfl) ?_
        repeat (first | gi_big_quiet_step (fail) | quiet_step_in (fail))
        refine wpQuietIn_nil ?_
        rintro _ ⟨nq, rfl⟩
        gi_wp2
        exact hbf.out _ _
    · have hbf := Lib.hid (fun m ac => hno m ac (by unfold beforeB; rw [Hti.out, Htk.out]; simp [hs]))
      clear hyes hno
      have hs' : decide (2 ≤ ti.state) = false := by simpa using hs
      gi_wp2
      refine wpIn_round_quiet (by kernel_rfl) (by kernel_rfl) (by kernel_rfl) ?_
      repeat (first | gi_big_quiet_step (fail) | quiet_step_in (fail))
      refine wpQuietIn_nil ?_
      rintro _ ⟨nq, rfl⟩
      gi_wp2
      exact hbf.out _ _
end Go.Proofs.YtppkmhejeklegaaDoor
