/- The layers word and text: whether events may be, the names, and the library's searches in slices that they use. -/
import Derived.Test.YtppkmhejeklegaaDoorOwn
import Derived.Test.YtppkmhejeklegaaDoorFacts
namespace Go.Proofs.YtppkmhejeklegaaDoor
open Go.RowKit

set_option maxRecDepth 20000 in
set_option maxHeartbeats 400000 in
theorem indexInt_any (F : Nat → Prop) (A : Option Addr) (c : Nat) (xs : List Int) (v : Int) (w : World) (hE : Sl rI F w A c xs) :
   Calls Tryd.prog 101 #[.slice A xs.length c, .int .i64 v] w fun en w' => en = .returned (.int .i64 (idx (fun x => v == x) xs)) ∧ w = w' := by
  have hlim := hE.len
  go_enter Tryd.func101, Tryd.ntmps101
  go_wp2
  go_loop [5, 8] (fun _ i => ∃ k : Nat, k ≤ xs.length ∧ i = .int .i64 k ∧ (∀ j e, j < k → xs[j]? = some e → (v == e) = false)) (fun _ i => xs.length - (intOf i).toNat)
  case atStart => exact ⟨0, Nat.zero_le _, rfl, fun j e hj => absurd hj (Nat.not_lt_zero _)⟩
  case round =>
    obtain ⟨k, hk, rfl, hno⟩ := hrel
    have Hno := Lib.hid hno; clear hno
    by_cases hlt : k < xs.length
    · obtain ⟨e, he⟩ := some_at hlt
      obtain ⟨b, o, rfl, hb, hF, hc⟩ := hE.one_at he
      have He := Lib.hid he; clear he
      cases hpe : (v == e)
      · go_wp2
        go_round
        case rel => exact ⟨k + 1, by omega, by go_num, no_step Hno.out He.out hpe⟩
        case measure => simp [intOf]; omega
      · go_wp2
        go_ret
        exact ⟨by rw [idx_at He.out hpe Hno.out]; rfl, rfl⟩
    · go_wp2
      go_ret
      obtain rfl : k = xs.length := by omega
      exact ⟨by rw [idx_none Hno.out]; rfl, rfl⟩

theorem containsInt_any (F : Nat → Prop) (A : Option Addr) (c : Nat) (xs : List Int) (v : Int) (w : World) (hE : Sl rI F w A c xs) :
   Calls Tryd.prog 168 #[.slice A xs.length c, .int .i64 v] w fun en w' => en = .returned (.bool (decide (v ∈ xs))) ∧ w = w' := by
  go_enter Tryd.func168, Tryd.ntmps168
  go_wp2_with fail
  refine (indexInt_any F A c xs v w hE).mono ?_
  rintro en w2 ⟨rfl, rfl⟩
  go_wp2
  go_ret
  exact ⟨ret_bool (by rw [idx_ge, Bool.eq_iff_iff]; simp), rfl⟩

set_option maxRecDepth 20000 in
set_option maxHeartbeats 400000 in
theorem indexFuncEv_any (F : Nat → Prop) (A : Option Addr) (c : Nat) (h : List Ev) (fid : Nat) (cap : Array Value) (hcf : Enters Tryd.prog fid) (p : Ev → Bool) (w : World) (hE : Sl rEv F w A c h)
   (hp : ∀ e ∈ h, ∀ w1, Below w.heap.size w w1 → Calls Tryd.prog fid (#[evv e] ++ cap) w1 fun en w2 => en = .returned (.bool (p e)) ∧ Below w1.heap.size w1 w2) :
   Calls Tryd.prog 227 #[.slice A h.length c, .func (.func fid) #[] cap] w fun en w' => en = .returned (.int .i64 (idx p h)) ∧ Below w.heap.size w w' := by
  have hlim := hE.len
  have Hp := Lib.hid hp; clear hp
  unfold Enters at hcf
  go_enter Tryd.func227, Tryd.ntmps227
  go_wp2
  go_loopw [5, 8] (fun _ i wr => ∃ k : Nat, k ≤ h.length ∧ i = .int .i64 k ∧ (∀ j e, j < k → h[j]? = some e → p e = false) ∧ Below w.heap.size w wr) (fun _ i _ => h.length - (intOf i).toNat)
  case atStart => exact ⟨0, Nat.zero_le _, rfl, fun j e hj => absurd hj (Nat.not_lt_zero _), Below.refl _ _⟩
  case round =>
    obtain ⟨k, hk, rfl, hno, hB⟩ := hrel
    have Hno := Lib.hid hno; clear hno
    by_cases hlt : k < h.length
    · obtain ⟨e, he⟩ := some_at hlt
      obtain ⟨b, o, rfl, hb, hF, c0, c1, c2, c3⟩ := hE.ev_at he
      have d0 := (hB.cell (p := ⟨b, o + k * 4, none⟩) hb).trans c0
      have d1 := (hB.cell (p := ⟨b, o + k * 4 + 1, none⟩) hb).trans c1
      have d2 := (hB.cell (p := ⟨b, o + k * 4 + 2, none⟩) hb).trans c2
      have d3 := (hB.cell (p := ⟨b, o + k * 4 + 3, none⟩) hb).trans c3
      have He := Lib.hid he
      clear c0 c1 c2 c3 he
      go_wp2_with fail
      refine (Hp.out e (List.mem_of_getElem? He.out) wr hB).mono ?_
      rintro en w2 ⟨rfl, hB2⟩
      have hB' : Below w.heap.size w w2 := hB.next hB2
      cases hpe : p e
      · go_wp2
        go_roundw
        case rel => exact ⟨k + 1, by omega, by go_num, no_step Hno.out He.out hpe, hB'⟩
        case measure => simp [intOf]; omega
      · go_wp2
        go_ret
        exact ⟨by rw [idx_at He.out hpe Hno.out]; rfl, hB'⟩
    · go_wp2
      go_ret
      obtain rfl : k = h.length := by omega
      exact ⟨by rw [idx_none Hno.out]; rfl, hB⟩

theorem containsFuncEv_any (F : Nat → Prop) (A : Option Addr) (c : Nat) (h : List Ev) (fid : Nat) (cap : Array Value) (hcf : Enters Tryd.prog fid) (p : Ev → Bool) (w : World) (hE : Sl rEv F w A c h)
   (hp : ∀ e ∈ h, ∀ w1, Below w.heap.size w w1 → Calls Tryd.prog fid (#[evv e] ++ cap) w1 fun en w2 => en = .returned (.bool (p e)) ∧ Below w1.heap.size w1 w2) :
   Calls Tryd.prog 186 #[.slice A h.length c, .func (.func fid) #[] cap] w fun en w' => en = .returned (.bool (h.any p)) ∧ Below w.heap.size w w' := by
  have Hp := Lib.hid hp; clear hp
  go_enter Tryd.func186, Tryd.ntmps186
  go_wp2_with fail
  refine (indexFuncEv_any F A c h fid cap hcf p w hE Hp.out).mono ?_
  rintro en w2 ⟨rfl, hB⟩
  go_wp2
  go_ret
  exact ⟨ret_bool (idx_ge p h), hB⟩

def inB (a b c : Int) : Bool := decide (b ≤ a) && decide (a ≤ c)
theorem in_any (a b c : Int) (w : World) : Calls Tryd.prog 228 #[.int .i64 a, .int .i64 b, .int .i64 c] w fun e w' => e = .returned (.bool (inB a b c)) ∧ w = w' := by
  go_enter Tryd.func228, Tryd.ntmps228
  go_wp2
  all_goals
    go_ret
    exact ⟨ret_bool (by simp [inB, *]; try omega), rfl⟩

/-- Which kinds have a variable, a value. -/
def kvar (k : Int) : Bool := k == 2 || k == 4
def kval (k : Int) : Bool := k == 3 || k == 4
def kword (k : Nat) : ByteArray := ⟨(match k with
  | 0 => [98, 101, 103, 105, 110] | 1 => [98, 101, 103, 117, 110] | 2 => [114, 101, 97, 100] | 3 => [103, 111, 116] | 4 => [119, 114, 105, 116, 101] | 5 => [119, 114, 111, 116, 101]
  | 6 => [99, 111, 109, 109, 105, 116] | 7 => [99, 111, 109, 109, 105, 116, 116, 101, 100] | 8 => [99, 97, 110, 99, 101, 108] | _ => [97, 98, 111, 114, 116, 101, 100] : List UInt8).toArray⟩
/-- The table of kinds lies where the program laid it. -/
def Kinds (w : World) : Prop := 0 < w.heap.size ∧ ∀ i : Nat, i < 10 → w.cell? ⟨0, i * 3, none⟩ = some (.string (kword i)) ∧ w.cell? ⟨0, i * 3 + 1, none⟩ = some (.bool (kvar i)) ∧ w.cell? ⟨0, i * 3 + 2, none⟩ = some (.bool (kval i))
theorem Kinds.below {w w' : World} (h : Kinds w) (hb : Below w.heap.size w w') : Kinds w' :=
  ⟨Nat.lt_of_lt_of_le h.1 hb.size, fun i hi => let ⟨a, b, c⟩ := h.2 i hi; ⟨(hb.cell h.1).trans a, (hb.cell h.1).trans b, (hb.cell h.1).trans c⟩⟩
/-- May an event be? -/
def rightB (e : Ev) : Bool := inB e.kind 0 9 && inB e.tx 0 9999 && (inB e.var 0 7 && kvar e.kind || e.var == 0) && (inB e.val (-2147483648) 2147483647 && kval e.kind || e.val == 0)


set_option maxRecDepth 20000 in
set_option maxHeartbeats 1000000 in
theorem right_any (e : Ev) (w : World) (hK : Kinds w) : Calls Tryd.prog 188 #[evv e] w fun en w' => en = .returned (.bool (rightB e)) ∧ Below w.heap.size w w' := by
  unfold evv
  cases h1 : inB e.kind 0 9
  · go_enter Tryd.func188, Tryd.ntmps188
    go_wp2_with (go_at_call 228; refine (in_any _ _ _ _).mono ?_; rintro en w' ⟨rfl, rfl⟩)
    go_ret
    exact ⟨ret_bool (by simp [rightB, h1]), (Below.refl _ _).alloc (Nat.le_refl _) _⟩
  cases h2 : inB e.tx 0 9999
  · go_enter Tryd.func188, Tryd.ntmps188
    go_wp2_with (go_at_call 228; refine (in_any _ _ _ _).mono ?_; rintro en w' ⟨rfl, rfl⟩)
    go_ret
    exact ⟨ret_bool (by simp [rightB, h2]), (Below.refl _ _).alloc (Nat.le_refl _) _⟩
  have h1' : 0 ≤ e.kind ∧ e.kind ≤ 9 := by simpa [inB] using h1
  obtain ⟨kd, hkd⟩ := Int.eq_ofNat_of_zero_le h1'.1
  obtain ⟨c0, c1, c2⟩ := hK.2 kd (by omega)
  rw [hkd] at h1
  have hK0 := hK.1
  go_enter Tryd.func188, Tryd.ntmps188
  go_wp2_with (go_at_call 228; refine (in_any _ _ _ _).mono ?_; rintro en w' ⟨rfl, rfl⟩)
  all_goals
    go_ret
    exact ⟨ret_bool (by simp_all [rightB]), ((Below.refl _ _).alloc (Nat.le_refl _) _).alloc (by simp) _⟩

theorem enters_right1 : Enters Tryd.prog 187 := fun _ _ => by kernel_rfl
theorem right1_any (e : Ev) (w : World) (hK : Kinds w) : Calls Tryd.prog 187 #[evv e] w fun en w' => en = .returned (.bool (!rightB e)) ∧ Below w.heap.size w w' := by
  unfold evv
  go_enter Tryd.func187, Tryd.ntmps187
  go_wp2_with fail
  refine (right_any e _ (hK.below ((Below.refl _ _).alloc (Nat.le_refl _) _))).mono ?_
  rintro en w2 ⟨rfl, hB⟩
  go_wp2
  go_ret
  exact ⟨rfl, ((Below.refl _ _).alloc (Nat.le_refl _) _).next hB⟩

/-- The names, as they come. -/
def addName (acc : List Int) (e : Ev) : List Int := if e.tx ∈ acc then acc else acc ++ [e.tx]
def namesF (h : List Ev) : List Int := h.foldl addName []
theorem namesF_snoc (h : List Ev) (k : Nat) (e : Ev) (he : h[k]? = some e) : namesF (h.take (k + 1)) = addName (namesF (h.take k)) e := by
  unfold namesF
  rw [List.take_add_one, he]
  simp
theorem foldl_addName_len (l : List Ev) : ∀ acc : List Int, (l.foldl addName acc).length ≤ acc.length + l.length := by
  induction l with
  | nil => intro acc; simp
  | cons e l ih =>
    intro acc
    simp only [List.foldl_cons, List.length_cons]
    have h1 := ih (addName acc e)
    have h2 : (addName acc e).length ≤ acc.length + 1 := by unfold addName; split <;> simp
    omega
theorem namesF_len (h : List Ev) : (namesF h).length ≤ h.length := by simpa [namesF] using foldl_addName_len h []

set_option maxRecDepth 20000 in
set_option maxHeartbeats 1000000 in
theorem names_any (F : Nat → Prop) (A : Option Addr) (c : Nat) (h : List Ev) (w : World) (hE : Sl rEv F w A c h) (hn : h.length ≤ 1000) :
    Calls Tryd.prog 189 #[.slice A h.length c] w (RetSl rI w (namesF h)) := by
  have hlim := hE.len
  go_enter Tryd.func189, Tryd.ntmps189
  go_wp2
  go_loopw [3, 5, 8] (fun v _ i wr => ∃ k : Nat, k ≤ h.length ∧ i = .int .i64 k ∧ Own rI No w.heap.size 3 wr v (namesF (h.take k)) ∧ Below w.heap.size w wr) (fun _ _ i _ => h.length - (intOf i).toNat)
  case atStart => exact ⟨0, Nat.zero_le _, rfl, by simpa [namesF] using Own.nil rI No _ _ w, Below.refl _ _⟩
  case round =>
    obtain ⟨k, hk, rfl, hO, hB⟩ := hrel
    by_cases hlt : k < h.length
    · obtain ⟨e, he⟩ := some_at hlt
      obtain ⟨b, o, rfl, hb, hF, c0, c1, c2, c3⟩ := hE.ev_at he
      have d0 := (hB.cell (p := ⟨b, o + k * 4, none⟩) hb).trans c0
      have d1 := (hB.cell (p := ⟨b, o + k * 4 + 1, none⟩) hb).trans c1
      have d2 := (hB.cell (p := ⟨b, o + k * 4 + 2, none⟩) hb).trans c2
      have d3 := (hB.cell (p := ⟨b, o + k * 4 + 3, none⟩) hb).trans c3
      have Hs := Lib.hid (namesF_snoc h k e he)
      have hl := namesF_len (h.take k)
      have hl' : (namesF (h.take k)).length ≤ 1000 := by have := List.length_take_le k h; omega
      clear c0 c1 c2 c3 he hl
      generalize namesF (h.take k) = ns at *
      obtain ⟨A', c', rfl, hS⟩ := hO.toSl
      by_cases hm : e.tx ∈ ns
      · have hm' : decide (e.tx ∈ ns) = true := by simpa using hm
        clear hm
        go_wp2_with fail
        refine (containsInt_any _ A' c' ns e.tx _ (hS.mono (Fr.refl (fun _ => False) wr |>.alloc _) (fun _ _ h => h))).mono ?_
        rintro en w2 ⟨rfl, rfl⟩
        go_wp2
        go_roundw
        case rel => exact ⟨k + 1, by omega, by go_num, by rw [Hs.out, addName, if_pos (by simpa using hm')]; exact hO.alloc no_lt' _, hB.alloc hB.size _⟩
        case measure => simp [intOf]; omega
      · have hm' : decide (e.tx ∈ ns) = false := by simpa using hm
        clear hm
        go_wp2_with fail
        refine (containsInt_any _ A' c' ns e.tx _ (hS.mono (Fr.refl (fun _ => False) wr |>.alloc _) (fun _ _ h => h))).mono ?_
        rintro en w2 ⟨rfl, rfl⟩
        go_wp2_with (at_builtin; refine wpList_app rI No w.heap.size 3 (wr.alloc _) rfl _ _ 30 rfl Tryd.underlying30 info_int rfl (by decide) (by decide) (hO.alloc no_lt' _) e.tx _ rfl rfl no_lt rfl rfl (by simp) (by omega) (by have := hB.size; simp; omega) ?_; intro v1 w1 hO1 hf1 hb1 hs1)
        obtain ⟨A1, c1, rfl⟩ := hs1
        have hB1 : Below w.heap.size w w1 := (hB.alloc hB.size _).trans (hf1.below (by have := hB.size; simp; omega) (fun k _ hk => (hO.lt k hk.symm).1))
        go_wp2
        go_roundw
        case rel => exact ⟨k + 1, by omega, by go_num, by rw [Hs.out, addName, if_neg (by simpa using hm')]; exact hO1, hB1⟩
        case measure => simp [intOf]; omega
    · obtain rfl : k = h.length := by omega
      rw [List.take_length] at hO
      obtain ⟨A', c', rfl, hS⟩ := hO.toSl
      go_wp2
      go_ret
      exact ⟨A', c', rfl, hS.wide (fun k _ h => h.elim (fun f => f.elim) id), hB⟩

/-- May events be? -/
def RightB (h : List Ev) : Bool := decide (h.length ≤ 60) && (!h.any (fun e => !rightB e) && decide ((namesF h).length ≤ 6))

set_option maxRecDepth 20000 in
set_option maxHeartbeats 1000000 in
theorem Right_any (A : Option Addr) (c : Nat) (h : List Ev) (w : World) (hK : Kinds w) (hE : Sl rEv (· < w.heap.size) w A c h) :
    Calls Tryd.prog 133 #[.slice A h.length c] w fun en w' => en = .returned (.bool (RightB h)) ∧ Below w.heap.size w w' := by
  have hlim := hE.len
  by_cases h60 : h.length ≤ 60
  · have hK0 := Lib.hid hK
    clear hK
    cases h1 : h.any (fun e => !rightB e)
    · go_enter Tryd.func133, Tryd.ntmps133
      go_wp2_with fail
      refine (containsFuncEv_any _ A c h 187 #[] enters_right1 (fun e => !rightB e) w hE (fun e _ w1 hb => right1_any e w1 (hK0.out.below hb))).mono ?_
      rintro en w2 ⟨rfl, hB⟩
      rw [h1]
      go_wp2_with fail
      refine (names_any _ A c h w2 (hE.below hB) (by omega)).mono ?_
      rintro en w3 ⟨A', c', rfl, hS, hB2⟩
      go_wp2
      all_goals
        go_ret
        exact ⟨ret_bool (by simp [RightB, h1, h60]; try omega), hB.next hB2⟩
    · go_enter Tryd.func133, Tryd.ntmps133
      go_wp2_with fail
      refine (containsFuncEv_any _ A c h 187 #[] enters_right1 (fun e => !rightB e) w hE (fun e _ w1 hb => right1_any e w1 (hK0.out.below hb))).mono ?_
      rintro en w2 ⟨rfl, hB⟩
      rw [h1]
      go_wp2
      go_ret
      exact ⟨ret_bool (by simp [RightB, h1]), hB⟩
  · go_enter Tryd.func133, Tryd.ntmps133
    go_wp2
    go_ret
    exact ⟨ret_bool (by simp [RightB, h60]), Below.refl _ _⟩
end Go.Proofs.YtppkmhejeklegaaDoor
