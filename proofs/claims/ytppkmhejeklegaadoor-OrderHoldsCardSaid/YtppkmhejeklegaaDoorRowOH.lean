/- The row and the tied card of OrderHolds. -/
import Derived.Test.YtppkmhejeklegaaDoorRowF
import Derived.Test.YtppkmhejeklegaaDoorLawOHd
import Derived.Test.YtppkmhejeklegaaDoorTie
import Derived.Test.YtppkmhejeklegaaDoorCards
import Derived.SevenTiedAt
import Derived.ProofKit
import Derived.SizedLaws
import Derived.Lay
namespace Go.Proofs.YtppkmhejeklegaaDoor
open Go.ChangeShapes Go.WideShapes Go.ChangeAt Go.RowKit

set_option maxRecDepth 100000 in
theorem orderHolds_lifted (os : Os) (started : os.Started) (H : Type) (enc : TypeId × Value → H) :
    ReturnsInHanded {} Tryd.checked os 5 .any (fun w args => (Rows.orderHoldsSpec.pre enc Tryd.prog Tryd.f5 Rows.orderHoldsRow.domain false w args ∧ laidMetH Tryd.prog laidKinds w) ∧ sizedMet enc Tryd.prog Tryd.f5 (OpenSpec.ofChange Rows.orderHoldsSpec) false w args)
      (Rows.orderHoldsSpec.post enc Tryd.prog Tryd.f5 false true false false) := by
  refine returnsInHanded_of_change_and (C := Tryd.checked) (X := fun w _ => laidMetH Tryd.prog laidKinds w) (fun _ _ _ hh h => h.of_heap hh) own started (by kernel_rfl) Tryd.func5
    (ChangeSpec.witness_shaped (enc := enc) (C := Tryd.checked) (os := os) (X := fun w _ => laidMetH Tryd.prog laidKinds w) false (World.laidAll Tryd.prog os laidKinds) #[.slice none 0 0, .int .i64 0, .int .i64 0, .int .i64 0, .int .i64 0] 8 (World.laidAll_os _ _ _)
      (World.shaped_of_ZipB (by kernel_rfl) (by kernel_rfl)) (by kernel_rfl) (by kernel_rfl) (by kernel_rfl)
      (by rw [MakeChecks.laidMetH_plain _ _ _ (by kernel_rfl)]; exact laidMet_laidAll _ (by kernel_rfl) (by kernel_rfl))) ?_
  intro W base args ds gs before hval0 hW _ _ hL _
  have hval : ∀ (j : Nat) t v, Tryd.f5.params[j]? = some t → args[j]? = some v → Value.okWide Tryd.prog W .any base t v := hval0
  have hW' := hW
  obtain ⟨p, q, hA0, hV, rfl, hfz, hnd⟩ := hW
  have hA : DataW.TrodAll enc Tryd.prog W 0 (fun _ => true) true Tryd.f5.params.toList args.toList ds p := hA0
  rw [Tryd.params5] at hA hval
  obtain ⟨v0, vs0, d0, ds0, p0, q0, hargs, rfl, rfl, h0, r0⟩ := trodAll_cons hA
  obtain ⟨v1, vs1, d1, ds1, p1, q1, rfl, rfl, rfl, h1, r1⟩ := trodAll_cons r0
  obtain ⟨v2, vs2, d2, ds2, p2, q2, rfl, rfl, rfl, h2, r2⟩ := trodAll_cons r1
  obtain ⟨v3, vs3, d3, ds3, p3, q3, rfl, rfl, rfl, h3, r3⟩ := trodAll_cons r2
  obtain ⟨v4, vs4, d4, ds4, p4, q4, rfl, rfl, rfl, h4, r4⟩ := trodAll_cons r3
  obtain ⟨rfl, rfl, rfl⟩ := trodAll_nil r4
  obtain rfl : args = #[v0, v1, v2, v3, v4] := by cases args; simp_all
  obtain ⟨rfl, rfl⟩ := trodVars_none hV
  obtain ⟨a0, len0, cap0, rfl⟩ := okWide_slice Tryd.underlying22 (hval 0 22 v0 rfl rfl)
  have k0 := h0
  have lt0 : ∀ x ∈ p0, x.block < W.heap.size := by obtain ⟨m, hm⟩ := k0; exact DataW.trod_lt m _ _ _ hm
  obtain ⟨l, rfl, hE⟩ : ∃ l : List Ev, len0 = l.length ∧ Sl rEv (· < W.heap.size) W a0 cap0 l := by
    obtain ⟨m, hm⟩ := h0
    exact open_evs rfl hm
  obtain ⟨a1, rfl, rfl, rfl, w1⟩ := open_int Tryd.underlying3 (hval 1 3 v1 rfl rfl) h1
  obtain ⟨a2, rfl, rfl, rfl, w2⟩ := open_int Tryd.underlying3 (hval 2 3 v2 rfl rfl) h2
  obtain ⟨a3, rfl, rfl, rfl, w3⟩ := open_int Tryd.underlying3 (hval 3 3 v3 rfl rfl) h3
  obtain ⟨a4, rfl, rfl, rfl, w4⟩ := open_int Tryd.underlying3 (hval 4 3 v4 rfl rfl) h4
  clear hA0 hval0
  refine (orderHolds_any a0 cap0 l a1 a2 a3 a4 W (of_laid hL) hE).mono fun e W' ⟨he, bel⟩ => ?_
  subst he
  exact ⟨_, rfl, _, _, _, [], _, [], hW', trodAll_mk1 (shut_bool Tryd.underlying4 _), (trodAll_cons_mk (Below.trod laidOut (by kernel_rfl) (of_decide_eq_true (by kernel_rfl)) k0 bel lt0) (trodAll_cons_mk (shut_int Tryd.underlying3 w1) (trodAll_cons_mk (shut_int Tryd.underlying3 w2) (trodAll_cons_mk (shut_int Tryd.underlying3 w3) (trodAll_cons_mk (shut_int Tryd.underlying3 w4) trodAll_mk0))))), rfl, bel.frame _, fun h => by cases h⟩

theorem orderHolds_c1 : (Rows.orderHoldsRow.inPlace == Tryd.prog.inPlace 5) = true := by kernel_rfl
theorem orderHolds_c2 : (Rows.orderHoldsRow.unfollowed == Tryd.prog.unfollowed 5) = true := by kernel_rfl
theorem orderHolds_c3 : (Rows.orderHoldsRow.recurses == Tryd.prog.recurses 5) = true := by kernel_rfl
theorem orderHolds_c4 : (Rows.orderHoldsRow.named == Tryd.prog.varsNamed 5) = true := by kernel_rfl
theorem orderHolds_c5 : false = Rows.orderHoldsRow.goesBy Tryd.prog := by kernel_rfl
theorem orderHolds_c6 : Tryd.prog.funcNamed "recant/recantlaw07.OrderHolds" = some 5 := by kernel_rfl
theorem orderHolds_joined : joinedFacts Tryd.prog 5 Tryd.f5 Rows.orderHoldsSpec Rows.orderHoldsRow = true := by
  simp only [joinedFacts, Bool.and_eq_true]
  repeat' with_reducible apply And.intro
  all_goals first
    | with_reducible exact orderHolds_c1
    | with_reducible exact orderHolds_c2
    | with_reducible exact orderHolds_c3
    | with_reducible exact orderHolds_c4
    | with_reducible exact f_mayEnter
    | with_reducible exact f_mapsRowed
    | with_reducible exact f_stopsHeard
    | with_reducible exact laidOut
    | (with_reducible refine lifts_of _ ?_; rfl)
    | (with_reducible refine make_of _ ?_; rfl)
    | (with_reducible refine plain_of _ ?_; rfl)
    | kernel_rfl

theorem orderHolds_holds : Rows.OrderHoldsSaid :=
  OpenClaim.holds_of_wide 5 Tryd.f5 rfl rfl rfl rfl rfl rfl rfl ⟨rfl, rfl, rfl, rfl, rfl⟩ rfl rfl rfl rfl rfl orderHolds_c6 Tryd.func5 orderHolds_joined
    (of_decide_eq_true (by as_aux_lemma => kernel_rfl)) (by unfold Func.isWrapper; first | (rw [if_pos (by decide +kernel)]; kernel_rfl) | (rw [if_neg (by decide +kernel)]; exact ⟨rfl, rfl⟩))
    (fun os started H enc _ => orderHolds_lifted os started H enc)

theorem orderHolds_card : Rows.OrderHoldsCardSaid :=
  Claim7.holds_tied_plain_at .later [] [.widerDeep] true Rows.orderHoldsCard.stood.harness Rows.orderHoldsCard.stood.looks
    orderHolds_holds (fun _ h => by cases h) (by as_aux_lemma => kernel_rfl) (fun _ h => by cases h) orderHolds_row_tie rfl ⟨rfl, rfl⟩ f_main rfl
    (fun f fn hf hfn => by
      obtain rfl : f = 5 := Option.some.inj (orderHolds_c6.symm.trans hf) |>.symm
      obtain rfl : fn = Tryd.f5 := (Option.some.inj (Tryd.func5.symm.trans hfn)).symm
      exact ⟨f_looks, fun j t ht => by
        rw [Tryd.params5] at ht
        have hm : t ∈ [22, 3, 3, 3, 3] := by simpa using Array.mem_of_getElem? ht
        have hall : ([22, 3, 3, 3, 3].all fun u => !Tryd.prog.wantsStandIn u) = true := by as_aux_lemma => kernel_rfl
        exact (show Tryd.prog.wantsStandIn t = false by simpa using List.all_eq_true.1 hall t hm)⟩)
    orderHolds_c5
#print axioms orderHolds_card
end Go.Proofs.YtppkmhejeklegaaDoor
