/-
  The row and the card of GaussTells: its walk lifted.
-/
import Derived.Test.YtepagnaabncllaaDoorLawTells
namespace Go.Proofs.YtepagnaabncllaaDoor.GaussTells
open Go Go.ChangeShapes Go.WideShapes Go.ChangeAt Go.RowKit Go.Joins Go.Proofs.YtepagnaabncllaaDoor Go.Proofs.YtepagnaabncllaaDoor.Gauss Go.Proofs.YtepagnaabncllaaDoor.Text Go.Proofs.YtepagnaabncllaaDoor.Laws

theorem contract (H : Type) (enc : TypeId × Value → H) (W : World) (base : Nat) (args : Array Value) (ds gs : List (DataW H)) (before : List MemPlace)
    (hval : ∀ (j : Nat) t v, Tryd.f5.params[j]? = some t → args[j]? = some v → Value.okWide Tryd.prog W .any base t v)
    (hW : DataW.Whole enc Tryd.prog Tryd.f5.params.toList Rows.gaussTellsSpec.vars false W args.toList ds gs before) (hL : laidMetH Tryd.prog Rows.gaussTellsRow.laid W) :
    Calls Tryd.prog 5 args W fun e W' => ∃ v, e = .returned v ∧ Rows.gaussTellsSpec.post enc Tryd.prog Tryd.f5 false true false false W args v W' := by
  have hW' := hW
  obtain ⟨p, q, hA0, hV, rfl, hfz, hnd⟩ := hW
  have hA : DataW.TrodAll enc Tryd.prog W 0 (fun _ => true) true Tryd.f5.params.toList args.toList ds p := hA0
  rw [Tryd.params5] at hA hval
  obtain ⟨v0, vs0, d0, ds0, p0, q0, h00, rfl, rfl, h0, r0⟩ := trodAll_cons hA
  obtain ⟨v1, vs1, d1, ds1, p1, q1, h10, rfl, rfl, h1, r1⟩ := trodAll_cons r0
  obtain ⟨v2, vs2, d2, ds2, p2, q2, h20, rfl, rfl, h2, r2⟩ := trodAll_cons r1
  obtain ⟨h30, rfl, rfl⟩ := trodAll_nil r2
  obtain rfl : args = #[v0, v1, v2] := by cases args; simp_all
  obtain ⟨rfl, rfl⟩ := trodVars_none hV
  obtain ⟨x, rfl, rfl, rfl, w0a, w0b⟩ := open_value (hval 0 23 v0 rfl rfl) h0
  obtain ⟨y, rfl, rfl, rfl, w1a, w1b⟩ := open_value (hval 1 23 v1 rfl rfl) h1
  obtain ⟨z, rfl, rfl, rfl, w2⟩ := open_int Tryd.underlying3 (hval 2 3 v2 rfl rfl) h2
  obtain ⟨w2a, w2b⟩ := bounds_i64 w2
  clear hA0
  simp only [List.append_nil] at hW'
  refine (gaussTells_walk x y z w0a w0b w1a w1b w2a w2b W (tab_of hL)).mono fun e W' ⟨he, hg⟩ => ?_
  subst he
  exact ⟨_, rfl, post_grow (pa := []) (pv := []) hW' hg rfl (fun _ _ => trodAll_cons_mk (shut_value W' _ _ _ x w0a w0b) (trodAll_cons_mk (shut_value W' _ _ _ y w1a w1b) (trodAll_cons_mk (shut_int Tryd.underlying3 w2) (trodAll_mk0)))) (fun _ _ _ => trodAll_cons_mk (shut_bool Tryd.underlying4 _) trodAll_mk0) (fun _ _ => rfl)
    (ok_one (by kernel_rfl) rfl (okWide_bool_mk Tryd.underlying4 _))⟩

theorem laid_met (os : Os) : laidMet Tryd.prog Rows.gaussTellsRow.laid ((laidWorld os).forCall (fun _ _ => 0) ⟨#[], #[Value.agg #[Value.int .i64 0, Value.int .i64 0], Value.agg #[Value.int .i64 0, Value.int .i64 0], Value.int .i64 0], []⟩).memory :=
  laidMet_of_run' 80 (by kernel_rfl) (by kernel_rfl)
theorem reads (os : Os) {H : Type} (enc : TypeId × Value → H) : ∃ places, DataW.whole enc Tryd.prog ((laidWorld os).forCall (fun _ _ => 0) ⟨#[], #[Value.agg #[Value.int .i64 0, Value.int .i64 0], Value.agg #[Value.int .i64 0, Value.int .i64 0], Value.int .i64 0], []⟩).memory Tryd.f5.params.toList Rows.gaussTellsSpec.vars false #[Value.agg #[Value.int .i64 0, Value.int .i64 0], Value.agg #[Value.int .i64 0, Value.int .i64 0], Value.int .i64 0].toList 8 = some ([.agg [.lit (.int .i64 0), .lit (.int .i64 0)], .agg [.lit (.int .i64 0), .lit (.int .i64 0)], .lit (.int .i64 0)], [], places) :=
  ⟨[], by kernel_rfl⟩

set_option maxRecDepth 100000 in
theorem lifted (os : Os) (started : os.Started) (H : Type) (enc : TypeId × Value → H) (F : Stop.Interp) :
    ReturnsInHanded {} Tryd.checked os 5 .any ((OpenSpec.ofChange Rows.gaussTellsSpec).preRow enc Tryd.prog Tryd.f5 Rows.gaussTellsRow.domain false Rows.gaussTellsRow.laid) (((OpenSpec.ofChange Rows.gaussTellsSpec).at F).post enc Tryd.prog Tryd.f5 false true false false) := by
  obtain ⟨places, hx⟩ := reads os enc
  refine returnsInHanded_of_row (C := Tryd.checked) (s := OpenSpec.ofChange Rows.gaussTellsSpec) own started (by kernel_rfl) Tryd.func5
    (witness_row_at (enc := enc) (C := Tryd.checked) false (laidWorld os) #[Value.agg #[Value.int .i64 0, Value.int .i64 0], Value.agg #[Value.int .i64 0, Value.int .i64 0], Value.int .i64 0] rfl (by kernel_rfl) (by kernel_rfl) (by kernel_rfl)
      (OpenSpec.preRow_of_cond 8 hx (by kernel_rfl) (fun k hk => by cases hk) (by kernel_rfl) (laid_met os))) ?_
  intro W base args ds gs before hval hW _ _ _ hL _ _
  exact contract H enc W base args ds gs before hval hW hL

theorem said : Rows.GaussTellsSaid :=
  OpenClaim.holds_of_cond 5 Tryd.f5 rfl rfl rfl rfl rfl rfl rfl ⟨rfl, rfl, rfl, rfl, rfl⟩ rfl rfl rfl rfl rfl (by kernel_rfl) Tryd.func5 (by kernel_rfl)
    (of_decide_eq_true (by kernel_rfl)) (by unfold Func.isWrapper; first | (rw [if_pos (by decide +kernel)]; kernel_rfl) | (rw [if_neg (by decide +kernel)]; exact ⟨rfl, rfl⟩))
    (fun os started H enc _ F => by rw [OpenClaim.pre_eq_preRow]; exact lifted os started H enc F)

theorem plain (f : FuncId) (fn : Func) (hf : Tryd.pinned.checked.prog.funcNamed "transhumance/transhumancelaw04.GaussTells" = some f) (hfn : Tryd.pinned.checked.prog.funcs[f]? = some fn) :
    false = Tryd.pinned.checked.prog.looks [] ∧ ∀ (j : Nat) t, fn.params[j]? = some t → Tryd.pinned.checked.prog.wantsStandIn t = false := by
  obtain rfl : f = 5 := Option.some.inj ((show Tryd.prog.funcNamed "transhumance/transhumancelaw04.GaussTells" = some 5 by kernel_rfl).symm.trans hf) |>.symm
  obtain rfl : fn = Tryd.f5 := (Option.some.inj (Tryd.func5.symm.trans hfn)).symm
  refine ⟨by kernel_rfl, fun j t ht => ?_⟩
  rw [Tryd.params5] at ht
  have hv : Tryd.prog.wantsStandIn 23 = false := by kernel_rfl
  have hi : Tryd.prog.wantsStandIn 3 = false := by kernel_rfl
  have hm := Array.mem_of_getElem? ht
  simp at hm
  rcases hm with rfl | rfl
  · exact hv
  · exact hi

/-- The card. -/
theorem card : Rows.GaussTellsCardSaid :=
  Claim7.holds_tied_plain_at .later [] _ _ _ _ said (fun _ h => by cases h) (by kernel_rfl) (fun _ h => by cases h) gaussTells_row_tie rfl ⟨rfl, rfl⟩ (by kernel_rfl) rfl plain (by kernel_rfl)
end Go.Proofs.YtepagnaabncllaaDoor.GaussTells
