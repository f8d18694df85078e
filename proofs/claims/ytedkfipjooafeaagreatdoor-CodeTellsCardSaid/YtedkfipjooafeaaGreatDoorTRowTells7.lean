/-
  CodeTells: whatever comes in, the law answers true, and what came in reads as it did.
-/
import Derived.Test.YtedkfipjooafeaaGreatDoorT3
import Derived.Test.YtedkfipjooafeaaGreatDoorT9
set_option linter.unusedSimpArgs false
set_option linter.unusedVariables false
namespace Go.Proofs.YtedkfipjooafeaaGreatDoor.CodeTells
open Go Go.ChangeShapes Go.WideShapes Go.ChangeAt Go.RowKit Go.Joins Go.Proofs.YtedkfipjooafeaaGreatDoor Go.Proofs.YtedkfipjooafeaaGreatDoor.Code Go.Proofs.YtedkfipjooafeaaGreatDoor.Laws

set_option maxRecDepth 100000 in
theorem contract (H : Type) (enc : TypeId × Value → H) (W : World) (base : Nat) (args : Array Value) (ds gs : List (DataW H)) (before : List MemPlace)
    (hval : ∀ (j : Nat) t v, Tryz.f3.params[j]? = some t → args[j]? = some v → Value.okWide Tryz.prog W .any base t v)
    (hW : DataW.Whole enc Tryz.prog Tryz.f3.params.toList Rows.codeTellsSpec.vars false W args.toList ds gs before) (hsz : (DataW.weightsEach Tryz.prog (Tryz.f3.params.toList ++ (OpenSpec.ofChange Rows.codeTellsSpec).bare.plain.varTypes Tryz.prog) (ds ++ gs)).all (· ≤ reachBytes) = true)
    (hL : laidMetH Tryz.prog Rows.codeTellsRow.laid W) (hsh : W.ShapedOpen Tryz.prog) :
    Calls Tryz.prog 3 args W fun e W' => ∃ v, e = .returned v ∧ Rows.codeTellsSpec.post enc Tryz.prog Tryz.f3 false true false false W args v W' := by
  have hg := glob_of hL hsh
  have h8 := heap8 hsh
  have hW' := hW
  obtain ⟨p, q, hA0, hV, hps, hfz, hnd⟩ := hW
  have hA : DataW.TrodAll enc Tryz.prog W 0 (fun _ => true) true Tryz.f3.params.toList args.toList ds p := hA0
  obtain ⟨rfl, rfl⟩ := trodVars_none hV
  rw [List.append_nil] at hps
  subst hps
  have hlt : ∀ x ∈ before, x.block < W.heap.size := fun x hx => hW'.lt x hx
  rw [Tryz.params3] at hA hval
  have hwt : ∀ k ∈ DataW.weightsEach Tryz.prog [23, 9, 9] ds, k ≤ reachBytes := by
    rw [Tryz.params3, List.append_nil] at hsz
    intro k hk
    have h1 : (DataW.weightsEach Tryz.prog [23, 9, 9] ds).all (· ≤ reachBytes) = true := hsz
    have := List.all_eq_true.1 h1 k hk
    simpa using this
  obtain ⟨v0, vs0, d0, ds0, p0, q0, h00, rfl, rfl, h0, r0⟩ := trodAll_cons hA
  obtain ⟨v1, vs1, d1, ds1, p1, q1, h10, rfl, rfl, h1, r1⟩ := trodAll_cons r0
  obtain ⟨v2, vs2, d2, ds2, p2, q2, h20, rfl, rfl, h2, r2⟩ := trodAll_cons r1
  obtain ⟨h30, rfl, rfl⟩ := trodAll_nil r2
  obtain rfl : args = #[v0, v1, v2] := by cases args; simp_all
  obtain ⟨a, hp0, ho0⟩ := open_prog (hval 0 23 v0 rfl rfl) h0 (fun x hx => hlt x (List.mem_append_left _ hx)) (fun x hx => hwt x (by simp only [DataW.weightsEach]; exact List.mem_append_left _ hx))
  obtain ⟨z1, rfl, rfl, rfl, hs1⟩ := Go.ChangeMaps.open_string Tryz.underlying9 (hval 1 9 v1 rfl rfl) h1
  have hz1 : z1.size ≤ reachBytes := by
    have := hwt z1.data.toList.length (by simp [DataW.weightsEach, DataW.weights])
    simpa using this
  obtain ⟨s, rfl⟩ : ∃ l : List UInt8, z1 = ⟨l.toArray⟩ := ⟨z1.data.toList, rfl⟩
  have hl1 : s.length ≤ 9223372036854775000 := by
    have : s.length ≤ reachBytes := hz1
    simp only [reachBytes] at this
    omega
  obtain ⟨z2, rfl, rfl, rfl, hs2⟩ := Go.ChangeMaps.open_string Tryz.underlying9 (hval 2 9 v2 rfl rfl) h2
  have hz2 : z2.size ≤ reachBytes := by
    have := hwt z2.data.toList.length (by simp [DataW.weightsEach, DataW.weights])
    simpa using this
  obtain ⟨t, rfl⟩ : ∃ l : List UInt8, z2 = ⟨l.toArray⟩ := ⟨z2.data.toList, rfl⟩
  have hl2 : t.length ≤ 9223372036854775000 := by
    have : t.length ≤ reachBytes := hz2
    simp only [reachBytes] at this
    omega
  refine (tells_walk a _ s t W hg h8 hp0 ho0 hl1 hl2).mono fun e W' ⟨he, hb⟩ => ?_
  subst he
  refine ⟨_, rfl, post_true (tb := 4) laidOut ?_ rfl rfl (by kernel_rfl) Tryz.underlying4 hW' hb⟩
  rw [Tryz.params3]
  intro t ht
  simp only [List.mem_cons, List.not_mem_nil, or_false] at ht
  rcases ht with rfl | rfl | rfl <;> exact ⟨by kernel_rfl, of_decide_eq_true (by kernel_rfl)⟩

theorem laid_met (os : Os) : laidMet Tryz.prog Rows.codeTellsRow.laid ((World.laidAll Tryz.prog os Rows.codeTellsRow.laid).forCall (fun _ _ => 0) ⟨#[], #[Value.slice none 0 0, Value.string ⟨#[]⟩, Value.string ⟨#[]⟩], []⟩).memory :=
  laidMet_laidAll _ (by kernel_rfl) (by kernel_rfl)
theorem reads (os : Os) {H : Type} (enc : TypeId × Value → H) : ∃ places, DataW.whole enc Tryz.prog ((World.laidAll Tryz.prog os Rows.codeTellsRow.laid).forCall (fun _ _ => 0) ⟨#[], #[Value.slice none 0 0, Value.string ⟨#[]⟩, Value.string ⟨#[]⟩], []⟩).memory Tryz.f3.params.toList Rows.codeTellsSpec.vars false #[Value.slice none 0 0, Value.string ⟨#[]⟩, Value.string ⟨#[]⟩].toList 8 = some ([.nil, .lit (.string []), .lit (.string [])], [], places) :=
  ⟨[], by kernel_rfl⟩
set_option maxRecDepth 100000 in
theorem lifted (os : Os) (started : os.Started) (H : Type) (enc : TypeId × Value → H) (F : Stop.Interp) :
    ReturnsInHanded {} Tryz.checked os 3 .any ((OpenSpec.ofChange Rows.codeTellsSpec).preRow enc Tryz.prog Tryz.f3 Rows.codeTellsRow.domain false Rows.codeTellsRow.laid) (((OpenSpec.ofChange Rows.codeTellsSpec).at F).post enc Tryz.prog Tryz.f3 false true false false) := by
  obtain ⟨places, hx⟩ := reads os enc
  refine returnsInHanded_of_row (C := Tryz.checked) (s := OpenSpec.ofChange Rows.codeTellsSpec) own started (by kernel_rfl) Tryz.func3
    (witness_row_at (enc := enc) (C := Tryz.checked) false (World.laidAll Tryz.prog os Rows.codeTellsRow.laid) #[Value.slice none 0 0, Value.string ⟨#[]⟩, Value.string ⟨#[]⟩] (World.laidAll_os _ _ _) (by kernel_rfl) (by kernel_rfl) (by kernel_rfl)
      (OpenSpec.preRow_of_cond 8 hx (by kernel_rfl) (fun k hk => by cases hk) (by kernel_rfl) (laid_met os))) ?_
  intro W base args ds gs before hval hW _ _ hsz hL hsh _
  exact contract H enc W base args ds gs before hval hW hsz hL hsh

theorem said : Rows.CodeTellsSaid :=
  OpenClaim.holds_of_cond 3 Tryz.f3 rfl rfl rfl rfl rfl rfl rfl ⟨rfl, rfl, rfl, rfl, rfl⟩ rfl rfl rfl rfl rfl (by kernel_rfl) Tryz.func3 (by kernel_rfl)
    (of_decide_eq_true (by kernel_rfl)) (by unfold Func.isWrapper; first | (rw [if_pos (by decide +kernel)]; kernel_rfl) | (rw [if_neg (by decide +kernel)]; exact ⟨rfl, rfl⟩))
    (fun os started H enc _ F => by rw [OpenClaim.pre_eq_preRow]; exact lifted os started H enc F)

theorem plain (f : FuncId) (fn : Func) (hf : Tryz.pinned.checked.prog.funcNamed "transhumance/transhumancelaw07.CodeTells" = some f) (hfn : Tryz.pinned.checked.prog.funcs[f]? = some fn) :
    true = Tryz.pinned.checked.prog.looks [] ∧ ∀ (j : Nat) t, fn.params[j]? = some t → Tryz.pinned.checked.prog.wantsStandIn t = false := by
  obtain rfl : f = 3 := Option.some.inj ((show Tryz.prog.funcNamed "transhumance/transhumancelaw07.CodeTells" = some 3 by kernel_rfl).symm.trans hf) |>.symm
  obtain rfl : fn = Tryz.f3 := (Option.some.inj (Tryz.func3.symm.trans hfn)).symm
  refine ⟨by kernel_rfl, fun j t ht => ?_⟩
  rw [Tryz.params3] at ht
  have hm := Array.mem_of_getElem? ht
  simp at hm
  rcases hm with rfl | rfl <;> (show Tryz.prog.wantsStandIn _ = false; kernel_rfl)

/-- The card. -/
theorem card : Rows.CodeTellsCardSaid :=
  Claim7.holds_tied_plain_at .later [] _ _ _ _ said (fun _ h => by cases h) (by kernel_rfl) (fun _ h => by cases h) codeTells_row_tie rfl ⟨rfl, rfl⟩ (by kernel_rfl) rfl plain (by kernel_rfl)
end Go.Proofs.YtedkfipjooafeaaGreatDoor.CodeTells
