/-
  From a law's walk to its row: what a call that makes new memory alone leaves of its arguments.
-/
import Derived.Test.YtepagnaabncllaaDoorCards
import Derived.Test.YtepagnaabncllaaDoorTie
import Derived.Test.YtepagnaabncllaaDoorGaussFixed
import Derived.ProofKit
import Derived.OpenShut
import Derived.Deep.DeepHandedRow
import Derived.Lib.LaidTab
import Derived.Lib.SmallJoins
import Derived.Stop.LaidErr
namespace Go.Proofs.YtepagnaabncllaaDoor.Laws
open Go Go.ChangeShapes Go.WideShapes Go.ChangeAt Go.RowKit Go.Joins Go.Proofs.YtepagnaabncllaaDoor Go.Proofs.YtepagnaabncllaaDoor.Gauss Go.Proofs.YtepagnaabncllaaDoor.Text

section
variable {H : Type} {enc : TypeId × Value → H} {P : Program}
/-- The row's last step: below the call's own blocks all is as it was. -/
theorem post_grow {f : Func} {s : ChangeSpec} {apart fresh handsOn again : Bool} {W W' : World} {args : Array Value} {v : Value} {ds gs : List (DataW H)} {before pa pv : List MemPlace}
    (hW : DataW.Whole enc P f.params.toList s.vars apart W args.toList ds gs before) (hg : Below W.heap.size W W') (hps : before = pa ++ pv)
    (hargs : ∀ sp : Nat → Bool, (∀ p ∈ before, sp p.block = true) → DataW.TrodAll enc P W' 0 sp true f.params.toList args.toList (s.fn H (ds ++ gs)).args pa)
    (hres : ∀ (b : Nat) (sp : Nat → Bool) (hd : Bool), DataW.TrodAll enc P W' b sp hd f.resultTypes.toList (v.resultList f.resultTypes.size) (s.fn H (ds ++ gs)).results [])
    (hvars : ∀ sp : Nat → Bool, (∀ p ∈ before, sp p.block = true) → DataW.TrodVars enc P W' sp s.vars (s.fn H (ds ++ gs)).vars pv)
    (hok : ∀ (j : Nat) (t : TypeId) (r : Value), f.resultTypes[j]? = some t → (v.resultList f.resultTypes.size)[j]? = some r → Value.okWide P W' .any 0 t r) :
    s.post enc P f apart fresh handsOn again W args v W' := by
  subst hps
  have inOld : ∀ p ∈ pa ++ pv, p.block < W.heap.size := fun p hp => hW.lt p hp
  have old : ∀ p ∈ pa ++ pv, decide (p.block < W.heap.size) = true := fun p hp => decide_eq_true (inOld p hp)
  refine ⟨ds, gs, pa ++ pv, [], pa, pv, hW, hres _ _ _, hargs (fun b => decide (b < W.heap.size)) old, hvars (fun b => decide (b < W.heap.size)) old, ?_, fun _ => ⟨hok, ?_⟩⟩
  · exact World.keptBut_mono (fun p hp => ⟨hp, by simpa using hp⟩) (hg.frame (· ∈ pa ++ pv))
  · obtain ⟨_, _, _, _, _, frz, nod⟩ := hW
    refine ⟨_, _, ([] ++ pa) ++ pv, ⟨[] ++ pa, pv, trodAll_append (hargs _ (fun _ _ => rfl)) (hres _ _ _), hvars _ (fun _ _ => rfl), rfl, ?_, ?_⟩, ?_⟩
    · intro b off hp
      have hin : MemPlace.cell b off ∈ pa ++ pv := by simpa using hp
      rw [hg.frozen (inOld _ hin)]
      exact frz b off hin
    · intro ha
      simpa using nod ha
    · intro p hp _
      simpa using hp
end

theorem own : ownKnob Tryd.prog.godebug = none := by kernel_rfl
theorem gPow : Tryd.prog.globalNamed "internal/strconv.uint64pow10" = some 0 := by kernel_rfl
theorem gPowType : (Tryd.prog.globals[0]?).map (·.type) = some 52 := by kernel_rfl
theorem cellsArr : Tryd.prog.cellsOf 52 = 20 := by kernel_rfl
theorem cellsU64 : Tryd.prog.cellsOf 46 = 1 := by kernel_rfl
theorem cellsV : Tryd.prog.cellsOf 23 = 2 := by kernel_rfl

/-- What the row's list gives: the table of powers of ten. -/
theorem tab_of {W : World} (h : laidMetH Tryd.prog Rows.gaussPowRow.laid W) : Tab W := by
  have h3 : laidMet Tryd.prog [("internal/strconv.uint64pow10", Lib.tabData .u64 Lib.pow10Tab)] W := laidMet.tail (laidMet.tail h)
  exact Lib.tabIs_of_head (rest := []) gPow gPowType Tryd.underlying52 Tryd.underlying46 cellsU64 cellsArr h3

/-- A value among the arguments, opened. -/
theorem open_value {H : Type} {enc : TypeId × Value → H} {W : World} {base : Nat} {v : Value} {d : DataW H} {p : List MemPlace} {b : Nat} {sp : Nat → Bool} {hd : Bool} (hv : Value.okWide Tryd.prog W .any base 23 v)
    (h : DataW.Trod enc Tryd.prog W b sp hd 23 v d p) :
    ∃ x : Int × Int, v = vv x ∧ d = .agg [.lit (.int .i64 x.1), .lit (.int .i64 x.2)] ∧ p = [] ∧ (Lit.int .i64 x.1).wf = true ∧ (Lit.int .i64 x.2).wf = true := by
  obtain ⟨c0, c1, y0, y1, m, rfl, rfl, rfl, hy0, hy1⟩ := open_agg2 Tryd.underlying23 (by kernel_rfl) cellsV hv h
  obtain ⟨a, e0, rfl, wa⟩ := DataW.trod_int Tryd.underlying3 hy0
  obtain ⟨b, e1, rfl, wb⟩ := DataW.trod_int Tryd.underlying3 hy1
  simp at e0 e1
  subst e0 e1
  exact ⟨(a, b), rfl, rfl, rfl, wa, wb⟩
theorem shut_value {H : Type} {enc : TypeId × Value → H} (W : World) (b : Nat) (sp : Nat → Bool) (hd : Bool) (x : Int × Int) (w1 : (Lit.int .i64 x.1).wf = true) (w2 : (Lit.int .i64 x.2).wf = true) :
    DataW.Trod enc Tryd.prog W b sp hd 23 (vv x) (.agg [.lit (.int .i64 x.1), .lit (.int .i64 x.2)]) [] :=
  shut_agg2 (y0 := (.lit (.int .i64 x.1), [])) (y1 := (.lit (.int .i64 x.2), [])) Tryd.underlying23 (by kernel_rfl) cellsV ⟨1, by simp [DataW.trod, Tryd.underlying3, w1]⟩ ⟨1, by simp [DataW.trod, Tryd.underlying3, w2]⟩

/-- A world for the witness: the settled one, the tables holding what their initialisers lay. -/
def fillWith (l : List Value) : Obj → Obj
  | .cells _ t frozen => .cells l.toArray t frozen
  | o => o
noncomputable def laidHeap (os : Os) : Array Obj :=
  (((World.holding Tryd.prog os ⟨#[], #[], []⟩).heap.modify 0 (fillWith (Lib.pow10Tab.map (Value.int .u64)))).modify 1 (fillWith ([0, 1, 28, 2, 29, 14, 24, 3, 30, 22, 20, 15, 25, 17, 4, 8, 31, 27, 13, 23, 21, 19, 16, 7, 26, 12, 18, 6, 11, 5, 10, 9].map (Value.int .u8)))).modify 2 (fillWith ([0, 1, 56, 2, 57, 49, 28, 3, 61, 58, 42, 50, 38, 29, 17, 4, 62, 47, 59, 36, 45, 43, 51, 22, 53, 39, 33, 30, 24, 18, 12, 5, 63, 55, 48, 27, 60, 41, 37, 16, 46, 35, 44, 21, 52, 32, 23, 11, 54, 26, 40, 15, 34, 20, 31, 10, 25, 14, 19, 9, 13, 8, 7, 6].map (Value.int .u8)))
noncomputable def laidWorld (os : Os) : World := { World.holding Tryd.prog os ⟨#[], #[], []⟩ with heap := laidHeap os }
end Go.Proofs.YtepagnaabncllaaDoor.Laws
