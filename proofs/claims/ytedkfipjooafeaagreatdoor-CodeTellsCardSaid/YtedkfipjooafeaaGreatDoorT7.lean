/-
  Calls told by data: contracts, and callees that work on one's own blocks; what is ended. Functions told by data: what is handed in and out; own blocks that are to change no more. Operations told by data: what each comes to. Regions and calls told by data: how they are walked. More operations told by data: bytes of texts, conversions, parts of texts and slices. Operations told by data: rows of slices, appends, what is forgotten at a loop's head and at the end. Steps told by data, more of them: texts compared, the last row, callees on one's own blocks. Facts of the types, as the looks at data want them. Data told: numbers, texts, programs; contracts told in the elder way. Contracts of the reference's programs: texts. Contracts of the reference's programs: texts, and whether two are the same. Contracts of the reference's programs: bytes read. Contracts of the reference's programs: a number and an instruction read.
-/
import Derived.IntWalk
import Derived.Lib.Strings
import Derived.Test.YtedkfipjooafeaaGreatDoorProg
import Derived.Test.YtedkfipjooafeaaGreatDoorT1
import Derived.Test.YtedkfipjooafeaaGreatDoorT3
import Derived.Test.YtedkfipjooafeaaGreatDoorT4
import Derived.Test.YtedkfipjooafeaaGreatDoorT5
import Derived.Test.YtedkfipjooafeaaGreatDoorT6
set_option linter.unusedSimpArgs false
set_option linter.unusedVariables false
set_option linter.unusedSimpArgs false
set_option linter.unusedVariables false
namespace Go.Proofs.YtedkfipjooafeaaGreatDoor.Ab
open Go Go.RowKit

def entersB (P : Program) (f : FuncId) : Bool := match P.funcs[f]? with
  | some fn => fn.name != "runtime.NumGoroutine" && fn.body.isSome
  | none => false
section
variable {P : Program}
theorem run_callFunc {f : FuncId} (h : entersB P f = true) (args : Array Value) (w : World) : (callFunc f args).run P w = .ok (.enter f args) w := by
  unfold entersB at h
  cases hf : P.funcs[f]? with
  | none => rw [hf] at h; cases h
  | some fn =>
    rw [hf] at h
    simp only [Bool.and_eq_true, bne_iff_ne, ne_eq] at h
    have h2 : fn.body ≠ none := by intro hb; rw [hb] at h; simp at h
    simp [callFunc, hf, h.1, h2]
theorem RepT.none' {O : Nat → Prop} {m : Nat → Option Loc} {w : World} {x : AT} {v : Value} (h : RepT O (fun _ => none) w x v) : RepT O m w x v :=
  h.step (O := O) (O' := O) (w := w) (w' := w) ⟨rfl, rfl, rfl, Nat.le_refl _, fun _ _ _ => rfl, fun _ h => h, fun _ h => .inl h, fun b hb => absurd rfl hb⟩
def ACalls (P : Program) (f : FuncId) (args : List AT) (r : AT) : Prop := entersB P f = true ∧ ∀ (O : Nat → Prop) (w : World) (vs : Array Value), (∀ k, O k → k < w.heap.size) → vs.size = args.length → (∀ (j : Nat) x, args[j]? = some x → ∀ v, vs[j]? = some v → RepT O (fun _ => none) w x v) →
  Calls P f vs w fun e w' => ∃ v, e = .returned v ∧ Below w.heap.size w w' ∧ RepT O (fun _ => none) w' r v
def calleeA : AT → Option (FuncId × List AT)
  | .c (.im (.v (.func (.func f) first caps))) => if first.size = 0 ∧ caps.size = 0 then some (f, []) else none
  | .c (.clo (.func f) caps) => some (f, caps.map .c)
  | _ => none
section
variable {B : Nat} {ops : List Oper} {o : Oper} {s : St} {O : Nat → Prop} {m : Nat → Option Loc} {w : World}
theorem rep_callee {x : AT} {v : Value} {f : FuncId} {caps : List AT} (hx : RepT O m w x v) (h : calleeA x = some (f, caps)) : ∃ us : Array Value, v = .func (.func f) #[] us ∧ us.size = caps.length ∧ ∀ (j : Nat) y, caps[j]? = some y → ∀ u, us[j]? = some u → (∀ z, y = .c z → RepA O m w z u) ∧ ∃ z, y = .c z := by
  unfold calleeA at h
  split at h
  · rename_i g first cs
    split at h
    · rename_i hz
      injection h with h
      injection h with h1 h2
      subst h1 h2
      have h3 : first = #[] := Array.eq_empty_of_size_eq_zero hz.1
      have h4 : cs = #[] := Array.eq_empty_of_size_eq_zero hz.2
      subst h3 h4
      exact ⟨#[], rep_v hx, rfl, fun j y hj => by simp at hj⟩
    · cases h
  · rename_i g cs
    injection h with h
    injection h with h1 h2
    subst h1 h2
    cases hx with
    | c hx _ =>
      cases hx with
      | @clo _ _ us hl _ hh =>
        refine ⟨us, rfl, by simp [hl], fun j y hj u hu => ?_⟩
        rw [List.getElem?_map] at hj
        cases hc : cs[j]? with
        | none => rw [hc] at hj; cases hj
        | some z =>
          rw [hc] at hj
          simp only [Option.map_some, Option.some.injEq] at hj
          subst hj
          exact ⟨fun z' e => by injection e with e; subst e; exact hh j z hc u hu, z, rfl⟩
  · cases h
theorem run_call {fo : Operand} {args : Array Operand} {ts : Array TypeId} {f : FuncId} {us : Array Value} {a : Act} (hop : o.op = .call { callee := .value fo, args := args, argTypes := ts }) (hv : a.eval fo = .func (.func f) #[] us) (he : entersB P f = true) : (execOp a.eval o).run P w = .ok (.enter f (args.map a.eval ++ us)) w := by
  simp [execOp, hop, resolve, hv, Deferred.ofValue, invoke, run_callFunc he]
theorem sem_call {fo : Operand} {args : Array Operand} {ts : Array TypeId} {f : FuncId} {caps : List AT} {r : AT} (hop : o.op = .call { callee := .value fo, args := args, argTypes := ts }) (hw : wantA ops s o = some true) (hd : ∀ d, o.dst = some d → d < s.tmps.length)
    (hc : calleeA (s.ev fo) = some (f, caps)) (hp : pureTs (args.toList.map s.ev ++ caps)) (hA : ACalls P f (args.toList.map s.ev ++ caps) r) : OpSem P B ops o s ⟨[], [], []⟩ (s.put o.dst r) := by
  refine ⟨⟨put_len .., fun t ht => put_tmp_ne ht, fun b _ _ => put_hp .., fun b hb => (by cases hb), fun b hb => (by cases hb), by rw [put_heap]; exact Nat.le_refl _⟩, ?_⟩
  intro O m w a K Q hv hl hn hs hK
  unfold wpO
  rw [want_spec hw hl, if_pos rfl]
  have hops : ∀ x, x = fo ∨ x ∈ args → RepT O m w (s.ev x) (a.eval x) := fun x hx => ev_looks hl (by rw [hop]; simp only [Op.operands, Call.operands]; rcases hx with h | h <;> simp [h])
  obtain ⟨us, hfo, husz, hus⟩ := rep_callee (hops fo (.inl rfl)) hc
  unfold Oper.wp
  rw [run_call hop hfo hA.1, Oper.upon_enter]
  refine Calls.mono (hA.2 O w _ hv.lt (by simp [husz]) fun j x hj v hjv => ?_) ?_
  · have hpx := pureTs_get hp hj
    by_cases hlt : j < args.size
    · rw [List.getElem?_append_left (by simpa using hlt), List.getElem?_map] at hj
      rw [Array.getElem?_append_left (by simpa using hlt), Array.getElem?_map] at hjv
      cases hx : args[j]? with
      | none => rw [hx] at hjv; cases hjv
      | some y =>
        have hx' : args.toList[j]? = some y := by simpa using hx
        rw [hx] at hjv
        rw [hx'] at hj
        simp only [Option.map_some, Option.some.injEq] at hj hjv
        subst hj hjv
        exact (hops y (.inr (Array.mem_of_getElem? hx))).pure hpx
    · rw [List.getElem?_append_right (by simp; omega)] at hj
      rw [Array.getElem?_append_right (by simp; omega)] at hjv
      simp only [List.length_map, Array.length_toList, Array.size_map] at hj hjv
      obtain ⟨h1, z, rfl⟩ := hus _ x hj v hjv
      unfold pureT at hpx
      have h2 := (h1 z rfl).pure (m' := fun _ => none) hpx
      refine .c h2 ?_
      have hfr := hops fo (.inl rfl)
      -- a captured value is a cell's
      exact capOne hc hfr hfo j z hj v hjv
  · rintro e w' ⟨v, rfl, hb, hr⟩
    have hst : Step O O m m w w' := ⟨hb.os, hb.tape, hb.output, hb.size, fun k hk _ => hb.block k hk, fun _ h => h, fun _ h => .inl h, fun _ _ => rfl⟩
    refine hK v O m w' ⟨hst, fun k hk => Nat.lt_of_lt_of_le (hv.lt k hk) hb.size, fun k hk _ => hb.block k hk, fun b h => .inl h, fun b hb' => by simp at hb', fun b hb' => (by cases hb'), fun b hb' => (by cases hb')⟩ fun d hd' => ?_
    rw [hd']
    exact rep_put hr.none' fun hlt => absurd (hd d hd') hlt
where
  capOne {fo : Operand} {f : FuncId} {caps : List AT} {us : Array Value} {O : Nat → Prop} {m : Nat → Option Loc} {w : World} {a : Act} (hc : calleeA (s.ev fo) = some (f, caps)) (hfr : RepT O m w (s.ev fo) (a.eval fo)) (hfo : a.eval fo = .func (.func f) #[] us) (j : Nat) (z : AV) (hj : caps[j - args.size]? = some (.c z)) (v : Value) (hjv : us[j - args.size]? = some v) : isOne v = true := by
    rw [hfo] at hfr
    exact capO hc hfr hj hjv
  capO {x : AT} {f : FuncId} {caps : List AT} {us : Array Value} {O : Nat → Prop} {m : Nat → Option Loc} {w : World} {i : Nat} {z : AV} {v : Value} (hc : calleeA x = some (f, caps)) (hfr : RepT O m w x (.func (.func f) #[] us)) (hj : caps[i]? = some (.c z)) (hjv : us[i]? = some v) : isOne v = true := by
    unfold calleeA at hc
    split at hc
    · split at hc
      · injection hc with hc
        injection hc with h1 h2
        subst h2
        simp at hj
      · cases hc
    · injection hc with hc
      injection hc with h1 h2
      subst h1 h2
      cases hfr with
      | c h _ =>
        cases h with
        | clo hl ho h => exact ho v (Array.mem_of_getElem? hjv)
    · cases hc
end
def resA (P : Program) (s : St) : List ResultVar → Option (List AT)
  | [] => some []
  | .tmp t :: l => (resA P s l).map (s.tmp t :: ·)
  | .cell a t :: l => match tf P t with
    | some T => match loadA s T (s.tmp a) with
      | some r => (resA P s l).map (r :: ·)
      | none => none
    | none => none
def packA : List AT → AT
  | [x] => x
  | l => .u l
def resF (tmps : Array Value) : ResultVar → Sem Value
  | .tmp t => pure (tmps.getD t undef)
  | .cell a t => do loadVar t (← asAddr (tmps.getD a undef))
theorem run_results_list {O : Nat → Prop} {m : Nat → Option Loc} {w : World} {B : Nat} {s : St} {tmps : Array Value} (ht : ∀ t, RepT O m w (s.tmp t) (tmps.getD t undef)) (ho : ∀ b, Own B O m w b (s.hp b)) : ∀ (l : List ResultVar) (rs : List AT), resA P s l = some rs →
    ∃ vs : List Value, (l.mapM (resF tmps)).run P w = .ok vs w ∧ vs.length = rs.length ∧ ∀ (j : Nat) x, rs[j]? = some x → ∀ v, vs[j]? = some v → RepT O m w x v
  | [], rs, h => by
    simp only [resA, Option.some.injEq] at h
    subst h
    exact ⟨[], by simp, rfl, fun j x hj => by simp at hj⟩
  | .tmp t :: l, rs, h => by
    simp only [resA] at h
    cases hl : resA P s l with
    | none => rw [hl] at h; cases h
    | some rs' =>
      rw [hl] at h
      simp only [Option.map_some, Option.some.injEq] at h
      subst h
      obtain ⟨vs, h1, h2, h3⟩ := run_results_list ht ho l rs' hl
      refine ⟨tmps.getD t undef :: vs, ?_, by simp [h2], fun j x hj v hv => ?_⟩
      · rw [List.mapM_cons]
        simp only [resF, Sem.run_bind, Sem.run_pure, Result.andThen_ok, h1]
      · cases j with
        | zero => simp only [List.getElem?_cons_zero, Option.some.injEq] at hj hv; subst hj hv; exact ht t
        | succ j => simp only [List.getElem?_cons_succ] at hj hv; exact h3 j x hj v hv
  | .cell a t :: l, rs, h => by
    simp only [resA] at h
    cases hT : tf P t with
    | none => rw [hT] at h; cases h
    | some T =>
      rw [hT] at h
      simp only at h
      cases hr : loadA s T (s.tmp a) with
      | none => rw [hr] at h; cases h
      | some r =>
        rw [hr] at h
        simp only at h
        cases hl : resA P s l with
        | none => rw [hl] at h; cases h
        | some rs' =>
          rw [hl] at h
          simp only [Option.map_some, Option.some.injEq] at h
          subst h
          obtain ⟨vs, h1, h2, h3⟩ := run_results_list ht ho l rs' hl
          obtain ⟨u, h4, h5⟩ := run_loadA hT (ht a) (fun b _ => ho b) hr
          refine ⟨u :: vs, ?_, by simp [h2], fun j x hj v hv => ?_⟩
          · rw [List.mapM_cons]
            have h6 : (resF tmps (.cell a t)).run P w = .ok u w := by
              unfold Instr.loadAt at h4
              show (asAddr (tmps.getD a undef) >>= fun x => loadVar t x).run P w = _
              rw [Sem.run_bind]
              cases hv : tmps.getD a undef with
              | pointer p =>
                cases p with
                | some p => rw [hv] at h4; simpa [Instr.sureAddr, asAddr] using h4
                | none => rw [hv] at h4; simp [Instr.sureAddr] at h4
              | _ => rw [hv] at h4; simp [Instr.sureAddr] at h4
            simp only [Sem.run_bind, h6, Result.andThen_ok, h1, Sem.run_pure]
          · cases j with
            | zero => simp only [List.getElem?_cons_zero, Option.some.injEq] at hj hv; subst hj hv; exact h5
            | succ j => simp only [List.getElem?_cons_succ] at hj hv; exact h3 j x hj v hv
theorem run_results {O : Nat → Prop} {m : Nat → Option Loc} {w : World} {B : Nat} {s : St} {tmps : Array Value} {fn : Func} {rs : List AT} (ht : ∀ t, RepT O m w (s.tmp t) (tmps.getD t undef)) (ho : ∀ b, Own B O m w b (s.hp b)) (h : resA P s fn.results.toList = some rs) : ∃ v, (results fn tmps).run P w = .ok v w ∧ RepT O m w (packA rs) v := by
  obtain ⟨vs, h1, h2, h3⟩ := run_results_list ht ho _ _ h
  have hm : (fn.results.mapM (resF tmps)).run P w = .ok vs.toArray w := by
    rw [← Array.toArray_toList (xs := fn.results), List.mapM_toArray]
    simp only [Sem.run_map, h1, Result.andThen_ok]
  have he : results fn tmps = (do let vs ← fn.results.mapM (resF tmps); pure (if h : vs.size = 1 then vs[0] else .tuple vs)) := by
    unfold results
    have : (fun x : ResultVar => match x with | .tmp t => (pure (tmps.getD t undef) : Sem Value) | .cell a t => do loadVar t (← asAddr (tmps.getD a undef))) = resF tmps := by
      funext x
      cases x <;> rfl
    rw [← this]
    rfl
  rw [he]
  refine ⟨if h : vs.toArray.size = 1 then vs.toArray[0] else .tuple vs.toArray, ?_, ?_⟩
  · simp only [Sem.run_bind, hm, Result.andThen_ok, Sem.run_pure]
  · match rs, vs, h2, h3 with
    | [x], [v], _, h3 => simpa [packA] using h3 0 x rfl v rfl
    | [], [], _, h3 => simp [packA]; exact .u rfl fun j x hj => by simp at hj
    | x :: y :: rs, v :: u :: vs, h2, h3 =>
      simp [packA]
      exact .u (by simp at h2; simp [h2]) fun j z hj q hq => h3 j z hj q (by simpa using hq)
end
end Go.Proofs.YtedkfipjooafeaaGreatDoor.Ab
set_option linter.unusedSimpArgs false
set_option linter.unusedVariables false
namespace Go.Proofs.YtedkfipjooafeaaGreatDoor.Ab
open Go Go.RowKit

structure Base (E : Env) : Prop where
  a0 : ∀ q, ¬ E.A0 q
  o0 : ∀ k, E.O0 k → k < E.w0.heap.size
  m0 : ∀ b, E.m0 b = none
  n0 : E.n0 = 0
section
variable {P : Program} {E : Env} {s : St}
/-! ## Own blocks that are to change no more -/
def frA (b c : Nat) (rows : List (List IV)) : AV → AV
  | .os b' o n => if b' = b ∧ o + n ≤ rows.length then .im (.sl c ((rows.drop o).take n)) else .os b' o n
  | x => x
def frT (b c : Nat) (rows : List (List IV)) : AT → AT
  | .c x => .c (frA b c rows x)
  | .g xs => .g (xs.map (frA b c rows))
  | x => x
def frB (b c : Nat) (rows : List (List IV)) (k : Blk) : Blk := { k with rows := k.rows.map (·.map (frA b c rows)) }
def frH (b c : Nat) (rows : List (List IV)) : Nat → List (Option Blk) → List (Option Blk)
  | _, [] => []
  | 0, _ :: l => none :: l.map (Option.map (frB b c rows))
  | i + 1, x :: l => x.map (frB b c rows) :: frH b c rows i l
def St.frz (s : St) (b c : Nat) (rows : List (List IV)) : St := ⟨s.tmps.map (frT b c rows), frH b c rows b s.heap⟩
theorem frH_get (b c : Nat) (rows : List (List IV)) : ∀ (i : Nat) (l : List (Option Blk)) (j : Nat), (frH b c rows i l)[j]? = if j = i then (l[j]?).map (fun _ => none) else (l[j]?).map (Option.map (frB b c rows))
  | i, [], j => by cases i <;> simp [frH]
  | 0, x :: l, j => by
    cases j with
    | zero => simp [frH]
    | succ j => simp [frH, List.getElem?_map]
  | i + 1, x :: l, j => by
    cases j with
    | zero => simp [frH]
    | succ j =>
      simp only [frH, List.getElem?_cons_succ, frH_get b c rows i l j, Nat.add_right_cancel_iff]
theorem frz_hp {b c : Nat} {rows : List (List IV)} (b' : Nat) : (s.frz b c rows).hp b' = if b' = b then none else (s.hp b').map (frB b c rows) := by
  unfold St.frz St.hp
  show ((frH b c rows b s.heap)[b']?).join = _
  rw [frH_get]
  by_cases e : b' = b
  · rw [if_pos e, if_pos e]; cases s.heap[b']? <;> rfl
  · rw [if_neg e, if_neg e]
    cases h : s.heap[b']? with
    | none => rfl
    | some x => cases x <;> rfl
theorem sub_freeze {b : Nat} {k : Blk} {rows : List (List IV)} (hE0 : Base E) (hk : s.hp b = some k) (hr : k.rows = rows.map (·.map .im)) : Sub E s (s.frz b k.c rows) := by
  intro a w ⟨hn0, O, m, hE, hI⟩
  have hob := hI.own b
  rw [hk] at hob
  -- the block, if it is one
  let O' : Nat → Prop := fun q => O q ∧ ∀ c cap, m b ≠ some (.at_ q c cap)
  have hless : ∀ q, O' q → O q := fun q h => h.1
  have hA : ∀ {x v}, RepA O m w x v → RepA O' m w (frA b k.c rows x) v := fun {x v} h => by
    have other : frA b k.c rows x = x → RepA O' m w (frA b k.c rows x) v := fun e => by rw [e]; exact h.less hless
    cases x with
    | os b' o n =>
      by_cases e : b' = b ∧ o + n ≤ rows.length
      · obtain ⟨e, hn⟩ := e
        subst e
        have hfr : frA b' k.c rows (.os b' o n) = .im (.sl k.c ((rows.drop o).take n)) := if_pos ⟨rfl, hn⟩
        rw [hfr]
        cases h with
        | @os _ _ _ q c cap A hq hle hA =>
          rcases hob with ⟨f1, _⟩ | ⟨q', cap', us, f1, f2, f3, f4, f5, f6, f7, f7', f8, f9, f9', f10⟩
          · rw [f1] at hq; cases hq
          · rw [f1] at hq
            injection hq with hq
            injection hq with j1 j2 j3
            subst j1 j2 j3
            have hrl : k.rows.length = rows.length := by rw [hr, List.length_map]
            have hl1 : ((rows.drop o).take n).length = n := by simp; omega
            have hm1 : (o + n) * k.c ≤ cap' * k.c := Nat.mul_le_mul_right _ (by omega)
            rw [Nat.add_mul] at hm1
            have key := RepI.sl (O := O') (w := w) k.c ((rows.drop o).take n) A (cap' - o) ((us.toList.drop (o * k.c)).take (n * k.c)) (fun hne => ?_) (by rw [hl1]; simp; omega) (fun u hu => f9' u (by simpa using List.mem_of_mem_drop (List.mem_of_mem_take hu))) (fun row hrow => ?_) (by rw [hl1]; omega) (fun i row hi j x hj u hu => ?_)
            · rw [hl1] at key
              exact .im key
            · have hpos : 0 < n := by
                rcases Nat.eq_zero_or_pos n with h0 | h0
                · subst h0; simp at hne
                · exact h0
              refine ⟨⟨q', o * k.c, none⟩, hA (by omega), fun h => h.2 k.c cap' f1, (Array.getElem?_eq_some_iff.1 f5).1, fun j u hj => ?_⟩
              have hjl : j < n * k.c := by have := (List.getElem?_eq_some_iff.1 hj).1; simp at this; omega
              rw [List.getElem?_take_of_lt hjl, List.getElem?_drop, Array.getElem?_toList] at hj
              rw [add_lit']
              simp [World.cell?, f5, hj]
            · have h1 : row.map AV.im ∈ k.rows := by rw [hr]; exact List.mem_map.2 ⟨row, List.mem_of_mem_drop (List.mem_of_mem_take hrow), rfl⟩
              have := f9 _ h1
              rwa [List.length_map] at this
            · have hin : i < n := by have := (List.getElem?_eq_some_iff.1 hi).1; omega
              rw [List.getElem?_take_of_lt hin, List.getElem?_drop] at hi
              have hki : k.rows[o + i]? = some (row.map .im) := by rw [hr, List.getElem?_map, hi]; rfl
              have hjc : j < k.c := by
                have h1 := (List.getElem?_eq_some_iff.1 hj).1
                have h2 := f9 _ (List.mem_of_getElem? hki)
                rw [List.length_map] at h2; omega
              have hm2 : (i + 1) * k.c ≤ n * k.c := Nat.mul_le_mul_right _ hin
              rw [Nat.succ_mul] at hm2
              rw [List.getElem?_take_of_lt (by omega), List.getElem?_drop, Array.getElem?_toList] at hu
              have hrep := f10 (o + i) _ hki j (.im x) (by rw [List.getElem?_map, hj]; rfl) u (by rw [Nat.add_mul, Nat.add_assoc]; exact hu)
              cases hrep with
              | im h => exact h.less hless
        | @virt _ A hq =>
          have key := RepI.sl (O := O') (w := w) k.c [] A 0 [] (fun h => absurd rfl h) (by simp) (fun u hu => (by cases hu)) (fun r hr => (by cases hr)) (Nat.le_refl _) (fun i row hi => by simp at hi)
          simp only [List.drop_zero, List.take_zero]
          exact .im key
      · exact other (if_neg e)
    | im y => exact other rfl
    | op b' i j => exact other rfl
    | clo f l => exact other rfl
    | junk => exact other rfl
  have hT : ∀ {x v}, RepT O m w x v → RepT O' m w (frT b k.c rows x) v := fun {x v} h => by
    cases x with
    | c y => cases h with | c h hv => exact .c (hA h) hv
    | g xs =>
      cases h with
      | g hl ho h =>
        refine .g (by rw [hl, List.length_map]) ho fun j x hj u hu => ?_
        rw [List.getElem?_map] at hj
        cases hx : xs[j]? with
        | none => rw [hx] at hj; cases hj
        | some y =>
          rw [hx] at hj
          simp only [Option.map_some, Option.some.injEq] at hj
          subst hj
          exact hA (h j y hx u hu)
    | u xs => exact h.less hless
    | j => exact .j _
  have halive : ∀ b', (s.frz b k.c rows).hp b' ≠ none → b' ≠ b ∧ s.hp b' ≠ none := fun b' h => by
    rw [frz_hp] at h
    by_cases e : b' = b
    · rw [if_pos e] at h; exact absurd rfl h
    · rw [if_neg e] at h
      refine ⟨e, fun h' => ?_⟩
      rw [h'] at h; exact h rfl
  have hbn : s.hp b ≠ none := by rw [hk]; simp
  refine ⟨by rw [hE0.n0]; exact Nat.zero_le _, O', m, ⟨hE.os, hE.tape, hE.output, hE.size, hE.keep, fun q hq => ⟨hE.own q hq, fun c cap h => ?_⟩, fun q hq => hE.fresh q hq.1, hE.loc, fun b' hb' => hE.reach b' (halive b' hb').2, hE.dom⟩, ⟨fun q hq => hI.lt q hq.1, hI.base, fun b' => ?_, fun b1 b2 h1 h2 => hI.apart b1 b2 (halive b1 h1).2 (halive b2 h2).2, fun t => ?_, ?_, hI.defs, fun b' hb' => ?_⟩⟩
  · rcases hE.reach b hbn q c cap h with h' | h'
    · exact hE0.a0 q h'
    · have := hE0.o0 q hq; omega
  · rw [frz_hp]
    by_cases e : b' = b
    · rw [if_pos e]; trivial
    · rw [if_neg e]
      have ho := hI.own b'
      cases hk' : s.hp b' with
      | none => trivial
      | some k' =>
        rw [hk'] at ho
        rcases ho with ⟨g1, g2, g3, g4⟩ | ⟨q, cap, us, g1, g2, g3, g4, g5, g6, g7, g7', g8, g9, g9', g10⟩
        · exact .inl ⟨g1, by simp [frB, g2], g3, g4⟩
        · refine .inr ⟨q, cap, us, g1, ⟨g2, fun c cap' h => e (hI.apart b' b (by rw [hk']; simp) hbn q _ _ c cap' g1 h)⟩, g3, g4, g5, g6, by simp only [frB, List.length_map]; exact g7, g7', by simp only [frB, List.length_map]; exact g8, fun row hrow => ?_, g9', fun i row hi j x hj u hu => ?_⟩
          · obtain ⟨r, h1, rfl⟩ := List.mem_map.1 hrow
            rw [List.length_map]; exact g9 r h1
          · have hi' : (k'.rows.map (·.map (frA b k.c rows)))[i]? = some row := hi
            rw [List.getElem?_map] at hi'
            cases hri : k'.rows[i]? with
            | none => rw [hri] at hi'; cases hi'
            | some r =>
              rw [hri] at hi'
              simp only [Option.map_some, Option.some.injEq] at hi'
              subst hi'
              rw [List.getElem?_map] at hj
              cases hrj : r[j]? with
              | none => rw [hrj] at hj; cases hj
              | some y =>
                rw [hrj] at hj
                simp only [Option.map_some, Option.some.injEq] at hj
                subst hj
                exact hA (g10 i r hri j y hrj u hu)
  · have : (s.frz b k.c rows).tmp t = frT b k.c rows (s.tmp t) := by
      unfold St.frz St.tmp
      show (s.tmps.map (frT b k.c rows)).getD t (.u []) = _
      rw [List.getD_eq_getElem?_getD, List.getElem?_map, List.getD_eq_getElem?_getD]
      cases s.tmps[t]? <;> rfl
    rw [this]
    exact hT (hI.tm t)
  · rw [hI.size]; simp [St.frz]
  · have := hI.dom b' hb'
    show b' < (frH b k.c rows b s.heap).length
    have hg := frH_get b k.c rows b s.heap b'
    refine Nat.lt_of_not_le fun hle => ?_
    rw [List.getElem?_eq_none hle, List.getElem?_eq_getElem this] at hg
    split at hg <;> simp at hg

/-! ## What is handed in and out -/
def Fin (P : Program) (E : Env) (fn : Func) (r : AT) (s : St) : Prop := ∃ s2 rs, Sub E s s2 ∧ resA P s2 fn.results.toList = some rs ∧ packA rs = r ∧ pureT r
def endA (P : Program) (E : Env) (fn : Func) (r : AT) : Exit → St → Prop
  | .normal, s => Fin P E fn r s
  | .ret, s => Fin P E fn r s
  | _, _ => False
theorem acalls_of {f : FuncId} {fn : Func} {c : Code} {args : List AT} {r : AT} (hf : P.funcs[f]? = some fn) (hb : fn.body = some c) (hname : fn.name ≠ "runtime.NumGoroutine") (h : ∀ E, Base E → AW P E c ⟨args ++ List.replicate (fn.ntmps - args.length) (.u []), []⟩ (endA P E fn r)) : ACalls P f args r := by
  refine ⟨by unfold entersB; rw [hf]; simp [hname, hb], fun O w vs hO hl hr => ?_⟩
  have hB : Base ⟨w, O, fun _ => False, fun _ => none, 0, w.heap.size⟩ := ⟨fun _ h => h, hO, fun _ => rfl, rfl⟩
  have hg : Good ⟨w, O, fun _ => False, fun _ => none, 0, w.heap.size⟩ ⟨args ++ List.replicate (fn.ntmps - args.length) (.u []), []⟩ { tmps := vs ++ Array.replicate (fn.ntmps - vs.size) undef, defers := [] } w := by
    refine ⟨Nat.le_refl _, O, fun _ => none, ⟨rfl, rfl, rfl, Nat.le_refl _, fun _ _ _ => rfl, fun _ h => h, fun _ h => .inl h, fun b hb => absurd rfl hb, fun b hb => absurd rfl hb, fun b hb => absurd hb (by simp)⟩, ⟨hO, Nat.le_refl _, fun b => trivial, fun b b' hb => absurd rfl hb, fun t => ?_, by simp [hl], rfl, fun b hb => absurd rfl hb⟩⟩
    unfold St.tmp
    rw [List.getD_eq_getElem?_getD, Array.getD_eq_getD_getElem?]
    by_cases ht : t < args.length
    · rw [List.getElem?_append_left ht, Array.getElem?_append_left (by omega), List.getElem?_eq_getElem ht, Array.getElem?_eq_getElem (by omega)]
      exact hr t _ (List.getElem?_eq_getElem ht) _ (Array.getElem?_eq_getElem (by omega))
    · rw [List.getElem?_append_right (by omega), Array.getElem?_append_right (by omega)]
      have e1 : ((List.replicate (fn.ntmps - args.length) (AT.u []))[t - args.length]?).getD (.u []) = .u [] := by rw [List.getElem?_replicate]; split <;> rfl
      have e2 : ((Array.replicate (fn.ntmps - vs.size) undef)[t - vs.size]?).getD undef = undef := by rw [Array.getElem?_replicate]; split <;> rfl
      rw [e1, e2]
      exact rep_undef
  refine calls_of_wp hf hb (wp_mono (h _ hB _ _ hg) fun e a' w' ⟨s', h1, h2⟩ => ?_)
  have key : Fin P ⟨w, O, fun _ => False, fun _ => none, 0, w.heap.size⟩ fn r s' → a'.defers = [] ∧ ∃ v, (results fn a'.tmps).run P w' = .ok v w' ∧ ∃ v', Ending.returned v = .returned v' ∧ Below w.heap.size w w' ∧ RepT O (fun _ => none) w' r v' := by
    rintro ⟨s2, rs, hs, hres, rfl, hp⟩
    obtain ⟨_, O', m', hE, hI⟩ := hs a' w' h2
    obtain ⟨v, h3, h4⟩ := run_results (w := w') hI.tm hI.own hres
    exact ⟨hI.defs, v, h3, v, rfl, ⟨hE.os, hE.tape, hE.output, hE.size, fun k hk => hE.keep k hk (fun h => h)⟩, (h4.pure hp).less (fun k hk => hE.own k hk)⟩
  cases e with
  | normal => exact key h1
  | ret => exact key h1
  | exit id => exact h1.elim
  | goto l => exact h1.elim
  | panic c => exact h1.elim
  | outgrown => exact h1.elim
end
end Go.Proofs.YtedkfipjooafeaaGreatDoor.Ab
set_option linter.unusedSimpArgs false
set_option linter.unusedVariables false
namespace Go.Proofs.YtedkfipjooafeaaGreatDoor.Ab
open Go Go.RowKit

section
variable {P : Program} {B : Nat} {ops : List Oper} {o : Oper} {s : St}
def noFp : Fp := ⟨[], [], []⟩
def zeroL (T : TF) : List AV := T.zero.map fun v => .im (.v v)
def partsA (s : St) (ps : Array (Nat × Operand)) : List (Nat × AT) := ps.toList.map fun p => (p.1, s.ev p.2)
def placeS (T : TF) (i : Nat) : Option (Nat × Nat) := match T.kind with
  | .st fs => match fs[i]? with
    | some (some f) => some (f.off, f.sz)
    | _ => none
  | _ => none
def chunk : Nat → Nat → List AV → List (List AV)
  | 0, _, _ => []
  | n + 1, c, l => l.take c :: chunk n c (l.drop c)
def ExC (P : Program) (B : Nat) (ops : List Oper) (s : St) (o : Oper) (c : Call) (K : St → Fp → Prop) : Prop :=
  match c.callee with
  | .builtin .len => ∃ x t T n, c.args = #[x] ∧ c.argTypes = #[t] ∧ tf P t = some T ∧ lenOk T (s.ev x) = true ∧ lenA (s.ev x) = some n ∧ K (s.put o.dst (.c (.im (.v (.int .i64 n))))) noFp
  | .builtin .append => ∃ x y t T e Te kl olds news, c.args = #[x, y] ∧ c.argTypes = #[t, t] ∧ tf P t = some T ∧ T.kind = .sl e ∧ tf P e = some Te ∧ 0 < Te.sz ∧ Te.zero.length = Te.sz ∧ Te.zero.all isOne = true ∧ appA s e Te.sz (s.ev x) = some (kl, olds) ∧ rowsA s Te.sz (s.ev y) = some news ∧
      (olds.length + news.length) * Te.bytes ≤ 140737488355328 ∧ olds.length + news.length ≤ 9223372036854775807 ∧ K (s.app o.dst kl ⟨e, Te.sz, olds ++ news, false⟩) ⟨blkOf (s.ev y), kl, [s.heap.length]⟩
  | _ => ∃ fp s', (wantA ops s o = some true → (∀ d, o.dst = some d → d < s.tmps.length) → OpSem P B ops o s fp s') ∧ K s' fp
def Ex (P : Program) (B : Nat) (ops : List Oper) (s : St) (o : Oper) (K : St → Fp → Prop) : Prop :=
  match o.op with
  | .move x => K (s.put o.dst (s.ev x)) noFp
  | .assign x => K (s.put o.dst (s.ev x)) noFp
  | .pick c a b => ∃ t, s.ev c = .c (.im (.v (.bool t))) ∧ K (s.put o.dst (if t = true then s.ev a else s.ev b)) noFp
  | .load t x => ∃ T r, tf P t = some T ∧ loadA s T (s.ev x) = some r ∧ K (s.put o.dst r) ⟨blkOf (s.ev x), [], []⟩
  | .fieldAddr t x k => ∃ T r, tf P t = some T ∧ fieldA T k (s.ev x) = some r ∧ K (s.put o.dst r) noFp
  | .field t x k => ∃ T r, tf P t = some T ∧ partA T k (s.ev x) = some r ∧ K (s.put o.dst r) noFp
  | .indexAddr t x i => ∃ T e Te kd n r, tf P t = some T ∧ elemOf? T = some e ∧ tf P e = some Te ∧ s.ev i = .c (.im (.v (.int kd n))) ∧ 0 ≤ n ∧ indexA s T Te (s.ev x) n.toNat = some r ∧ K (s.put o.dst r) ⟨blkOf (s.ev x), [], []⟩
  | .extract x i => ∃ l r, s.ev x = .u l ∧ l[i]? = some r ∧ K (s.put o.dst r) noFp
  | .unOp .not _ x => ∃ b, s.ev x = .c (.im (.v (.bool b))) ∧ K (s.put o.dst (.c (.im (.v (.bool !b))))) noFp
  | .binOp op t x y _ => (∃ a b r, s.ev x = .c (.im (.v a)) ∧ s.ev y = .c (.im (.v b)) ∧ binA op a b = some r ∧ K (s.put o.dst (.c (.im (.v r)))) noFp) ∨ ∃ fp s', (wantA ops s o = some true → (∀ d, o.dst = some d → d < s.tmps.length) → OpSem P B ops o s fp s') ∧ K s' fp
  | .alloc t => ∃ T, tf P t = some T ∧ T.zero.all isOne = true ∧ 0 < T.zero.length ∧ K (s.new o.dst (.c (.op s.heap.length 0 0)) ⟨t, T.zero.length, [zeroL T], true⟩) ⟨[], [], [s.heap.length]⟩
  | .box t x => ∃ l, cellsA (s.ev x) = some l ∧ 0 < l.length ∧ K (s.new o.dst (.c (.op s.heap.length 0 0)) ⟨t, l.length, [l], true⟩) ⟨[], [], [s.heap.length]⟩
  | .build t ps => ∃ T l, tf P t = some T ∧ T.zero.all isOne = true ∧ fillA (placeS T) (zeroL T) (partsA s ps) = some l ∧ (match T.kind with | .st fs => fs.all Option.isSome = true | _ => False) ∧ K (s.put o.dst (.g l)) noFp
  | .buildSlice t n ps => ∃ T e Te l, tf P t = some T ∧ T.kind = .sl e ∧ tf P e = some Te ∧ Te.zero.all isOne = true ∧ Te.zero.length = Te.sz ∧ 0 < Te.sz ∧ n * Te.sz ≤ 16777216 ∧
      fillA (fun i => some (i * Te.sz, Te.sz)) (List.replicate n (zeroL Te)).flatten (partsA s ps) = some l ∧ K (s.new o.dst (.c (.os s.heap.length 0 n)) ⟨e, Te.sz, chunk n Te.sz l, true⟩) ⟨[], [], [s.heap.length]⟩
  | .store t xa xv => ∃ T l b k, tf P t = some T ∧ cellsA (s.ev xv) = some l ∧ l.length = T.sz ∧ storeA s (s.ev xa) l = some (b, k) ∧ o.dst = none ∧ K (s.upd b k) ⟨[], [b], []⟩
  | .call c => ExC P B ops s o c K
  | _ => ∃ fp s', (wantA ops s o = some true → (∀ d, o.dst = some d → d < s.tmps.length) → OpSem P B ops o s fp s') ∧ K s' fp
theorem chunk_len : ∀ (n c : Nat) (l : List AV), l.length = n * c → (chunk n c l).length = n ∧ (∀ row ∈ chunk n c l, row.length = c) ∧ ∀ (i : Nat) row, (chunk n c l)[i]? = some row → ∀ (j : Nat) x, row[j]? = some x → l[i * c + j]? = some x
  | 0, c, l, _ => ⟨rfl, fun r hr => (by cases hr), fun i row h => by simp [chunk] at h⟩
  | n + 1, c, l, h => by
    rw [Nat.succ_mul] at h
    obtain ⟨h1, h2, h3⟩ := chunk_len n c (l.drop c) (by simp; omega)
    refine ⟨by simp [chunk, h1], fun row hr => ?_, fun i row hi j x hj => ?_⟩
    · simp only [chunk, List.mem_cons] at hr
      rcases hr with rfl | hr
      · simp; omega
      · exact h2 row hr
    · cases i with
      | zero =>
        simp only [chunk, List.getElem?_cons_zero, Option.some.injEq] at hi
        subst hi
        have hjc : j < c := by have := (List.getElem?_eq_some_iff.1 hj).1; simp at this; omega
        rw [List.getElem?_take_of_lt hjc] at hj
        rw [Nat.zero_mul, Nat.zero_add]; exact hj
      | succ i =>
        simp only [chunk, List.getElem?_cons_succ] at hi
        have := h3 i row hi j x hj
        rw [List.getElem?_drop] at this
        rw [Nat.succ_mul]
        rwa [show i * c + c + j = c + (i * c + j) by omega]
theorem rep_zero {O : Nat → Prop} {m : Nat → Option Loc} {w : World} {T : TF} (h : T.zero.all isOne = true) : RepL O m w T.zero (zeroL T) := by
  rw [List.all_eq_true] at h
  refine ⟨by simp [zeroL], fun u hu => h u hu, fun j x hj u hu => ?_⟩
  unfold zeroL at hj
  rw [List.getElem?_map, hu] at hj
  simp only [Option.map_some, Option.some.injEq] at hj
  subst hj
  exact .im (.v u)
theorem rep_parts {O : Nat → Prop} {m : Nat → Option Loc} {w : World} {a : Act} {ps : Array (Nat × Operand)} (h : ∀ p ∈ ps, RepT O m w (s.ev p.2) (a.eval p.2)) : (ps.map fun (i, x) => (i, a.eval x)).toList.length = (partsA s ps).length ∧ ∀ (j : Nat) p x, (ps.map fun (i, x) => (i, a.eval x)).toList[j]? = some p → (partsA s ps)[j]? = some x → p.1 = x.1 ∧ RepT O m w x.2 p.2 := by
  refine ⟨by simp [partsA], fun j p x hp hx => ?_⟩
  unfold partsA at hx
  rw [List.getElem?_map] at hx
  rw [Array.toList_map, List.getElem?_map] at hp
  cases hq : ps.toList[j]? with
  | none => rw [hq] at hx; cases hx
  | some q =>
    rw [hq] at hx hp
    simp only [Option.map_some, Option.some.injEq] at hx hp
    subst hx hp
    exact ⟨rfl, h q (by have := List.mem_of_getElem? hq; simpa using this)⟩
theorem chunkRep {O : Nat → Prop} {m : Nat → Option Loc} {w : World} {us : List Value} {l : List AV} {n c : Nat} (h : RepL O m w us l) (hl : l.length = n * c) : us.length = n * c ∧ ∀ (i : Nat) row, (chunk n c l)[i]? = some row → ∀ (j : Nat) x, row[j]? = some x → ∀ u, us[i * c + j]? = some u → RepA O m w x u :=
  ⟨by rw [h.1, hl], fun i row hi j x hj u hu => h.2.2 _ x ((chunk_len n c l hl).2.2 i row hi j x hj) u hu⟩
theorem replicate_flat (n : Nat) (z : Array Value) : ((Array.range (n * z.size)).map (z[· % z.size]!)).toList = (List.replicate n z.toList).flatten := by
  apply List.ext_getElem?
  intro i
  induction n generalizing i with
  | zero => simp
  | succ n ih =>
    rw [List.replicate_succ, List.flatten_cons]
    by_cases hi : i < z.size
    · rw [List.getElem?_append_left (by simpa using hi)]
      have h2 : i < (n + 1) * z.size := by rw [Nat.succ_mul]; omega
      simp [h2, Nat.mod_eq_of_lt hi, hi]
    · rw [List.getElem?_append_right (by simpa using hi), Array.length_toList, ← ih]
      by_cases h2 : i - z.size < n * z.size
      · have h3 : i < (n + 1) * z.size := by rw [Nat.succ_mul]; omega
        have h4 : i % z.size = (i - z.size) % z.size := (Nat.mod_eq_sub_mod (by omega))
        simp [h2, h3, h4]
      · have h3 : ¬ i < (n + 1) * z.size := by rw [Nat.succ_mul]; omega
        simp [h2, h3]
theorem fillA_len {place : Nat → Option (Nat × Nat)} : ∀ (xs : List (Nat × AT)) (cs cs' : List AV), fillA place cs xs = some cs' → cs'.length = cs.length
  | [], cs, cs', h => by simp only [fillA, Option.some.injEq] at h; rw [h]
  | (i, x) :: xs, cs, cs', h => by
    simp only [fillA] at h
    split at h
    · split at h
      · rename_i hc
        rw [fillA_len xs _ _ h, splice_len hc.2]
      · cases h
    · cases h
theorem ex_sound {K : St → Fp → Prop} (hw : wantA ops s o = some true) (hd : ∀ d, o.dst = some d → d < s.tmps.length) (h : Ex P B ops s o K) : ∃ fp s', OpSem P B ops o s fp s' ∧ K s' fp := by
  unfold Ex at h
  split at h
  · rename_i x hop
    exact ⟨_, _, sem_read hw hd fun O m w a hv hr => ⟨a.eval x, by simp [execOp, hop], hr x (by rw [hop]; simp [Op.operands])⟩, h⟩
  · rename_i x hop
    exact ⟨_, _, sem_read hw hd fun O m w a hv hr => ⟨a.eval x, by simp [execOp, hop], hr x (by rw [hop]; simp [Op.operands])⟩, h⟩
  · rename_i c a b hop
    obtain ⟨t, ht, hk⟩ := h
    refine ⟨_, _, sem_read hw hd fun O m w ac hv hr => ⟨if t = true then ac.eval a else ac.eval b, ?_, ?_⟩, hk⟩
    · have := hr c (by rw [hop]; simp [Op.operands])
      rw [ht] at this
      simp [execOp, hop, rep_v this, asBool]
    · cases t
      · exact hr b (by rw [hop]; simp [Op.operands])
      · exact hr a (by rw [hop]; simp [Op.operands])
  · rename_i t x hop
    obtain ⟨T, r, hT, hr, hk⟩ := h
    refine ⟨_, _, sem_read hw hd fun O m w ac hv hrep => ?_, hk⟩
    obtain ⟨u, h1, h2⟩ := run_loadA hT (hrep x (by rw [hop]; simp [Op.operands])) (fun b hb => hv.own b hb) hr
    exact ⟨u, by simp [execOp, hop, h1], h2⟩
  · rename_i t x k hop
    obtain ⟨T, r, hT, hr, hk⟩ := h
    refine ⟨_, _, sem_read hw hd fun O m w ac hv hrep => ?_, hk⟩
    obtain ⟨u, h1, h2⟩ := run_fieldA (w := w) hT (hrep x (by rw [hop]; simp [Op.operands])) hr
    exact ⟨u, by simp [execOp, hop, h1], h2⟩
  · rename_i t x k hop
    obtain ⟨T, r, hT, hr, hk⟩ := h
    refine ⟨_, _, sem_read hw hd fun O m w ac hv hrep => ?_, hk⟩
    obtain ⟨u, h1, h2⟩ := run_partA (w := w) hT (hrep x (by rw [hop]; simp [Op.operands])) hr
    exact ⟨u, by simp [execOp, hop, h1], h2⟩
  · rename_i t x i hop
    obtain ⟨T, e, Te, kd, n, r, hT, he, hTe, hi, hn, hr, hk⟩ := h
    refine ⟨_, _, sem_read hw hd fun O m w ac hv hrep => ?_, hk⟩
    have h0 := hrep i (by rw [hop]; simp [Op.operands])
    rw [hi] at h0
    obtain ⟨u, h1, h2⟩ := run_indexA (w := w) (kd := kd) hT he hTe hn (hrep x (by rw [hop]; simp [Op.operands])) (fun b hb => hv.own b hb) hr
    exact ⟨u, by simp [execOp, hop, rep_v h0, h1], h2⟩
  · rename_i x i hop
    obtain ⟨l, r, hx, hr, hk⟩ := h
    refine ⟨_, _, sem_read hw hd fun O m w ac hv hrep => ?_, hk⟩
    have h0 := hrep x (by rw [hop]; simp [Op.operands])
    rw [hx] at h0
    generalize hvv : ac.eval x = vv at h0
    cases h0 with
    | @u _ us hl hh =>
      have hlt : i < us.size := by rw [hl]; exact (List.getElem?_eq_some_iff.1 hr).1
      exact ⟨us[i], by simp [execOp, hop, hvv, Instr.extract, hlt], hh i r hr _ (Array.getElem?_eq_getElem hlt)⟩
  · rename_i t x hop
    obtain ⟨b, hb, hk⟩ := h
    refine ⟨_, _, sem_read hw hd fun O m w ac hv hrep => ?_, hk⟩
    have h0 := hrep x (by rw [hop]; simp [Op.operands])
    rw [hb] at h0
    exact ⟨.bool !b, by simp [execOp, hop, rep_v h0, Op.unary], .c (.im (.v _)) rfl⟩
  · rename_i op t x y ty hop
    rcases h with ⟨a, b, r, ha, hb, hr, hk⟩ | h
    · refine ⟨_, _, sem_read hw hd fun O m w ac hv hrep => ?_, hk⟩
      have h1 := hrep x (by rw [hop]; simp [Op.operands])
      have h2 := hrep y (by rw [hop]; simp [Op.operands])
      rw [ha] at h1
      rw [hb] at h2
      refine ⟨r, ?_, .c (.im (.v r)) (binOne hr)⟩
      have := run_binA (P := P) (w := w) (t := t) (xo := x) (yo := y) hr
      simp only [execOp, hop, rep_v h1, rep_v h2, Sem.run_bind] at this ⊢
      rw [this]
      rfl
    · obtain ⟨fp, s', h1, h2⟩ := h
      exact ⟨fp, s', h1 hw hd, h2⟩
  · rename_i t hop
    obtain ⟨T, hT, hz, hpos, hk⟩ := h
    refine ⟨_, _, sem_new (cap := 1) (mk := fun w => .pointer (some ⟨w.heap.size, 0, none⟩)) hw hd hpos (by unfold maxLen; omega) (by simp) (fun _ => rfl) (fun row hr => ?_) (fun O m w hm => ?_) fun O m w a hv hrep => ?_, hk⟩
    · simp only [List.mem_singleton] at hr; rw [hr]; simp [zeroL]
    · have : ∀ w', RepT O m w' (.c (.op s.heap.length 0 0)) (.pointer (some ⟨w.heap.size, 0 * T.zero.length + 0, none⟩)) := fun w' => .c (.op hm) rfl
      simp only [Nat.zero_mul, Nat.zero_add] at this
      exact ⟨this _, this⟩
    · obtain ⟨i, d, z, h1, h2, h3, rfl⟩ := tf_spec hT
      have hrz := rep_zero (O := O) (m := m) (w := w) hz
      refine ⟨z.cells, ?_, by simp, fun u hu => hrz.2.1 u (by simpa using hu), fun i row hi j x hj u hu => ?_⟩
      · (simp [execOp, hop, Instr.alloc, zeroValue, typeInfo, h1, h3, newVar, newRow]; done)
      · cases i with
        | zero =>
          simp only [List.getElem?_cons_zero, Option.some.injEq] at hi
          subst hi
          exact hrz.2.2 j x hj u (by simpa using hu)
        | succ i => simp at hi
  · rename_i t x hop
    obtain ⟨l, hl, hpos, hk⟩ := h
    refine ⟨_, _, sem_new (cap := 1) (mk := fun w => .pointer (some ⟨w.heap.size, 0, none⟩)) hw hd hpos (by unfold maxLen; omega) (by simp) (fun _ => rfl) (fun row hr => ?_) (fun O m w hm => ?_) fun O m w a hv hrep => ?_, hk⟩
    · simp only [List.mem_singleton] at hr; rw [hr]
    · have : ∀ w', RepT O m w' (.c (.op s.heap.length 0 0)) (.pointer (some ⟨w.heap.size, 0 * l.length + 0, none⟩)) := fun w' => .c (.op hm) rfl
      simp only [Nat.zero_mul, Nat.zero_add] at this
      exact ⟨this _, this⟩
    · have hrz := rep_cells (hrep x (by rw [hop]; simp [Op.operands])) hl
      refine ⟨(a.eval x).cells, ?_, by have := hrz.1; simpa using this, fun u hu => hrz.2.1 u (by simpa using hu), fun i row hi j y hj u hu => ?_⟩
      · (simp [execOp, hop, Instr.box, newVar, newRow]; done)
      · cases i with
        | zero =>
          simp only [List.getElem?_cons_zero, Option.some.injEq] at hi
          subst hi
          exact hrz.2.2 j y hj u (by simpa using hu)
        | succ i => simp at hi
  · rename_i t ps hop
    obtain ⟨T, l, hT, hz, hf, hkd, hk⟩ := h
    refine ⟨_, _, sem_read (rd := []) hw hd fun O m w a hv hrep => ?_, hk⟩
    obtain ⟨i, d, z, h1, h2, h3, rfl⟩ := tf_spec hT
    cases d with
    | struct fs =>
      have hrz := rep_zero (O := O) (m := m) (w := w) hz
      have hrp := rep_parts (s := s) (O := O) (m := m) (w := w) (a := a) (ps := ps) (fun p hp => hrep p.2 (by rw [hop]; simp only [Op.operands]; simp; exact ⟨p.1, by simpa using hp⟩))
      obtain ⟨us, h4, h5⟩ := fill_rep _ _ z.cells _ l hrp.1 hrp.2 hrz hf
      refine ⟨.agg us, ?_, .g (by have := h5.1; simpa using this) (fun u hu => h5.2.1 u (by simpa using hu)) fun j x hj u hu => h5.2.2 j x hj u (by simpa using hu)⟩
      exact buildRun hop h1 h2 h3 (fun f hf => by
        simp only [kindOf, List.all_eq_true] at hkd
        exact hkd _ (List.mem_map.2 ⟨f, by simpa using hf, rfl⟩)) h4
    | _ => simp [kindOf] at hkd
  · rename_i t n ps hop
    obtain ⟨T, e, Te, l, hT, hkd, hTe, hz, hzl, hsz, hn, hf, hk⟩ := h
    have hll : l.length = n * Te.sz := by rw [fillA_len _ _ _ hf]; simp [zeroL, hzl]
    obtain ⟨c1, c2, c3⟩ := chunk_len n Te.sz l hll
    refine ⟨_, _, sem_new (cap := n) (mk := fun w => .slice (some ⟨w.heap.size, 0, none⟩) n n) hw hd hsz (by unfold maxLen; have : n ≤ n * Te.sz := Nat.le_mul_of_pos_right _ hsz; omega) (by rw [c1]; exact Nat.le_refl _) (fun _ => c1) c2 (fun O m w hm => ?_) fun O m w a hv hrep => ?_, hk⟩
    · have : ∀ w', RepT O m w' (.c (.os s.heap.length 0 n)) (.slice (some ⟨w.heap.size, 0 * Te.sz, none⟩) n (n - 0)) := fun w' => .c (.os hm (by omega) (fun _ => rfl)) rfl
      simp only [Nat.zero_mul, Nat.sub_zero] at this
      exact ⟨this _, this⟩
    · obtain ⟨iT, dT, zT, t1, t2, t3, rfl⟩ := tf_spec hT
      obtain ⟨ie, de, ze, e1, e2, e3, rfl⟩ := tf_spec hTe
      simp only at hkd hz hzl hsz hn hf hll c1 c2 c3 ⊢
      have ht2 : P.underlying t = some (.slice e) := by
        cases dT with
        | slice e' => simp only [kindOf, TK.sl.injEq] at hkd; rw [t2, hkd]
        | _ => simp [kindOf] at hkd
      have hzs : ze.cells.size = ie.size := by simpa using hzl
      have hrz : RepL O m w ((Array.range (n * ie.size)).map (ze.cells[· % ze.cells.size]!)).toList (List.replicate n (zeroL ⟨ie.size, ie.bytes, isAggD de, ze.cells.toList, kindOf P de⟩)).flatten := by
        have := replicate_flat n ze.cells
        rw [← hzs, this]
        exact repRepl (rep_zero (T := ⟨ie.size, ie.bytes, isAggD de, ze.cells.toList, kindOf P de⟩) hz) n
      have hrp := rep_parts (s := s) (O := O) (m := m) (w := w) (a := a) (ps := ps) (fun p hp => hrep p.2 (by rw [hop]; simp only [Op.operands]; simp; exact ⟨p.1, by simpa using hp⟩))
      obtain ⟨us, h4, h5⟩ := fill_rep _ _ _ _ l hrp.1 hrp.2 hrz hf
      have hch := chunkRep h5 hll
      refine ⟨us, ?_, by simpa using hch.1, fun u hu => h5.2.1 u (by simpa using hu), fun i row hi j x hj u hu => hch.2 i row hi j x hj u (by simpa using hu)⟩
      have hn' : ¬ (16777216 < n * ie.size) := by omega
      have h4' := h4
      rw [hzs] at h4'
      have hps : (ps.map fun (i, x) => (i, a.eval x)).toList = List.map (fun x => (x.fst, a.eval x.snd)) ps.toList := by simp
      rw [hps] at h4'
      by_cases h0 : n * ie.size = 0
      · have hr0 : Array.range 0 = #[] := rfl
        simp [execOp, hop, Instr.buildSlice, underlying, ht2, sizeOf, typeInfo, e1, hn', h0, newRow, hr0]
        have h5 : Instr.fill (fun i => some (i * ie.size, ie.size)) #[] (List.map (fun x => (x.fst, a.eval x.snd)) ps.toList) = some us := by simpa [h0, hr0] using h4'
        simp [h5]
      · simp [execOp, hop, Instr.buildSlice, underlying, ht2, sizeOf, typeInfo, e1, e3, hn', h0, newRow, zeroValue, hzs, h4']
  · rename_i t xa xv hop
    obtain ⟨T, l, b, k, hT, hc, hl, hst, hdn, hk⟩ := h
    exact ⟨_, _, sem_store hop hdn hw hT hc hl hst, hk⟩
  · rename_i c hop
    obtain ⟨callee, args, argTypes⟩ := c
    unfold ExC at h
    split at h
    · rename_i hcal
      simp only at hcal
      subst hcal
      obtain ⟨x, t, T, n, rfl, rfl, hT, hb, hn, hk⟩ := h
      refine ⟨_, _, sem_read (rd := []) hw hd fun O m w a hv hrep => ?_, hk⟩
      have hx := hrep x (by rw [hop]; simp [Op.operands, Call.operands])
      exact ⟨.int .i64 n, lenRun hop hx hn hT hb, .c (.im (.v _)) rfl⟩
    · rename_i hcal
      simp only at hcal
      subst hcal
      obtain ⟨x, y, t, T, e, Te, kl, olds, news, rfl, rfl, hT, hkd, hTe, hsz, hz, hzo, hx, hy, hb, h63, hk⟩ := h
      exact ⟨_, _, sem_append hop hw hd hT hkd hTe hsz hz hzo hx hy hb h63, hk⟩
    · obtain ⟨fp, s', h1, h2⟩ := h
      exact ⟨fp, s', h1 hw hd, h2⟩
  · obtain ⟨fp, s', h1, h2⟩ := h
    exact ⟨fp, s', h1 hw hd, h2⟩
where
  binOne {op : BinOp} {a b r : Value} (h : binA op a b = some r) : isOne r = true := by
    unfold binA at h
    split at h
    all_goals first
      | (cases h; done)
      | (injection h with h; subst h; rfl)
      | (split at h; (injection h with h; subst h; rfl); cases h)
  buildRun {t : TypeId} {ps : Array (Nat × Operand)} {a : Act} {w : World} {fs : Array Field} {i : TypeInfo} {z : Value} {us : Array Value} (hop : o.op = .build t ps) (h1 : P.info? t = some i) (h2 : P.underlying t = some (.struct fs)) (h3 : i.zero = some z) (hall : ∀ f ∈ fs, (fi P f).isSome = true)
      (h4 : Instr.fill (placeS ⟨i.size, i.bytes, isAggD (.struct fs), z.cells.toList, kindOf P (.struct fs)⟩) z.cells (ps.map fun (i, x) => (i, a.eval x)).toList = some us) : (execOp a.eval o).run P w = .ok (.value (.agg us)) w := by
    have hinfo : ∀ f ∈ fs, ∃ q, P.info? f.type = some q := fun f hf => by
      have := hall f hf
      unfold fi at this
      cases hq : P.info? f.type with
      | none => rw [hq] at this; simp at this
      | some q => exact ⟨q, rfl⟩
    have hlist : ∀ l : List Field, (∀ f ∈ l, ∃ q, P.info? f.type = some q) → (l.mapM fun f => (do pure (f.offset, ← sizeOf f.type) : Sem (Nat × Nat))).run P w = .ok (l.map fun f => (f.offset, P.cellsOf f.type)) w := by
      intro l
      induction l with
      | nil => intro _; simp
      | cons f l ih =>
        intro hl
        obtain ⟨q, hq⟩ := hl f (by simp)
        rw [List.mapM_cons]
        have ih' := ih fun g hg => hl g (by simp [hg])
        have hsz : (sizeOf f.type).run P w = .ok (P.cellsOf f.type) w := by simp [sizeOf, typeInfo, hq, Program.cellsOf]
        simp only [Sem.run_bind, Sem.run_pure, Result.andThen_ok, hsz]
        rw [ih']
        rfl
    have harr : (fs.mapM fun f => (do pure (f.offset, ← sizeOf f.type) : Sem (Nat × Nat))).run P w = .ok (fs.map fun f => (f.offset, P.cellsOf f.type)) w := by
      have e : fs = fs.toList.toArray := by simp
      rw [e, List.mapM_toArray]
      simp only [Sem.run_map, hlist fs.toList (fun f hf => hinfo f (by simpa using hf)), Result.andThen_ok]
      congr 1
      apply Array.ext'
      simp
    have hplace : (fun i => (fs.map fun f => (f.offset, P.cellsOf f.type))[i]?) = placeS ⟨i.size, i.bytes, isAggD (.struct fs), z.cells.toList, kindOf P (.struct fs)⟩ := by
      funext k
      unfold placeS
      simp only [kindOf, List.getElem?_map, Array.getElem?_map, Array.getElem?_toList]
      cases hk : fs[k]? with
      | none => rfl
      | some f =>
        have hf := hall f (Array.mem_of_getElem? hk)
        simp only [Option.map_some]
        unfold fi at hf ⊢
        cases hq : P.info? f.type with
        | none => rw [hq] at hf; simp at hf
        | some q =>
          cases hu : P.underlying f.type with
          | none => rw [hq, hu] at hf; simp at hf
          | some d => simp [Program.cellsOf, hq]
    rw [← hplace] at h4
    simp only [execOp, hop, Instr.build, Sem.run_bind, zeroValue, typeInfo, run_program, Result.andThen_ok, h1, h3, Sem.run_pure, underlying, h2, harr, h4]
  repRepl {O : Nat → Prop} {m : Nat → Option Loc} {w : World} {us : List Value} {l : List AV} (h : RepL O m w us l) : ∀ n, RepL O m w (List.replicate n us).flatten (List.replicate n l).flatten
    | 0 => ⟨rfl, fun u hu => by simp at hu, fun j x hj => by simp at hj⟩
    | n + 1 => by
      have ih := repRepl h n
      rw [List.replicate_succ, List.replicate_succ, List.flatten_cons, List.flatten_cons]
      refine ⟨by rw [List.length_append, List.length_append, h.1, ih.1], fun u hu => (List.mem_append.1 hu).elim (h.2.1 u) (ih.2.1 u), fun j x hj u hu => ?_⟩
      by_cases hlt : j < l.length
      · rw [List.getElem?_append_left hlt] at hj
        rw [List.getElem?_append_left (by rw [h.1]; exact hlt)] at hu
        exact h.2.2 j x hj u hu
      · rw [List.getElem?_append_right (by omega)] at hj
        rw [List.getElem?_append_right (by rw [h.1]; omega), h.1] at hu
        exact ih.2.2 _ x hj u hu
  lenRun {x : Operand} {t : TypeId} {n : Nat} {a : Act} {O : Nat → Prop} {m : Nat → Option Loc} {w : World} (hop : o.op = .call { callee := .builtin .len, args := #[x], argTypes := #[t] }) (hx : RepT O m w (s.ev x) (a.eval x)) (hn : lenA (s.ev x) = some n) {T : TF} (hT : tf P t = some T) (hb : lenOk T (s.ev x) = true) : (execOp a.eval o).run P w = .ok (.value (.int .i64 n)) w := by
    obtain ⟨i, d, z, h1, hu, h3, rfl⟩ := tf_spec hT
    rcases rep_len hx hn with ⟨A, cap, hv, hk⟩ | ⟨z, hv, hz, hk⟩
    · rw [hk] at hb
      cases d with
      | slice e => simp [execOp, hop, resolve, invoke, builtin, Builtin.len_, underlying, hu, hv, goInt]
      | _ => simp [kindOf] at hb
    · rw [hk] at hb
      cases d with
      | string => simp [execOp, hop, resolve, invoke, builtin, Builtin.len_, underlying, hu, hv, goInt, hz]
      | _ => simp [kindOf] at hb
end
end Go.Proofs.YtedkfipjooafeaaGreatDoor.Ab
set_option linter.unusedSimpArgs false
set_option linter.unusedVariables false
namespace Go.Proofs.YtedkfipjooafeaaGreatDoor.Ab
open Go Go.RowKit

def guardA (ops : List Oper) (s : St) (g : Nat) : Option Bool := match (ops[g]?).bind (·.dst) with
  | some d => match s.tmp d with
    | .c (.im (.v (.bool b))) => some b
    | _ => none
  | none => none
def skipA (ops : List Oper) (s : St) (g : Nat) : Bool := match (ops[g]?).bind (·.dst) with
  | some d => match s.tmp d with
    | .u [] => true
    | _ => false
  | none => false
def Run (P : Program) (B : Nat) (ops : List Oper) : List Oper → St → List Fp → (St → List Fp → Prop) → Prop
  | [], s, f, K => K s f
  | o :: l, s, f, K => match o.guard with
    | none => Ex P B ops s o (fun s' fp => Run P B ops l s' (f ++ [fp]) K)
    | some (g, want) => (skipA ops s g = true ∧ Run P B ops l (s.put o.dst (.u [])) (f ++ [noFp]) K) ∨ ∃ b, guardA ops s g = some b ∧ (b = want → Ex P B ops s o (fun s' fp => Run P B ops l s' (f ++ [fp]) K)) ∧ (b = !want → Run P B ops l (s.put o.dst (.u [])) (f ++ [noFp]) K)
def dstB (ops : List Oper) (n : Nat) : Bool := ops.all fun o => match o.dst with
  | some d => decide (d < n)
  | none => true
section
variable {P : Program} {B : Nat} {ops : List Oper}
theorem run_chain {N : Nat} : ∀ (l : List Oper) (s : St) (f : List Fp) (K : St → List Fp → Prop), dstB l N = true → s.tmps.length = N → Run P B ops l s f K → Chain P B ops l s f K
  | [], s, f, K, _, _, h => h
  | o :: l, s, f, K, hd, hN, h => by
    unfold dstB at hd
    rw [List.all_cons, Bool.and_eq_true] at hd
    obtain ⟨hd1, hd2⟩ := hd
    have hdo : ∀ d, o.dst = some d → d < s.tmps.length := fun d he => by
      rw [he] at hd1
      rw [hN]; simpa using hd1
    have go : Ex P B ops s o (fun s' fp => Run P B ops l s' (f ++ [fp]) K) → wantA ops s o = some true → Chain P B ops (o :: l) s f K := fun hx hw => by
      obtain ⟨fp, s', h1, h2⟩ := ex_sound hw hdo hx
      exact ⟨fp, s', h1, run_chain l s' _ K hd2 (by rw [h1.1.1, hN]) h2⟩
    unfold Run at h
    split at h
    · rename_i hg
      exact go h (by unfold wantA; rw [hg])
    · rename_i g want hg
      rcases h with ⟨hsk, h3⟩ | ⟨b, hb, h1, h2⟩
      · have hw : wantA ops s o = some false := by
          unfold wantA
          rw [hg]
          unfold skipA at hsk
          simp only
          split at hsk
          · rename_i d hd'
            rw [hd']
            simp only
            split at hsk
            · rename_i hb'
              rw [hb']
            · cases hsk
          · cases hsk
        exact ⟨_, _, sem_skip hw, run_chain l _ _ K hd2 (by rw [put_len, hN]) h3⟩
      have hw : wantA ops s o = some (b == want) := by
        unfold wantA
        rw [hg]
        unfold guardA at hb
        simp only
        split at hb
        · rename_i d hd'
          rw [hd']
          simp only
          split at hb
          · rename_i b' hb'
            rw [hb']
            injection hb with hb
            rw [hb]
          · cases hb
        · cases hb
      by_cases e : b = want
      · exact go (h1 e) (by rw [hw, e]; simp)
      · have h3 := h2 (by cases b <;> cases want <;> simp_all)
        exact ⟨_, _, sem_skip (by rw [hw]; simp [e]), run_chain l _ _ K hd2 (by rw [put_len, hN]) h3⟩
variable {E : Env} {s : St} {Q : Exit → St → Prop}
/-! ## The walk -/
structure R1 (P : Program) (B : Nat) (ops l : List Oper) (s : St) (f : List Fp) (K : St → List Fp → Prop) : Prop where
  out : Run P B ops l s f K
structure X1 (P : Program) (B : Nat) (ops : List Oper) (s : St) (o : Oper) (K : St → Fp → Prop) : Prop where
  out : Ex P B ops s o K
structure S1 (P : Program) (B : Nat) (ops l : List Oper) (f : List Fp) (K : St → List Fp → Prop) (s : St) (fp : Fp) : Prop where
  out : Run P B ops l s (f ++ [fp]) K
structure W1 (P : Program) (E : Env) (c : Code) (s : St) (Q : Exit → St → Prop) : Prop where
  out : AW P E c s Q
theorem ex_mono {s : St} {o : Oper} {K K' : St → Fp → Prop} (hk : ∀ s fp, K s fp → K' s fp) (h : Ex P B ops s o K) : Ex P B ops s o K' := by
  have hG : (∃ fp s', (wantA ops s o = some true → (∀ d, o.dst = some d → d < s.tmps.length) → OpSem P B ops o s fp s') ∧ K s' fp) → ∃ fp s', (wantA ops s o = some true → (∀ d, o.dst = some d → d < s.tmps.length) → OpSem P B ops o s fp s') ∧ K' s' fp :=
    fun ⟨fp, s', h1, h2⟩ => ⟨fp, s', h1, hk _ _ h2⟩
  have hC : ∀ c, ExC P B ops s o c K → ExC P B ops s o c K' := fun c h => by
    unfold ExC at h ⊢
    generalize c.callee = y at h ⊢
    cases y with
    | builtin b =>
      cases b
      case len =>
        obtain ⟨x, t, T, n, h1, h2, h3, h4, h5, h6⟩ := h
        exact ⟨x, t, T, n, h1, h2, h3, h4, h5, hk _ _ h6⟩
      case append =>
        obtain ⟨x, y, t, T, e', Te, kl, ol, nw, h1, h2, h3, h4, h5, h6, h7, h8, h9, h10, h11, h12, h13⟩ := h
        exact ⟨x, y, t, T, e', Te, kl, ol, nw, h1, h2, h3, h4, h5, h6, h7, h8, h9, h10, h11, h12, hk _ _ h13⟩
      all_goals exact hG h
    | value f => exact hG h
    | invoke r m => exact hG h
  unfold Ex at h ⊢
  generalize o.op = x at h ⊢
  cases x
  case call c => exact hC c h
  case unOp u t y =>
    cases u
    case not =>
      obtain ⟨a, h1, h2⟩ := h
      exact ⟨a, h1, hk _ _ h2⟩
    all_goals exact hG h
  case binOp =>
    rcases h with ⟨a, b, r, h1, h2, h3, h4⟩ | h
    · exact .inl ⟨a, b, r, h1, h2, h3, hk _ _ h4⟩
    · exact .inr (hG h)
  case move => exact hk _ _ h
  case assign => exact hk _ _ h
  case pick => obtain ⟨a, h1, h2⟩ := h; exact ⟨a, h1, hk _ _ h2⟩
  case load => obtain ⟨T, r, h1, h2, h3⟩ := h; exact ⟨T, r, h1, h2, hk _ _ h3⟩
  case fieldAddr => obtain ⟨T, r, h1, h2, h3⟩ := h; exact ⟨T, r, h1, h2, hk _ _ h3⟩
  case field => obtain ⟨T, r, h1, h2, h3⟩ := h; exact ⟨T, r, h1, h2, hk _ _ h3⟩
  case indexAddr => obtain ⟨T, e, Te, kd, n, r, h1, h2, h3, h4, h5, h6, h7⟩ := h; exact ⟨T, e, Te, kd, n, r, h1, h2, h3, h4, h5, h6, hk _ _ h7⟩
  case extract => obtain ⟨l, r, h1, h2, h3⟩ := h; exact ⟨l, r, h1, h2, hk _ _ h3⟩
  case alloc => obtain ⟨T, h1, h2, h3, h4⟩ := h; exact ⟨T, h1, h2, h3, hk _ _ h4⟩
  case box => obtain ⟨l, h1, h2, h3⟩ := h; exact ⟨l, h1, h2, hk _ _ h3⟩
  case build => obtain ⟨T, l, h1, h2, h3, h4, h5⟩ := h; exact ⟨T, l, h1, h2, h3, h4, hk _ _ h5⟩
  case buildSlice => obtain ⟨T, e, Te, l, h1, h2, h3, h4, h5, h6, h7, h8, h9⟩ := h; exact ⟨T, e, Te, l, h1, h2, h3, h4, h5, h6, h7, h8, hk _ _ h9⟩
  case store => obtain ⟨T, l, b, k, h1, h2, h3, h4, h5, h6⟩ := h; exact ⟨T, l, b, k, h1, h2, h3, h4, h5, hk _ _ h6⟩
  all_goals exact hG h
section
variable {o : Oper} {l ops' : List Oper} {f : List Fp} {K : St → List Fp → Prop}
theorem r1_step (hg : o.guard = none) (h : X1 P B ops s o (S1 P B ops l f K)) : R1 P B ops (o :: l) s f K := ⟨by
  unfold Run
  rw [hg]
  exact ex_mono (fun _ _ h => h.out) h.out⟩
theorem r1_guard {g : Nat} {want b : Bool} (hO : ops = ops') (hg : o.guard = some (g, want)) (hb : guardA ops' s g = some b) (h1 : b = want → X1 P B ops s o (S1 P B ops l f K)) (h2 : b = !want → S1 P B ops l f K (s.put o.dst (.u [])) noFp) : R1 P B ops (o :: l) s f K := ⟨by
  unfold Run
  rw [hg]
  subst hO
  exact .inr ⟨b, hb, fun e => ex_mono (fun _ _ h => h.out) (h1 e).out, fun e => (h2 e).out⟩⟩
theorem r1_skip {g : Nat} {want : Bool} (hO : ops = ops') (hg : o.guard = some (g, want)) (hb : skipA ops' s g = true) (h : S1 P B ops l f K (s.put o.dst (.u [])) noFp) : R1 P B ops (o :: l) s f K := ⟨by
  unfold Run
  rw [hg]
  subst hO
  exact .inl ⟨hb, h.out⟩⟩
theorem r1_nil (h : K s f) : R1 P B ops [] s f K := ⟨h⟩
theorem s1_next {fp : Fp} (h : R1 P B ops l s (f ++ [fp]) K) : S1 P B ops l f K s fp := ⟨h.out⟩
end
section
variable {o : Oper} {K : St → Fp → Prop}
theorem x1_bin {op : BinOp} {t ty : TypeId} {x y : Operand} {a b r : Value} (hop : o.op = .binOp op t x y ty) (ha : s.ev x = .c (.im (.v a))) (hb : s.ev y = .c (.im (.v b))) (hr : binA op a b = some r) (h : K (s.put o.dst (.c (.im (.v r)))) noFp) : X1 P B ops s o K := ⟨by
  unfold Ex
  rw [hop]
  exact .inl ⟨a, b, r, ha, hb, hr, h⟩⟩
theorem wrap_ok {n : Int} (h1 : -9223372036854775808 ≤ n) (h2 : n ≤ 9223372036854775807) : IntKind.i64.wrap n = n := IntWalk.i64_in _ (by omega)
theorem cast_succ (n : Nat) : (n : Int) + 1 = ((n + 1 : Nat) : Int) := rfl
theorem ba_size (l : List UInt8) : (⟨l.toArray⟩ : ByteArray).size = l.length := by simp [ByteArray.size]
theorem x1_add {t ty : TypeId} {x y : Operand} {a b : Int} (hop : o.op = .binOp .add t x y ty) (ha : s.ev x = .c (.im (.v (.int .i64 a)))) (hb : s.ev y = .c (.im (.v (.int .i64 b)))) (h1 : -9223372036854775808 ≤ a + b) (h2 : a + b ≤ 9223372036854775807) (h : K (s.put o.dst (.c (.im (.v (.int .i64 (a + b)))))) noFp) : X1 P B ops s o K :=
  x1_bin hop ha hb (by show some _ = _; rw [wrap_ok h1 h2]) h
theorem x1_sub {t ty : TypeId} {x y : Operand} {a b : Int} (hop : o.op = .binOp .sub t x y ty) (ha : s.ev x = .c (.im (.v (.int .i64 a)))) (hb : s.ev y = .c (.im (.v (.int .i64 b)))) (h1 : -9223372036854775808 ≤ a - b) (h2 : a - b ≤ 9223372036854775807) (h : K (s.put o.dst (.c (.im (.v (.int .i64 (a - b)))))) noFp) : X1 P B ops s o K :=
  x1_bin hop ha hb (by show some _ = _; rw [wrap_ok h1 h2]) h
theorem x1_mul {t ty : TypeId} {x y : Operand} {a b : Int} (hop : o.op = .binOp .mul t x y ty) (ha : s.ev x = .c (.im (.v (.int .i64 a)))) (hb : s.ev y = .c (.im (.v (.int .i64 b)))) (h1 : -9223372036854775808 ≤ a * b) (h2 : a * b ≤ 9223372036854775807) (h : K (s.put o.dst (.c (.im (.v (.int .i64 (a * b)))))) noFp) : X1 P B ops s o K :=
  x1_bin hop ha hb (by show some _ = _; rw [wrap_ok h1 h2]) h
theorem x1_len {x : Operand} {t : TypeId} {T : TF} {n : Nat} (hop : o.op = .call { callee := .builtin .len, args := #[x], argTypes := #[t] }) (hT : tf P t = some T) (hb : lenOk T (s.ev x) = true) (hn : lenA (s.ev x) = some n) (h : K (s.put o.dst (.c (.im (.v (.int .i64 n))))) noFp) : X1 P B ops s o K := ⟨by
  unfold Ex
  rw [hop]
  exact ⟨x, t, T, n, rfl, rfl, hT, hb, hn, h⟩⟩
theorem x1_call {fo : Operand} {args : Array Operand} {ts : Array TypeId} {f : FuncId} {caps az : List AT} {r : AT} (hop : o.op = .call { callee := .value fo, args := args, argTypes := ts }) (hc : calleeA (s.ev fo) = some (f, caps)) (hA : ACalls P f az r) (ha : args.toList.map s.ev ++ caps = az) (hp : pureTs az) (h : K (s.put o.dst r) noFp) : X1 P B ops s o K := ⟨by
  unfold Ex
  rw [hop]
  subst ha
  exact ⟨_, _, fun hw hd => sem_call hop hw hd hc hp hA, h⟩⟩
end
section
variable {Q' : Exit → St → Prop}
theorem w1_region {id N : Nat} {ops : List Oper} (hN : s.tmps.length = N) (hd : dstB ops N = true) (h : ∀ OPS, OPS = ops → R1 P E.B OPS ops s [] (fun s' _ => Q .normal s')) : W1 P E (.region id ops.toArray false) s Q :=
  ⟨aw_region (run_chain _ _ _ _ hd hN (h ops rfl).out)⟩
theorem w1_draw {id N : Nat} {ops : List Oper} (hm : P.follows .mixedOrders = true) (hN : s.tmps.length = N) (hd : dstB ops N = true) (h : ∀ OPS, OPS = ops → R1 P E.B OPS ops s [] (fun s' g => orderB OPS g = true ∧ Q .normal s')) : W1 P E (.region id ops.toArray true) s Q :=
  ⟨aw_draw hm (run_chain _ _ _ _ hd hN (h ops rfl).out)⟩
theorem w1_seq {x y : Code} (h : ∀ K : St → Prop, (∀ s', W1 P E y s' Q → K s') → W1 P E x s (thenA K Q)) : W1 P E (.seq x y) s Q := ⟨aw_seq (h (fun s' => AW P E y s' Q) fun _ h => h.out).out⟩
theorem w1_cond {c : Operand} {x y : Code} (b : Bool) (hc : s.ev c = .c (.im (.v (.bool b)))) (hx : b = true → W1 P E x s Q) (hy : b = false → W1 P E y s Q) : W1 P E (.cond c x y) s Q := ⟨aw_cond b hc (fun h => (hx h).out) (fun h => (hy h).out)⟩
theorem w1_skip (h : Q .normal s) : W1 P E .skip s Q := ⟨aw_skip h⟩
theorem w1_exit {id : Nat} (h : Q (.exit id) s) : W1 P E (.exit id) s Q := ⟨aw_exit h⟩
theorem w1_ret (h : Q .ret s) : W1 P E .ret s Q := ⟨aw_ret h⟩
theorem w1_block {id : Nat} {c : Code} (h : W1 P E c s (blockA id Q)) : W1 P E (.block id c) s Q := ⟨aw_block h.out⟩
theorem w1_sub {c : Code} {s' : St} (hs : Sub E s s') (h : W1 P E c s' Q) : W1 P E c s Q := ⟨aw_sub hs h.out⟩
theorem w1_loop {α : Type} (F : α → St) (μ : α → Nat) (x0 : α) {c : Code} (h0 : Sub E s (F x0)) (hr : ∀ x, W1 P E c (F x) (thenA (fun s' => ∃ x', μ x' < μ x ∧ Sub E s' (F x')) Q)) : W1 P E (.loop c) s Q := ⟨aw_loop F μ x0 h0 fun x => (hr x).out⟩
end
theorem sub_refl {E : Env} {s : St} : Sub E s s := fun _ _ h => h
theorem fin_plain {E : Env} {fn : Func} {s : St} {r : AT} {rs : List AT} (h : resA P s fn.results.toList = some rs) (hp : packA rs = r) (hr : pureT r) : Fin P E fn r s := ⟨s, rs, sub_refl, h, hp, hr⟩
theorem end_ret {E : Env} {fn : Func} {s : St} {r : AT} {rs : List AT} (h : resA P s fn.results.toList = some rs) (hp : packA rs = r) (hr : pureT r) : endA P E fn r .ret s := fin_plain h hp hr
theorem acalls_w {f : FuncId} {fn : Func} {c : Code} {args : List AT} {r : AT} (hf : P.funcs[f]? = some fn) (hb : fn.body = some c) (hname : fn.name ≠ "runtime.NumGoroutine") (h : ∀ E, Base E → W1 P E c ⟨args ++ List.replicate (fn.ntmps - args.length) (.u []), []⟩ (endA P E fn r)) : ACalls P f args r := acalls_of hf hb hname fun E hE => (h E hE).out

/-! ## A callee that works on one's own blocks -/
def aliveL : Nat → List (Option Blk) → List Nat
  | _, [] => []
  | i, none :: l => aliveL (i + 1) l
  | i, some _ :: l => i :: aliveL (i + 1) l
theorem aliveL_mem : ∀ (l : List (Option Blk)) (i b : Nat), b ∈ aliveL i l ↔ i ≤ b ∧ (l[b - i]?).join ≠ none
  | [], i, b => by simp [aliveL]
  | none :: l, i, b => by
    rw [aliveL, aliveL_mem l (i + 1) b]
    constructor
    · rintro ⟨h1, h2⟩
      refine ⟨by omega, ?_⟩
      rw [show b - i = (b - (i + 1)) + 1 by omega, List.getElem?_cons_succ]; exact h2
    · rintro ⟨h1, h2⟩
      by_cases e : b = i
      · subst e; simp at h2
      · rw [show b - i = (b - (i + 1)) + 1 by omega, List.getElem?_cons_succ] at h2
        exact ⟨by omega, h2⟩
  | some k :: l, i, b => by
    rw [aliveL, List.mem_cons, aliveL_mem l (i + 1) b]
    constructor
    · rintro (h | ⟨h1, h2⟩)
      · subst h; simp
      · refine ⟨by omega, ?_⟩
        rw [show b - i = (b - (i + 1)) + 1 by omega, List.getElem?_cons_succ]; exact h2
    · rintro ⟨h1, h2⟩
      by_cases e : b = i
      · exact .inl e
      · rw [show b - i = (b - (i + 1)) + 1 by omega, List.getElem?_cons_succ] at h2
        exact .inr ⟨by omega, h2⟩
mutual
def belowA (n : Nat) : AV → Prop
  | .op b _ _ => b < n
  | .os b _ _ => b < n
  | .clo _ l => belowAs n l
  | _ => True
def belowAs (n : Nat) : List AV → Prop
  | [] => True
  | x :: l => belowA n x ∧ belowAs n l
end
mutual
def belowT (n : Nat) : AT → Prop
  | .c x => belowA n x
  | .g l => belowAs n l
  | .u l => belowTs n l
  | .j => True
def belowTs (n : Nat) : List AT → Prop
  | [] => True
  | x :: l => belowT n x ∧ belowTs n l
end
def belowR (n : Nat) : List (List AV) → Prop
  | [] => True
  | x :: l => belowAs n x ∧ belowR n l
def belowH (n : Nat) : List (Option Blk) → Prop
  | [] => True
  | none :: l => belowH n l
  | some k :: l => belowR n k.rows ∧ belowH n l
theorem belowAs_get {n : Nat} : ∀ {l : List AV}, belowAs n l → ∀ {j : Nat} {x}, l[j]? = some x → belowA n x
  | [], _, j, x, h => by simp at h
  | y :: l, hp, 0, x, h => by
    simp only [List.getElem?_cons_zero, Option.some.injEq] at h
    subst h; exact hp.1
  | y :: l, hp, j + 1, x, h => belowAs_get hp.2 (by simpa using h)
theorem belowTs_get {n : Nat} : ∀ {l : List AT}, belowTs n l → ∀ {j : Nat} {x}, l[j]? = some x → belowT n x
  | [], _, j, x, h => by simp at h
  | y :: l, hp, 0, x, h => by
    simp only [List.getElem?_cons_zero, Option.some.injEq] at h
    subst h; exact hp.1
  | y :: l, hp, j + 1, x, h => belowTs_get hp.2 (by simpa using h)
theorem belowR_get {n : Nat} : ∀ {l : List (List AV)}, belowR n l → ∀ {j : Nat} {x}, l[j]? = some x → belowAs n x
  | [], _, j, x, h => by simp at h
  | y :: l, hp, 0, x, h => by
    simp only [List.getElem?_cons_zero, Option.some.injEq] at h
    subst h; exact hp.1
  | y :: l, hp, j + 1, x, h => belowR_get hp.2 (by simpa using h)
theorem belowH_get {n : Nat} : ∀ {l : List (Option Blk)}, belowH n l → ∀ {j : Nat} {k}, l[j]? = some (some k) → belowR n k.rows
  | [], _, j, x, h => by simp at h
  | none :: l, hp, 0, x, h => by simp at h
  | some y :: l, hp, 0, x, h => by
    simp only [List.getElem?_cons_zero, Option.some.injEq] at h
    subst h; exact hp.1
  | none :: l, hp, j + 1, x, h => belowH_get (l := l) hp (by simpa using h)
  | some y :: l, hp, j + 1, x, h => belowH_get (l := l) hp.2 (by simpa using h)
section
variable {O : Nat → Prop} {m m' : Nat → Option Loc} {w : World} {n : Nat}
theorem RepA.under {x : AV} {v : Value} (h : RepA O m w x v) (hm : ∀ b, b < n → m' b = m b) (hb : belowA n x) : RepA O m' w x v := by
  induction h with
  | im h => exact .im h
  | op h => exact .op (by rw [hm _ (by unfold belowA at hb; exact hb)]; exact h)
  | os h h1 h2 => exact .os (by rw [hm _ (by unfold belowA at hb; exact hb)]; exact h) h1 h2
  | virt h => exact .virt (by rw [hm _ (by unfold belowA at hb; exact hb)]; exact h)
  | clo hl ho h ih => exact .clo hl ho fun j x hj u hu => ih j x hj u hu (by unfold belowA at hb; exact belowAs_get hb hj)
  | junk v => exact .junk v
theorem RepT.under {x : AT} {v : Value} (h : RepT O m w x v) (hm : ∀ b, b < n → m' b = m b) (hb : belowT n x) : RepT O m' w x v := by
  induction h with
  | c h hv => exact .c (h.under hm (by unfold belowT at hb; exact hb)) hv
  | g hl ho h => exact .g hl ho fun j x hj u hu => (h j x hj u hu).under hm (by unfold belowT at hb; exact belowAs_get hb hj)
  | u hl h ih => exact .u hl fun j x hj u hu => ih j x hj u hu (by unfold belowT at hb; exact belowTs_get hb hj)
  | j v => exact .j v
end
def deadL : List (Option Blk) → List (Option Blk) → Prop
  | [], _ => True
  | none :: l, none :: l' => deadL l l'
  | some _ :: l, _ :: l' => deadL l l'
  | _, _ => False
theorem deadL_get : ∀ {l l' : List (Option Blk)}, deadL l l' → ∀ (b : Nat), b < l.length → (l[b]?).join = none → (l'[b]?).join = none
  | [], _, _, b, h, _ => by simp at h
  | none :: l, none :: l', hd, b, h, h1 => by
    cases b with
    | zero => rfl
    | succ b => exact deadL_get (l := l) (l' := l') hd b (by simpa using h) (by simpa using h1)
  | some k :: l, x :: l', hd, b, h, h1 => by
    cases b with
    | zero => simp at h1
    | succ b => exact deadL_get (l := l) (l' := l') (by unfold deadL at hd; exact hd) b (by simpa using h) (by simpa using h1)
  | none :: l, some k :: l', hd, b, h, h1 => by unfold deadL at hd; exact hd.elim
  | none :: l, [], hd, b, h, h1 => by unfold deadL at hd; exact hd.elim
  | some k :: l, [], hd, b, h, h1 => by unfold deadL at hd; exact hd.elim
def FinI (P : Program) (E : Env) (fn : Func) (r : AT) (h : List (Option Blk)) (s : St) : Prop := ∃ s2 rs, Sub E s s2 ∧ resA P s2 fn.results.toList = some rs ∧ packA rs = r ∧ s2.heap = h
def endI (P : Program) (E : Env) (fn : Func) (r : AT) (h : List (Option Blk)) : Exit → St → Prop
  | .normal, s => FinI P E fn r h s
  | .ret, s => FinI P E fn r h s
  | _, _ => False
theorem sem_inline {o : Oper} {s : St} {fo : Operand} {args : Array Operand} {ts : Array TypeId} {f : FuncId} {caps : List AT} {r : AT} {h' : List (Option Blk)} {fn : Func} {c : Code} (hop : o.op = .call { callee := .value fo, args := args, argTypes := ts }) (hw : wantA ops s o = some true) (hd : ∀ d, o.dst = some d → d < s.tmps.length)
    (hc : calleeA (s.ev fo) = some (f, caps)) (hf : P.funcs[f]? = some fn) (hb : fn.body = some c) (hname : fn.name ≠ "runtime.NumGoroutine") (hlen : s.heap.length ≤ h'.length) (hdead : deadL s.heap h') (hb1 : belowTs s.heap.length (args.toList.map s.ev ++ caps)) (hb2 : belowH s.heap.length s.heap)
    (hA : ∀ E : Env, E.B = B → E.n0 = s.heap.length → (∀ b, E.m0 b ≠ none → b < E.n0) → AW P E c ⟨(args.toList.map s.ev ++ caps) ++ List.replicate (fn.ntmps - (args.toList.map s.ev ++ caps).length) (.u []), s.heap⟩ (endI P E fn r h')) :
    OpSem P B ops o s ⟨[], aliveL 0 s.heap, (List.range' s.heap.length (h'.length - s.heap.length))⟩ ⟨(s.put o.dst r).tmps, h'⟩ := by
  have hal : ∀ b, b ∈ aliveL 0 s.heap ↔ s.hp b ≠ none := fun b => by rw [aliveL_mem]; simp [St.hp]
  have hnw : ∀ b, b ∈ List.range' s.heap.length (h'.length - s.heap.length) ↔ s.heap.length ≤ b ∧ b < h'.length := fun b => by rw [List.mem_range'_1]; omega
  refine ⟨⟨put_len .., fun t ht => put_tmp_ne ht, fun b h1 h2 => ?_, fun b hb => (hal b).1 hb, fun b hb => (hnw b).1 hb, hlen⟩, ?_⟩
  · have e1 : s.hp b = none := Classical.byContradiction fun h => h1 ((hal b).2 h)
    rw [e1]
    by_cases hlt : b < s.heap.length
    · exact deadL_get hdead b hlt e1
    · exact hp_out (s := ⟨_, h'⟩) (Nat.le_of_not_lt fun h => h2 ((hnw b).2 ⟨by omega, h⟩))
  intro O m w a K Q hv hl hn hs hK
  unfold wpO
  rw [want_spec hw hl, if_pos rfl]
  have hops : ∀ x, x = fo ∨ x ∈ args → RepT O m w (s.ev x) (a.eval x) := fun x hx => ev_looks hl (by rw [hop]; simp only [Op.operands, Call.operands]; rcases hx with h | h <;> simp [h])
  obtain ⟨us, hfo, husz, hus⟩ := rep_callee (hops fo (.inl rfl)) hc
  have hent : entersB P f = true := by unfold entersB; rw [hf]; simp [hname, hb]
  unfold Oper.wp
  rw [run_call hop hfo hent, Oper.upon_enter]
  -- where the callee begins
  let m1 : Nat → Option Loc := fun b => if b < s.heap.length then m b else none
  have hm1 : ∀ b, b < s.heap.length → m1 b = m b := fun b h => if_pos h
  let E : Env := ⟨w, O, fun q => ∃ b c cap, s.hp b ≠ none ∧ m b = some (.at_ q c cap), m1, s.heap.length, B⟩
  have hown : ∀ b, Own B O m w b (s.hp b) := fun b => by
    by_cases h : s.hp b = none
    · rw [h]; trivial
    · exact hv.own b (by simpa using (hal b).2 h)
  have hltb : ∀ b, s.hp b ≠ none → b < s.heap.length := fun b h => Nat.lt_of_not_le fun hle => h (hp_out hle)
  have hargs : ∀ (j : Nat) x, (args.toList.map s.ev ++ caps)[j]? = some x → ∀ v, (args.map a.eval ++ us)[j]? = some v → RepT O m w x v := fun j x hj v hjv => by
    by_cases hlt : j < args.size
    · rw [List.getElem?_append_left (by simpa using hlt), List.getElem?_map] at hj
      rw [Array.getElem?_append_left (by simpa using hlt), Array.getElem?_map] at hjv
      cases hx : args[j]? with
      | none => rw [hx] at hjv; cases hjv
      | some y =>
        have hx' : args.toList[j]? = some y := by simpa using hx
        rw [hx] at hjv
        rw [hx'] at hj
        simp only [Option.map_some, Option.some.injEq] at hj hjv
        subst hj hjv
        exact hops y (.inr (Array.mem_of_getElem? hx))
    · rw [List.getElem?_append_right (by simp; omega)] at hj
      rw [Array.getElem?_append_right (by simp; omega)] at hjv
      simp only [List.length_map, Array.length_toList, Array.size_map] at hj hjv
      obtain ⟨h1, z, rfl⟩ := hus _ x hj v hjv
      refine .c (h1 z rfl) ?_
      have hfr := hops fo (.inl rfl)
      rw [hfo] at hfr
      exact sem_call.capO hc hfr hj hjv
  have hg : Good E ⟨(args.toList.map s.ev ++ caps) ++ List.replicate (fn.ntmps - (args.toList.map s.ev ++ caps).length) (.u []), s.heap⟩ { tmps := (args.map a.eval ++ us) ++ Array.replicate (fn.ntmps - (args.map a.eval ++ us).size) undef, defers := [] } w := by
    have hsz : (args.map a.eval ++ us).size = (args.toList.map s.ev ++ caps).length := by simp [husz]
    refine ⟨Nat.le_refl _, O, m1, ⟨rfl, rfl, rfl, Nat.le_refl _, fun _ _ _ => rfl, fun _ h => h, fun _ h => .inl h, fun b hb => rfl, fun b hb q c cap hq => .inl ⟨b, c, cap, hb, by rw [← hm1 b (hltb b hb)]; exact hq⟩, fun b hb h => h⟩, ⟨hv.lt, hv.base, fun b => ?_, fun b b' h1 h2 q c cap c' cap' e1 e2 => ?_, fun t => ?_, by simp [husz], rfl, fun b hb => ?_⟩⟩
    · show Own B O m1 w b (s.hp b)
      have h0 := hown b
      cases hk : s.hp b with
      | none => trivial
      | some k =>
        rw [hk] at h0
        have hbl := hltb b (by rw [hk]; simp)
        have hkb : belowR s.heap.length k.rows := by
          unfold St.hp at hk
          cases hh : s.heap[b]? with
          | none => rw [hh] at hk; cases hk
          | some o => rw [hh] at hk; cases o with
            | none => cases hk
            | some k' => injection hk with hk; subst hk; exact belowH_get hb2 hh
        rcases h0 with ⟨g1, g2⟩ | ⟨q, cap, vs, g1, g2, g3, g4, g5, g6, g7, g7', g8, g9, g9', g10⟩
        · exact .inl ⟨by rw [hm1 b hbl]; exact g1, g2⟩
        · exact .inr ⟨q, cap, vs, by rw [hm1 b hbl]; exact g1, g2, g3, g4, g5, g6, g7, g7', g8, g9, g9', fun i row hi j x hj u hu => (g10 i row hi j x hj u hu).under hm1 (belowAs_get (belowR_get hkb hi) hj)⟩
    · have h1' : s.hp b ≠ none := h1
      have h2' : s.hp b' ≠ none := h2
      rw [hm1 b (hltb b h1')] at e1
      rw [hm1 b' (hltb b' h2')] at e2
      exact hv.apart b (by simpa using (hal b).2 h1') b' (by simpa using (hal b').2 h2') h1' h2' q c cap c' cap' e1 e2
    · unfold St.tmp
      rw [List.getD_eq_getElem?_getD, Array.getD_eq_getD_getElem?]
      by_cases ht : t < (args.toList.map s.ev ++ caps).length
      · rw [List.getElem?_append_left ht, Array.getElem?_append_left (by omega), List.getElem?_eq_getElem ht, Array.getElem?_eq_getElem (by omega)]
        exact (hargs t _ (List.getElem?_eq_getElem ht) _ (Array.getElem?_eq_getElem (by omega))).under hm1 (belowTs_get hb1 (List.getElem?_eq_getElem ht))
      · rw [List.getElem?_append_right (by omega), Array.getElem?_append_right (by omega)]
        have e1 : ((List.replicate (fn.ntmps - (args.toList.map s.ev ++ caps).length) (AT.u []))[t - (args.toList.map s.ev ++ caps).length]?).getD (.u []) = .u [] := by rw [List.getElem?_replicate]; split <;> rfl
        have e2 : ((Array.replicate (fn.ntmps - (args.map a.eval ++ us).size) undef)[t - (args.map a.eval ++ us).size]?).getD undef = undef := by rw [Array.getElem?_replicate]; split <;> rfl
        rw [e1, e2]
        exact rep_undef
    · have hb' : m1 b ≠ none := hb
      show b < s.heap.length
      exact Classical.byContradiction fun h => hb' (if_neg h)
  refine calls_of_wp hf hb (wp_mono (hA E rfl rfl (fun b hb => Classical.byContradiction fun h => hb (if_neg h)) _ _ hg) fun e a' w' ⟨s', h1, h2⟩ => ?_)
  have key : FinI P E fn r h' s' → a'.defers = [] ∧ ∃ v, (results fn a'.tmps).run P w' = .ok v w' ∧ K (a.put o.dst v) w' := by
    rintro ⟨s2, rs, hsub, hres, rfl, rfl⟩
    obtain ⟨_, O', m', hE, hI⟩ := hsub a' w' h2
    obtain ⟨v, h3, h4⟩ := run_results (w := w') hI.tm hI.own hres
    refine ⟨hI.defs, v, h3, ?_⟩
    let m2 : Nat → Option Loc := fun b => if b < s2.heap.length then m' b else m b
    have hm2 : ∀ b, b < s2.heap.length → m2 b = m' b := fun b h => if_pos h
    have hm3 : ∀ b, ¬ b < s2.heap.length → m2 b = m b := fun b h => if_neg h
    have hst2 : Step O' O' m' m2 w' w' := ⟨rfl, rfl, rfl, Nat.le_refl _, fun _ _ _ => rfl, fun _ h => h, fun _ h => .inl h, fun b hb => hm2 b (hI.dom b hb)⟩
    have hloc : ∀ b, b < s.heap.length → m b ≠ none → m' b = m b := fun b h hb => by
      have := hE.loc b (show m1 b ≠ none by rw [hm1 b h]; exact hb)
      rw [this]; exact hm1 b h
    have hA0 : ∀ q, E.A0 q → O q := fun q ⟨b, c, cap, hb, hq⟩ => ((own_dom (hown b) hb).2 q c cap hq).1
    refine hK v O' m2 w' ⟨⟨hE.os, hE.tape, hE.output, hE.size, fun k hk hnO => hE.keep k hk (fun hA => hnO (hA0 k hA)), hE.own, hE.fresh, fun b hb => ?_⟩, hI.lt, fun k hk hnot => hE.keep k hk fun ⟨b, c, cap, hb, hq⟩ => hnot b ((hal b).2 hb) c cap hq, fun b hb => ?_, fun b hb => ?_, fun b hb hne q c cap hq => ?_, fun b hb b' hb' h1 h2 q c cap c' cap' e1 e2 => ?_⟩ fun d hd' => ?_
    · by_cases h : b < s2.heap.length
      · rw [hm2 b h]
        by_cases h5 : b < s.heap.length
        · exact hloc b h5 hb
        · exact absurd (hn b ((hnw b).2 ⟨by omega, h⟩)) hb
      · exact hm3 b h
    · by_cases h : b < s2.heap.length
      · rw [hm2 b h] at hb
        by_cases h5 : b < s.heap.length
        · left
          have := hE.dom b h5 hb
          rw [← hm1 b h5]; exact this
        · exact .inr ((hnw b).2 ⟨by omega, h⟩)
      · rw [hm3 b h] at hb; exact .inl hb
    · exact (hI.own b).step hst2 (fun _ _ _ _ _ => rfl)
    · have hbn := (hnw b).1 hb
      rw [hm2 b hbn.2] at hq
      rcases hE.reach b hne q c cap hq with ⟨b0, c0, cap0, hb0, hq0⟩ | h
      · right
        refine ⟨b0, (hal b0).2 hb0, ?_, c0, cap0, hq0⟩
        refine Classical.byContradiction fun h => ?_
        have hb0l := hltb b0 hb0
        have e0 : m' b0 = some (.at_ q c0 cap0) := by rw [hloc b0 hb0l (by rw [hq0]; simp)]; exact hq0
        have := hI.apart b b0 hne h q c cap c0 cap0 hq e0
        omega
      · exact .inl h
    · rw [hm2 b ((hnw b).1 hb).2] at e1
      rw [hm2 b' ((hnw b').1 hb').2] at e2
      exact hI.apart b b' h1 h2 q c cap c' cap' e1 e2
    · have : (⟨(s.put o.dst (packA rs)).tmps, s2.heap⟩ : St).tmp d = (s.put o.dst (packA rs)).tmp d := rfl
      rw [this, hd']
      exact rep_put (h4.step hst2) fun hlt => absurd (hd d hd') hlt
  cases e with
  | normal => exact key h1
  | ret => exact key h1
  | exit id => exact h1.elim
  | goto l => exact h1.elim
  | panic c => exact h1.elim
  | outgrown => exact h1.elim
end
end Go.Proofs.YtedkfipjooafeaaGreatDoor.Ab
set_option linter.unusedSimpArgs false
set_option linter.unusedVariables false
namespace Go.Proofs.YtedkfipjooafeaaGreatDoor.Ab
open Go Go.RowKit

section
variable {P : Program} {B : Nat} {ops : List Oper} {o : Oper} {s : St} {K : St → Fp → Prop}
theorem x1_read {r : AT} (hc : ∀ c, o.op ≠ .call c) (hnb : ∀ op t x y ty, o.op ≠ .binOp op t x y ty) (h : ∀ (O : Nat → Prop) (m : Nat → Option Loc) (w : World) (a : Act), View B O m w s.hp [] → (∀ x ∈ o.op.operands, RepT O m w (s.ev x) (a.eval x)) → ∃ u, (execOp a.eval o).run P w = .ok (.value u) w ∧ RepT O m w r u)
    (hg : Ex P B ops s o K ↔ ∃ fp s', (wantA ops s o = some true → (∀ d, o.dst = some d → d < s.tmps.length) → OpSem P B ops o s fp s') ∧ K s' fp) (hk : K (s.put o.dst r) noFp) : X1 P B ops s o K :=
  ⟨hg.2 ⟨noFp, _, fun hw hd => sem_read (rd := []) hw hd h, hk⟩⟩
theorem x1_byte {t : TypeId} {T : TF} {x i : Operand} {l : List UInt8} {n : Int} {c : UInt8} (hop : o.op = .index t x i) (hT : tf P t = some T) (hk : T.kind = .str) (hx : s.ev x = .c (.im (.v (.string ⟨l.toArray⟩)))) (hi : s.ev i = .c (.im (.v (.int .i64 n)))) (h0 : 0 ≤ n) (hc : l[n.toNat]? = some c) (h : K (s.put o.dst (.c (.im (.v (.int .u8 c.toNat))))) noFp) : X1 P B ops s o K := by
  refine x1_read (by rw [hop]; intro c h; cases h) (by rw [hop]; intro _ _ _ _ _ h; cases h) (fun O m w a hv hr => ⟨.int .u8 c.toNat, ?_, .c (.im (.v _)) rfl⟩) (by unfold Ex; rw [hop]) h
  have h1 := hr x (by rw [hop]; simp [Op.operands])
  have h2 := hr i (by rw [hop]; simp [Op.operands])
  rw [hx] at h1
  rw [hi] at h2
  obtain ⟨i', d, z, t1, t2, t3, rfl⟩ := tf_spec hT
  cases d with
  | string =>
    have hlt : n.toNat < l.length := (List.getElem?_eq_some_iff.1 hc).1
    have hg : (⟨l.toArray⟩ : ByteArray)[n.toNat]? = some c := by
      rw [getElem?_pos (⟨l.toArray⟩ : ByteArray) n.toNat (by simpa [ByteArray.size] using hlt)]
      have := (List.getElem?_eq_some_iff.1 hc).2
      rw [← this]; rfl
    simp [execOp, hop, rep_v h1, rep_v h2, Instr.index, asIntOf, underlying, t2, h0, hg]
  | _ => simp [kindOf] at hk
theorem x1_conv {src dst : TypeId} {x : Operand} {k k' : IntKind} {n : Int} (hop : o.op = .convert src dst x) (hs : P.underlying src = some (.int k')) (hd : P.underlying dst = some (.int k)) (hx : s.ev x = .c (.im (.v (.int k' n)))) (h : K (s.put o.dst (.c (.im (.v (.int k (k.wrap n)))))) noFp) : X1 P B ops s o K := by
  refine x1_read (by rw [hop]; intro c h; cases h) (by rw [hop]; intro _ _ _ _ _ h; cases h) (fun O m w a hv hr => ⟨.int k (k.wrap n), ?_, .c (.im (.v _)) rfl⟩) (by unfold Ex; rw [hop]) h
  have h1 := hr x (by rw [hop]; simp [Op.operands])
  rw [hx] at h1
  simp [execOp, hop, rep_v h1, convert, underlying, hs, hd, Conv.intToInt]
theorem wrap_u8 (c : UInt8) : IntKind.i64.wrap (c.toNat : Int) = c.toNat := wrap_ok (by omega) (by have := c.toNat_lt; omega)
theorem x1_cutS {t : TypeId} {T : TF} {x lo hi : Operand} {l : List UInt8} {a b : Int} (hop : o.op = .slice t x (some lo) (some hi) none) (hT : tf P t = some T) (hk : T.kind = .str) (hx : s.ev x = .c (.im (.v (.string ⟨l.toArray⟩)))) (hlo : s.ev lo = .c (.im (.v (.int .i64 a)))) (hhi : s.ev hi = .c (.im (.v (.int .i64 b)))) (h0 : 0 ≤ a) (h1 : a ≤ b) (h2 : b ≤ l.length) (h : K (s.put o.dst (.c (.im (.v (.string ⟨((l.take b.toNat).drop a.toNat).toArray⟩))))) noFp) : X1 P B ops s o K := by
  refine x1_read (by rw [hop]; intro c h; cases h) (by rw [hop]; intro _ _ _ _ _ h; cases h) (fun O m w ac hv hr => ⟨_, ?_, .c (.im (.v _)) rfl⟩) (by unfold Ex; rw [hop]) h
  have e1 := hr x (by rw [hop]; simp [Op.operands])
  have e2 := hr lo (by rw [hop]; simp [Op.operands])
  have e3 := hr hi (by rw [hop]; simp [Op.operands])
  rw [hx] at e1
  rw [hlo] at e2
  rw [hhi] at e3
  obtain ⟨i', d, z, t1, t2, t3, rfl⟩ := tf_spec hT
  cases d with
  | string =>
    have hb : 0 ≤ b := by omega
    have hsz : (⟨l.toArray⟩ : ByteArray).size = l.length := by simp [ByteArray.size]
    have ha' : a ≤ (b.toNat : Int) := by omega
    have he : (⟨l.toArray⟩ : ByteArray).extract a.toNat b.toNat = ⟨((l.take b.toNat).drop a.toNat).toArray⟩ := by
      apply ByteArray.ext
      rw [ByteArray.data_extract]
      simp [List.extract_toArray, List.extract_eq_take_drop, List.drop_take]
    simp [execOp, hop, rep_v e1, rep_v e2, rep_v e3, Instr.sliceAt, Instr.slice, Instr.sliceBounds, Instr.sliceBound, asIntOf, underlying, t2, h0, hb, hsz, h2, ha', he]
    intro hh
    omega
  | _ => simp [kindOf] at hk
/-! ## The frequent ones, each by a look -/
theorem x1_move_c {x : Operand} {v : AV} (hop : o.op = .move x) (hx : s.ev x = .c v) (h : K (s.put o.dst (.c v)) noFp) : X1 P B ops s o K := ⟨by unfold Ex; rw [hop]; rw [← hx] at h; exact h⟩
theorem x1_move_g {x : Operand} {v : List AV} (hop : o.op = .move x) (hx : s.ev x = .g v) (h : K (s.put o.dst (.g v)) noFp) : X1 P B ops s o K := ⟨by unfold Ex; rw [hop]; rw [← hx] at h; exact h⟩
theorem x1_move_u {x : Operand} {v : List AT} (hop : o.op = .move x) (hx : s.ev x = .u v) (h : K (s.put o.dst (.u v)) noFp) : X1 P B ops s o K := ⟨by unfold Ex; rw [hop]; rw [← hx] at h; exact h⟩
theorem x1_assign_c {x : Operand} {v : AV} (hop : o.op = .assign x) (hx : s.ev x = .c v) (h : K (s.put o.dst (.c v)) noFp) : X1 P B ops s o K := ⟨by unfold Ex; rw [hop]; rw [← hx] at h; exact h⟩
theorem x1_assign_g {x : Operand} {v : List AV} (hop : o.op = .assign x) (hx : s.ev x = .g v) (h : K (s.put o.dst (.g v)) noFp) : X1 P B ops s o K := ⟨by unfold Ex; rw [hop]; rw [← hx] at h; exact h⟩
theorem x1_pick_t {c x y : Operand} {v : AV} (hop : o.op = .pick c x y) (hc : s.ev c = .c (.im (.v (.bool true)))) (hx : s.ev x = .c v) (h : K (s.put o.dst (.c v)) noFp) : X1 P B ops s o K := ⟨by unfold Ex; rw [hop]; exact ⟨true, hc, by rw [if_pos rfl, hx]; exact h⟩⟩
theorem x1_pick_f {c x y : Operand} {v : AV} (hop : o.op = .pick c x y) (hc : s.ev c = .c (.im (.v (.bool false)))) (hy : s.ev y = .c v) (h : K (s.put o.dst (.c v)) noFp) : X1 P B ops s o K := ⟨by unfold Ex; rw [hop]; exact ⟨false, hc, by rw [if_neg (by simp), hy]; exact h⟩⟩
theorem x1_not {t : TypeId} {x : Operand} {b : Bool} (hop : o.op = .unOp .not t x) (hx : s.ev x = .c (.im (.v (.bool b)))) (h : K (s.put o.dst (.c (.im (.v (.bool !b))))) noFp) : X1 P B ops s o K := ⟨by unfold Ex; rw [hop]; exact ⟨b, hx, h⟩⟩
theorem x1_ext_c {x : Operand} {i : Nat} {l : List AT} {v : AV} (hop : o.op = .extract x i) (hx : s.ev x = .u l) (hl : l[i]? = some (.c v)) (h : K (s.put o.dst (.c v)) noFp) : X1 P B ops s o K := ⟨by unfold Ex; rw [hop]; exact ⟨l, _, hx, hl, h⟩⟩
theorem x1_ext_g {x : Operand} {i : Nat} {l : List AT} {v : List AV} (hop : o.op = .extract x i) (hx : s.ev x = .u l) (hl : l[i]? = some (.g v)) (h : K (s.put o.dst (.g v)) noFp) : X1 P B ops s o K := ⟨by unfold Ex; rw [hop]; exact ⟨l, _, hx, hl, h⟩⟩
theorem x1_fld_o {t : TypeId} {T : TF} {x : Operand} {k b i j : Nat} {fs : List (Option FI)} {f : FI} (hop : o.op = .fieldAddr t x k) (hT : tf P t = some T) (hk : T.kind = .st fs) (hf : fs[k]? = some (some f)) (hz : f.sz ≠ 0) (hx : s.ev x = .c (.op b i j)) (h : K (s.put o.dst (.c (.op b i (j + f.off)))) noFp) : X1 P B ops s o K := ⟨by
  unfold Ex
  rw [hop]
  exact ⟨T, _, hT, by unfold fieldA; rw [hk]; simp only [hf, hz, if_false, hx, addOff], h⟩⟩
theorem x1_fld_i {t : TypeId} {T : TF} {x : Operand} {k : Nat} {cs : List IV} {fs : List (Option FI)} {f : FI} (hop : o.op = .fieldAddr t x k) (hT : tf P t = some T) (hk : T.kind = .st fs) (hf : fs[k]? = some (some f)) (hz : f.sz ≠ 0) (hx : s.ev x = .c (.im (.ip cs))) (h : K (s.put o.dst (.c (.im (.ip (cs.drop f.off))))) noFp) : X1 P B ops s o K := ⟨by
  unfold Ex
  rw [hop]
  exact ⟨T, _, hT, by unfold fieldA; rw [hk]; simp only [hf, hz, if_false, hx, addOff], h⟩⟩
theorem x1_load_o {t : TypeId} {T : TF} {x : Operand} {b i j : Nat} {k : Blk} {row : List AV} {v : AV} (hop : o.op = .load t x) (hT : tf P t = some T) (ha : T.agg = false) (hx : s.ev x = .c (.op b i j)) (hk : s.hp b = some k) (hr : k.rows[i]? = some row) (hv : row[j]? = some v) (h : K (s.put o.dst (.c v)) ⟨[b], [], []⟩) : X1 P B ops s o K := ⟨by
  unfold Ex
  rw [hop]
  refine ⟨T, .c v, hT, by rw [hx]; simp only [loadA, hk, hr, cut, ha, hv, Bool.false_eq_true, if_false, Option.map_some], ?_⟩
  rw [hx]; exact h⟩
theorem x1_load_og {t : TypeId} {T : TF} {x : Operand} {b i : Nat} {k : Blk} {row : List AV} (hop : o.op = .load t x) (hT : tf P t = some T) (ha : T.agg = true) (hx : s.ev x = .c (.op b i 0)) (hk : s.hp b = some k) (hr : k.rows[i]? = some row) (hl : T.sz = row.length) (h : K (s.put o.dst (.g row)) ⟨[b], [], []⟩) : X1 P B ops s o K := ⟨by
  unfold Ex
  rw [hop]
  refine ⟨T, .g row, hT, by rw [hx]; simp only [loadA, hk, hr, cut, ha, hl, Nat.zero_add, Nat.le_refl, if_true, List.drop_zero, List.take_length], ?_⟩
  rw [hx]; exact h⟩
theorem x1_load_i {t : TypeId} {T : TF} {x : Operand} {cs : List IV} {v : IV} (hop : o.op = .load t x) (hT : tf P t = some T) (ha : T.agg = false) (hx : s.ev x = .c (.im (.ip cs))) (hv : cs[0]? = some v) (h : K (s.put o.dst (.c (.im v))) noFp) : X1 P B ops s o K := ⟨by
  unfold Ex
  rw [hop]
  refine ⟨T, .c (.im v), hT, by rw [hx]; simp only [loadA, cut, ha, List.getElem?_map, hv, Bool.false_eq_true, if_false, Option.map_some], ?_⟩
  rw [hx]; exact h⟩
theorem x1_load_ig {t : TypeId} {T : TF} {x : Operand} {cs : List IV} (hop : o.op = .load t x) (hT : tf P t = some T) (ha : T.agg = true) (hx : s.ev x = .c (.im (.ip cs))) (hl : T.sz = cs.length) (h : K (s.put o.dst (.g (cs.map .im))) noFp) : X1 P B ops s o K := ⟨by
  unfold Ex
  rw [hop]
  refine ⟨T, .g (cs.map .im), hT, by rw [hx]; simp only [loadA, cut, ha, hl, Nat.zero_add, List.length_map, Nat.le_refl, if_true, List.drop_zero]; rw [List.take_of_length_le (by simp)], ?_⟩
  rw [hx]; exact h⟩
theorem splice_one {α : Type} (l : List α) (j : Nat) (v : α) (h : j < l.length) : splice l j [v] = l.set j v := by
  unfold splice
  rw [List.set_eq_take_append_cons_drop, if_pos h]
  simp
theorem splice_all {α : Type} (l v : List α) (h : v.length = l.length) : splice l 0 v = v := by
  unfold splice
  rw [List.take_zero, List.nil_append, Nat.zero_add, h, List.drop_length, List.append_nil]
theorem x1_store {t : TypeId} {T : TF} {xa xv : Operand} {b i j : Nat} {ty : TypeId} {c : Nat} {wh : Bool} {rows : List (List AV)} {row : List AV} {v : AV} (hop : o.op = .store t xa xv) (hd : o.dst = none) (hT : tf P t = some T) (h1 : T.sz = 1) (hx : s.ev xa = .c (.op b i j)) (hk : s.hp b = some ⟨ty, c, rows, wh⟩) (hr : rows[i]? = some row) (hj : row[j]?.isSome = true) (hv : s.ev xv = .c v) (h : K (s.upd b ⟨ty, c, rows.set i (row.set j v), wh⟩) ⟨[], [b], []⟩) : X1 P B ops s o K := ⟨by
  unfold Ex
  rw [hop]
  have hjl : j < row.length := by
    rcases Nat.lt_or_ge j row.length with h | h
    · exact h
    · rw [List.getElem?_eq_none h] at hj; cases hj
  refine ⟨T, [v], b, _, hT, by rw [hv]; rfl, by rw [h1]; rfl, ?_, hd, h⟩
  rw [hx]
  simp only [storeA, hk, hr, List.length_singleton]
  rw [if_pos (show j + 1 ≤ row.length from hjl), splice_one _ _ _ hjl]⟩
theorem x1_storeg {t : TypeId} {T : TF} {xa xv : Operand} {b i : Nat} {ty : TypeId} {c : Nat} {wh : Bool} {rows : List (List AV)} {row v : List AV} (hop : o.op = .store t xa xv) (hd : o.dst = none) (hT : tf P t = some T) (hx : s.ev xa = .c (.op b i 0)) (hk : s.hp b = some ⟨ty, c, rows, wh⟩) (hr : rows[i]? = some row) (hv : s.ev xv = .g v) (h1 : v.length = T.sz) (h2 : v.length = row.length) (h : K (s.upd b ⟨ty, c, rows.set i v, wh⟩) ⟨[], [b], []⟩) : X1 P B ops s o K := ⟨by
  unfold Ex
  rw [hop]
  refine ⟨T, v, b, _, hT, by rw [hv]; rfl, h1, ?_, hd, h⟩
  rw [hx]
  simp only [storeA, hk, hr]
  rw [if_pos (by omega), splice_all _ _ h2]⟩
end
end Go.Proofs.YtedkfipjooafeaaGreatDoor.Ab
set_option linter.unusedSimpArgs false
set_option linter.unusedVariables false
namespace Go.Proofs.YtedkfipjooafeaaGreatDoor.Ab
open Go Go.RowKit

section
variable {P : Program} {B : Nat} {ops : List Oper} {o : Oper} {s : St} {K : St → Fp → Prop}
theorem x1_app {t e : TypeId} {T Te : TF} {x y : Operand} {kl : List Nat} {olds news : List (List AV)} {bl : List Nat} (hop : o.op = .call { callee := .builtin .append, args := #[x, y], argTypes := #[t, t] }) (hT : tf P t = some T) (hk : T.kind = .sl e) (hTe : tf P e = some Te) (hsz : 0 < Te.sz) (hz : Te.zero.length = Te.sz) (hzo : Te.zero.all isOne = true)
    (hx : appA s e Te.sz (s.ev x) = some (kl, olds)) (hy : rowsA s Te.sz (s.ev y) = some news) (hbl : blkOf (s.ev y) = bl) (hb : (olds.length + news.length) * Te.bytes ≤ 140737488355328) (h63 : olds.length + news.length ≤ 9223372036854775807) (h : K (s.app o.dst kl ⟨e, Te.sz, olds ++ news, false⟩) ⟨bl, kl, [s.heap.length]⟩) : X1 P B ops s o K := ⟨by
  unfold Ex
  rw [hop]
  subst hbl
  exact ⟨x, y, t, T, e, Te, kl, olds, news, rfl, rfl, hT, hk, hTe, hsz, hz, hzo, hx, hy, hb, h63, h⟩⟩
theorem x1_ix_i {t e : TypeId} {T Te : TF} {x i : Operand} {kd : IntKind} {n : Int} {c : Nat} {rows : List (List IV)} {row : List IV} (hop : o.op = .indexAddr t x i) (hT : tf P t = some T) (hk : T.kind = .sl e) (hTe : tf P e = some Te) (hx : s.ev x = .c (.im (.sl c rows))) (hi : s.ev i = .c (.im (.v (.int kd n)))) (hc : c = Te.sz) (h0 : 0 ≤ n) (hr : rows[n.toNat]? = some row) (h : K (s.put o.dst (.c (.im (.ip row)))) noFp) : X1 P B ops s o K := ⟨by
  unfold Ex
  rw [hop]
  refine ⟨T, e, Te, kd, n, .c (.im (.ip row)), hT, by unfold elemOf?; rw [hk], hTe, hi, h0, by rw [hx]; simp only [indexA, hk, hc, if_true, hr, Option.map_some], ?_⟩
  rw [hx]; exact h⟩
theorem x1_ix_n {t e : TypeId} {T Te : TF} {x i : Operand} {kd : IntKind} {n : Int} {c : Nat} {rows : List (List IV)} {row : List IV} (hop : o.op = .indexAddr t x i) (hT : tf P t = some T) (hk : T.kind = .sl e) (hTe : tf P e = some Te) (hx : s.ev x = .c (.im (.sn c rows))) (hi : s.ev i = .c (.im (.v (.int kd n)))) (hc : c = Te.sz) (h0 : 0 ≤ n) (hr : rows[n.toNat]? = some row) (h : K (s.put o.dst (.c (.im (.ip row)))) noFp) : X1 P B ops s o K := ⟨by
  unfold Ex
  rw [hop]
  refine ⟨T, e, Te, kd, n, .c (.im (.ip row)), hT, by unfold elemOf?; rw [hk], hTe, hi, h0, by rw [hx]; simp only [indexA, hk, hc, if_true, hr, Option.map_some], ?_⟩
  rw [hx]; exact h⟩
theorem x1_ix_o {t e : TypeId} {T Te : TF} {x i : Operand} {kd : IntKind} {n : Int} {b of m : Nat} {k : Blk} (hop : o.op = .indexAddr t x i) (hT : tf P t = some T) (hk : T.kind = .sl e) (hTe : tf P e = some Te) (hx : s.ev x = .c (.os b of m)) (hi : s.ev i = .c (.im (.v (.int kd n)))) (hb : s.hp b = some k) (hc : k.c = Te.sz) (h0 : 0 ≤ n) (hn : n < m) (h : K (s.put o.dst (.c (.op b (of + n.toNat) 0))) ⟨[b], [], []⟩) : X1 P B ops s o K := ⟨by
  unfold Ex
  rw [hop]
  refine ⟨T, e, Te, kd, n, .c (.op b (of + n.toNat) 0), hT, by unfold elemOf?; rw [hk], hTe, hi, h0, by rw [hx]; simp only [indexA, hk, hb]; rw [if_pos ⟨hc, by omega⟩], ?_⟩
  rw [hx]; exact h⟩
theorem x1_app_oo {t e : TypeId} {T Te : TF} {x y : Operand} {b n b2 m c c2 : Nat} {wh wh2 : Bool} {e2 : TypeId} {rows rows2 : List (List AV)} (hop : o.op = .call { callee := .builtin .append, args := #[x, y], argTypes := #[t, t] }) (hT : tf P t = some T) (hk : T.kind = .sl e) (hTe : tf P e = some Te) (hsz : 0 < Te.sz) (hz : Te.zero.length = Te.sz) (hzo : Te.zero.all isOne = true)
    (hx : s.ev x = .c (.os b 0 n)) (hb : s.hp b = some ⟨e, c, rows, wh⟩) (hc : c = Te.sz) (hy : s.ev y = .c (.os b2 0 m)) (hb2 : s.hp b2 = some ⟨e2, c2, rows2, wh2⟩) (hc2 : c2 = Te.sz) (hn : n = rows.length) (hm : m = rows2.length)
    (hbd : (rows.length + rows2.length) * Te.bytes ≤ 140737488355328) (h63 : rows.length + rows2.length ≤ 9223372036854775807) (h : K (s.app o.dst [b] ⟨e, Te.sz, rows ++ rows2, false⟩) ⟨[b2], [b], [s.heap.length]⟩) : X1 P B ops s o K := by
  refine x1_app hop hT hk hTe hsz hz hzo (kl := [b]) (olds := rows) (news := rows2) (bl := [b2]) ?_ ?_ ?_ hbd h63 h
  · rw [hx]; simp only [appA, hb]; rw [if_pos ⟨hc, trivial, by omega⟩, hn, List.take_length]
  · rw [hy]; simp only [rowsA, hb2]; rw [if_pos ⟨hc2, by omega⟩, hm, List.drop_zero, List.take_length]
  · rw [hy]; rfl
end
def renL (l : List (Option Nat)) : Ren := ⟨l.length, fun b => (l[b]?).join⟩
theorem nodup_inj : ∀ (l : List (Option Nat)), (l.filterMap id).Nodup → ∀ (b b' q : Nat), (l[b]?).join = some q → (l[b']?).join = some q → b = b'
  | [], _, b, b', q, h, _ => by simp at h
  | none :: l, hn, b, b', q, h, h' => by
    cases b with
    | zero => simp at h
    | succ b =>
      cases b' with
      | zero => simp at h'
      | succ b' => rw [nodup_inj l (by simpa using hn) b b' q (by simpa using h) (by simpa using h')]
  | some x :: l, hn, b, b', q, h, h' => by
    have hn' : (x :: l.filterMap id).Nodup := by simpa using hn
    rw [List.nodup_cons] at hn'
    have mem : ∀ i : Nat, ((l[i]?).join = some q) → q ∈ l.filterMap id := fun i hi => by
      rw [List.mem_filterMap]
      cases hl : l[i]? with
      | none => rw [hl] at hi; cases hi
      | some y => rw [hl] at hi; exact ⟨y, List.mem_of_getElem? hl, hi⟩
    cases b with
    | zero =>
      simp only [List.getElem?_cons_zero, Option.join_some, Option.some.injEq] at h
      cases b' with
      | zero => rfl
      | succ b' => exact absurd (mem b' (by simpa using h')) (by rw [← h]; exact hn'.1)
    | succ b =>
      cases b' with
      | zero =>
        simp only [List.getElem?_cons_zero, Option.join_some, Option.some.injEq] at h'
        exact absurd (mem b (by simpa using h)) (by rw [← h']; exact hn'.1)
      | succ b' => rw [nodup_inj l hn'.2 b b' q (by simpa using h) (by simpa using h')]
theorem sub_base {E : Env} {s s' : St} (hE : Base E) (l : List (Option Nat)) (hn : l.length = s'.heap.length) (hd : (l.filterMap id).Nodup) (hT : subTs (renL l) s.tmps s'.tmps) (hH : subH (renL l) s 0 s'.heap) : Sub E s s' :=
  sub_ren (renL l) hn hT hH (fun b b' q _ _ h1 h2 => nodup_inj l hd b b' q h1 h2) (fun b hb => by rw [hE.n0] at hb; omega) (fun b hb => absurd (hE.m0 b) hb)
theorem subAs_im {ρ : Ren} : ∀ (l : List AV), (∀ x ∈ l, ∃ z, x = .im z) → subAs ρ l l
  | [], _ => by unfold subAs; trivial
  | x :: l, h => by
    obtain ⟨z, rfl⟩ := h x (by simp)
    unfold subAs
    exact ⟨by unfold subA; rfl, subAs_im l fun y hy => h y (by simp [hy])⟩
theorem subR_map {ρ : Ren} {α : Type} (g : α → List AV) (hg : ∀ y, ∀ x ∈ g y, ∃ z, x = .im z) : ∀ (l : List α), subR ρ (l.map g) (l.map g)
  | [] => by simp [subR]
  | y :: l => by
    rw [List.map_cons]
    unfold subR
    exact ⟨subAs_im _ (hg y), subR_map g hg l⟩
def tmpsOf (N : Nat) (l : List (Nat × AT)) : List AT := l.foldl (fun t p => t.set p.1 p.2) (List.replicate N .j)
theorem sub_nil {E : Env} {s : St} (t c : Nat) (h : s.tmp t = .c (.im (.v (.slice none 0 0)))) : Sub E s ⟨s.tmps.set t (.c (.im (.sl c []))), s.heap⟩ := by
  intro a w ⟨hn0, O, m, hE, hI⟩
  refine ⟨hn0, O, m, hE, ⟨hI.lt, hI.base, hI.own, hI.apart, fun t' => ?_, by rw [hI.size]; simp, hI.defs, hI.dom⟩⟩
  have h0 := hI.tm t'
  show RepT O m w ((s.put (some t) (.c (.im (.sl c [])))).tmp t') _
  by_cases e : t = t'
  · subst e
    rw [h] at h0
    by_cases hlt : t < s.tmps.length
    · rw [put_tmp_eq hlt, rep_v h0]
      exact .c (.im (.sl c [] none 0 [] (fun h => absurd rfl h) (by simp) (fun u hu => (by cases hu)) (fun r hr => (by cases hr)) (Nat.le_refl _) (fun i row hi => by simp at hi))) rfl
    · have : s.tmp t = .u [] := by unfold St.tmp; rw [List.getD_eq_getElem?_getD, List.getElem?_eq_none (by omega)]; rfl
      rw [h] at this; cases this
  · rw [put_tmp_ne (fun h => e (Option.some.inj h))]; exact h0
theorem end_frz {P : Program} {E : Env} {fn : Func} {s : St} {r : AT} {rs : List AT} (hE : Base E) (b : Nat) {k : Blk} (rows : List (List IV)) (hk : s.hp b = some k) (hr : k.rows = rows.map (·.map .im)) (h : resA P (s.frz b k.c rows) fn.results.toList = some rs) (hp : packA rs = r) (hq : pureT r) : endA P E fn r .ret s :=
  ⟨_, rs, sub_freeze hE hk hr, h, hp, hq⟩
theorem end_sub {P : Program} {E : Env} {fn : Func} {s s' : St} {r : AT} (hs : Sub E s s') (h : endA P E fn r .ret s') : endA P E fn r .ret s := by
  obtain ⟨s2, rs, h1, h2⟩ := h
  exact ⟨s2, rs, fun a w hg => h1 a w (hs a w hg), h2⟩
end Go.Proofs.YtedkfipjooafeaaGreatDoor.Ab
set_option linter.unusedSimpArgs false
set_option linter.unusedVariables false
namespace Go.Proofs.YtedkfipjooafeaaGreatDoor.Ab
open Go Go.RowKit

section
variable {P : Program} {B : Nat} {ops : List Oper} {s : St} {o : Oper} {K : St → Fp → Prop}
theorem text_beq (l m : List UInt8) : ((⟨l.toArray⟩ : ByteArray).toList == (⟨m.toArray⟩ : ByteArray).toList) = decide (l = m) := by
  rw [Lib.toList_data, Lib.toList_data]
  show (l == m) = _
  by_cases h : l = m
  · simp [h]
  · simp [h]
theorem x1_eqS {t ty : TypeId} {x y : Operand} {l m : List UInt8} (hop : o.op = .binOp .eql t x y ty) (ha : s.ev x = .c (.im (.v (.string ⟨l.toArray⟩)))) (hb : s.ev y = .c (.im (.v (.string ⟨m.toArray⟩)))) (h : K (s.put o.dst (.c (.im (.v (.bool (decide (l = m))))))) noFp) : X1 P B ops s o K :=
  x1_bin hop ha hb (by show some _ = _; rw [text_beq]) h
theorem x1_neS {t ty : TypeId} {x y : Operand} {l m : List UInt8} (hop : o.op = .binOp .neq t x y ty) (ha : s.ev x = .c (.im (.v (.string ⟨l.toArray⟩)))) (hb : s.ev y = .c (.im (.v (.string ⟨m.toArray⟩)))) (h : K (s.put o.dst (.c (.im (.v (.bool (!decide (l = m))))))) noFp) : X1 P B ops s o K :=
  x1_bin hop ha hb (by show some _ = _; rw [text_beq]) h
theorem x1_pred {t ty : TypeId} {x y : Operand} {n : Nat} (hop : o.op = .binOp .sub t x y ty) (ha : s.ev x = .c (.im (.v (.int .i64 ((n + 1 : Nat) : Int))))) (hb : s.ev y = .c (.im (.v (.int .i64 1)))) (hn : n ≤ 9223372036854775807) (h : K (s.put o.dst (.c (.im (.v (.int .i64 n))))) noFp) : X1 P B ops s o K := by
  refine x1_sub hop ha hb (by omega) (by omega) ?_
  rwa [show ((n + 1 : Nat) : Int) - 1 = n by omega]
theorem x1_ix_on {t e : TypeId} {T Te : TF} {x i : Operand} {n : Nat} {b m : Nat} {k : Blk} (hop : o.op = .indexAddr t x i) (hT : tf P t = some T) (hk : T.kind = .sl e) (hTe : tf P e = some Te) (hx : s.ev x = .c (.os b 0 m)) (hi : s.ev i = .c (.im (.v (.int .i64 n)))) (hb : s.hp b = some k) (hc : k.c = Te.sz) (hn : n < m) (h : K (s.put o.dst (.c (.op b n 0))) ⟨[b], [], []⟩) : X1 P B ops s o K := by
  refine x1_ix_o hop hT hk hTe hx hi hb hc (by omega) (by omega) ?_
  rwa [Int.toNat_natCast, Nat.zero_add]
theorem get_last {α β : Type} (g : α → β) (l : List α) (r : β) : (l.map g ++ [r])[l.length]? = some r := by simp
theorem set_last {α β : Type} (g : α → β) (l : List α) (r q : β) : (l.map g ++ [r]).set l.length q = l.map g ++ [q] := by
  rw [List.set_append_right _ _ (by simp)]; simp
theorem x1_inline {fo : Operand} {args : Array Operand} {ts : Array TypeId} {f : FuncId} {caps az : List AT} {r : AT} {h' : List (Option Blk)} {fn : Func} {c : Code} (hop : o.op = .call { callee := .value fo, args := args, argTypes := ts })
    (hc : calleeA (s.ev fo) = some (f, caps)) (ha : args.toList.map s.ev ++ caps = az) (hf : P.funcs[f]? = some fn) (hb : fn.body = some c) (hname : fn.name ≠ "runtime.NumGoroutine") (hlen : s.heap.length ≤ h'.length) (hdead : deadL s.heap h') (hb1 : belowTs s.heap.length az) (hb2 : belowH s.heap.length s.heap)
    (hA : ∀ E : Env, E.B = B → E.n0 = s.heap.length → (∀ b, E.m0 b ≠ none → b < E.n0) → W1 P E c ⟨az ++ List.replicate (fn.ntmps - az.length) (.u []), s.heap⟩ (endI P E fn r h'))
    (h : K ⟨(s.put o.dst r).tmps, h'⟩ ⟨[], aliveL 0 s.heap, (List.range' s.heap.length (h'.length - s.heap.length))⟩) : X1 P B ops s o K := ⟨by
  unfold Ex
  rw [hop]
  subst ha
  exact ⟨_, _, fun hw hd => sem_inline hop hw hd hc hf hb hname hlen hdead hb1 hb2 fun E h1 h2 h3 => (hA E h1 h2 h3).out, h⟩⟩
end
def ICalls (P : Program) (f : FuncId) (az : List AT) (H : List (Option Blk)) (r : AT) (H' : List (Option Blk)) : Prop :=
  ∃ fn c, P.funcs[f]? = some fn ∧ fn.body = some c ∧ fn.name ≠ "runtime.NumGoroutine" ∧ ∀ E : Env, E.n0 = H.length → (∀ b, E.m0 b ≠ none → b < E.n0) → W1 P E c ⟨az ++ List.replicate (fn.ntmps - az.length) (.u []), H⟩ (endI P E fn r H')
theorem icalls_w {P : Program} {f : FuncId} {fn : Func} {c : Code} {az : List AT} {H H' : List (Option Blk)} {r : AT} (hf : P.funcs[f]? = some fn) (hb : fn.body = some c) (hname : fn.name ≠ "runtime.NumGoroutine")
    (h : ∀ E : Env, E.n0 = H.length → (∀ b, E.m0 b ≠ none → b < E.n0) → W1 P E c ⟨az ++ List.replicate (fn.ntmps - az.length) (.u []), H⟩ (endI P E fn r H')) : ICalls P f az H r H' := ⟨fn, c, hf, hb, hname, h⟩
theorem x1_icall {P : Program} {B : Nat} {ops : List Oper} {s : St} {o : Oper} {K : St → Fp → Prop} {fo : Operand} {args : Array Operand} {ts : Array TypeId} {f : FuncId} {caps az : List AT} {r : AT} {H h' : List (Option Blk)} (hop : o.op = .call { callee := .value fo, args := args, argTypes := ts })
    (hc : calleeA (s.ev fo) = some (f, caps)) (hI : ICalls P f az H r h') (hH : s.heap = H) (ha : args.toList.map s.ev ++ caps = az) (hlen : H.length ≤ h'.length) (hdead : deadL H h') (hb1 : belowTs H.length az) (hb2 : belowH H.length H)
    (h : K ⟨(s.put o.dst r).tmps, h'⟩ ⟨[], aliveL 0 H, (List.range' H.length (h'.length - H.length))⟩) : X1 P B ops s o K := by
  obtain ⟨fn, c, hf, hb, hname, hA⟩ := hI
  subst hH
  exact x1_inline hop hc ha hf hb hname hlen hdead hb1 hb2 (fun E _ h2 h3 => hA E h2 h3) h
theorem end_i {P : Program} {E : Env} {fn : Func} {r : AT} {H : List (Option Blk)} {s : St} (s2 : St) (rs : List AT) (hs : Sub E s s2) (hr : resA P s2 fn.results.toList = some rs) (hp : packA rs = r) (hh : s2.heap = H) : endI P E fn r H .ret s := ⟨s2, rs, hs, hr, hp, hh⟩
theorem subR_app {ρ : Ren} : ∀ {a a' b b' : List (List AV)}, subR ρ a a' → subR ρ b b' → subR ρ (a ++ b) (a' ++ b')
  | [], [], _, _, _, h => h
  | x :: l, y :: l', b, b', h, h2 => by
    unfold subR at h
    rw [List.cons_append, List.cons_append]
    unfold subR
    exact ⟨h.1, subR_app h.2 h2⟩
  | [], y :: l', _, _, h, _ => by unfold subR at h; exact h.elim
  | x :: l, [], _, _, h, _ => by unfold subR at h; exact h.elim
theorem sub_in {E : Env} {s s' : St} (hm : ∀ b, E.m0 b ≠ none → b < E.n0) (l : List (Option Nat)) (hn : l.length = s'.heap.length) (hd : (l.filterMap id).Nodup) (h0 : ∀ b, b < E.n0 → l[b]? = some (some b)) (hT : subTs (renL l) s.tmps s'.tmps) (hH : subH (renL l) s 0 s'.heap) : Sub E s s' :=
  sub_ren (renL l) hn hT hH (fun b b' q _ _ h1 h2 => nodup_inj l hd b b' q h1 h2) (fun b hb => by have := h0 b hb; refine ⟨by simp [renL, this], ?_⟩; exact (List.getElem?_eq_some_iff.1 this).1) hm
end Go.Proofs.YtedkfipjooafeaaGreatDoor.Ab
namespace Go.Proofs.YtedkfipjooafeaaGreatDoor.Ab
open Go Go.Proofs.YtedkfipjooafeaaGreatDoor
theorem tf3 : tf Tryz.prog 3 = some ⟨1, 8, false, [(.int .i64 0)], .ot⟩ := by kernel_rfl
theorem tf5 : tf Tryz.prog 5 = some ⟨1, 1, false, [(.int .u8 0)], .ot⟩ := by kernel_rfl
theorem tf9 : tf Tryz.prog 9 = some ⟨1, 16, false, [(.string ⟨#[]⟩)], .str⟩ := by kernel_rfl
theorem tf23 : tf Tryz.prog 23 = some ⟨1, 24, false, [(.slice none 0 0)], (.sl 39)⟩ := by kernel_rfl
theorem tf26 : tf Tryz.prog 26 = some ⟨1, 8, false, [(.int .i64 0)], .ot⟩ := by kernel_rfl
theorem tf37 : tf Tryz.prog 37 = some ⟨1, 24, false, [(.slice none 0 0)], (.sl 64)⟩ := by kernel_rfl
theorem tf39 : tf Tryz.prog 39 = some ⟨4, 48, true, [(.int .i64 0), (.int .i64 0), (.int .i64 0), (.slice none 0 0)], (.st [(some ⟨0, 1, false⟩), (some ⟨1, 1, false⟩), (some ⟨2, 1, false⟩), (some ⟨3, 1, false⟩)])⟩ := by kernel_rfl
theorem tf45 : tf Tryz.prog 45 = some ⟨1, 24, false, [(.slice none 0 0)], (.sl 9)⟩ := by kernel_rfl
theorem tf55 : tf Tryz.prog 55 = some ⟨3, 32, true, [(.string ⟨#[]⟩), (.int .i64 0), (.int .i64 0)], (.st [(some ⟨0, 1, false⟩), (some ⟨1, 1, false⟩), (some ⟨2, 1, false⟩)])⟩ := by kernel_rfl
theorem tf64 : tf Tryz.prog 64 = some ⟨3, 24, true, [(.int .i64 0), (.int .i64 0), (.int .i64 0)], (.st [(some ⟨0, 1, false⟩), (some ⟨1, 1, false⟩), (some ⟨2, 1, false⟩)])⟩ := by kernel_rfl
theorem tf77 : tf Tryz.prog 77 = some ⟨1, 24, false, [(.slice none 0 0)], (.sl 3)⟩ := by kernel_rfl
end Go.Proofs.YtedkfipjooafeaaGreatDoor.Ab
set_option linter.unusedSimpArgs false
set_option linter.unusedVariables false
namespace Go.Proofs.YtedkfipjooafeaaGreatDoor.Ab
open Go Go.RowKit Go.Proofs.YtedkfipjooafeaaGreatDoor Go.Proofs.YtedkfipjooafeaaGreatDoor.Code Go.Proofs.YtedkfipjooafeaaGreatDoor.Op

abbrev iA (n : Int) : AV := .im (.v (.int .i64 n))
abbrev iT (n : Int) : AT := .c (.im (.v (.int .i64 n)))
abbrev bT (b : Bool) : AT := .c (.im (.v (.bool b)))
def plain1 : Value → Bool
  | .agg cs => cs.toList.all isOne
  | .tuple _ => false
  | _ => true
def plainV : Value → Bool
  | .tuple vs => vs.toList.all plain1
  | v => plain1 v
theorem repA_v {O : Nat → Prop} {m : Nat → Option Loc} {w : World} {x v : Value} (h : RepA O m w (.im (.v x)) v) : v = x := by
  cases h with | im h => cases h; rfl
theorem rep_plain1 {O : Nat → Prop} {m : Nat → Option Loc} {w : World} {v v' : Value} (h : RepT O m w (match v with | .agg cs => if cs.toList.all isOne then .g (cs.toList.map fun x => .im (.v x)) else .j | .tuple _ => .j | x => .c (.im (.v x))) v') (hp : plain1 v = true) : v' = v := by
  cases v with
  | agg cs =>
    have hp : cs.toList.all isOne = true := hp
    simp only at h
    rw [if_pos hp] at h
    cases h with
    | @g _ us hl ho hh =>
      congr 1
      apply Array.ext
      · rw [hl]; simp
      · intro i h1 h2
        exact repA_v (hh i (.im (.v cs[i])) (by simp [h2]) us[i] (by simp [h1]))
  | tuple vs => cases hp
  | _ => exact rep_v h
theorem rep_plain {O : Nat → Prop} {m : Nat → Option Loc} {w : World} {v v' : Value} (h : RepT O m w (AT.ofValue v) v') (hp : plainV v = true) : v' = v := by
  cases v with
  | tuple vs =>
    unfold plainV at hp
    unfold AT.ofValue at h
    cases h with
    | @u _ us hl hh =>
      congr 1
      apply Array.ext
      · rw [hl]; simp
      · intro i h1 h2
        rw [List.all_eq_true] at hp
        refine rep_plain1 (O := O) (m := m) (w := w) (hh i _ (by rw [List.getElem?_map, Array.getElem?_toList, Array.getElem?_eq_getElem h2]; rfl) us[i] (by simp [h1])) (hp vs[i] (by simp))
  | agg cs => exact rep_plain1 (v := .agg cs) h hp
  | _ => exact rep_v h
theorem acalls_plain {P : Program} {f : FuncId} {vs : List Value} {r : Value} (he : entersB P f = true) (hp : vs.all plainV = true) (h : ∀ W : World, Calls P f vs.toArray W fun e w' => e = .returned r ∧ Below W.heap.size W w') : ACalls P f (vs.map AT.ofValue) (AT.ofValue r) := by
  refine ⟨he, fun O w us hO hl hr => ?_⟩
  have hus : us = vs.toArray := by
    apply Array.ext
    · rw [hl]; simp
    · intro i h1 h2
      rw [List.all_eq_true] at hp
      have h3 : i < vs.length := by simpa using h2
      have := rep_plain (hr i (AT.ofValue vs[i]) (by simp [h3]) us[i] (by simp [h1])) (hp _ (List.getElem_mem h3))
      rw [this]; simp
  rw [hus]
  exact (h w).mono fun e w' ⟨h1, h2⟩ => ⟨r, h1, h2, rep_ofValue r⟩
/-! ## Programs -/
def insI (x : Ins) : List IV := [.v (.int .i64 x.op), .v (.int .i64 x.a), .v (.int .i64 x.b)]
def codeI (l : List Ins) : IV := .sl 3 (l.map insI)
def fnI (f : Code.Fn) : List IV := [.v (.int .i64 f.ar), .v (.int .i64 f.lo), .v (.int .i64 f.sl), codeI f.code]
def progI (p : Pg) : IV := .sl 4 (p.map fnI)
end Go.Proofs.YtedkfipjooafeaaGreatDoor.Ab
set_option linter.unusedSimpArgs false
set_option linter.unusedVariables false
namespace Go.Proofs.YtedkfipjooafeaaGreatDoor.Code
open Go Go.RowKit Go.Proofs.YtedkfipjooafeaaGreatDoor Go.Proofs.YtedkfipjooafeaaGreatDoor.Op Go.Proofs.YtedkfipjooafeaaGreatDoor.Wire

abbrev namesV : List Value := [str [112, 117, 115, 104], str [108, 111, 97, 100], str [115, 116, 111, 114, 101], str [97, 100, 100], str [115, 117, 98], str [109, 117, 108], str [100, 105, 118], str [99, 111, 110, 106], str [100, 117, 112], str [100, 114, 111, 112], str [106, 117, 109, 112], str [122, 101, 114, 111], str [114, 97, 110, 100], str [115, 112, 97, 119, 110], str [106, 111, 105, 110], str [114, 101, 116], str [116, 114, 97, 112]]
theorem namesV_eq : namesV = names.map str := rfl
set_option maxRecDepth 20000 in
set_option maxHeartbeats 4000000 in
theorem namesR_calls (w : World) : Calls Tryz.prog 85 #[] w fun e w' => e = .returned (.slice (some ⟨w.heap.size, 0, none⟩) 17 17) ∧ w' = w.alloc (.cells namesV.toArray 9) := by
  go_enter Tryz.func85, Tryz.ntmps85
  go_wp2
  go_ret
  exact ⟨rfl, rfl⟩
theorem name_cell (w : World) {k : Nat} (hk : k < 17) : (w.alloc (.cells namesV.toArray 9)).cell? ⟨w.heap.size, k, none⟩ = some (str (names.getD k [])) := by
  rw [(Has.new w namesV.toArray 9).cell, namesV_eq]
  have : names[k]? = some (names.getD k []) := by
    rw [List.getD_eq_getElem?_getD, List.getElem?_eq_getElem (show k < names.length from hk)]; rfl
  rw [List.getElem?_toArray, List.getElem?_map, this]; rfl
set_option maxHeartbeats 4000000 in
theorem NameR_calls (n : Int) (w : World) : Calls Tryz.prog 75 #[.int .i64 n] w fun e w' => e = .returned (str (opName n)) ∧ Below w.heap.size w w' := by
  by_cases h0 : n < 0
  · have hE := Lib.hid (show opName n = [] by unfold opName isOp; rw [if_neg]; simp; omega)
    go_enter Tryz.func75, Tryz.ntmps75
    go_wp2
    go_ret
    exact ⟨by rw [hE.out]; rfl, by (repeat (first | (with_reducible assumption) | (with_reducible exact Below.refl _ _) | (with_reducible refine grow_alloc ?_ _) | (with_reducible refine grow_mix ?_ _) | (with_reducible refine grow_drew ?_) | (with_reducible refine grow_drewN ?_ _) | (with_reducible refine grow_set ?_ (by first | (simp; done) | (simp; omega) | omega) _)))⟩
  · by_cases h1 : 16 < n
    · have hE := Lib.hid (show opName n = [] by unfold opName isOp; rw [if_neg]; simp; omega)
      go_enter Tryz.func75, Tryz.ntmps75
      go_wp2
      go_ret
      exact ⟨by rw [hE.out]; rfl, by (repeat (first | (with_reducible assumption) | (with_reducible exact Below.refl _ _) | (with_reducible refine grow_alloc ?_ _) | (with_reducible refine grow_mix ?_ _) | (with_reducible refine grow_drew ?_) | (with_reducible refine grow_drewN ?_ _) | (with_reducible refine grow_set ?_ (by first | (simp; done) | (simp; omega) | omega) _)))⟩
    · obtain ⟨k, rfl⟩ := Int.eq_ofNat_of_zero_le (Int.not_lt.1 h0)
      have hk : k < 17 := by omega
      have hE := Lib.hid (show opName (k : Int) = names.getD k [] by unfold opName isOp; rw [if_pos (by simp; omega)]; simp)
      have hc := name_cell w hk
      have hb := Below.alloc (Below.refl w.heap.size w) (Nat.le_refl _) (.cells namesV.toArray 9)
      obtain ⟨nm, hnm⟩ : ∃ x, names.getD k [] = x := ⟨_, rfl⟩
      rw [hnm] at hc hE
      clear hnm
      have hkk : (k : Int) < 17 := by omega
      have hk0 : (0 : Int) ≤ (k : Int) := by omega
      revert hc hb
      obtain ⟨W, hW⟩ : ∃ W, w.alloc (.cells namesV.toArray 9) = W := ⟨_, rfl⟩
      have HN := Lib.hid (by have := namesR_calls w; rw [hW] at this; exact this)
      rw [hW]
      intro hb hc
      have HB := Lib.hid hb
      clear hW hb
      go_enter Tryz.func75, Tryz.ntmps75
      go_wp2_with (go_at_call 85; (with_reducible refine (HN.out).mono ?_); rintro e w' ⟨rfl, rfl⟩)
      go_ret
      exact ⟨by rw [hE.out]; rfl, HB.out⟩
theorem DigitsI_calls (n : Int) (h0 : 0 ≤ n) (h1 : n ≤ 9223372036854775807) (w : World) :
    Calls Tryz.prog 74 #[.int .i64 n] w fun e w' => e = .returned (str (Lib.itoa n)) ∧ Below w.heap.size w w' := by
  obtain ⟨m, rfl⟩ := Int.eq_ofNat_of_zero_le h0
  rw [itoa_nat h0]
  exact Digits_calls m (by omega) w
theorem itoa_len {n : Int} (h0 : 0 ≤ n) (h : n < 1000) : (Lib.itoa n).length ≤ 3 := by
  rw [itoa_nat h0]
  exact (dec_len n.toNat (by omega)).2
set_option maxHeartbeats 4000000 in
theorem LineR_calls (x : Ins) (ha : 0 ≤ x.a ∧ x.a < 1000) (hb : 0 ≤ x.b ∧ x.b < 1000) (w : World) : Calls Tryz.prog 45 #[insV x] w fun e w' => e = .returned (str (writtenB x)) ∧ Below w.heap.size w w' := by
  have N := Lib.hid (fun W => NameR_calls x.op W)
  have F := Lib.hid (fun W => FieldsR_calls x.op W)
  have D1 := Lib.hid (fun W => DigitsI_calls x.a ha.1 (by omega) W)
  have D2 := Lib.hid (fun W => DigitsI_calls x.b hb.1 (by omega) W)
  have l1 := itoa_len ha.1 ha.2
  have l2 := itoa_len hb.1 hb.2
  obtain ⟨d1, hd1⟩ : ∃ z, Lib.itoa x.a = z := ⟨_, rfl⟩
  obtain ⟨d2, hd2⟩ : ∃ z, Lib.itoa x.b = z := ⟨_, rfl⟩
  have hn : (opName x.op).length ≤ 5 := by
    unfold opName
    split
    · have h : ∀ l ∈ names, l.length ≤ 5 := by decide
      by_cases hn : x.op.toNat < names.length
      · rw [List.getD_eq_getElem?_getD, List.getElem?_eq_getElem hn, Option.getD_some]
        exact h _ (List.getElem_mem hn)
      · rw [List.getD_eq_getElem?_getD, List.getElem?_eq_none (by omega)]
        simp
    · simp
  obtain ⟨nm, hnm⟩ : ∃ z, opName x.op = z := ⟨_, rfl⟩
  have hW : writtenB x = nm ++ (fieldsB x).flatMap (fun n => 32 :: Lib.itoa n) := by unfold writtenB lineB; rw [hnm]
  rw [hd1] at D1 l1
  rw [hd2] at D2 l2
  rw [hnm] at N hn
  have s1 : nm.length + (d1.length + 1) ≤ 9223372036854775807 := by omega
  have s2 : nm.length + (d1.length + 1) + (d2.length + 1) ≤ 9223372036854775807 := by omega
  have HD := Lib.hid (And.intro hd1 hd2)
  clear hd1 hd2 hnm ha hb
  rcases fields_len x.op with hf | hf | hf
  · have HE : Hid (writtenB x = nm) := Lib.hid (by rw [hW, show fieldsB x = [] by unfold fieldsB; rw [hf]; rfl]; simp)
    rw [hf] at F
    clear hf hW
    go_enter Tryz.func45, Tryz.ntmps45
    go_wp2_with (first | (go_at_call 75; (with_reducible refine (N.out _).mono ?_); rintro e w' ⟨rfl, hb⟩; have hz := hb.size; (first | (obtain ⟨x1, rfl⟩ := to_mix2 hb) | (obtain ⟨x1, rfl⟩ := to_mix hb)); clear hb; (try simp only [World.size_alloc, World.size_setCell, World.size_drew] at hz); (try have q0 : w.heap.size < _ := Nat.lt_of_lt_of_le (by omega) hz); (try have q1 : w.heap.size + 1 < _ := Nat.lt_of_lt_of_le (by omega) hz); (try have q2 : w.heap.size + 1 + 1 < _ := Nat.lt_of_lt_of_le (by omega) hz); (try have q3 : w.heap.size + 1 + 1 + 1 < _ := Nat.lt_of_lt_of_le (by omega) hz)) | (go_at_call 51; (with_reducible refine (F.out _).mono ?_); rintro e w' ⟨rfl, hb⟩; have hz := hb.size; (first | (obtain ⟨x1, rfl⟩ := to_mix2 hb) | (obtain ⟨x1, rfl⟩ := to_mix hb)); clear hb; (try simp only [World.size_alloc, World.size_setCell, World.size_drew] at hz); (try have q0 : w.heap.size < _ := Nat.lt_of_lt_of_le (by omega) hz); (try have q1 : w.heap.size + 1 < _ := Nat.lt_of_lt_of_le (by omega) hz); (try have q2 : w.heap.size + 1 + 1 < _ := Nat.lt_of_lt_of_le (by omega) hz); (try have q3 : w.heap.size + 1 + 1 + 1 < _ := Nat.lt_of_lt_of_le (by omega) hz)) | (go_at_call 74; (with_reducible refine (D1.out _).mono ?_); rintro e w' ⟨rfl, hb⟩; have hz := hb.size; (first | (obtain ⟨x1, rfl⟩ := to_mix2 hb) | (obtain ⟨x1, rfl⟩ := to_mix hb)); clear hb; (try simp only [World.size_alloc, World.size_setCell, World.size_drew] at hz); (try have q0 : w.heap.size < _ := Nat.lt_of_lt_of_le (by omega) hz); (try have q1 : w.heap.size + 1 < _ := Nat.lt_of_lt_of_le (by omega) hz); (try have q2 : w.heap.size + 1 + 1 < _ := Nat.lt_of_lt_of_le (by omega) hz); (try have q3 : w.heap.size + 1 + 1 + 1 < _ := Nat.lt_of_lt_of_le (by omega) hz)) | (go_at_call 74; (with_reducible refine (D2.out _).mono ?_); rintro e w' ⟨rfl, hb⟩; have hz := hb.size; (first | (obtain ⟨x1, rfl⟩ := to_mix2 hb) | (obtain ⟨x1, rfl⟩ := to_mix hb)); clear hb; (try simp only [World.size_alloc, World.size_setCell, World.size_drew] at hz); (try have q0 : w.heap.size < _ := Nat.lt_of_lt_of_le (by omega) hz); (try have q1 : w.heap.size + 1 < _ := Nat.lt_of_lt_of_le (by omega) hz); (try have q2 : w.heap.size + 1 + 1 < _ := Nat.lt_of_lt_of_le (by omega) hz); (try have q3 : w.heap.size + 1 + 1 + 1 < _ := Nat.lt_of_lt_of_le (by omega) hz)))
    go_ret
    exact ⟨by rw [HE.out]; rfl, by (repeat (first | (with_reducible assumption) | (with_reducible exact Below.refl _ _) | (with_reducible refine grow_alloc ?_ _) | (with_reducible refine grow_mix ?_ _) | (with_reducible refine grow_drew ?_) | (with_reducible refine grow_drewN ?_ _) | (with_reducible refine grow_set ?_ (by first | (simp; done) | (simp; omega) | omega) _)))⟩
  · have HE : Hid (writtenB x = nm ++ 32 :: d1) := Lib.hid (by rw [hW, show fieldsB x = [x.a] by unfold fieldsB; rw [hf]; rfl, List.flatMap_cons, List.flatMap_nil, List.append_nil, HD.out.1])
    rw [hf] at F
    clear hf hW
    go_enter Tryz.func45, Tryz.ntmps45
    go_wp2_with (first | (go_at_call 75; (with_reducible refine (N.out _).mono ?_); rintro e w' ⟨rfl, hb⟩; have hz := hb.size; (first | (obtain ⟨x1, rfl⟩ := to_mix2 hb) | (obtain ⟨x1, rfl⟩ := to_mix hb)); clear hb; (try simp only [World.size_alloc, World.size_setCell, World.size_drew] at hz); (try have q0 : w.heap.size < _ := Nat.lt_of_lt_of_le (by omega) hz); (try have q1 : w.heap.size + 1 < _ := Nat.lt_of_lt_of_le (by omega) hz); (try have q2 : w.heap.size + 1 + 1 < _ := Nat.lt_of_lt_of_le (by omega) hz); (try have q3 : w.heap.size + 1 + 1 + 1 < _ := Nat.lt_of_lt_of_le (by omega) hz)) | (go_at_call 51; (with_reducible refine (F.out _).mono ?_); rintro e w' ⟨rfl, hb⟩; have hz := hb.size; (first | (obtain ⟨x1, rfl⟩ := to_mix2 hb) | (obtain ⟨x1, rfl⟩ := to_mix hb)); clear hb; (try simp only [World.size_alloc, World.size_setCell, World.size_drew] at hz); (try have q0 : w.heap.size < _ := Nat.lt_of_lt_of_le (by omega) hz); (try have q1 : w.heap.size + 1 < _ := Nat.lt_of_lt_of_le (by omega) hz); (try have q2 : w.heap.size + 1 + 1 < _ := Nat.lt_of_lt_of_le (by omega) hz); (try have q3 : w.heap.size + 1 + 1 + 1 < _ := Nat.lt_of_lt_of_le (by omega) hz)) | (go_at_call 74; (with_reducible refine (D1.out _).mono ?_); rintro e w' ⟨rfl, hb⟩; have hz := hb.size; (first | (obtain ⟨x1, rfl⟩ := to_mix2 hb) | (obtain ⟨x1, rfl⟩ := to_mix hb)); clear hb; (try simp only [World.size_alloc, World.size_setCell, World.size_drew] at hz); (try have q0 : w.heap.size < _ := Nat.lt_of_lt_of_le (by omega) hz); (try have q1 : w.heap.size + 1 < _ := Nat.lt_of_lt_of_le (by omega) hz); (try have q2 : w.heap.size + 1 + 1 < _ := Nat.lt_of_lt_of_le (by omega) hz); (try have q3 : w.heap.size + 1 + 1 + 1 < _ := Nat.lt_of_lt_of_le (by omega) hz)) | (go_at_call 74; (with_reducible refine (D2.out _).mono ?_); rintro e w' ⟨rfl, hb⟩; have hz := hb.size; (first | (obtain ⟨x1, rfl⟩ := to_mix2 hb) | (obtain ⟨x1, rfl⟩ := to_mix hb)); clear hb; (try simp only [World.size_alloc, World.size_setCell, World.size_drew] at hz); (try have q0 : w.heap.size < _ := Nat.lt_of_lt_of_le (by omega) hz); (try have q1 : w.heap.size + 1 < _ := Nat.lt_of_lt_of_le (by omega) hz); (try have q2 : w.heap.size + 1 + 1 < _ := Nat.lt_of_lt_of_le (by omega) hz); (try have q3 : w.heap.size + 1 + 1 + 1 < _ := Nat.lt_of_lt_of_le (by omega) hz)))
    go_ret
    exact ⟨by rw [HE.out]; first | rfl | simp, by (repeat (first | (with_reducible assumption) | (with_reducible exact Below.refl _ _) | (with_reducible refine grow_alloc ?_ _) | (with_reducible refine grow_mix ?_ _) | (with_reducible refine grow_drew ?_) | (with_reducible refine grow_drewN ?_ _) | (with_reducible refine grow_set ?_ (by first | (simp; done) | (simp; omega) | omega) _)))⟩
  · have HE : Hid (writtenB x = nm ++ (32 :: d1 ++ 32 :: d2)) := Lib.hid (by rw [hW, show fieldsB x = [x.a, x.b] by unfold fieldsB; rw [hf]; rfl]; simp [HD.out.1, HD.out.2])
    rw [hf] at F
    clear hf hW
    go_enter Tryz.func45, Tryz.ntmps45
    go_wp2_with (first | (go_at_call 75; (with_reducible refine (N.out _).mono ?_); rintro e w' ⟨rfl, hb⟩; have hz := hb.size; (first | (obtain ⟨x1, rfl⟩ := to_mix2 hb) | (obtain ⟨x1, rfl⟩ := to_mix hb)); clear hb; (try simp only [World.size_alloc, World.size_setCell, World.size_drew] at hz); (try have q0 : w.heap.size < _ := Nat.lt_of_lt_of_le (by omega) hz); (try have q1 : w.heap.size + 1 < _ := Nat.lt_of_lt_of_le (by omega) hz); (try have q2 : w.heap.size + 1 + 1 < _ := Nat.lt_of_lt_of_le (by omega) hz); (try have q3 : w.heap.size + 1 + 1 + 1 < _ := Nat.lt_of_lt_of_le (by omega) hz)) | (go_at_call 51; (with_reducible refine (F.out _).mono ?_); rintro e w' ⟨rfl, hb⟩; have hz := hb.size; (first | (obtain ⟨x1, rfl⟩ := to_mix2 hb) | (obtain ⟨x1, rfl⟩ := to_mix hb)); clear hb; (try simp only [World.size_alloc, World.size_setCell, World.size_drew] at hz); (try have q0 : w.heap.size < _ := Nat.lt_of_lt_of_le (by omega) hz); (try have q1 : w.heap.size + 1 < _ := Nat.lt_of_lt_of_le (by omega) hz); (try have q2 : w.heap.size + 1 + 1 < _ := Nat.lt_of_lt_of_le (by omega) hz); (try have q3 : w.heap.size + 1 + 1 + 1 < _ := Nat.lt_of_lt_of_le (by omega) hz)) | (go_at_call 74; (with_reducible refine (D1.out _).mono ?_); rintro e w' ⟨rfl, hb⟩; have hz := hb.size; (first | (obtain ⟨x1, rfl⟩ := to_mix2 hb) | (obtain ⟨x1, rfl⟩ := to_mix hb)); clear hb; (try simp only [World.size_alloc, World.size_setCell, World.size_drew] at hz); (try have q0 : w.heap.size < _ := Nat.lt_of_lt_of_le (by omega) hz); (try have q1 : w.heap.size + 1 < _ := Nat.lt_of_lt_of_le (by omega) hz); (try have q2 : w.heap.size + 1 + 1 < _ := Nat.lt_of_lt_of_le (by omega) hz); (try have q3 : w.heap.size + 1 + 1 + 1 < _ := Nat.lt_of_lt_of_le (by omega) hz)) | (go_at_call 74; (with_reducible refine (D2.out _).mono ?_); rintro e w' ⟨rfl, hb⟩; have hz := hb.size; (first | (obtain ⟨x1, rfl⟩ := to_mix2 hb) | (obtain ⟨x1, rfl⟩ := to_mix hb)); clear hb; (try simp only [World.size_alloc, World.size_setCell, World.size_drew] at hz); (try have q0 : w.heap.size < _ := Nat.lt_of_lt_of_le (by omega) hz); (try have q1 : w.heap.size + 1 < _ := Nat.lt_of_lt_of_le (by omega) hz); (try have q2 : w.heap.size + 1 + 1 < _ := Nat.lt_of_lt_of_le (by omega) hz); (try have q3 : w.heap.size + 1 + 1 + 1 < _ := Nat.lt_of_lt_of_le (by omega) hz)))
    go_ret
    exact ⟨by rw [HE.out]; first | rfl | simp, by (repeat (first | (with_reducible assumption) | (with_reducible exact Below.refl _ _) | (with_reducible refine grow_alloc ?_ _) | (with_reducible refine grow_mix ?_ _) | (with_reducible refine grow_drew ?_) | (with_reducible refine grow_drewN ?_ _) | (with_reducible refine grow_set ?_ (by first | (simp; done) | (simp; omega) | omega) _)))⟩
set_option maxHeartbeats 4000000 in
theorem topR_calls (f : Fn) (A : Option Addr) (n c : Nat) (h1 : 0 ≤ f.ar ∧ f.ar < 1000) (h2 : 0 ≤ f.lo ∧ f.lo < 1000) (h3 : 0 ≤ f.sl ∧ f.sl < 1000) (w : World) :
    Calls Tryz.prog 44 #[fnV f (.slice A n c)] w fun e w' => e = .returned (str (headedB f)) ∧ Below w.heap.size w w' := by
  have D1 := Lib.hid (fun W => DigitsI_calls f.ar h1.1 (by omega) W)
  have D2 := Lib.hid (fun W => DigitsI_calls f.lo h2.1 (by omega) W)
  have D3 := Lib.hid (fun W => DigitsI_calls f.sl h3.1 (by omega) W)
  have l1 := itoa_len h1.1 h1.2
  have l2 := itoa_len h2.1 h2.2
  have l3 := itoa_len h3.1 h3.2
  have hW : headedB f = funcB ++ [f.ar, f.lo, f.sl].flatMap (fun n => 32 :: Lib.itoa n) := rfl
  obtain ⟨d1, hd1⟩ : ∃ z, Lib.itoa f.ar = z := ⟨_, rfl⟩
  obtain ⟨d2, hd2⟩ : ∃ z, Lib.itoa f.lo = z := ⟨_, rfl⟩
  obtain ⟨d3, hd3⟩ : ∃ z, Lib.itoa f.sl = z := ⟨_, rfl⟩
  rw [hd1] at D1 l1
  rw [hd2] at D2 l2
  rw [hd3] at D3 l3
  have HE := Lib.hid (show headedB f = funcB ++ (32 :: d1 ++ (32 :: d2 ++ 32 :: d3)) by rw [hW]; simp [hd1, hd2, hd3])
  clear hd1 hd2 hd3 hW h1 h2 h3
  go_enter Tryz.func44, Tryz.ntmps44
  go_wp2
  refine wp_region_mix 14 (by kernel_rfl) (by kernel_rfl) ?_
  simp only [List.take_succ_cons, List.take_zero, List.drop_succ_cons, List.drop_zero]
  repeat (go_big_quiet_step (((first | (go_at_call 74; (with_reducible exact mix_call (D1.out _))) | (go_at_call 74; (with_reducible exact mix_call (D2.out _))) | (go_at_call 74; (with_reducible exact mix_call (D3.out _)))))))
  refine wpQuiet_nil ?_
  intro _ hmix
  (try (with_reducible replace hmix := mix_flat hmix))
  obtain ⟨x1, hmix'⟩ := hmix
  have hz := mix_size' hmix'
  subst hmix'
  (try simp only [World.size_alloc, World.size_setCell, World.size_drew] at hz); (try have q0 : w.heap.size < _ := Nat.lt_of_lt_of_le (by omega) hz); (try have q1 : w.heap.size + 1 < _ := Nat.lt_of_lt_of_le (by omega) hz); (try have q2 : w.heap.size + 1 + 1 < _ := Nat.lt_of_lt_of_le (by omega) hz); (try have q3 : w.heap.size + 1 + 1 + 1 < _ := Nat.lt_of_lt_of_le (by omega) hz)
  go_wp2
  go_ret
  exact ⟨by rw [HE.out]; first | rfl | simp [funcB], by (repeat (first | (with_reducible assumption) | (with_reducible exact Below.refl _ _) | (with_reducible refine grow_alloc ?_ _) | (with_reducible refine grow_mix ?_ _) | (with_reducible refine grow_drew ?_) | (with_reducible refine grow_drewN ?_ _) | (with_reducible refine grow_set ?_ (by first | (simp; done) | (simp; omega) | omega) _)))⟩
end Go.Proofs.YtedkfipjooafeaaGreatDoor.Code
set_option linter.unusedSimpArgs false
set_option linter.unusedVariables false
namespace Go.Proofs.YtedkfipjooafeaaGreatDoor.Code
open Go Go.RowKit Go.Proofs.YtedkfipjooafeaaGreatDoor Go.Proofs.YtedkfipjooafeaaGreatDoor.Op Go.Proofs.YtedkfipjooafeaaGreatDoor.Wire

theorem TextR_no (p : Pg) (v : Value) (w : World) (hm : mayP p = false) (h : ProgAt w w.heap.size v p) (hl : p.length ≤ 9223372036854775000) (hc : ∀ f ∈ p, f.code.length ≤ 9223372036854775000) :
    Calls Tryz.prog 18 #[v] w fun e w' => e = .returned (str []) ∧ Below w.heap.size w w' := by
  have M := Lib.hid (mayPR_at p v false hm w h hl hc)
  obtain ⟨A, c, rfl⟩ := h.form
  clear h hc hm
  go_enter Tryz.func18, Tryz.ntmps18
  go_wp2_with (first | (go_at_call 16; (with_reducible refine (M.out).mono ?_); rintro e w' ⟨rfl, hb⟩; have hz := hb.size; (first | (obtain ⟨x1, rfl⟩ := to_mix2 hb) | (obtain ⟨x1, rfl⟩ := to_mix hb)); clear hb; (try simp only [World.size_alloc, World.size_setCell, World.size_drew] at hz); (try have q0 : w.heap.size < _ := Nat.lt_of_lt_of_le (by omega) hz); (try have q1 : w.heap.size + 1 < _ := Nat.lt_of_lt_of_le (by omega) hz); (try have q2 : w.heap.size + 1 + 1 < _ := Nat.lt_of_lt_of_le (by omega) hz); (try have q3 : w.heap.size + 1 + 1 + 1 < _ := Nat.lt_of_lt_of_le (by omega) hz)))
  go_ret
  exact ⟨rfl, by (repeat (first | (with_reducible assumption) | (with_reducible exact Below.refl _ _) | (with_reducible refine grow_alloc ?_ _) | (with_reducible refine grow_mix ?_ _) | (with_reducible refine grow_drew ?_) | (with_reducible refine grow_drewN ?_ _) | (with_reducible refine grow_set ?_ (by first | (simp; done) | (simp; omega) | omega) _)))⟩
def linesT (l : List Ins) : B := l.flatMap fun x => writtenB x ++ [10]
theorem written_small {x : Ins} (h : mayI x = true) : (writtenB x).length + 1 ≤ 100 := by
  have hb := mayI_bd h
  have l1 := itoa_len hb.2.2.1 (show x.a < 1000 by omega)
  have l2 := itoa_len hb.2.2.2.2.1 (show x.b < 1000 by omega)
  have hn : (opName x.op).length ≤ 5 := by
    unfold opName
    split
    · have h : ∀ l ∈ names, l.length ≤ 5 := by decide
      by_cases hn : x.op.toNat < names.length
      · rw [List.getD_eq_getElem?_getD, List.getElem?_eq_getElem hn, Option.getD_some]
        exact h _ (List.getElem_mem hn)
      · rw [List.getD_eq_getElem?_getD, List.getElem?_eq_none (by omega)]
        simp
    · simp
  unfold writtenB lineB
  rw [List.length_append]
  rcases fields_len x.op with hf | hf | hf
  · rw [show fieldsB x = [] by unfold fieldsB; rw [hf]; rfl]; simp; omega
  · rw [show fieldsB x = [x.a] by unfold fieldsB; rw [hf]; rfl]; simp; omega
  · rw [show fieldsB x = [x.a, x.b] by unfold fieldsB; rw [hf]; rfl]; simp; omega
set_option maxRecDepth 20000 in
set_option maxHeartbeats 8000000 in
theorem TextR_yes (p : Pg) (v : Value) (w : World) (hm : mayP p = true) (h : ProgAt w w.heap.size v p) :
    Calls Tryz.prog 18 #[v] w fun e w' => e = .returned (str (p.flatMap textF)) ∧ Below w.heap.size w w' := by
  have PM := Lib.hid (mayP_parts hm)
  have M := Lib.hid (mayPR_at p v true hm w h (by have := PM.out.2.2; omega) (fun f hf => by have := mayF_parts (PM.out.1 f hf); omega))
  obtain ⟨A, c, rfl⟩ := h.form
  have HC := Lib.hid h
  have hp16 : p.length ≤ 16 := PM.out.2.2
  clear h hm
  go_enter Tryz.func18, Tryz.ntmps18
  go_wp2_with (first | (go_at_call 16; (with_reducible refine (M.out).mono ?_); rintro e w' ⟨rfl, hb⟩; have hz := hb.size; (first | (obtain ⟨x1, rfl⟩ := to_mix2 hb) | (obtain ⟨x1, rfl⟩ := to_mix hb)); clear hb; (try simp only [World.size_alloc, World.size_setCell, World.size_drew] at hz); (try have q0 : w.heap.size < _ := Nat.lt_of_lt_of_le (by omega) hz); (try have q1 : w.heap.size + 1 < _ := Nat.lt_of_lt_of_le (by omega) hz); (try have q2 : w.heap.size + 1 + 1 < _ := Nat.lt_of_lt_of_le (by omega) hz); (try have q3 : w.heap.size + 1 + 1 + 1 < _ := Nat.lt_of_lt_of_le (by omega) hz)))
  go_loopw [3, 4] (fun s i wr => ∃ (k : Nat) (acc : B), k ≤ p.length ∧ i = .int .i64 k ∧ s = str acc ∧ acc.length ≤ 20400 * k ∧ Below w.heap.size w wr ∧ Hid (acc = (p.take k).flatMap textF)) (fun _ i _ => p.length - (intOf i).toNat)
  case atStart => exact ⟨0, [], Nat.zero_le _, rfl, rfl, by simp, by (repeat (first | (with_reducible assumption) | (with_reducible exact Below.refl _ _) | (with_reducible refine grow_alloc ?_ _) | (with_reducible refine grow_mix ?_ _) | (with_reducible refine grow_drew ?_) | (with_reducible refine grow_drewN ?_ _) | (with_reducible refine grow_set ?_ (by first | (simp; done) | (simp; omega) | omega) _))), Lib.hid (by simp)⟩
  case round =>
    obtain ⟨k, acc, hk, rfl, rfl, hal, hb, HS⟩ := hrel
    by_cases hlt : k < p.length
    · obtain ⟨a, c', u, e, hab, c0, c1, c2, c3, hcd⟩ := HC.out.at2 hb hlt
      injection e with e1 e2 e3
      subst e1 e3
      obtain ⟨A', c', rfl⟩ := hcd.form
      have hx : p[k]? = some p[k] := List.getElem?_eq_getElem hlt
      have hmf := PM.out.1 p[k] (List.getElem_mem hlt)
      obtain ⟨f, hf⟩ : ∃ f, p[k] = f := ⟨_, rfl⟩
      rw [hf] at c0 c1 c2 c3 hcd hx hmf
      have hn200 : f.code.length ≤ 200 := (mayF_parts hmf).2.2.2.2.1
      have hzr := hb.size
      have HF := Lib.hid (And.intro hx hmf)
      have HCD := Lib.hid hcd
      have hq3 : (a.add (k * 4)).block < wr.heap.size := by rw [add_block]; omega
      have T := Lib.hid (fun W => topR_calls f A' f.code.length c' (by have := (mayF_parts hmf).1; omega) (by have := (mayF_parts hmf).2.1; omega) (by have := (mayF_parts hmf).2.2.1; omega) W)
      have hd1 : (headedB f).length ≤ 20 := by
        have q1 := itoa_len (n := f.ar) (by have := (mayF_parts hmf).1; omega) (by have := (mayF_parts hmf).1; omega)
        have q2 := itoa_len (n := f.lo) (by have := (mayF_parts hmf).2.1; omega) (by have := (mayF_parts hmf).2.1; omega)
        have q3 := itoa_len (n := f.sl) (by have := (mayF_parts hmf).2.2.1; omega) (by have := (mayF_parts hmf).2.2.1; omega)
        simp [headedB, lineB, funcB]; omega
      obtain ⟨hd, hhd⟩ : ∃ z, headedB f = z := ⟨_, rfl⟩
      rw [hhd] at T hd1
      have HHD := Lib.hid hhd
      have s1 : hd.length + 1 ≤ 9223372036854775807 := by omega
      have s2 : acc.length + (hd.length + 1) ≤ 9223372036854775807 := by omega
      clear hf hx hcd hmf hhd
      go_wp2_with (first | (go_at_call 44; (with_reducible refine (T.out _).mono ?_); rintro e w' ⟨rfl, hb⟩; have hz := hb.size; (first | (obtain ⟨x1, rfl⟩ := to_mix2 hb) | (obtain ⟨x1, rfl⟩ := to_mix hb)); clear hb; (try simp only [World.size_alloc, World.size_setCell, World.size_drew] at hz); (try have q0 : w.heap.size < _ := Nat.lt_of_lt_of_le (by omega) hz); (try have q1 : w.heap.size + 1 < _ := Nat.lt_of_lt_of_le (by omega) hz); (try have q2 : w.heap.size + 1 + 1 < _ := Nat.lt_of_lt_of_le (by omega) hz); (try have q3 : w.heap.size + 1 + 1 + 1 < _ := Nat.lt_of_lt_of_le (by omega) hz)))
      obtain ⟨wq, hwq⟩ : ∃ wq : World, wq = wr := ⟨_, rfl⟩
      subst hwq
      obtain ⟨acc2, hacc2⟩ : ∃ z, acc ++ (hd ++ [10]) = z := ⟨_, rfl⟩
      have ha2 : acc2.length ≤ 20400 * k + 21 := by rw [← hacc2]; simp; omega
      have HA2 := Lib.hid hacc2
      simp only [hacc2]
      clear hacc2
      refine wp_at' (fun W => Below w.heap.size w W) (by (repeat (first | (with_reducible assumption) | (with_reducible exact Below.refl _ _) | (with_reducible refine grow_alloc ?_ _) | (with_reducible refine grow_mix ?_ _) | (with_reducible refine grow_drew ?_) | (with_reducible refine grow_drewN ?_ _) | (with_reducible refine grow_set ?_ (by first | (simp; done) | (simp; omega) | omega) _)))) ?_
      rintro wo hbo
      go_loopw [3, 5] (fun s j wi => ∃ (m : Nat) (ac : B), m ≤ f.code.length ∧ j = .int .i64 m ∧ s = str ac ∧ ac.length ≤ 20400 * k + 21 + 100 * m ∧ Below w.heap.size w wi ∧ Hid (ac = acc2 ++ linesT (f.code.take m))) (fun _ j _ => f.code.length - (intOf j).toNat)
      case atStart => exact ⟨0, acc2, Nat.zero_le _, rfl, rfl, by omega, hbo, Lib.hid (by simp [linesT])⟩
      case round =>
        obtain ⟨m, ac, hm, rfl, rfl, hacl, hbi, HI⟩ := hrel
        obtain ⟨a9, c9, u9, e9, hab9, d0, d1, d2, d3, hcd9⟩ := HC.out.at2 hbi hlt
        injection e9 with e1 e2 e3
        injection e1 with e1
        subst e1
        subst e3
        have hpk : p[k]? = some p[k] := List.getElem?_eq_getElem hlt
        have hpf : p[k] = f := by
          have := HF.out.1
          rw [hpk] at this
          exact Option.some.inj this
        rw [hpf] at d0 d1 d2 hcd9
        obtain ⟨A8, c8, rfl⟩ := hcd9.form
        have HCD9 := Lib.hid hcd9
        clear hpk hpf hcd9
        by_cases hmt : m < f.code.length
        · obtain ⟨ai, ci, e, habi, f0, f1, f2⟩ := HCD9.out.at2 hbi hmt
          injection e with e1 e2 e3
          subst e1 e3
          have hxi : f.code[m]? = some f.code[m] := List.getElem?_eq_getElem hmt
          have hmi : mayI f.code[m] = true := List.all_eq_true.1 (mayF_parts HF.out.2).2.2.2.2.2 _ (List.getElem_mem hmt)
          obtain ⟨x, hxe⟩ : ∃ x, f.code[m] = x := ⟨_, rfl⟩
          rw [hxe] at f0 f1 f2 hxi hmi
          have hxb := mayI_bd hmi
          have L := Lib.hid (fun W => LineR_calls x (by omega) (by omega) W)
          have hwl := written_small hmi
          obtain ⟨wl, hwle⟩ : ∃ z, writtenB x = z := ⟨_, rfl⟩
          rw [hwle] at L hwl
          have HX := Lib.hid (And.intro hxi hwle)
          have s1 : wl.length + 1 ≤ 9223372036854775807 := by omega
          have s2 : ac.length + (wl.length + 1) ≤ 9223372036854775807 := by omega
          have hbi' := hbi.size
          have hq4 : (ai.add (m * 3)).block < wr.heap.size := by rw [add_block]; omega
          clear hxi hxe hmi hxb hwle
          go_wp2_with (first | (go_at_call 45; (with_reducible refine (L.out _).mono ?_); rintro e w' ⟨rfl, hb⟩; have hz := hb.size; (first | (obtain ⟨x1, rfl⟩ := to_mix2 hb) | (obtain ⟨x1, rfl⟩ := to_mix hb)); clear hb; (try simp only [World.size_alloc, World.size_setCell, World.size_drew] at hz); (try have q0 : w.heap.size < _ := Nat.lt_of_lt_of_le (by omega) hz); (try have q1 : w.heap.size + 1 < _ := Nat.lt_of_lt_of_le (by omega) hz); (try have q2 : w.heap.size + 1 + 1 < _ := Nat.lt_of_lt_of_le (by omega) hz); (try have q3 : w.heap.size + 1 + 1 + 1 < _ := Nat.lt_of_lt_of_le (by omega) hz)))
          go_roundw
          case rel => exact ⟨m + 1, ac ++ (wl ++ [10]), by omega, by go_num, (by first | rfl | simp), by simp; omega, by (repeat (first | (with_reducible assumption) | (with_reducible exact Below.refl _ _) | (with_reducible refine grow_alloc ?_ _) | (with_reducible refine grow_mix ?_ _) | (with_reducible refine grow_drew ?_) | (with_reducible refine grow_drewN ?_ _) | (with_reducible refine grow_set ?_ (by first | (simp; done) | (simp; omega) | omega) _))), Lib.hid (by rw [HI.out, show linesT (f.code.take (m + 1)) = linesT (f.code.take m) ++ (writtenB x ++ [10]) from flat_next _ _ _ _ HX.out.1, HX.out.2]; simp)⟩
          case measure => simp [intOf]; omega
        · have hm' : m = f.code.length := by omega
          subst hm'
          go_wp2
          go_roundw
          case rel => exact ⟨k + 1, ac, by omega, by go_num, rfl, by omega, hbi, Lib.hid (by rw [HI.out, ← HA2.out, HS.out, List.take_length, flat_next _ _ _ _ HF.out.1, show textF f = headedB f ++ 10 :: linesT f.code from rfl, HHD.out]; simp)⟩
          case measure => simp [intOf]; omega
    · have hk' : k = p.length := by omega
      subst hk'
      go_wp2
      go_ret
      exact ⟨by rw [HS.out, List.take_length]; rfl, hb⟩
theorem TextR_calls (p : Pg) (v : Value) (w : World) (h : ProgAt w w.heap.size v p) (hl : p.length ≤ 9223372036854775000) (hc : ∀ f ∈ p, f.code.length ≤ 9223372036854775000) :
    Calls Tryz.prog 18 #[v] w fun e w' => e = .returned (str (textP p)) ∧ Below w.heap.size w w' := by
  unfold textP
  cases hm : mayP p
  · exact TextR_no p v w hm h hl hc
  · exact TextR_yes p v w hm h
end Go.Proofs.YtedkfipjooafeaaGreatDoor.Code
set_option linter.unusedSimpArgs false
set_option linter.unusedVariables false
namespace Go.Proofs.YtedkfipjooafeaaGreatDoor.Code
open Go Go.RowKit Go.Proofs.YtedkfipjooafeaaGreatDoor Go.Proofs.YtedkfipjooafeaaGreatDoor.Op Go.Proofs.YtedkfipjooafeaaGreatDoor.Wire

theorem unit_facts (acc k c : Nat) (h3 : acc < 128 ^ k) (hk : k ≤ 6) (hc : c < 256) : wrap64 ((c : Int) % 128 * ((128 ^ k : Nat) : Int)) = ((c % 128 * 128 ^ k : Nat) : Int) ∧ c % 128 * 128 ^ k ≤ 127 * 4398046511104 ∧ acc < 4398046511104 ∧ 128 ^ k ≤ 4398046511104 ∧ 128 ^ (k + 1) = 128 * 128 ^ k ∧ acc + c % 128 * 128 ^ k < 128 ^ (k + 1) := by
  have hN : c % 128 * 128 ^ k ≤ 127 * 4398046511104 ∧ acc < 4398046511104 ∧ 128 ^ k ≤ 4398046511104 ∧ 128 ^ (k + 1) = 128 * 128 ^ k ∧ acc + c % 128 * 128 ^ k < 128 ^ (k + 1) := by
    have hcases : k = 0 ∨ k = 1 ∨ k = 2 ∨ k = 3 ∨ k = 4 ∨ k = 5 ∨ k = 6 := by omega
    rcases hcases with rfl | rfl | rfl | rfl | rfl | rfl | rfl
    all_goals
      simp only [Nat.reduceMul, Nat.reducePow, Nat.reduceAdd] at h3 ⊢
      refine ⟨by omega, by omega, by omega, by first | trivial | omega, by omega⟩
  refine ⟨?_, hN⟩
  have e : ((c : Int) % 128 * ((128 ^ k : Nat) : Int)) = ((c % 128 * 128 ^ k : Nat) : Int) := by
    rw [Int.natCast_mul, Int.natCast_emod]; rfl
  rw [e]
  obtain ⟨p, hp⟩ : ∃ p, c % 128 * 128 ^ k = p := ⟨_, rfl⟩
  rw [hp] at hN ⊢
  exact wrap64_id (by omega) (by omega)
set_option maxRecDepth 100000 in
set_option maxHeartbeats 4000000 in
theorem GetR_in (l : B) (i : Nat) (h : i ≤ l.length) (hl : l.length ≤ 9223372036854775000) (w : World) :
    Calls Tryz.prog 65 #[str l, .int .i64 i] w fun e w' => e = .returned (endV i (getA (l.drop i) 0 0)) ∧ w = w' := by
  have t0 : decide ((i : Int) < 0) = false := by simp
  have t1 : decide (l.length < i) = false := by simp; omega
  go_enter Tryz.func65, Tryz.ntmps65
  go_wp2
  go_loopw [7, 8, 9] (fun n u k wr => ∃ (m acc un : Nat), k = .int .i64 m ∧ u = .int .i64 un ∧ n = .int .i64 acc ∧ Hid (un = 128 ^ m ∧ w = wr ∧ GetRel l i m acc)) (fun _ _ k _ => 1000 - (intOf k).toNat)
  case atStart => exact ⟨0, 0, 1, rfl, rfl, rfl, Lib.hid ⟨rfl, rfl, h, by omega, by decide, rfl⟩⟩
  case round =>
    obtain ⟨k, acc, u, rfl, rfl, rfl, HR⟩ := hrel
    obtain ⟨hu, hw, r1, r2, r3, r4⟩ := HR.out
    have HW := Lib.hid hw
    clear hw
    have E := Lib.hid r4
    clear r4 HR
    by_cases he : i + k = l.length
    · go_wp2
      go_ret3
      exact ⟨by rw [← E.out, getA_none (by omega)]; rfl, HW.out⟩
    · have hlt : i + k < l.length := by omega
      have G := Lib.hid (E.out.symm.trans (getA_at hlt k acc))
      clear E
      obtain ⟨c, hc⟩ : ∃ c, l[i + k] = c := ⟨_, rfl⟩
      rw [hc] at G
      have hcb : c.toNat < 256 := c.toNat_lt
      have hb := ba_get l (i + k) hlt
      rw [hc] at hb
      have hw := wrap_byte c
      clear hc
      by_cases h7 : k = 7
      · subst h7
        have GG := Lib.hid (G.out.trans (if_pos (.inl (by omega))))
        clear G r3
        go_wp2
        go_ret3
        exact ⟨by rw [GG.out]; rfl, HW.out⟩
      · have hk : k ≤ 6 := by omega
        obtain ⟨u1, u2, u3, u4, u5, u6⟩ := unit_facts acc k c.toNat r3 hk hcb
        replace hu := hu.symm
        obtain ⟨pr, hpr⟩ : ∃ m : Nat, c.toNat % 128 * u = m := ⟨_, rfl⟩
        rw [hu] at u1 u2 u4 u5 u6
        rw [hpr] at u1 u2 u6
        have HU := Lib.hid (And.intro hu (And.intro hpr (And.intro u5 u6)))
        rw [hu] at G
        clear u5 u6 r3
        clear hpr hu
        by_cases hc1 : c.toNat < 128
        · by_cases h6 : k = 6 ∧ 63 < c.toNat
          · obtain ⟨h6a, h6b⟩ := h6
            have GG := Lib.hid (G.out.trans (if_pos (.inr ⟨h6a, hc1, h6b⟩)))
            subst h6a
            clear G
            go_wp2
            go_ret3
            exact ⟨by rw [GG.out]; rfl, HW.out⟩
          · have h6' : k = 6 → ¬ 63 < c.toNat := fun a b => h6 ⟨a, b⟩
            have GG := Lib.hid (G.out.trans (if_neg (by omega)) |>.trans (if_pos hc1))
            clear G h6
            by_cases h0 : c.toNat = 0 ∧ 0 < k
            · have GH := Lib.hid (GG.out.trans (if_pos h0))
              clear GG
              obtain ⟨h0, hk0⟩ := h0
              go_wp2
              all_goals
                go_ret3
                exact ⟨by rw [GH.out]; rfl, HW.out⟩
            · have GH := Lib.hid (GG.out.trans (if_neg h0))
              clear GG
              have h0' : c.toNat = 0 → ¬ 0 < k := fun a b => h0 ⟨a, b⟩
              clear h0
              go_wp2
              all_goals
                go_ret3
                refine ⟨?_, HW.out⟩
                have hmod : c.toNat % 128 = c.toNat := Nat.mod_eq_of_lt hc1
                have := HU.out.2.1
                rw [hmod] at this
                rw [GH.out, this]
                first | rfl | (simp [endV]; omega)
        · have GH := Lib.hid (G.out.trans (if_neg (by omega)) |>.trans (if_neg hc1))
          clear G
          by_cases h6 : k = 6
          · have HH := Lib.hid (show GetRel l i 7 (acc + pr) ∧ u * 128 = 128 ^ 7 by
              subst h6
              have := HU.out.2.2.1
              exact ⟨⟨by omega, by omega, HU.out.2.2.2, by rw [GH.out, HU.out.2.1, Nat.add_assoc]⟩, by omega⟩)
            subst h6
            go_wp2
            go_roundw
            case rel => exact ⟨7, acc + pr, u * 128, rfl, by go_num, by go_num, Lib.hid ⟨HH.out.2, HW.out, HH.out.1⟩⟩
            case measure => simp [intOf]
          · have HH := Lib.hid (show GetRel l i (k + 1) (acc + pr) ∧ u * 128 = 128 ^ (k + 1) by
              have := HU.out.2.2.1
              exact ⟨⟨by omega, by omega, HU.out.2.2.2, by rw [GH.out, HU.out.2.1, Nat.add_assoc]⟩, by omega⟩)
            go_wp2
            go_roundw
            case rel => exact ⟨k + 1, acc + pr, u * 128, by go_num, by go_num, by go_num, Lib.hid ⟨HH.out.2, HW.out, HH.out.1⟩⟩
            case measure => simp [intOf]; omega
theorem getA_top : ∀ (l : B) (k acc n j : Nat), getA l k acc = .ok (n, j) → acc < 128 ^ k → n ≤ 281474976710655
  | [], k, acc, n, j, h, _ => by simp [getA] at h
  | c :: r, k, acc, n, j, h, ha => by
    unfold getA at h
    split at h
    · cases h
    · rename_i h7
      have hk : k ≤ 6 := by omega
      have U := unit_facts acc k c.toNat ha hk c.toNat_lt
      split at h
      · rename_i hc
        split at h
        · cases h
        · injection h with h
          injection h with h _
          subst h
          have hmod : c.toNat % 128 = c.toNat := Nat.mod_eq_of_lt hc
          have h2 := U.2.2.2.2.2
          rw [hmod] at h2
          by_cases h6 : k = 6
          · subst h6
            have : ¬ 63 < c.toNat := fun x => h7 (.inr ⟨rfl, hc, x⟩)
            simp only [Nat.reducePow] at ha ⊢
            omega
          · have : 128 ^ (k + 1) ≤ 128 ^ 6 := Nat.pow_le_pow_right (by decide) (by omega)
            simp only [Nat.reducePow] at this
            omega
      · exact getA_top r _ _ n j h U.2.2.2.2.2
theorem numS_top (s : B) (i : Nat) (e : Int) : numS s 0 281474976710656 i e = numS s 0 281474976710655 i e := by
  unfold numS
  split
  · rfl
  · split
    · rfl
    · rename_i n k hg
      have := getA_top _ _ _ _ _ hg (by decide)
      have e1 : inB (n : Int) 0 281474976710656 = inB (n : Int) 0 281474976710655 := by
        unfold inB
        rw [decide_eq_true (show 0 ≤ (n : Int) ∧ (n : Int) ≤ 281474976710656 by omega), decide_eq_true (show 0 ≤ (n : Int) ∧ (n : Int) ≤ 281474976710655 by omega)]
      rw [e1]
abbrev atV (s : B) (i : Nat) (e : Int) : Value := .agg (tkL s i e)
end Go.Proofs.YtedkfipjooafeaaGreatDoor.Code
set_option linter.unusedSimpArgs false
set_option linter.unusedVariables false
namespace Go.Proofs.YtedkfipjooafeaaGreatDoor.Code
open Go Go.RowKit Go.Proofs.YtedkfipjooafeaaGreatDoor Go.Proofs.YtedkfipjooafeaaGreatDoor.Op Go.Proofs.YtedkfipjooafeaaGreatDoor.Wire

set_option maxRecDepth 20000 in
set_option maxHeartbeats 8000000 in
theorem numberR_calls (s : B) (i : Nat) (e lo hi : Int) (hi' : i ≤ s.length) (hs : s.length ≤ 9223372036854775000) (w : World) :
    Calls Tryz.prog 31 #[atV s i e, .int .i64 lo, .int .i64 hi] w fun r w' => r = .returned (.tuple #[.int .i64 (numS s lo hi i e).1, atV s (numS s lo hi i e).2.1 (numS s lo hi i e).2.2]) ∧ Below w.heap.size w w' := by
  by_cases he : e = 0
  · obtain ⟨n, x, j, hv, hn⟩ := endV_at i (getA (s.drop i) 0 0)
    have HN0 := Lib.hid (show numS s lo hi i e = (n, j, mustE x (inB n lo hi)) by rw [he]; exact hn s lo hi rfl)
    have G : ∀ W, Calls Tryz.prog 65 #[str s, .int .i64 i] W fun e w' => e = .returned (.tuple #[.int .i64 n, .int .i64 j, .int .i64 x]) ∧ W = w' := fun W => by
      have := GetR_in s i hi' hs W
      rw [hv] at this
      exact this
    have G := Lib.hid G
    subst he
    clear hv hn
    by_cases hx : x = 0
    · subst hx
      by_cases hlo : n < lo
      · have HN := Lib.hid (HN0.out.trans (show (n, j, mustE 0 (inB n lo hi)) = (n, j, (71 : Int)) by rw [show inB n lo hi = false from decide_eq_false (by omega)]; rfl))
        clear HN0
        go_enter Tryz.func31, Tryz.ntmps31
        go_wp2_with (first | (go_at_call 65; refine (G.out _).mono ?_; rintro e w' ⟨rfl, rfl⟩))
        refine wp_region_mix 3 (by kernel_rfl) (by kernel_rfl) ?_
        simp only [List.take_succ_cons, List.take_zero, List.drop_succ_cons, List.drop_zero]
        repeat (go_big_quiet_step ((fail)))
        refine wpQuiet_nil ?_
        intro _ hmix
        (try (with_reducible replace hmix := mix_flat hmix))
        obtain ⟨x1, hmix'⟩ := hmix
        have hz := mix_size' hmix'
        subst hmix'
        (try simp only [World.size_alloc, World.size_setCell, World.size_drew] at hz); (try have q0 : w.heap.size < _ := Nat.lt_of_lt_of_le (by omega) hz); (try have q1 : w.heap.size + 1 < _ := Nat.lt_of_lt_of_le (by omega) hz); (try have q2 : w.heap.size + 1 + 1 < _ := Nat.lt_of_lt_of_le (by omega) hz); (try have q3 : w.heap.size + 1 + 1 + 1 < _ := Nat.lt_of_lt_of_le (by omega) hz)
        go_wp2
        refine ret_tmp_cell (b := w.heap.size + 1) (cs := [str s, .int .i64 j, .int .i64 71]) (t' := 55) Tryz.results31 rfl Tryz.isAgg55 Tryz.sizeOf55 rfl ?_ ⟨by rw [HN.out]; rfl, by (repeat (first | (with_reducible assumption) | (with_reducible exact Below.refl _ _) | (with_reducible refine grow_alloc ?_ _) | (with_reducible refine grow_mix ?_ _) | (with_reducible refine grow_drew ?_) | (with_reducible refine grow_drewN ?_ _) | (with_reducible refine grow_set ?_ (by first | (simp; done) | (simp; omega) | omega) _)))⟩
        (repeat (first | (with_reducible assumption) | (with_reducible exact Has.new _ _ _) | (with_reducible exact Has.new' (by first | rfl | (simp; done) | (simp; omega)) _ _) | (with_reducible apply Has.alloc) | (with_reducible apply Has.mix) | (with_reducible apply Has.drew) | (with_reducible apply Has.drewN) | (with_reducible apply Has.set_same) | (with_reducible apply Has.set_other (hp := (by first | (simp; done) | (simp; omega) | omega))) | (with_reducible rfl) | rfl))
      · by_cases hhi : hi < n
        · have HN := Lib.hid (HN0.out.trans (show (n, j, mustE 0 (inB n lo hi)) = (n, j, (71 : Int)) by rw [show inB n lo hi = false from decide_eq_false (by omega)]; rfl))
          clear HN0
          go_enter Tryz.func31, Tryz.ntmps31
          go_wp2_with (first | (go_at_call 65; refine (G.out _).mono ?_; rintro e w' ⟨rfl, rfl⟩))
          refine wp_region_mix 3 (by kernel_rfl) (by kernel_rfl) ?_
          simp only [List.take_succ_cons, List.take_zero, List.drop_succ_cons, List.drop_zero]
          repeat (go_big_quiet_step ((fail)))
          refine wpQuiet_nil ?_
          intro _ hmix
          (try (with_reducible replace hmix := mix_flat hmix))
          obtain ⟨x1, hmix'⟩ := hmix
          have hz := mix_size' hmix'
          subst hmix'
          (try simp only [World.size_alloc, World.size_setCell, World.size_drew] at hz); (try have q0 : w.heap.size < _ := Nat.lt_of_lt_of_le (by omega) hz); (try have q1 : w.heap.size + 1 < _ := Nat.lt_of_lt_of_le (by omega) hz); (try have q2 : w.heap.size + 1 + 1 < _ := Nat.lt_of_lt_of_le (by omega) hz); (try have q3 : w.heap.size + 1 + 1 + 1 < _ := Nat.lt_of_lt_of_le (by omega) hz)
          go_wp2
          refine ret_tmp_cell (b := w.heap.size + 1) (cs := [str s, .int .i64 j, .int .i64 71]) (t' := 55) Tryz.results31 rfl Tryz.isAgg55 Tryz.sizeOf55 rfl ?_ ⟨by rw [HN.out]; rfl, by (repeat (first | (with_reducible assumption) | (with_reducible exact Below.refl _ _) | (with_reducible refine grow_alloc ?_ _) | (with_reducible refine grow_mix ?_ _) | (with_reducible refine grow_drew ?_) | (with_reducible refine grow_drewN ?_ _) | (with_reducible refine grow_set ?_ (by first | (simp; done) | (simp; omega) | omega) _)))⟩
          (repeat (first | (with_reducible assumption) | (with_reducible exact Has.new _ _ _) | (with_reducible exact Has.new' (by first | rfl | (simp; done) | (simp; omega)) _ _) | (with_reducible apply Has.alloc) | (with_reducible apply Has.mix) | (with_reducible apply Has.drew) | (with_reducible apply Has.drewN) | (with_reducible apply Has.set_same) | (with_reducible apply Has.set_other (hp := (by first | (simp; done) | (simp; omega) | omega))) | (with_reducible rfl) | rfl))
        · have HN := Lib.hid (HN0.out.trans (show (n, j, mustE 0 (inB n lo hi)) = (n, j, (0 : Int)) by rw [show inB n lo hi = true from decide_eq_true (by omega)]; rfl))
          clear HN0
          go_enter Tryz.func31, Tryz.ntmps31
          go_wp2_with (first | (go_at_call 65; refine (G.out _).mono ?_; rintro e w' ⟨rfl, rfl⟩))
          refine wp_region_mix 3 (by kernel_rfl) (by kernel_rfl) ?_
          simp only [List.take_succ_cons, List.take_zero, List.drop_succ_cons, List.drop_zero]
          repeat (go_big_quiet_step ((fail)))
          refine wpQuiet_nil ?_
          intro _ hmix
          (try (with_reducible replace hmix := mix_flat hmix))
          obtain ⟨x1, hmix'⟩ := hmix
          have hz := mix_size' hmix'
          subst hmix'
          (try simp only [World.size_alloc, World.size_setCell, World.size_drew] at hz); (try have q0 : w.heap.size < _ := Nat.lt_of_lt_of_le (by omega) hz); (try have q1 : w.heap.size + 1 < _ := Nat.lt_of_lt_of_le (by omega) hz); (try have q2 : w.heap.size + 1 + 1 < _ := Nat.lt_of_lt_of_le (by omega) hz); (try have q3 : w.heap.size + 1 + 1 + 1 < _ := Nat.lt_of_lt_of_le (by omega) hz)
          go_wp2
          refine ret_tmp_cell (b := w.heap.size + 1) (cs := [str s, .int .i64 j, .int .i64 0]) (t' := 55) Tryz.results31 rfl Tryz.isAgg55 Tryz.sizeOf55 rfl ?_ ⟨by rw [HN.out]; rfl, by (repeat (first | (with_reducible assumption) | (with_reducible exact Below.refl _ _) | (with_reducible refine grow_alloc ?_ _) | (with_reducible refine grow_mix ?_ _) | (with_reducible refine grow_drew ?_) | (with_reducible refine grow_drewN ?_ _) | (with_reducible refine grow_set ?_ (by first | (simp; done) | (simp; omega) | omega) _)))⟩
          (repeat (first | (with_reducible assumption) | (with_reducible exact Has.new _ _ _) | (with_reducible exact Has.new' (by first | rfl | (simp; done) | (simp; omega)) _ _) | (with_reducible apply Has.alloc) | (with_reducible apply Has.mix) | (with_reducible apply Has.drew) | (with_reducible apply Has.drewN) | (with_reducible apply Has.set_same) | (with_reducible apply Has.set_other (hp := (by first | (simp; done) | (simp; omega) | omega))) | (with_reducible rfl) | rfl))
    · have hxb : (x == 0) = false := by simpa using hx
      have HN := Lib.hid (HN0.out.trans (show (n, j, mustE x (inB n lo hi)) = (n, j, x) by rw [show mustE x (inB n lo hi) = x from if_neg (fun h => hx h.1)]))
      clear HN0 hx
      go_enter Tryz.func31, Tryz.ntmps31
      go_wp2_with (first | (go_at_call 65; refine (G.out _).mono ?_; rintro e w' ⟨rfl, rfl⟩))
      refine wp_region_mix 3 (by kernel_rfl) (by kernel_rfl) ?_
      simp only [List.take_succ_cons, List.take_zero, List.drop_succ_cons, List.drop_zero]
      repeat (go_big_quiet_step ((fail)))
      refine wpQuiet_nil ?_
      intro _ hmix
      (try (with_reducible replace hmix := mix_flat hmix))
      obtain ⟨x1, hmix'⟩ := hmix
      have hz := mix_size' hmix'
      subst hmix'
      (try simp only [World.size_alloc, World.size_setCell, World.size_drew] at hz); (try have q0 : w.heap.size < _ := Nat.lt_of_lt_of_le (by omega) hz); (try have q1 : w.heap.size + 1 < _ := Nat.lt_of_lt_of_le (by omega) hz); (try have q2 : w.heap.size + 1 + 1 < _ := Nat.lt_of_lt_of_le (by omega) hz); (try have q3 : w.heap.size + 1 + 1 + 1 < _ := Nat.lt_of_lt_of_le (by omega) hz)
      go_wp2
      refine ret_tmp_cell (b := w.heap.size + 1) (cs := [str s, .int .i64 j, .int .i64 x]) (t' := 55) Tryz.results31 rfl Tryz.isAgg55 Tryz.sizeOf55 rfl ?_ ⟨by rw [HN.out]; rfl, by (repeat (first | (with_reducible assumption) | (with_reducible exact Below.refl _ _) | (with_reducible refine grow_alloc ?_ _) | (with_reducible refine grow_mix ?_ _) | (with_reducible refine grow_drew ?_) | (with_reducible refine grow_drewN ?_ _) | (with_reducible refine grow_set ?_ (by first | (simp; done) | (simp; omega) | omega) _)))⟩
      (repeat (first | (with_reducible assumption) | (with_reducible exact Has.new _ _ _) | (with_reducible exact Has.new' (by first | rfl | (simp; done) | (simp; omega)) _ _) | (with_reducible apply Has.alloc) | (with_reducible apply Has.mix) | (with_reducible apply Has.drew) | (with_reducible apply Has.drewN) | (with_reducible apply Has.set_same) | (with_reducible apply Has.set_other (hp := (by first | (simp; done) | (simp; omega) | omega))) | (with_reducible rfl) | rfl))
  · have hb : (e != 0) = true := by simpa using he
    have HN := Lib.hid (show numS s lo hi i e = (0, i, e) from if_pos he)
    clear he
    go_enter Tryz.func31, Tryz.ntmps31
    go_wp2
    refine wp_region_mix 2 (by kernel_rfl) (by kernel_rfl) ?_
    simp only [List.take_succ_cons, List.take_zero, List.drop_succ_cons, List.drop_zero]
    repeat (go_big_quiet_step ((fail)))
    refine wpQuiet_nil ?_
    intro _ hmix
    (try (with_reducible replace hmix := mix_flat hmix))
    obtain ⟨x1, hmix'⟩ := hmix
    have hz := mix_size' hmix'
    subst hmix'
    (try simp only [World.size_alloc, World.size_setCell, World.size_drew] at hz); (try have q0 : w.heap.size < _ := Nat.lt_of_lt_of_le (by omega) hz); (try have q1 : w.heap.size + 1 < _ := Nat.lt_of_lt_of_le (by omega) hz); (try have q2 : w.heap.size + 1 + 1 < _ := Nat.lt_of_lt_of_le (by omega) hz); (try have q3 : w.heap.size + 1 + 1 + 1 < _ := Nat.lt_of_lt_of_le (by omega) hz)
    go_wp2
    refine ret_tmp_cell (b := w.heap.size + 1) (cs := [str s, .int .i64 i, .int .i64 e]) (t' := 55) Tryz.results31 rfl Tryz.isAgg55 Tryz.sizeOf55 rfl ?_ ⟨by rw [HN.out]; rfl, by (repeat (first | (with_reducible assumption) | (with_reducible exact Below.refl _ _) | (with_reducible refine grow_alloc ?_ _) | (with_reducible refine grow_mix ?_ _) | (with_reducible refine grow_drew ?_) | (with_reducible refine grow_drewN ?_ _) | (with_reducible refine grow_set ?_ (by first | (simp; done) | (simp; omega) | omega) _)))⟩
    (repeat (first | (with_reducible assumption) | (with_reducible exact Has.new _ _ _) | (with_reducible exact Has.new' (by first | rfl | (simp; done) | (simp; omega)) _ _) | (with_reducible apply Has.alloc) | (with_reducible apply Has.mix) | (with_reducible apply Has.drew) | (with_reducible apply Has.drewN) | (with_reducible apply Has.set_same) | (with_reducible apply Has.set_other (hp := (by first | (simp; done) | (simp; omega) | omega))) | (with_reducible rfl) | rfl))
end Go.Proofs.YtedkfipjooafeaaGreatDoor.Code
