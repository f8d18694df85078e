/-
  Contracts of the reference for values (layer 4).
-/
import Derived.Test.YtepagnaabncllaaDoorGaussB
import Derived.Test.YtepagnaabncllaaDoorFlow
set_option linter.unusedSimpArgs false
set_option linter.unusedVariables false
namespace Go.Proofs.YtepagnaabncllaaDoor.Ref04
open Go Go.RowKit Go.Proofs.YtepagnaabncllaaDoor Go.Proofs.YtepagnaabncllaaDoor.Gauss

attribute [local go_sem high] eql_value neq_value equal_value

theorem tmod_cases (n : Int) : (n.tmod 251 < 0 ∧ n.tmod 251 + 251 = rest n) ∨ (¬ n.tmod 251 < 0 ∧ n.tmod 251 = rest n) := by
  have h := tmod_251 n
  unfold rest
  omega

set_option maxHeartbeats 400000 in
theorem Rest_calls (n : Int) (w : World) :
    Calls Tryd.prog 33 #[.int .i64 n] w fun e w' => e = .returned (.int .i64 (rest n)) ∧ w = w' := by
  obtain ⟨hl, hu⟩ := tmod_bd n
  rcases tmod_cases n with ⟨h1, h2⟩ | ⟨h1, h2⟩
  all_goals
    have H := Lib.hid h2
    clear h2
    go_enter Tryd.func33, Tryd.ntmps33
    go_wp2
    go_ret
    exact ⟨ret_int H.out, rfl⟩

set_option maxHeartbeats 400000 in
theorem Of_calls (a b : Int) (w : World) :
    Calls Tryd.prog 28 #[.int .i64 a, .int .i64 b] w fun e w' => e = .returned (vv (ofV a b)) ∧ Below w.heap.size w w' := by
  go_enter Tryd.func28, Tryd.ntmps28
  go_wp2_with (go_at_call 33; refine (Rest_calls _ _).mono ?_; rintro e w' ⟨rfl, rfl⟩)
  refine bodyPost_ret (v := vv (ofV a b)) (by simp [results, Tryd.results28, go_sem, ofV]) rfl ⟨rfl, ?_⟩
  (repeat (first | (with_reducible assumption) | (with_reducible exact Below.refl _ _) | (with_reducible refine grow_alloc ?_ _) | (with_reducible refine grow_mix ?_ _) | (with_reducible refine grow_drew ?_) | (with_reducible refine grow_drewN ?_ _) | (with_reducible refine grow_set ?_ (by first | (simp; done) | (simp; omega) | omega) _)))

/-- May a value be? -/
def mayR (x : Int × Int) : Bool := decide (0 ≤ x.1 ∧ x.1 < 251 ∧ 0 ≤ x.2 ∧ x.2 < 251)

set_option maxHeartbeats 400000 in
theorem May_calls (x : Int × Int) (w : World) :
    Calls Tryd.prog 11 #[vv x] w fun e w' => e = .returned (.bool (mayR x)) ∧ Below w.heap.size w w' := by
  by_cases h1 : 0 ≤ x.1
  · by_cases h2 : x.1 < 251
    · by_cases h3 : 0 ≤ x.2
      · by_cases h4 : x.2 < 251
        · have E := Lib.hid (show mayR x = true from decide_eq_true ⟨h1, h2, h3, h4⟩)
          go_enter Tryd.func11, Tryd.ntmps11
          go_wp2
          go_ret
          exact ⟨by rw [E.out]; rfl, by (repeat (first | (with_reducible assumption) | (with_reducible exact Below.refl _ _) | (with_reducible refine grow_alloc ?_ _) | (with_reducible refine grow_mix ?_ _) | (with_reducible refine grow_drew ?_) | (with_reducible refine grow_drewN ?_ _) | (with_reducible refine grow_set ?_ (by first | (simp; done) | (simp; omega) | omega) _)))⟩
        · have E := Lib.hid (show mayR x = false from decide_eq_false (by omega))
          have t : decide (x.2 < 251) = false := decide_eq_false h4
          go_enter Tryd.func11, Tryd.ntmps11
          go_wp2
          go_ret
          exact ⟨by rw [E.out]; rfl, by (repeat (first | (with_reducible assumption) | (with_reducible exact Below.refl _ _) | (with_reducible refine grow_alloc ?_ _) | (with_reducible refine grow_mix ?_ _) | (with_reducible refine grow_drew ?_) | (with_reducible refine grow_drewN ?_ _) | (with_reducible refine grow_set ?_ (by first | (simp; done) | (simp; omega) | omega) _)))⟩
      · have E := Lib.hid (show mayR x = false from decide_eq_false (by omega))
        have t : decide (0 ≤ x.2) = false := decide_eq_false h3
        go_enter Tryd.func11, Tryd.ntmps11
        go_wp2
        go_ret
        exact ⟨by rw [E.out]; rfl, by (repeat (first | (with_reducible assumption) | (with_reducible exact Below.refl _ _) | (with_reducible refine grow_alloc ?_ _) | (with_reducible refine grow_mix ?_ _) | (with_reducible refine grow_drew ?_) | (with_reducible refine grow_drewN ?_ _) | (with_reducible refine grow_set ?_ (by first | (simp; done) | (simp; omega) | omega) _)))⟩
    · have E := Lib.hid (show mayR x = false from decide_eq_false (by omega))
      have t : decide (x.1 < 251) = false := decide_eq_false h2
      go_enter Tryd.func11, Tryd.ntmps11
      go_wp2
      go_ret
      exact ⟨by rw [E.out]; rfl, by (repeat (first | (with_reducible assumption) | (with_reducible exact Below.refl _ _) | (with_reducible refine grow_alloc ?_ _) | (with_reducible refine grow_mix ?_ _) | (with_reducible refine grow_drew ?_) | (with_reducible refine grow_drewN ?_ _) | (with_reducible refine grow_set ?_ (by first | (simp; done) | (simp; omega) | omega) _)))⟩
  · have E := Lib.hid (show mayR x = false from decide_eq_false (by omega))
    have t : decide (0 ≤ x.1) = false := decide_eq_false h1
    go_enter Tryd.func11, Tryd.ntmps11
    go_wp2
    go_ret
    exact ⟨by rw [E.out]; rfl, by (repeat (first | (with_reducible assumption) | (with_reducible exact Below.refl _ _) | (with_reducible refine grow_alloc ?_ _) | (with_reducible refine grow_mix ?_ _) | (with_reducible refine grow_drew ?_) | (with_reducible refine grow_drewN ?_ _) | (with_reducible refine grow_set ?_ (by first | (simp; done) | (simp; omega) | omega) _)))⟩

set_option maxHeartbeats 400000 in
theorem Conj_calls (x : Int × Int) (w : World) :
    Calls Tryd.prog 24 #[vv x] w fun e w' => e = .returned (vv (conjV x)) ∧ Below w.heap.size w w' := by
  have h1 := rest_bd x.2
  go_enter Tryd.func24, Tryd.ntmps24
  go_wp2
  refine wp_region_mix 8 (by kernel_rfl) (by kernel_rfl) ?_
  simp only [List.take_succ_cons, List.take_zero, List.drop_succ_cons, List.drop_zero]
  repeat (go_big_quiet_step ((first | (go_at_call 33; exact mix_call_same (Rest_calls _ _)) | (go_at_call 28; exact mix_call (Of_calls _ _ _)))))
  refine wpQuiet_nil ?_
  intro _ hmix
  (try (with_reducible replace hmix := mix_flat hmix))
  obtain ⟨x1, hmix'⟩ := hmix
  have hz := mix_size' hmix'
  subst hmix'
  (try simp only [World.size_alloc, World.size_setCell, World.size_drew] at hz); (try have q0 : w.heap.size < _ := Nat.lt_of_lt_of_le (by omega) hz); (try have q1 : w.heap.size + 1 < _ := Nat.lt_of_lt_of_le (by omega) hz); (try have q2 : w.heap.size + 1 + 1 < _ := Nat.lt_of_lt_of_le (by omega) hz); (try have q3 : w.heap.size + 1 + 1 + 1 < _ := Nat.lt_of_lt_of_le (by omega) hz)
  go_wp2
  refine bodyPost_ret (v := vv (conjV x)) (by simp [results, Tryd.results24, go_sem, ofV, conjV]) rfl ⟨rfl, ?_⟩
  (repeat (first | (with_reducible assumption) | (with_reducible exact Below.refl _ _) | (with_reducible refine grow_alloc ?_ _) | (with_reducible refine grow_mix ?_ _) | (with_reducible refine grow_drew ?_) | (with_reducible refine grow_drewN ?_ _) | (with_reducible refine grow_set ?_ (by first | (simp; done) | (simp; omega) | omega) _)))

set_option maxHeartbeats 400000 in
theorem Add_calls (x y : Int × Int) (w : World) :
    Calls Tryd.prog 19 #[vv x, vv y] w fun e w' => e = .returned (vv (addV x y)) ∧ Below w.heap.size w w' := by
  have h1 := rest_bd x.1
  have h2 := rest_bd x.2
  have h3 := rest_bd y.1
  have h4 := rest_bd y.2
  go_enter Tryd.func19, Tryd.ntmps19
  go_wp2
  refine wp_region_mix 15 (by kernel_rfl) (by kernel_rfl) ?_
  simp only [List.take_succ_cons, List.take_zero, List.drop_succ_cons, List.drop_zero]
  repeat (go_big_quiet_step ((first | (go_at_call 33; exact mix_call_same (Rest_calls _ _)) | (go_at_call 28; exact mix_call (Of_calls _ _ _)))))
  refine wpQuiet_nil ?_
  intro _ hmix
  (try (with_reducible replace hmix := mix_flat hmix))
  obtain ⟨x1, hmix'⟩ := hmix
  have hz := mix_size' hmix'
  subst hmix'
  (try simp only [World.size_alloc, World.size_setCell, World.size_drew] at hz); (try have q0 : w.heap.size < _ := Nat.lt_of_lt_of_le (by omega) hz); (try have q1 : w.heap.size + 1 < _ := Nat.lt_of_lt_of_le (by omega) hz); (try have q2 : w.heap.size + 1 + 1 < _ := Nat.lt_of_lt_of_le (by omega) hz); (try have q3 : w.heap.size + 1 + 1 + 1 < _ := Nat.lt_of_lt_of_le (by omega) hz)
  go_wp2
  refine bodyPost_ret (v := vv (addV x y)) (by simp [results, Tryd.results19, go_sem, ofV, addV]) rfl ⟨rfl, ?_⟩
  (repeat (first | (with_reducible assumption) | (with_reducible exact Below.refl _ _) | (with_reducible refine grow_alloc ?_ _) | (with_reducible refine grow_mix ?_ _) | (with_reducible refine grow_drew ?_) | (with_reducible refine grow_drewN ?_ _) | (with_reducible refine grow_set ?_ (by first | (simp; done) | (simp; omega) | omega) _)))

set_option maxHeartbeats 400000 in
theorem Sub_calls (x y : Int × Int) (w : World) :
    Calls Tryd.prog 21 #[vv x, vv y] w fun e w' => e = .returned (vv (subV x y)) ∧ Below w.heap.size w w' := by
  have h1 := rest_bd x.1
  have h2 := rest_bd x.2
  have h3 := rest_bd y.1
  have h4 := rest_bd y.2
  go_enter Tryd.func21, Tryd.ntmps21
  go_wp2
  refine wp_region_mix 15 (by kernel_rfl) (by kernel_rfl) ?_
  simp only [List.take_succ_cons, List.take_zero, List.drop_succ_cons, List.drop_zero]
  repeat (go_big_quiet_step ((first | (go_at_call 33; exact mix_call_same (Rest_calls _ _)) | (go_at_call 28; exact mix_call (Of_calls _ _ _)))))
  refine wpQuiet_nil ?_
  intro _ hmix
  (try (with_reducible replace hmix := mix_flat hmix))
  obtain ⟨x1, hmix'⟩ := hmix
  have hz := mix_size' hmix'
  subst hmix'
  (try simp only [World.size_alloc, World.size_setCell, World.size_drew] at hz); (try have q0 : w.heap.size < _ := Nat.lt_of_lt_of_le (by omega) hz); (try have q1 : w.heap.size + 1 < _ := Nat.lt_of_lt_of_le (by omega) hz); (try have q2 : w.heap.size + 1 + 1 < _ := Nat.lt_of_lt_of_le (by omega) hz); (try have q3 : w.heap.size + 1 + 1 + 1 < _ := Nat.lt_of_lt_of_le (by omega) hz)
  go_wp2
  refine bodyPost_ret (v := vv (subV x y)) (by simp [results, Tryd.results21, go_sem, ofV, subV]) rfl ⟨rfl, ?_⟩
  (repeat (first | (with_reducible assumption) | (with_reducible exact Below.refl _ _) | (with_reducible refine grow_alloc ?_ _) | (with_reducible refine grow_mix ?_ _) | (with_reducible refine grow_drew ?_) | (with_reducible refine grow_drewN ?_ _) | (with_reducible refine grow_set ?_ (by first | (simp; done) | (simp; omega) | omega) _)))

set_option maxHeartbeats 8000000 in
theorem Mul_calls (x y : Int × Int) (w : World) :
    Calls Tryd.prog 22 #[vv x, vv y] w fun e w' => e = .returned (vv (mulV x y)) ∧ Below w.heap.size w w' := by
  have h1 := rest_bd x.1
  have h2 := rest_bd x.2
  have h3 := rest_bd y.1
  have h4 := rest_bd y.2
  have m1 := Fl.prod_bd h1.1 h1.2 h3.1 h3.2
  have m2 := Fl.prod_bd h2.1 h2.2 h4.1 h4.2
  have m3 := Fl.prod_bd h1.1 h1.2 h4.1 h4.2
  have m4 := Fl.prod_bd h2.1 h2.2 h3.1 h3.2
  change 0 ≤ (ofV x.1 x.2).1 * (ofV y.1 y.2).1 ∧ (ofV x.1 x.2).1 * (ofV y.1 y.2).1 ≤ 62500 at m1
  change 0 ≤ (ofV x.1 x.2).2 * (ofV y.1 y.2).2 ∧ (ofV x.1 x.2).2 * (ofV y.1 y.2).2 ≤ 62500 at m2
  change 0 ≤ (ofV x.1 x.2).1 * (ofV y.1 y.2).2 ∧ (ofV x.1 x.2).1 * (ofV y.1 y.2).2 ≤ 62500 at m3
  change 0 ≤ (ofV x.1 x.2).2 * (ofV y.1 y.2).1 ∧ (ofV x.1 x.2).2 * (ofV y.1 y.2).1 ≤ 62500 at m4
  obtain ⟨m1a, m1b⟩ := m1
  obtain ⟨m2a, m2b⟩ := m2
  obtain ⟨m3a, m3b⟩ := m3
  obtain ⟨m4a, m4b⟩ := m4
  clear h1 h2 h3 h4
  go_enter Tryd.func22, Tryd.ntmps22
  go_wp2
  refine wp_flow [true, true, true, true, true, true, true, true, true, true, false, false] [(10, New (w.heap.size + 3) #[.int .i64 0, .int .i64 0] 23), (11, New (w.heap.size + 3) #[.int .i64 0, .int .i64 0] 23)] [] (by kernel_rfl) (by kernel_rfl) (by kernel_rfl) (by kernel_rfl) (by kernel_rfl) (fun _ _ d _ _ h => by cases d <;> exact h) (by kernel_rfl) ⟨(by first | exact New.mono | assumption), (by first | exact New.mono | assumption), trivial⟩ ?_
  apply Exists.intro
  refine ⟨fun yq => ?_, ⟨fun yq o ho => ?_, fun yq o ho => ?_, trivial⟩, trivial, fun yq => ?_⟩
  · simp only [headQ]
    repeat (go_big_quiet_step ((go_at_call 28; exact mix_call (Of_calls _ _ _))))
    exact wpQuiet_nil rfl
  ·
    have ho' := Option.some.inj ho
    subst ho'
    refine grow_new rfl ?_ (by simp)
    go_simp
  ·
    have ho' := Option.some.inj ho
    subst ho'
    refine grow_new rfl ?_ (by simp)
    go_simp
  ·
    simp only [FlowEnd, List.getElem?_toArray, List.getElem?_cons_succ, List.getElem?_cons_zero, Option.bind_some, Act.put, List.setIfInBounds_toArray, List.set_cons_succ, List.set_cons_zero, List.drop_succ_cons, List.drop_zero, List.length_cons, List.length_nil]
    intro v5 h_v5 n_v5
    intro v6 h_v6 n_v6
    obtain ⟨b5, rfl, H5, H5_b⟩ := h_v5
    try have H5_n0 : b5 ≠ w.heap.size := by omega
    try have H5_m0 : w.heap.size ≠ b5 := by omega
    try have H5_n1 : b5 ≠ w.heap.size + 1 := by omega
    try have H5_m1 : w.heap.size + 1 ≠ b5 := by omega
    try have H5_n2 : b5 ≠ w.heap.size + 1 + 1 := by omega
    try have H5_m2 : w.heap.size + 1 + 1 ≠ b5 := by omega
    try have H5_n3 : b5 ≠ w.heap.size + 1 + 1 + 1 := by omega
    try have H5_m3 : w.heap.size + 1 + 1 + 1 ≠ b5 := by omega
    simp only [ownOf, Option.some.injEq, forall_eq', Option.toList_some, List.mem_append, List.mem_cons, List.not_mem_nil, or_false, not_false_eq_true] at n_v5
    have H5_c0 := H5.cell 0
    have H5_c1 := H5.cell 1
    have H5_f := H5.frozen
    have H5_l := H5.lt
    simp only [List.size_toArray, List.length_cons, List.length_nil, Nat.reduceAdd, Nat.zero_lt_succ, Nat.one_lt_succ_succ, Nat.reduceLT, getElem?_pos, List.getElem_toArray, List.getElem_cons_zero, List.getElem_cons_succ] at H5_c0 H5_c1
    obtain ⟨b6, rfl, H6, H6_b⟩ := h_v6
    try have H6_n0 : b6 ≠ w.heap.size := by omega
    try have H6_m0 : w.heap.size ≠ b6 := by omega
    try have H6_n1 : b6 ≠ w.heap.size + 1 := by omega
    try have H6_m1 : w.heap.size + 1 ≠ b6 := by omega
    try have H6_n2 : b6 ≠ w.heap.size + 1 + 1 := by omega
    try have H6_m2 : w.heap.size + 1 + 1 ≠ b6 := by omega
    try have H6_n3 : b6 ≠ w.heap.size + 1 + 1 + 1 := by omega
    try have H6_m3 : w.heap.size + 1 + 1 + 1 ≠ b6 := by omega
    simp only [ownOf, Option.some.injEq, forall_eq', Option.toList_some, List.mem_append, List.mem_cons, List.not_mem_nil, or_false, not_false_eq_true] at n_v6
    have H6_c0 := H6.cell 0
    have H6_c1 := H6.cell 1
    have H6_f := H6.frozen
    have H6_l := H6.lt
    simp only [List.size_toArray, List.length_cons, List.length_nil, Nat.reduceAdd, Nat.zero_lt_succ, Nat.one_lt_succ_succ, Nat.reduceLT, getElem?_pos, List.getElem_toArray, List.getElem_cons_zero, List.getElem_cons_succ] at H6_c0 H6_c1
    have n56 : b5 ≠ b6 := fun e => n_v6 e.symm
    go_wp2_with (go_at_call 28; refine (Of_calls _ _ _).mono ?_; rintro e w' ⟨rfl, hb⟩; have hz := hb.size; (first | (obtain ⟨x1, rfl⟩ := to_mix2 hb) | (obtain ⟨x1, rfl⟩ := to_mix hb)); clear hb; (try simp only [World.size_alloc, World.size_setCell, World.size_drew] at hz); (try have q0 : w.heap.size < _ := Nat.lt_of_lt_of_le (by omega) hz); (try have q1 : w.heap.size + 1 < _ := Nat.lt_of_lt_of_le (by omega) hz); (try have q2 : w.heap.size + 1 + 1 < _ := Nat.lt_of_lt_of_le (by omega) hz); (try have q3 : w.heap.size + 1 + 1 + 1 < _ := Nat.lt_of_lt_of_le (by omega) hz))
    refine ret_cell (cs := [.int .i64 (mulV x y).1, .int .i64 (mulV x y).2]) (t' := 23) Tryd.results22 rfl Tryd.isAgg23 Tryd.sizeOf23 rfl ?_ ⟨rfl, ?_⟩
    · (repeat (first | (with_reducible assumption) | (with_reducible exact Has.new _ _ _) | (with_reducible exact Has.new' (by first | rfl | (simp; done) | (simp; omega)) _ _) | (with_reducible apply Has.alloc) | (with_reducible apply Has.mix) | (with_reducible apply Has.drew) | (with_reducible apply Has.drewN) | (with_reducible apply Has.set_same) | (with_reducible apply Has.set_other (hp := (by first | (simp; done) | (simp; omega) | omega))) | (with_reducible rfl) | rfl))
    · (repeat (first | (with_reducible assumption) | (with_reducible exact Below.refl _ _) | (with_reducible refine grow_alloc ?_ _) | (with_reducible refine grow_mix ?_ _) | (with_reducible refine grow_drew ?_) | (with_reducible refine grow_drewN ?_ _) | (with_reducible refine grow_set ?_ (by first | (simp; done) | (simp; omega) | omega) _)))
end Go.Proofs.YtepagnaabncllaaDoor.Ref04
