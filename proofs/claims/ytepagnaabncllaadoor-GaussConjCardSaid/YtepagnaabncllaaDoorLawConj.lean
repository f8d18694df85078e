/-
  The law of conjugates: for every input it returns true, and its input reads as it did.
-/
import Derived.Test.YtepagnaabncllaaDoorLawFacts
import Derived.Test.YtepagnaabncllaaDoorRow
set_option linter.unusedSimpArgs false
set_option linter.unusedVariables false
namespace Go.Proofs.YtepagnaabncllaaDoor.Laws
open Go Go.RowKit Go.Proofs.YtepagnaabncllaaDoor Go.Proofs.YtepagnaabncllaaDoor.Gauss Go.Proofs.YtepagnaabncllaaDoor.Pure Go.Proofs.YtepagnaabncllaaDoor.Text Go.Proofs.YtepagnaabncllaaDoor.Ref04

attribute [local go_sem high] eql_value neq_value equal_value field_re field_im

set_option maxRecDepth 100000 in
set_option maxHeartbeats 4000000 in
theorem conj_leave1 (x y : Int × Int) (w : World) (ht : Tab w) (hx : mayR x = false) :
    Calls Tryd.prog 7 #[vv x, vv y] w fun e w' => e = .returned (.bool true) ∧ Below w.heap.size w w' := by
  have HT := Lib.hid (fun (w1 : World) (h : Below w.heap.size w w1) => fixed_calls w1 (ht.below h))
  have MX := Lib.hid (fun w1 => R_May_false x hx w1)
  clear ht hx
  go_enter Tryd.func7, Tryd.ntmps7
  go_wp2_with fail
  (go_at_call 10; refine (HT.out _ (by (repeat (first | (with_reducible assumption) | (with_reducible exact Below.refl _ _) | (with_reducible refine grow_alloc ?_ _) | (with_reducible refine grow_mix ?_ _) | (with_reducible refine grow_drew ?_) | (with_reducible refine grow_drewN ?_ _) | (with_reducible refine grow_set ?_ (by first | (simp; done) | (simp; omega) | omega) _))))).mono ?_; rintro e w' ⟨rfl, hb⟩; have hz := hb.size; (first | (obtain ⟨x1, rfl⟩ := to_mix2 hb) | (obtain ⟨x1, rfl⟩ := to_mix hb)); clear hb; (try simp only [World.size_alloc, World.size_setCell, World.size_drew] at hz); (try have q0 : w.heap.size < _ := Nat.lt_of_lt_of_le (by omega) hz); (try have q1 : w.heap.size + 1 < _ := Nat.lt_of_lt_of_le (by omega) hz); (try have q2 : w.heap.size + 1 + 1 < _ := Nat.lt_of_lt_of_le (by omega) hz); (try have q3 : w.heap.size + 1 + 1 + 1 < _ := Nat.lt_of_lt_of_le (by omega) hz))
  go_wp2_with fail
  (go_at_call 11; refine (MX.out _).mono ?_; rintro e w' ⟨rfl, hb⟩; have hz := hb.size; (first | (obtain ⟨x1, rfl⟩ := to_mix2 hb) | (obtain ⟨x1, rfl⟩ := to_mix hb)); clear hb; (try simp only [World.size_alloc, World.size_setCell, World.size_drew] at hz); (try have q0 : w.heap.size < _ := Nat.lt_of_lt_of_le (by omega) hz); (try have q1 : w.heap.size + 1 < _ := Nat.lt_of_lt_of_le (by omega) hz); (try have q2 : w.heap.size + 1 + 1 < _ := Nat.lt_of_lt_of_le (by omega) hz); (try have q3 : w.heap.size + 1 + 1 + 1 < _ := Nat.lt_of_lt_of_le (by omega) hz))
  go_wp2_with fail
  (go_at_call 10; refine (HT.out _ (by (repeat (first | (with_reducible assumption) | (with_reducible exact Below.refl _ _) | (with_reducible refine grow_alloc ?_ _) | (with_reducible refine grow_mix ?_ _) | (with_reducible refine grow_drew ?_) | (with_reducible refine grow_drewN ?_ _) | (with_reducible refine grow_set ?_ (by first | (simp; done) | (simp; omega) | omega) _))))).mono ?_; rintro e w' ⟨rfl, hb⟩; have hz := hb.size; (first | (obtain ⟨x1, rfl⟩ := to_mix2 hb) | (obtain ⟨x1, rfl⟩ := to_mix hb)); clear hb; (try simp only [World.size_alloc, World.size_setCell, World.size_drew] at hz); (try have q0 : w.heap.size < _ := Nat.lt_of_lt_of_le (by omega) hz); (try have q1 : w.heap.size + 1 < _ := Nat.lt_of_lt_of_le (by omega) hz); (try have q2 : w.heap.size + 1 + 1 < _ := Nat.lt_of_lt_of_le (by omega) hz); (try have q3 : w.heap.size + 1 + 1 + 1 < _ := Nat.lt_of_lt_of_le (by omega) hz))
  go_wp2
  go_ret
  exact ⟨rfl, by (repeat (first | (with_reducible assumption) | (with_reducible exact Below.refl _ _) | (with_reducible refine grow_alloc ?_ _) | (with_reducible refine grow_mix ?_ _) | (with_reducible refine grow_drew ?_) | (with_reducible refine grow_drewN ?_ _) | (with_reducible refine grow_set ?_ (by first | (simp; done) | (simp; omega) | omega) _)))⟩

set_option maxRecDepth 100000 in
set_option maxHeartbeats 4000000 in
theorem conj_leave2 (x y : Int × Int) (w : World) (ht : Tab w) (hx : mayR x = true) (hy : mayR y = false) :
    Calls Tryd.prog 7 #[vv x, vv y] w fun e w' => e = .returned (.bool true) ∧ Below w.heap.size w w' := by
  have HT := Lib.hid (fun (w1 : World) (h : Below w.heap.size w w1) => fixed_calls w1 (ht.below h))
  have MX := Lib.hid (fun w1 => R_May_true x hx w1)
  have MY := Lib.hid (fun w1 => R_May_false y hy w1)
  clear ht hx hy
  go_enter Tryd.func7, Tryd.ntmps7
  go_wp2_with fail
  (go_at_call 10; refine (HT.out _ (by (repeat (first | (with_reducible assumption) | (with_reducible exact Below.refl _ _) | (with_reducible refine grow_alloc ?_ _) | (with_reducible refine grow_mix ?_ _) | (with_reducible refine grow_drew ?_) | (with_reducible refine grow_drewN ?_ _) | (with_reducible refine grow_set ?_ (by first | (simp; done) | (simp; omega) | omega) _))))).mono ?_; rintro e w' ⟨rfl, hb⟩; have hz := hb.size; (first | (obtain ⟨x1, rfl⟩ := to_mix2 hb) | (obtain ⟨x1, rfl⟩ := to_mix hb)); clear hb; (try simp only [World.size_alloc, World.size_setCell, World.size_drew] at hz); (try have q0 : w.heap.size < _ := Nat.lt_of_lt_of_le (by omega) hz); (try have q1 : w.heap.size + 1 < _ := Nat.lt_of_lt_of_le (by omega) hz); (try have q2 : w.heap.size + 1 + 1 < _ := Nat.lt_of_lt_of_le (by omega) hz); (try have q3 : w.heap.size + 1 + 1 + 1 < _ := Nat.lt_of_lt_of_le (by omega) hz))
  go_wp2_with fail
  (go_at_call 11; refine (MX.out _).mono ?_; rintro e w' ⟨rfl, hb⟩; have hz := hb.size; (first | (obtain ⟨x1, rfl⟩ := to_mix2 hb) | (obtain ⟨x1, rfl⟩ := to_mix hb)); clear hb; (try simp only [World.size_alloc, World.size_setCell, World.size_drew] at hz); (try have q0 : w.heap.size < _ := Nat.lt_of_lt_of_le (by omega) hz); (try have q1 : w.heap.size + 1 < _ := Nat.lt_of_lt_of_le (by omega) hz); (try have q2 : w.heap.size + 1 + 1 < _ := Nat.lt_of_lt_of_le (by omega) hz); (try have q3 : w.heap.size + 1 + 1 + 1 < _ := Nat.lt_of_lt_of_le (by omega) hz))
  go_wp2_with fail
  (go_at_call 11; refine (MY.out _).mono ?_; rintro e w' ⟨rfl, hb⟩; have hz := hb.size; (first | (obtain ⟨x1, rfl⟩ := to_mix2 hb) | (obtain ⟨x1, rfl⟩ := to_mix hb)); clear hb; (try simp only [World.size_alloc, World.size_setCell, World.size_drew] at hz); (try have q0 : w.heap.size < _ := Nat.lt_of_lt_of_le (by omega) hz); (try have q1 : w.heap.size + 1 < _ := Nat.lt_of_lt_of_le (by omega) hz); (try have q2 : w.heap.size + 1 + 1 < _ := Nat.lt_of_lt_of_le (by omega) hz); (try have q3 : w.heap.size + 1 + 1 + 1 < _ := Nat.lt_of_lt_of_le (by omega) hz))
  go_wp2_with fail
  (go_at_call 10; refine (HT.out _ (by (repeat (first | (with_reducible assumption) | (with_reducible exact Below.refl _ _) | (with_reducible refine grow_alloc ?_ _) | (with_reducible refine grow_mix ?_ _) | (with_reducible refine grow_drew ?_) | (with_reducible refine grow_drewN ?_ _) | (with_reducible refine grow_set ?_ (by first | (simp; done) | (simp; omega) | omega) _))))).mono ?_; rintro e w' ⟨rfl, hb⟩; have hz := hb.size; (first | (obtain ⟨x1, rfl⟩ := to_mix2 hb) | (obtain ⟨x1, rfl⟩ := to_mix hb)); clear hb; (try simp only [World.size_alloc, World.size_setCell, World.size_drew] at hz); (try have q0 : w.heap.size < _ := Nat.lt_of_lt_of_le (by omega) hz); (try have q1 : w.heap.size + 1 < _ := Nat.lt_of_lt_of_le (by omega) hz); (try have q2 : w.heap.size + 1 + 1 < _ := Nat.lt_of_lt_of_le (by omega) hz); (try have q3 : w.heap.size + 1 + 1 + 1 < _ := Nat.lt_of_lt_of_le (by omega) hz))
  go_wp2
  go_ret
  exact ⟨rfl, by (repeat (first | (with_reducible assumption) | (with_reducible exact Below.refl _ _) | (with_reducible refine grow_alloc ?_ _) | (with_reducible refine grow_mix ?_ _) | (with_reducible refine grow_drew ?_) | (with_reducible refine grow_drewN ?_ _) | (with_reducible refine grow_set ?_ (by first | (simp; done) | (simp; omega) | omega) _)))⟩

set_option maxRecDepth 100000 in
set_option maxHeartbeats 4000000 in
theorem conj_all (x y : Int × Int) (w : World) (ht : Tab w) (hx : mayR x = true) (hy : mayR y = true) :
    Calls Tryd.prog 7 #[vv x, vv y] w fun e w' => e = .returned (.bool true) ∧ Below w.heap.size w w' := by
  have HT := Lib.hid (fun (w1 : World) (h : Below w.heap.size w w1) => fixed_calls w1 (ht.below h))
  have MX := Lib.hid (fun w1 => R_May_true x hx w1)
  have MY := Lib.hid (fun w1 => R_May_true y hy w1)
  have h1 := l_conj2 ((mayR_iff x).1 hx)
  have h2 := l_conj_add x y
  have h3 := l_conj_mul x y
  have h4 := l_norm x
  have h5 := l_frob x
  clear ht hx hy
  go_enter Tryd.func7, Tryd.ntmps7
  go_wp2_with fail
  (go_at_call 10; refine (HT.out _ (by (repeat (first | (with_reducible assumption) | (with_reducible exact Below.refl _ _) | (with_reducible refine grow_alloc ?_ _) | (with_reducible refine grow_mix ?_ _) | (with_reducible refine grow_drew ?_) | (with_reducible refine grow_drewN ?_ _) | (with_reducible refine grow_set ?_ (by first | (simp; done) | (simp; omega) | omega) _))))).mono ?_; rintro e w' ⟨rfl, hb⟩; have hz := hb.size; (first | (obtain ⟨x1, rfl⟩ := to_mix2 hb) | (obtain ⟨x1, rfl⟩ := to_mix hb)); clear hb; (try simp only [World.size_alloc, World.size_setCell, World.size_drew] at hz); (try have q0 : w.heap.size < _ := Nat.lt_of_lt_of_le (by omega) hz); (try have q1 : w.heap.size + 1 < _ := Nat.lt_of_lt_of_le (by omega) hz); (try have q2 : w.heap.size + 1 + 1 < _ := Nat.lt_of_lt_of_le (by omega) hz); (try have q3 : w.heap.size + 1 + 1 + 1 < _ := Nat.lt_of_lt_of_le (by omega) hz))
  go_wp2_with fail
  (go_at_call 11; refine (MX.out _).mono ?_; rintro e w' ⟨rfl, hb⟩; have hz := hb.size; (first | (obtain ⟨x1, rfl⟩ := to_mix2 hb) | (obtain ⟨x1, rfl⟩ := to_mix hb)); clear hb; (try simp only [World.size_alloc, World.size_setCell, World.size_drew] at hz); (try have q0 : w.heap.size < _ := Nat.lt_of_lt_of_le (by omega) hz); (try have q1 : w.heap.size + 1 < _ := Nat.lt_of_lt_of_le (by omega) hz); (try have q2 : w.heap.size + 1 + 1 < _ := Nat.lt_of_lt_of_le (by omega) hz); (try have q3 : w.heap.size + 1 + 1 + 1 < _ := Nat.lt_of_lt_of_le (by omega) hz))
  go_wp2_with fail
  (go_at_call 11; refine (MY.out _).mono ?_; rintro e w1 ⟨rfl, hb⟩; obtain ⟨hc_w1, hf_w1⟩ := bcell hb; have hz_w1 := hb.size; (try simp only [World.size_alloc] at hz_w1); (try have hy0_w1 : w.heap.size < w1.heap.size := by omega); (try have hy1_w1 : w.heap.size + 1 < w1.heap.size := by omega); (try have hy2_w1 : w.heap.size + 1 + 1 < w1.heap.size := by omega); (try have hyA_w1 : w.heap.size < w1.heap.size + 1 := by omega); (try have hyB_w1 : w.heap.size + 1 < w1.heap.size + 1 := by omega); (try have hyC_w1 : w.heap.size + 1 + 1 < w1.heap.size + 1 := by omega); have hb_w1 := Lib.hid hb; clear hb)
  go_wp2_with fail
  have X1 : Has w1 w.heap.size #[.int .i64 x.1, .int .i64 x.2] 23 := by
    refine Has.below' ?_ hb_w1.out
    (repeat (first | (with_reducible assumption) | (with_reducible exact Has.new _ _ _) | (with_reducible exact Has.new' (by first | rfl | (simp; done) | (simp; omega)) _ _) | (with_reducible apply Has.alloc) | (with_reducible apply Has.mix) | (with_reducible apply Has.drew) | (with_reducible apply Has.drewN) | (with_reducible apply Has.set_same) | (with_reducible apply Has.set_other (hp := (by first | (simp; done) | (simp; omega) | omega))) | (with_reducible rfl) | rfl))
  have X2 : Has w1 (w.heap.size + 1) #[.int .i64 y.1, .int .i64 y.2] 23 := by
    refine Has.below' ?_ hb_w1.out
    (repeat (first | (with_reducible assumption) | (with_reducible exact Has.new _ _ _) | (with_reducible exact Has.new' (by first | rfl | (simp; done) | (simp; omega)) _ _) | (with_reducible apply Has.alloc) | (with_reducible apply Has.mix) | (with_reducible apply Has.drew) | (with_reducible apply Has.drewN) | (with_reducible apply Has.set_same) | (with_reducible apply Has.set_other (hp := (by first | (simp; done) | (simp; omega) | omega))) | (with_reducible rfl) | rfl))
  have HW := Lib.hid (show Below w.heap.size w w1 from Below.trans (by (repeat (first | (with_reducible assumption) | (with_reducible exact Below.refl _ _) | (with_reducible refine grow_alloc ?_ _) | (with_reducible refine grow_mix ?_ _) | (with_reducible refine grow_drew ?_) | (with_reducible refine grow_drewN ?_ _) | (with_reducible refine grow_set ?_ (by first | (simp; done) | (simp; omega) | omega) _)))) (hb_w1.out.mono (by first | (simp; done) | (simp; omega))))
  clear hc_w1 hf_w1
  have X1_c0 := X1.cell 0
  have X1_c1 := X1.cell 1
  have X1_f := X1.frozen
  have X1_l := X1.lt
  simp only [List.size_toArray, List.length_cons, List.length_nil, Nat.reduceAdd, Nat.zero_lt_succ, Nat.one_lt_succ_succ, Nat.reduceLT, getElem?_pos, List.getElem_toArray, List.getElem_cons_zero, List.getElem_cons_succ] at X1_c0 X1_c1
  have X2_c0 := X2.cell 0
  have X2_c1 := X2.cell 1
  have X2_f := X2.frozen
  have X2_l := X2.lt
  simp only [List.size_toArray, List.length_cons, List.length_nil, Nat.reduceAdd, Nat.zero_lt_succ, Nat.one_lt_succ_succ, Nat.reduceLT, getElem?_pos, List.getElem_toArray, List.getElem_cons_zero, List.getElem_cons_succ] at X2_c0 X2_c1
  refine wp_flow [true, true, true, true, false, false] [(4, New (w1.heap.size) #[.int .i64 0, .int .i64 0] 23), (5, New (w1.heap.size) #[.int .i64 0, .int .i64 0] 23)] [] (by kernel_rfl) (by kernel_rfl) (by kernel_rfl) (by kernel_rfl) (by kernel_rfl) (fun _ _ d _ _ h => by cases d <;> exact h) (by kernel_rfl) ⟨(by first | exact New.mono | assumption), (by first | exact New.mono | assumption), trivial⟩ ?_
  apply Exists.intro
  refine ⟨fun yq => ?_, ⟨fun yq o ho => ?_, fun yq o ho => ?_, trivial⟩, trivial, fun yq => ?_⟩
  · simp only [headQ]
    repeat (go_big_quiet_step ((first | (go_at_call 23; (with_reducible exact mix_call (Conj_calls _ _))))))
    exact wpQuiet_nil rfl
  ·
    have ho' := Option.some.inj ho
    subst ho'
    refine grow_new rfl ?_ (by simp)
    go_simp
  ·
    have ho' := Option.some.inj ho
    subst ho'
    refine grow_new rfl ?_ (by simp)
    go_simp
  ·
    simp only [FlowEnd, List.getElem?_toArray, List.getElem?_cons_succ, List.getElem?_cons_zero, Option.bind_some, Act.put, List.setIfInBounds_toArray, List.set_cons_succ, List.set_cons_zero, List.drop_succ_cons, List.drop_zero, List.length_cons, List.length_nil]
    intro v5 h_v5 n_v5
    intro v6 h_v6 n_v6
    obtain ⟨b5, rfl, H5, H5_b⟩ := h_v5
    try have H5_n0 : b5 ≠ w.heap.size := by omega
    try have H5_m0 : w.heap.size ≠ b5 := by omega
    try have H5_n1 : b5 ≠ w.heap.size + 1 := by omega
    try have H5_m1 : w.heap.size + 1 ≠ b5 := by omega
    try have H5_n2 : b5 ≠ w.heap.size + 1 + 1 := by omega
    try have H5_m2 : w.heap.size + 1 + 1 ≠ b5 := by omega
    try have H5_n3 : b5 ≠ w.heap.size + 1 + 1 + 1 := by omega
    try have H5_m3 : w.heap.size + 1 + 1 + 1 ≠ b5 := by omega
    simp only [ownOf, Option.some.injEq, forall_eq', Option.toList_some, List.mem_append, List.mem_cons, List.not_mem_nil, or_false, not_false_eq_true] at n_v5
    have H5_c0 := H5.cell 0
    have H5_c1 := H5.cell 1
    have H5_f := H5.frozen
    have H5_l := H5.lt
    simp only [List.size_toArray, List.length_cons, List.length_nil, Nat.reduceAdd, Nat.zero_lt_succ, Nat.one_lt_succ_succ, Nat.reduceLT, getElem?_pos, List.getElem_toArray, List.getElem_cons_zero, List.getElem_cons_succ] at H5_c0 H5_c1
    obtain ⟨b6, rfl, H6, H6_b⟩ := h_v6
    try have H6_n0 : b6 ≠ w.heap.size := by omega
    try have H6_m0 : w.heap.size ≠ b6 := by omega
    try have H6_n1 : b6 ≠ w.heap.size + 1 := by omega
    try have H6_m1 : w.heap.size + 1 ≠ b6 := by omega
    try have H6_n2 : b6 ≠ w.heap.size + 1 + 1 := by omega
    try have H6_m2 : w.heap.size + 1 + 1 ≠ b6 := by omega
    try have H6_n3 : b6 ≠ w.heap.size + 1 + 1 + 1 := by omega
    try have H6_m3 : w.heap.size + 1 + 1 + 1 ≠ b6 := by omega
    simp only [ownOf, Option.some.injEq, forall_eq', Option.toList_some, List.mem_append, List.mem_cons, List.not_mem_nil, or_false, not_false_eq_true] at n_v6
    have H6_c0 := H6.cell 0
    have H6_c1 := H6.cell 1
    have H6_f := H6.frozen
    have H6_l := H6.lt
    simp only [List.size_toArray, List.length_cons, List.length_nil, Nat.reduceAdd, Nat.zero_lt_succ, Nat.one_lt_succ_succ, Nat.reduceLT, getElem?_pos, List.getElem_toArray, List.getElem_cons_zero, List.getElem_cons_succ] at H6_c0 H6_c1
    go_wp2_with fail
    refine wp_region_mix 37 (by kernel_rfl) (by kernel_rfl) ?_
    simp only [List.take_succ_cons, List.take_zero, List.drop_succ_cons, List.drop_zero]
    repeat (go_big_quiet_step ((first | (go_at_call 23; (with_reducible exact mix_call (Conj_calls _ _))) | (go_at_call 14; (with_reducible exact mix_call (Mul_calls _ _ _))) | (go_at_call 18; (with_reducible exact mix_call (Add_calls _ _ _))) | (go_at_call 13; (with_reducible exact mix_call (Pow_calls _ _ (by omega) _))))))
    refine wpQuiet_nil ?_
    intro _ hmix
    (try (with_reducible replace hmix := mix_flat hmix))
    obtain ⟨x1, hmix'⟩ := hmix
    have hz := mix_size' hmix'
    subst hmix'
    (try simp only [World.size_alloc, World.size_setCell, World.size_drew] at hz); (try have q0 : w.heap.size < _ := Nat.lt_of_lt_of_le (by omega) hz); (try have q1 : w.heap.size + 1 < _ := Nat.lt_of_lt_of_le (by omega) hz); (try have q2 : w.heap.size + 1 + 1 < _ := Nat.lt_of_lt_of_le (by omega) hz); (try have q3 : w.heap.size + 1 + 1 + 1 < _ := Nat.lt_of_lt_of_le (by omega) hz)
    go_wp2
    go_ret
    have HB := HW.out
    exact ⟨rfl, HB.trans (Below.mono (by (repeat (first | (with_reducible assumption) | (with_reducible exact Below.refl _ _) | (with_reducible refine grow_alloc ?_ _) | (with_reducible refine grow_mix ?_ _) | (with_reducible refine grow_drew ?_) | (with_reducible refine grow_drewN ?_ _) | (with_reducible refine grow_set ?_ (by first | (simp; done) | (simp; omega) | omega) _)))) (by omega))⟩

theorem gaussConj_walk (x y : Int × Int) (_ : (Lit.int .i64 x.1).wf = true) (_ : (Lit.int .i64 x.2).wf = true) (_ : (Lit.int .i64 y.1).wf = true) (_ : (Lit.int .i64 y.2).wf = true) (w : World) (ht : Tab w) :
    Calls Tryd.prog 7 #[vv x, vv y] w fun e w' => e = .returned (.bool true) ∧ Below w.heap.size w w' := by
  cases hx : mayR x with
  | false => exact conj_leave1 x y w ht hx
  | true =>
    cases hy : mayR y with
    | false => exact conj_leave2 x y w ht hx hy
    | true => exact conj_all x y w ht hx hy
end Go.Proofs.YtepagnaabncllaaDoor.Laws
