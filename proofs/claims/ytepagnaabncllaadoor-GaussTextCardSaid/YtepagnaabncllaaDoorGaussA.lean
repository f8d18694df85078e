/-
  Contracts of package gauss: what each function returns, for all arguments.
-/
import Derived.Test.YtepagnaabncllaaDoorProg
import Derived.Test.YtepagnaabncllaaDoorGaussFl
import Derived.Test.YtepagnaabncllaaDoorMix
import Derived.WalkKit
import Derived.Deep.QuietTactic
import Derived.BigQuiet
import Derived.Deep.RegionHeld3
import Derived.KernelRfl
import Derived.Lib.Hide
set_option linter.unusedSimpArgs false
set_option linter.unusedVariables false
namespace Go.Proofs.YtepagnaabncllaaDoor.Gauss
open Go Go.RowKit Go.Proofs.YtepagnaabncllaaDoor.Fl

/-- Modulo 251. -/
def rest (n : Int) : Int := n % 251

theorem rest_nonneg (n : Int) : 0 ≤ rest n := by unfold rest; omega
theorem rest_lt (n : Int) : rest n < 251 := by unfold rest; omega

theorem tmod_251 (n : Int) : (0 ≤ n ∧ n.tmod 251 = n % 251) ∨ (n < 0 ∧ n.tmod 251 = -((-n) % 251)) := by
  by_cases h : 0 ≤ n
  · exact .inl ⟨h, Int.tmod_eq_emod_of_nonneg h⟩
  · refine .inr ⟨by omega, ?_⟩
    have e : n.tmod 251 = -((-n).tmod 251) := by rw [Int.neg_tmod, Int.neg_neg]
    rw [e, Int.tmod_eq_emod_of_nonneg (by omega)]

theorem tmod_bd (n : Int) : (-250 : Int) ≤ n.tmod 251 ∧ n.tmod 251 ≤ (250 : Int) := by
  have := tmod_251 n; omega

theorem rest_walk (n : Int) : ((n.tmod 251) + 251) % 251 = rest n := by
  have h1 := tmod_251 n
  have h2 := tmod_bd n
  unfold rest; omega

theorem ret_int {k : IntKind} {a b : Int} (h : a = b) : Ending.returned (.int k a) = .returned (.int k b) := by rw [h]

abbrev val (a b : Int) : Value := .agg #[.int .i64 a, .int .i64 b]
/-- A value's two parts. -/
abbrev vv (x : Int × Int) : Value := .agg #[.int .i64 x.1, .int .i64 x.2]
def ofV (a b : Int) : Int × Int := (rest a, rest b)
def red (x : Int × Int) : Int × Int := (rest x.1, rest x.2)
def addV (x y : Int × Int) : Int × Int := (rest (rest x.1 + rest y.1), rest (rest x.2 + rest y.2))
def subV (x y : Int × Int) : Int × Int := (rest (rest x.1 - rest y.1), rest (rest x.2 - rest y.2))
def mulV (x y : Int × Int) : Int × Int := (rest (rest x.1 * rest y.1 - rest x.2 * rest y.2), rest (rest x.1 * rest y.2 + rest x.2 * rest y.1))
def conjV (x : Int × Int) : Int × Int := (rest (rest x.1), rest (-rest x.2))
theorem rest_bd (n : Int) : 0 ≤ rest n ∧ rest n < 251 := ⟨rest_nonneg n, rest_lt n⟩

set_option maxHeartbeats 400000 in
theorem rest_calls (n : Int) (w : World) :
    Calls Tryd.prog 29 #[.int .i64 n] w fun e w' => e = .returned (.int .i64 (rest n)) ∧ w = w' := by
  have h := rest_walk n
  obtain ⟨hl, hu⟩ := tmod_bd n
  have H := Lib.hid h
  clear h
  go_enter Tryd.func29, Tryd.ntmps29
  go_wp2
  go_ret
  exact ⟨ret_int H.out, rfl⟩

set_option maxHeartbeats 400000 in
theorem of_calls (a b : Int) (w : World) :
    Calls Tryd.prog 31 #[val a b] w fun e w' => e = .returned (.complex .f64 (fl (rest a)) (fl (rest b))) ∧ Below w.heap.size w w' := by
  go_enter Tryd.func31, Tryd.ntmps31
  go_wp2
  refine wp_region_mix 9 (by kernel_rfl) (by kernel_rfl) ?_
  simp only [List.take_succ_cons, List.take_zero, List.drop_succ_cons, List.drop_zero]
  repeat (go_big_quiet_step ((go_at_call 29; exact mix_call_same (rest_calls _ _))))
  refine wpQuiet_nil ?_
  intro _ hmix
  (try (with_reducible replace hmix := mix_flat hmix))
  obtain ⟨x1, hmix'⟩ := hmix
  have hz := mix_size' hmix'
  subst hmix'
  (try simp only [World.size_alloc, World.size_setCell, World.size_drew] at hz); (try have q0 : w.heap.size < _ := Nat.lt_of_lt_of_le (by omega) hz); (try have q1 : w.heap.size + 1 < _ := Nat.lt_of_lt_of_le (by omega) hz); (try have q2 : w.heap.size + 1 + 1 < _ := Nat.lt_of_lt_of_le (by omega) hz); (try have q3 : w.heap.size + 1 + 1 + 1 < _ := Nat.lt_of_lt_of_le (by omega) hz)
  go_wp2
  go_ret
  exact ⟨rfl, by (repeat (first | (with_reducible assumption) | (with_reducible exact Below.refl _ _) | (with_reducible refine grow_alloc ?_ _) | (with_reducible refine grow_mix ?_ _) | (with_reducible refine grow_drew ?_) | (with_reducible refine grow_drewN ?_ _) | (with_reducible refine grow_set ?_ (by first | (simp; done) | (simp; omega) | omega) _)))⟩

set_option maxHeartbeats 400000 in
theorem Of_calls (a b : Int) (w : World) :
    Calls Tryd.prog 12 #[.int .i64 a, .int .i64 b] w fun e w' => e = .returned (vv (ofV a b)) ∧ Below w.heap.size w w' := by
  go_enter Tryd.func12, Tryd.ntmps12
  go_wp2_with (go_at_call 29; refine (rest_calls _ _).mono ?_; rintro e w' ⟨rfl, rfl⟩)
  refine bodyPost_ret (v := vv (ofV a b)) (by simp [results, Tryd.results12, go_sem, ofV]) rfl ⟨rfl, ?_⟩
  (repeat (first | (with_reducible assumption) | (with_reducible exact Below.refl _ _) | (with_reducible refine grow_alloc ?_ _) | (with_reducible refine grow_mix ?_ _) | (with_reducible refine grow_drew ?_) | (with_reducible refine grow_drewN ?_ _) | (with_reducible refine grow_set ?_ (by first | (simp; done) | (simp; omega) | omega) _)))

set_option maxHeartbeats 400000 in
theorem value_calls (p q : Nat) (a b : Int) (hp : floatToIntVal .f64 p .i64 = some a) (hq : floatToIntVal .f64 q .i64 = some b) (w : World) :
    Calls Tryd.prog 30 #[.complex .f64 p q] w fun e w' => e = .returned (vv (ofV a b)) ∧ Below w.heap.size w w' := by
  have c1 := fun (W : World) => run_convert_float_int (P := Tryd.prog) W 42 3 .f64 .i64 p a (by kernel_rfl) Tryd.underlying3 hp
  have c2 := fun (W : World) => run_convert_float_int (P := Tryd.prog) W 42 3 .f64 .i64 q b (by kernel_rfl) Tryd.underlying3 hq
  clear hp hq
  go_enter Tryd.func30, Tryd.ntmps30
  go_wp2_with (go_at_call 12; refine (Of_calls _ _ _).mono ?_; rintro e w' ⟨rfl, hb⟩; obtain ⟨x, rfl⟩ := to_mix hb)
  refine bodyPost_ret (v := vv (ofV a b)) (by simp [results, Tryd.results30, go_sem]) rfl ⟨rfl, ?_⟩
  (repeat (first | (with_reducible assumption) | (with_reducible exact Below.refl _ _) | (with_reducible refine grow_alloc ?_ _) | (with_reducible refine grow_mix ?_ _) | (with_reducible refine grow_drew ?_) | (with_reducible refine grow_drewN ?_ _) | (with_reducible refine grow_set ?_ (by first | (simp; done) | (simp; omega) | omega) _)))

set_option maxHeartbeats 400000 in
theorem Mul_calls (x y : Int × Int) (w : World) :
    Calls Tryd.prog 14 #[vv x, vv y] w fun e w' => e = .returned (vv (mulV x y)) ∧ Below w.heap.size w w' := by
  have cb := fun (W : World) => run_complex_mul (P := Tryd.prog) W 39 (fl (rest x.1)) (fl (rest x.2)) (fl (rest y.1)) (fl (rest y.2)) _ _ (cMul_fl (rest_bd x.1) (rest_bd x.2) (rest_bd y.1) (rest_bd y.2))
  have h1 := rest_bd x.1
  have h2 := rest_bd x.2
  have h3 := rest_bd y.1
  have h4 := rest_bd y.2
  have hp := fun (p q : Int) (h : -1000000 ≤ p ∧ p ≤ 1000000) (h' : -1000000 ≤ q ∧ q ≤ 1000000) => value_calls (fl p) (fl q) p q (int_fl p (lt53 (m := 0) h.1 h.2 rfl)) (int_fl q (lt53 (m := 0) h'.1 h'.2 rfl))
  have HP := Lib.hid hp
  clear hp
  obtain ⟨a, b⟩ := x
  obtain ⟨c, d⟩ := y
  simp only at *
  have m1 := prod_bd h1.1 h1.2 h3.1 h3.2
  have m2 := prod_bd h2.1 h2.2 h4.1 h4.2
  have m3 := prod_bd h1.1 h1.2 h4.1 h4.2
  have m4 := prod_bd h2.1 h2.2 h3.1 h3.2
  go_enter Tryd.func14, Tryd.ntmps14
  go_wp2
  refine wp_region_mix 6 (by kernel_rfl) (by kernel_rfl) ?_
  simp only [List.take_succ_cons, List.take_zero, List.drop_succ_cons, List.drop_zero]
  repeat (go_big_quiet_step ((first | (go_at_call 31; exact mix_call (of_calls _ _ _)) | (go_at_call 30; exact mix_call (HP.out _ _ (by omega) (by omega) _)))))
  refine wpQuiet_nil ?_
  intro _ hmix
  (try (with_reducible replace hmix := mix_flat hmix))
  obtain ⟨x1, hmix'⟩ := hmix
  have hz := mix_size' hmix'
  subst hmix'
  (try simp only [World.size_alloc, World.size_setCell, World.size_drew] at hz); (try have q0 : w.heap.size < _ := Nat.lt_of_lt_of_le (by omega) hz); (try have q1 : w.heap.size + 1 < _ := Nat.lt_of_lt_of_le (by omega) hz); (try have q2 : w.heap.size + 1 + 1 < _ := Nat.lt_of_lt_of_le (by omega) hz); (try have q3 : w.heap.size + 1 + 1 + 1 < _ := Nat.lt_of_lt_of_le (by omega) hz)
  go_wp2
  refine bodyPost_ret (v := vv (mulV (a, b) (c, d))) (by simp [results, Tryd.results14, go_sem, mulV, ofV]) rfl ⟨rfl, ?_⟩
  (repeat (first | (with_reducible assumption) | (with_reducible exact Below.refl _ _) | (with_reducible refine grow_alloc ?_ _) | (with_reducible refine grow_mix ?_ _) | (with_reducible refine grow_drew ?_) | (with_reducible refine grow_drewN ?_ _) | (with_reducible refine grow_set ?_ (by first | (simp; done) | (simp; omega) | omega) _)))

set_option maxHeartbeats 400000 in
theorem Add_calls (x y : Int × Int) (w : World) :
    Calls Tryd.prog 18 #[vv x, vv y] w fun e w' => e = .returned (vv (addV x y)) ∧ Below w.heap.size w w' := by
  have cb := fun (W : World) => run_complex_sum (P := Tryd.prog) W (.add) (by decide) 39 .f64 (fl (rest x.1)) (fl (rest x.2)) (fl (rest y.1)) (fl (rest y.2)) _ _ (cAdd_fl (rest_bd x.1) (rest_bd x.2) (rest_bd y.1) (rest_bd y.2))
  have h1 := rest_bd x.1
  have h2 := rest_bd x.2
  have h3 := rest_bd y.1
  have h4 := rest_bd y.2
  have hp := fun (p q : Int) (h : -1000000 ≤ p ∧ p ≤ 1000000) (h' : -1000000 ≤ q ∧ q ≤ 1000000) => value_calls (fl p) (fl q) p q (int_fl p (lt53 (m := 0) h.1 h.2 rfl)) (int_fl q (lt53 (m := 0) h'.1 h'.2 rfl))
  have HP := Lib.hid hp
  clear hp
  obtain ⟨a, b⟩ := x
  obtain ⟨c, d⟩ := y
  simp only at *
  have m1 := prod_bd h1.1 h1.2 h3.1 h3.2
  have m2 := prod_bd h2.1 h2.2 h4.1 h4.2
  have m3 := prod_bd h1.1 h1.2 h4.1 h4.2
  have m4 := prod_bd h2.1 h2.2 h3.1 h3.2
  go_enter Tryd.func18, Tryd.ntmps18
  go_wp2
  refine wp_region_mix 6 (by kernel_rfl) (by kernel_rfl) ?_
  simp only [List.take_succ_cons, List.take_zero, List.drop_succ_cons, List.drop_zero]
  repeat (go_big_quiet_step ((first | (go_at_call 31; exact mix_call (of_calls _ _ _)) | (go_at_call 30; exact mix_call (HP.out _ _ (by omega) (by omega) _)))))
  refine wpQuiet_nil ?_
  intro _ hmix
  (try (with_reducible replace hmix := mix_flat hmix))
  obtain ⟨x1, hmix'⟩ := hmix
  have hz := mix_size' hmix'
  subst hmix'
  (try simp only [World.size_alloc, World.size_setCell, World.size_drew] at hz); (try have q0 : w.heap.size < _ := Nat.lt_of_lt_of_le (by omega) hz); (try have q1 : w.heap.size + 1 < _ := Nat.lt_of_lt_of_le (by omega) hz); (try have q2 : w.heap.size + 1 + 1 < _ := Nat.lt_of_lt_of_le (by omega) hz); (try have q3 : w.heap.size + 1 + 1 + 1 < _ := Nat.lt_of_lt_of_le (by omega) hz)
  go_wp2
  refine bodyPost_ret (v := vv (addV (a, b) (c, d))) (by simp [results, Tryd.results18, go_sem, addV, ofV]) rfl ⟨rfl, ?_⟩
  (repeat (first | (with_reducible assumption) | (with_reducible exact Below.refl _ _) | (with_reducible refine grow_alloc ?_ _) | (with_reducible refine grow_mix ?_ _) | (with_reducible refine grow_drew ?_) | (with_reducible refine grow_drewN ?_ _) | (with_reducible refine grow_set ?_ (by first | (simp; done) | (simp; omega) | omega) _)))

set_option maxHeartbeats 400000 in
theorem Sub_calls (x y : Int × Int) (w : World) :
    Calls Tryd.prog 20 #[vv x, vv y] w fun e w' => e = .returned (vv (subV x y)) ∧ Below w.heap.size w w' := by
  have cb := fun (W : World) => run_complex_sum (P := Tryd.prog) W (.sub) (by decide) 39 .f64 (fl (rest x.1)) (fl (rest x.2)) (fl (rest y.1)) (fl (rest y.2)) _ _ (cSub_fl (rest_bd x.1) (rest_bd x.2) (rest_bd y.1) (rest_bd y.2))
  have h1 := rest_bd x.1
  have h2 := rest_bd x.2
  have h3 := rest_bd y.1
  have h4 := rest_bd y.2
  have hp := fun (p q : Int) (h : -1000000 ≤ p ∧ p ≤ 1000000) (h' : -1000000 ≤ q ∧ q ≤ 1000000) => value_calls (fl p) (fl q) p q (int_fl p (lt53 (m := 0) h.1 h.2 rfl)) (int_fl q (lt53 (m := 0) h'.1 h'.2 rfl))
  have HP := Lib.hid hp
  clear hp
  obtain ⟨a, b⟩ := x
  obtain ⟨c, d⟩ := y
  simp only at *
  have m1 := prod_bd h1.1 h1.2 h3.1 h3.2
  have m2 := prod_bd h2.1 h2.2 h4.1 h4.2
  have m3 := prod_bd h1.1 h1.2 h4.1 h4.2
  have m4 := prod_bd h2.1 h2.2 h3.1 h3.2
  go_enter Tryd.func20, Tryd.ntmps20
  go_wp2
  refine wp_region_mix 6 (by kernel_rfl) (by kernel_rfl) ?_
  simp only [List.take_succ_cons, List.take_zero, List.drop_succ_cons, List.drop_zero]
  repeat (go_big_quiet_step ((first | (go_at_call 31; exact mix_call (of_calls _ _ _)) | (go_at_call 30; exact mix_call (HP.out _ _ (by omega) (by omega) _)))))
  refine wpQuiet_nil ?_
  intro _ hmix
  (try (with_reducible replace hmix := mix_flat hmix))
  obtain ⟨x1, hmix'⟩ := hmix
  have hz := mix_size' hmix'
  subst hmix'
  (try simp only [World.size_alloc, World.size_setCell, World.size_drew] at hz); (try have q0 : w.heap.size < _ := Nat.lt_of_lt_of_le (by omega) hz); (try have q1 : w.heap.size + 1 < _ := Nat.lt_of_lt_of_le (by omega) hz); (try have q2 : w.heap.size + 1 + 1 < _ := Nat.lt_of_lt_of_le (by omega) hz); (try have q3 : w.heap.size + 1 + 1 + 1 < _ := Nat.lt_of_lt_of_le (by omega) hz)
  go_wp2
  refine bodyPost_ret (v := vv (subV (a, b) (c, d))) (by simp [results, Tryd.results20, go_sem, subV, ofV]) rfl ⟨rfl, ?_⟩
  (repeat (first | (with_reducible assumption) | (with_reducible exact Below.refl _ _) | (with_reducible refine grow_alloc ?_ _) | (with_reducible refine grow_mix ?_ _) | (with_reducible refine grow_drew ?_) | (with_reducible refine grow_drewN ?_ _) | (with_reducible refine grow_set ?_ (by first | (simp; done) | (simp; omega) | omega) _)))
end Go.Proofs.YtepagnaabncllaaDoor.Gauss
