/-
  The walks of %s: for every input it returns true, and makes only new memory.
-/
import Derived.Test.YtepagnaabncllaaDoorLawFacts
import Derived.Test.YtepagnaabncllaaDoorRow
set_option linter.unusedSimpArgs false
set_option linter.unusedVariables false
namespace Go.Proofs.YtepagnaabncllaaDoor.Laws
open Go Go.RowKit Go.Proofs.YtepagnaabncllaaDoor Go.Proofs.YtepagnaabncllaaDoor.Gauss Go.Proofs.YtepagnaabncllaaDoor.Pure Go.Proofs.YtepagnaabncllaaDoor.Text Go.Proofs.YtepagnaabncllaaDoor.Ref04

attribute [local go_sem high] eql_value neq_value equal_value field_re field_im
set_option maxRecDepth 100000 in
set_option maxHeartbeats 8000000 in
theorem field_leave1 (x : Int × Int) (y : Int × Int) (z : Int × Int) (w : World) (ht : Tab w) (hx : mayR x = false) :
    Calls Tryd.prog 6 #[vv x, vv y, vv z] w fun e w' => e = .returned (.bool true) ∧ Below w.heap.size w w' := by
  have HT := Lib.hid (fun (w1 : World) (h : Below w.heap.size w w1) => fixed_calls w1 (ht.below h))
  have Mx := Lib.hid (fun w1 => R_May_false x hx w1)
  clear ht hx
  go_enter Tryd.func6, Tryd.ntmps6
  go_wp2_with fail
  (go_at_call 10; refine (HT.out _ (by (repeat (first | (with_reducible assumption) | (with_reducible exact Below.refl _ _) | (with_reducible refine grow_alloc ?_ _) | (with_reducible refine grow_mix ?_ _) | (with_reducible refine grow_drew ?_) | (with_reducible refine grow_drewN ?_ _) | (with_reducible refine grow_set ?_ (by first | (simp; done) | (simp; omega) | omega) _))))).mono ?_; rintro e w' ⟨rfl, hb⟩; have hz := hb.size; (first | (obtain ⟨x1, rfl⟩ := to_mix2 hb) | (obtain ⟨x1, rfl⟩ := to_mix hb)); clear hb; (try simp only [World.size_alloc, World.size_setCell, World.size_drew] at hz); (try have q0 : w.heap.size < _ := Nat.lt_of_lt_of_le (by omega) hz); (try have q1 : w.heap.size + 1 < _ := Nat.lt_of_lt_of_le (by omega) hz); (try have q2 : w.heap.size + 1 + 1 < _ := Nat.lt_of_lt_of_le (by omega) hz); (try have q3 : w.heap.size + 1 + 1 + 1 < _ := Nat.lt_of_lt_of_le (by omega) hz))
  go_wp2_with fail
  (go_at_call 11; refine (Mx.out _).mono ?_; rintro e w' ⟨rfl, hb⟩; have hz := hb.size; (first | (obtain ⟨x1, rfl⟩ := to_mix2 hb) | (obtain ⟨x1, rfl⟩ := to_mix hb)); clear hb; (try simp only [World.size_alloc, World.size_setCell, World.size_drew] at hz); (try have q0 : w.heap.size < _ := Nat.lt_of_lt_of_le (by omega) hz); (try have q1 : w.heap.size + 1 < _ := Nat.lt_of_lt_of_le (by omega) hz); (try have q2 : w.heap.size + 1 + 1 < _ := Nat.lt_of_lt_of_le (by omega) hz); (try have q3 : w.heap.size + 1 + 1 + 1 < _ := Nat.lt_of_lt_of_le (by omega) hz))
  go_wp2_with fail
  (go_at_call 10; refine (HT.out _ (by (repeat (first | (with_reducible assumption) | (with_reducible exact Below.refl _ _) | (with_reducible refine grow_alloc ?_ _) | (with_reducible refine grow_mix ?_ _) | (with_reducible refine grow_drew ?_) | (with_reducible refine grow_drewN ?_ _) | (with_reducible refine grow_set ?_ (by first | (simp; done) | (simp; omega) | omega) _))))).mono ?_; rintro e w' ⟨rfl, hb⟩; have hz := hb.size; (first | (obtain ⟨x1, rfl⟩ := to_mix2 hb) | (obtain ⟨x1, rfl⟩ := to_mix hb)); clear hb; (try simp only [World.size_alloc, World.size_setCell, World.size_drew] at hz); (try have q0 : w.heap.size < _ := Nat.lt_of_lt_of_le (by omega) hz); (try have q1 : w.heap.size + 1 < _ := Nat.lt_of_lt_of_le (by omega) hz); (try have q2 : w.heap.size + 1 + 1 < _ := Nat.lt_of_lt_of_le (by omega) hz); (try have q3 : w.heap.size + 1 + 1 + 1 < _ := Nat.lt_of_lt_of_le (by omega) hz))
  go_wp2
  go_ret
  exact ⟨rfl, by (repeat (first | (with_reducible assumption) | (with_reducible exact Below.refl _ _) | (with_reducible refine grow_alloc ?_ _) | (with_reducible refine grow_mix ?_ _) | (with_reducible refine grow_drew ?_) | (with_reducible refine grow_drewN ?_ _) | (with_reducible refine grow_set ?_ (by first | (simp; done) | (simp; omega) | omega) _)))⟩

set_option maxRecDepth 100000 in
set_option maxHeartbeats 8000000 in
theorem field_leave2 (x : Int × Int) (y : Int × Int) (z : Int × Int) (w : World) (ht : Tab w) (hx : mayR x = true) (hy : mayR y = false) :
    Calls Tryd.prog 6 #[vv x, vv y, vv z] w fun e w' => e = .returned (.bool true) ∧ Below w.heap.size w w' := by
  have HT := Lib.hid (fun (w1 : World) (h : Below w.heap.size w w1) => fixed_calls w1 (ht.below h))
  have Mx := Lib.hid (fun w1 => R_May_true x hx w1)
  have My := Lib.hid (fun w1 => R_May_false y hy w1)
  clear ht hx hy
  go_enter Tryd.func6, Tryd.ntmps6
  go_wp2_with fail
  (go_at_call 10; refine (HT.out _ (by (repeat (first | (with_reducible assumption) | (with_reducible exact Below.refl _ _) | (with_reducible refine grow_alloc ?_ _) | (with_reducible refine grow_mix ?_ _) | (with_reducible refine grow_drew ?_) | (with_reducible refine grow_drewN ?_ _) | (with_reducible refine grow_set ?_ (by first | (simp; done) | (simp; omega) | omega) _))))).mono ?_; rintro e w' ⟨rfl, hb⟩; have hz := hb.size; (first | (obtain ⟨x1, rfl⟩ := to_mix2 hb) | (obtain ⟨x1, rfl⟩ := to_mix hb)); clear hb; (try simp only [World.size_alloc, World.size_setCell, World.size_drew] at hz); (try have q0 : w.heap.size < _ := Nat.lt_of_lt_of_le (by omega) hz); (try have q1 : w.heap.size + 1 < _ := Nat.lt_of_lt_of_le (by omega) hz); (try have q2 : w.heap.size + 1 + 1 < _ := Nat.lt_of_lt_of_le (by omega) hz); (try have q3 : w.heap.size + 1 + 1 + 1 < _ := Nat.lt_of_lt_of_le (by omega) hz))
  go_wp2_with fail
  (go_at_call 11; refine (Mx.out _).mono ?_; rintro e w' ⟨rfl, hb⟩; have hz := hb.size; (first | (obtain ⟨x1, rfl⟩ := to_mix2 hb) | (obtain ⟨x1, rfl⟩ := to_mix hb)); clear hb; (try simp only [World.size_alloc, World.size_setCell, World.size_drew] at hz); (try have q0 : w.heap.size < _ := Nat.lt_of_lt_of_le (by omega) hz); (try have q1 : w.heap.size + 1 < _ := Nat.lt_of_lt_of_le (by omega) hz); (try have q2 : w.heap.size + 1 + 1 < _ := Nat.lt_of_lt_of_le (by omega) hz); (try have q3 : w.heap.size + 1 + 1 + 1 < _ := Nat.lt_of_lt_of_le (by omega) hz))
  go_wp2_with fail
  (go_at_call 11; refine (My.out _).mono ?_; rintro e w' ⟨rfl, hb⟩; have hz := hb.size; (first | (obtain ⟨x1, rfl⟩ := to_mix2 hb) | (obtain ⟨x1, rfl⟩ := to_mix hb)); clear hb; (try simp only [World.size_alloc, World.size_setCell, World.size_drew] at hz); (try have q0 : w.heap.size < _ := Nat.lt_of_lt_of_le (by omega) hz); (try have q1 : w.heap.size + 1 < _ := Nat.lt_of_lt_of_le (by omega) hz); (try have q2 : w.heap.size + 1 + 1 < _ := Nat.lt_of_lt_of_le (by omega) hz); (try have q3 : w.heap.size + 1 + 1 + 1 < _ := Nat.lt_of_lt_of_le (by omega) hz))
  go_wp2_with fail
  (go_at_call 10; refine (HT.out _ (by (repeat (first | (with_reducible assumption) | (with_reducible exact Below.refl _ _) | (with_reducible refine grow_alloc ?_ _) | (with_reducible refine grow_mix ?_ _) | (with_reducible refine grow_drew ?_) | (with_reducible refine grow_drewN ?_ _) | (with_reducible refine grow_set ?_ (by first | (simp; done) | (simp; omega) | omega) _))))).mono ?_; rintro e w' ⟨rfl, hb⟩; have hz := hb.size; (first | (obtain ⟨x1, rfl⟩ := to_mix2 hb) | (obtain ⟨x1, rfl⟩ := to_mix hb)); clear hb; (try simp only [World.size_alloc, World.size_setCell, World.size_drew] at hz); (try have q0 : w.heap.size < _ := Nat.lt_of_lt_of_le (by omega) hz); (try have q1 : w.heap.size + 1 < _ := Nat.lt_of_lt_of_le (by omega) hz); (try have q2 : w.heap.size + 1 + 1 < _ := Nat.lt_of_lt_of_le (by omega) hz); (try have q3 : w.heap.size + 1 + 1 + 1 < _ := Nat.lt_of_lt_of_le (by omega) hz))
  go_wp2
  go_ret
  exact ⟨rfl, by (repeat (first | (with_reducible assumption) | (with_reducible exact Below.refl _ _) | (with_reducible refine grow_alloc ?_ _) | (with_reducible refine grow_mix ?_ _) | (with_reducible refine grow_drew ?_) | (with_reducible refine grow_drewN ?_ _) | (with_reducible refine grow_set ?_ (by first | (simp; done) | (simp; omega) | omega) _)))⟩

set_option maxRecDepth 100000 in
set_option maxHeartbeats 8000000 in
theorem field_leave3 (x : Int × Int) (y : Int × Int) (z : Int × Int) (w : World) (ht : Tab w) (hx : mayR x = true) (hy : mayR y = true) (hz : mayR z = false) :
    Calls Tryd.prog 6 #[vv x, vv y, vv z] w fun e w' => e = .returned (.bool true) ∧ Below w.heap.size w w' := by
  have HT := Lib.hid (fun (w1 : World) (h : Below w.heap.size w w1) => fixed_calls w1 (ht.below h))
  have Mx := Lib.hid (fun w1 => R_May_true x hx w1)
  have My := Lib.hid (fun w1 => R_May_true y hy w1)
  have Mz := Lib.hid (fun w1 => R_May_false z hz w1)
  clear ht hx hy hz
  go_enter Tryd.func6, Tryd.ntmps6
  go_wp2_with fail
  (go_at_call 10; refine (HT.out _ (by (repeat (first | (with_reducible assumption) | (with_reducible exact Below.refl _ _) | (with_reducible refine grow_alloc ?_ _) | (with_reducible refine grow_mix ?_ _) | (with_reducible refine grow_drew ?_) | (with_reducible refine grow_drewN ?_ _) | (with_reducible refine grow_set ?_ (by first | (simp; done) | (simp; omega) | omega) _))))).mono ?_; rintro e w' ⟨rfl, hb⟩; have hz := hb.size; (first | (obtain ⟨x1, rfl⟩ := to_mix2 hb) | (obtain ⟨x1, rfl⟩ := to_mix hb)); clear hb; (try simp only [World.size_alloc, World.size_setCell, World.size_drew] at hz); (try have q0 : w.heap.size < _ := Nat.lt_of_lt_of_le (by omega) hz); (try have q1 : w.heap.size + 1 < _ := Nat.lt_of_lt_of_le (by omega) hz); (try have q2 : w.heap.size + 1 + 1 < _ := Nat.lt_of_lt_of_le (by omega) hz); (try have q3 : w.heap.size + 1 + 1 + 1 < _ := Nat.lt_of_lt_of_le (by omega) hz))
  go_wp2_with fail
  (go_at_call 11; refine (Mx.out _).mono ?_; rintro e w' ⟨rfl, hb⟩; have hz := hb.size; (first | (obtain ⟨x1, rfl⟩ := to_mix2 hb) | (obtain ⟨x1, rfl⟩ := to_mix hb)); clear hb; (try simp only [World.size_alloc, World.size_setCell, World.size_drew] at hz); (try have q0 : w.heap.size < _ := Nat.lt_of_lt_of_le (by omega) hz); (try have q1 : w.heap.size + 1 < _ := Nat.lt_of_lt_of_le (by omega) hz); (try have q2 : w.heap.size + 1 + 1 < _ := Nat.lt_of_lt_of_le (by omega) hz); (try have q3 : w.heap.size + 1 + 1 + 1 < _ := Nat.lt_of_lt_of_le (by omega) hz))
  go_wp2_with fail
  (go_at_call 11; refine (My.out _).mono ?_; rintro e w' ⟨rfl, hb⟩; have hz := hb.size; (first | (obtain ⟨x1, rfl⟩ := to_mix2 hb) | (obtain ⟨x1, rfl⟩ := to_mix hb)); clear hb; (try simp only [World.size_alloc, World.size_setCell, World.size_drew] at hz); (try have q0 : w.heap.size < _ := Nat.lt_of_lt_of_le (by omega) hz); (try have q1 : w.heap.size + 1 < _ := Nat.lt_of_lt_of_le (by omega) hz); (try have q2 : w.heap.size + 1 + 1 < _ := Nat.lt_of_lt_of_le (by omega) hz); (try have q3 : w.heap.size + 1 + 1 + 1 < _ := Nat.lt_of_lt_of_le (by omega) hz))
  go_wp2_with fail
  (go_at_call 11; refine (Mz.out _).mono ?_; rintro e w' ⟨rfl, hb⟩; have hz := hb.size; (first | (obtain ⟨x1, rfl⟩ := to_mix2 hb) | (obtain ⟨x1, rfl⟩ := to_mix hb)); clear hb; (try simp only [World.size_alloc, World.size_setCell, World.size_drew] at hz); (try have q0 : w.heap.size < _ := Nat.lt_of_lt_of_le (by omega) hz); (try have q1 : w.heap.size + 1 < _ := Nat.lt_of_lt_of_le (by omega) hz); (try have q2 : w.heap.size + 1 + 1 < _ := Nat.lt_of_lt_of_le (by omega) hz); (try have q3 : w.heap.size + 1 + 1 + 1 < _ := Nat.lt_of_lt_of_le (by omega) hz))
  go_wp2_with fail
  (go_at_call 10; refine (HT.out _ (by (repeat (first | (with_reducible assumption) | (with_reducible exact Below.refl _ _) | (with_reducible refine grow_alloc ?_ _) | (with_reducible refine grow_mix ?_ _) | (with_reducible refine grow_drew ?_) | (with_reducible refine grow_drewN ?_ _) | (with_reducible refine grow_set ?_ (by first | (simp; done) | (simp; omega) | omega) _))))).mono ?_; rintro e w' ⟨rfl, hb⟩; have hz := hb.size; (first | (obtain ⟨x1, rfl⟩ := to_mix2 hb) | (obtain ⟨x1, rfl⟩ := to_mix hb)); clear hb; (try simp only [World.size_alloc, World.size_setCell, World.size_drew] at hz); (try have q0 : w.heap.size < _ := Nat.lt_of_lt_of_le (by omega) hz); (try have q1 : w.heap.size + 1 < _ := Nat.lt_of_lt_of_le (by omega) hz); (try have q2 : w.heap.size + 1 + 1 < _ := Nat.lt_of_lt_of_le (by omega) hz); (try have q3 : w.heap.size + 1 + 1 + 1 < _ := Nat.lt_of_lt_of_le (by omega) hz))
  go_wp2
  go_ret
  exact ⟨rfl, by (repeat (first | (with_reducible assumption) | (with_reducible exact Below.refl _ _) | (with_reducible refine grow_alloc ?_ _) | (with_reducible refine grow_mix ?_ _) | (with_reducible refine grow_drew ?_) | (with_reducible refine grow_drewN ?_ _) | (with_reducible refine grow_set ?_ (by first | (simp; done) | (simp; omega) | omega) _)))⟩

def FieldCases (x y : Int × Int) : Prop :=
  (eqB x (0, 0) = true ∧ eqB y (0, 0) = true ∧ isZ y = true ∧ eqB (mulV x y) (0, 0) = true ∧ True) ∨
  (eqB x (0, 0) = false ∧ eqB y (0, 0) = true ∧ isZ y = true ∧ eqB (mulV x y) (0, 0) = true ∧ True) ∨
  (eqB x (0, 0) = true ∧ eqB y (0, 0) = false ∧ isZ y = false ∧ eqB (mulV x y) (0, 0) = true ∧ eqB (mulV (divV x y) y) x = true) ∨
  (eqB x (0, 0) = false ∧ eqB y (0, 0) = false ∧ isZ y = false ∧ eqB (mulV x y) (0, 0) = false ∧ eqB (mulV (divV x y) y) x = true)
theorem field_cases {x y : Int × Int} (hx : May x) (hy : May y) : FieldCases x y := by
  have hm := l_mul_zero hx hy
  have hz := l_isZ hy
  unfold FieldCases
  by_cases ex : x = (0, 0)
  · by_cases ey : y = (0, 0)
    · exact .inl ⟨eqB_true ex, eqB_true ey, hz.trans (eqB_true ey), eqB_true (hm.2 (.inl ex)), trivial⟩
    · exact .inr (.inr (.inl ⟨eqB_true ex, eqB_false ey, hz.trans (eqB_false ey), eqB_true (hm.2 (.inl ex)), l_div_mul hx hy ey⟩))
  · by_cases ey : y = (0, 0)
    · exact .inr (.inl ⟨eqB_false ex, eqB_true ey, hz.trans (eqB_true ey), eqB_true (hm.2 (.inr ey)), trivial⟩)
    · exact .inr (.inr (.inr ⟨eqB_false ex, eqB_false ey, hz.trans (eqB_false ey), eqB_false (fun e => (hm.1 e).elim ex ey), l_div_mul hx hy ey⟩))

set_option maxRecDepth 100000 in
set_option maxHeartbeats 8000000 in
theorem field_all (x : Int × Int) (y : Int × Int) (z : Int × Int) (w : World) (ht : Tab w) (hx : mayR x = true) (hy : mayR y = true) (hz : mayR z = true)  :
    Calls Tryd.prog 6 #[vv x, vv y, vv z] w fun e w' => e = .returned (.bool true) ∧ Below w.heap.size w w' := by
  have HT := Lib.hid (fun (w1 : World) (h : Below w.heap.size w w1) => fixed_calls w1 (ht.below h))
  have Mx := Lib.hid (fun w1 => R_May_true x hx w1)
  have My := Lib.hid (fun w1 => R_May_true y hy w1)
  have Mz := Lib.hid (fun w1 => R_May_true z hz w1)
  have e0 := l_add_comm x y
  have e1 := l_mul_comm x y
  have e2 := l_add_assoc x y z
  have e3 := l_mul_assoc x y z
  have e4 := l_dist x y z
  have e5 := l_sub_add ((mayR_iff x).1 hx) y
  have e6 := Lib.hid (field_cases ((mayR_iff x).1 hx) ((mayR_iff y).1 hy))
  clear ht hx hy hz
  go_enter Tryd.func6, Tryd.ntmps6
  go_wp2_with fail
  (go_at_call 10; refine (HT.out _ (by (repeat (first | (with_reducible assumption) | (with_reducible exact Below.refl _ _) | (with_reducible refine grow_alloc ?_ _) | (with_reducible refine grow_mix ?_ _) | (with_reducible refine grow_drew ?_) | (with_reducible refine grow_drewN ?_ _) | (with_reducible refine grow_set ?_ (by first | (simp; done) | (simp; omega) | omega) _))))).mono ?_; rintro e w' ⟨rfl, hb⟩; have hz := hb.size; (first | (obtain ⟨x1, rfl⟩ := to_mix2 hb) | (obtain ⟨x1, rfl⟩ := to_mix hb)); clear hb; (try simp only [World.size_alloc, World.size_setCell, World.size_drew] at hz); (try have q0 : w.heap.size < _ := Nat.lt_of_lt_of_le (by omega) hz); (try have q1 : w.heap.size + 1 < _ := Nat.lt_of_lt_of_le (by omega) hz); (try have q2 : w.heap.size + 1 + 1 < _ := Nat.lt_of_lt_of_le (by omega) hz); (try have q3 : w.heap.size + 1 + 1 + 1 < _ := Nat.lt_of_lt_of_le (by omega) hz))
  go_wp2_with fail
  (go_at_call 11; refine (Mx.out _).mono ?_; rintro e w' ⟨rfl, hb⟩; have hz := hb.size; (first | (obtain ⟨x1, rfl⟩ := to_mix2 hb) | (obtain ⟨x1, rfl⟩ := to_mix hb)); clear hb; (try simp only [World.size_alloc, World.size_setCell, World.size_drew] at hz); (try have q0 : w.heap.size < _ := Nat.lt_of_lt_of_le (by omega) hz); (try have q1 : w.heap.size + 1 < _ := Nat.lt_of_lt_of_le (by omega) hz); (try have q2 : w.heap.size + 1 + 1 < _ := Nat.lt_of_lt_of_le (by omega) hz); (try have q3 : w.heap.size + 1 + 1 + 1 < _ := Nat.lt_of_lt_of_le (by omega) hz))
  go_wp2_with fail
  (go_at_call 11; refine (My.out _).mono ?_; rintro e w' ⟨rfl, hb⟩; have hz := hb.size; (first | (obtain ⟨x1, rfl⟩ := to_mix2 hb) | (obtain ⟨x1, rfl⟩ := to_mix hb)); clear hb; (try simp only [World.size_alloc, World.size_setCell, World.size_drew] at hz); (try have q0 : w.heap.size < _ := Nat.lt_of_lt_of_le (by omega) hz); (try have q1 : w.heap.size + 1 < _ := Nat.lt_of_lt_of_le (by omega) hz); (try have q2 : w.heap.size + 1 + 1 < _ := Nat.lt_of_lt_of_le (by omega) hz); (try have q3 : w.heap.size + 1 + 1 + 1 < _ := Nat.lt_of_lt_of_le (by omega) hz))
  go_wp2_with fail
  (go_at_call 11; refine (Mz.out _).mono ?_; rintro e w1 ⟨rfl, hb⟩; obtain ⟨hc_w1, hf_w1⟩ := bcell hb; have hz_w1 := hb.size; (try simp only [World.size_alloc] at hz_w1); (try have hy0_w1 : w.heap.size < w1.heap.size := by omega); (try have hy1_w1 : w.heap.size + 1 < w1.heap.size := by omega); (try have hy2_w1 : w.heap.size + 1 + 1 < w1.heap.size := by omega); (try have hyA_w1 : w.heap.size < w1.heap.size + 1 := by omega); (try have hyB_w1 : w.heap.size + 1 < w1.heap.size + 1 := by omega); (try have hyC_w1 : w.heap.size + 1 + 1 < w1.heap.size + 1 := by omega); have hb_w1 := Lib.hid hb; clear hb)
  go_wp2_with fail
  have X0 : Has w1 w.heap.size #[.int .i64 x.1, .int .i64 x.2] 23 := by
    refine Has.below' ?_ hb_w1.out
    (repeat (first | (with_reducible assumption) | (with_reducible exact Has.new _ _ _) | (with_reducible exact Has.new' (by first | rfl | (simp; done) | (simp; omega)) _ _) | (with_reducible apply Has.alloc) | (with_reducible apply Has.mix) | (with_reducible apply Has.drew) | (with_reducible apply Has.drewN) | (with_reducible apply Has.set_same) | (with_reducible apply Has.set_other (hp := (by first | (simp; done) | (simp; omega) | omega))) | (with_reducible rfl) | rfl))
  have X1 : Has w1 (w.heap.size + 1) #[.int .i64 y.1, .int .i64 y.2] 23 := by
    refine Has.below' ?_ hb_w1.out
    (repeat (first | (with_reducible assumption) | (with_reducible exact Has.new _ _ _) | (with_reducible exact Has.new' (by first | rfl | (simp; done) | (simp; omega)) _ _) | (with_reducible apply Has.alloc) | (with_reducible apply Has.mix) | (with_reducible apply Has.drew) | (with_reducible apply Has.drewN) | (with_reducible apply Has.set_same) | (with_reducible apply Has.set_other (hp := (by first | (simp; done) | (simp; omega) | omega))) | (with_reducible rfl) | rfl))
  have X2 : Has w1 (w.heap.size + 1 + 1) #[.int .i64 z.1, .int .i64 z.2] 23 := by
    refine Has.below' ?_ hb_w1.out
    (repeat (first | (with_reducible assumption) | (with_reducible exact Has.new _ _ _) | (with_reducible exact Has.new' (by first | rfl | (simp; done) | (simp; omega)) _ _) | (with_reducible apply Has.alloc) | (with_reducible apply Has.mix) | (with_reducible apply Has.drew) | (with_reducible apply Has.drewN) | (with_reducible apply Has.set_same) | (with_reducible apply Has.set_other (hp := (by first | (simp; done) | (simp; omega) | omega))) | (with_reducible rfl) | rfl))
  have HW := Lib.hid (show Below w.heap.size w w1 from Below.trans (by (repeat (first | (with_reducible assumption) | (with_reducible exact Below.refl _ _) | (with_reducible refine grow_alloc ?_ _) | (with_reducible refine grow_mix ?_ _) | (with_reducible refine grow_drew ?_) | (with_reducible refine grow_drewN ?_ _) | (with_reducible refine grow_set ?_ (by first | (simp; done) | (simp; omega) | omega) _)))) (hb_w1.out.mono (by first | (simp; done) | (simp; omega))))
  clear hc_w1 hf_w1
  have X0_c0 := X0.cell 0
  have X0_c1 := X0.cell 1
  have X0_f := X0.frozen
  have X0_l := X0.lt
  simp only [List.size_toArray, List.length_cons, List.length_nil, Nat.reduceAdd, Nat.zero_lt_succ, Nat.one_lt_succ_succ, Nat.reduceLT, getElem?_pos, List.getElem_toArray, List.getElem_cons_zero, List.getElem_cons_succ] at X0_c0 X0_c1
  have X1_c0 := X1.cell 0
  have X1_c1 := X1.cell 1
  have X1_f := X1.frozen
  have X1_l := X1.lt
  simp only [List.size_toArray, List.length_cons, List.length_nil, Nat.reduceAdd, Nat.zero_lt_succ, Nat.one_lt_succ_succ, Nat.reduceLT, getElem?_pos, List.getElem_toArray, List.getElem_cons_zero, List.getElem_cons_succ] at X1_c0 X1_c1
  have X2_c0 := X2.cell 0
  have X2_c1 := X2.cell 1
  have X2_f := X2.frozen
  have X2_l := X2.lt
  simp only [List.size_toArray, List.length_cons, List.length_nil, Nat.reduceAdd, Nat.zero_lt_succ, Nat.one_lt_succ_succ, Nat.reduceLT, getElem?_pos, List.getElem_toArray, List.getElem_cons_zero, List.getElem_cons_succ] at X2_c0 X2_c1
  refine wp_region_mix_all (by kernel_rfl) (by kernel_rfl) ?_
  repeat (go_big_quiet_step ((first | (go_at_call 18; (with_reducible exact mix_call (Add_calls _ _ _))) | (go_at_call 14; (with_reducible exact mix_call (Mul_calls _ _ _))) | (go_at_call 20; (with_reducible exact mix_call (Sub_calls _ _ _))))))
  refine wpQuiet_nil ?_
  intro _ hmix
  (try (with_reducible replace hmix := mix_flat hmix))
  obtain ⟨x1, hmix'⟩ := hmix
  have hz := mix_size' hmix'
  subst hmix'
  (try simp only [World.size_alloc, World.size_setCell, World.size_drew] at hz); (try have q0 : w.heap.size < _ := Nat.lt_of_lt_of_le (by omega) hz); (try have q1 : w.heap.size + 1 < _ := Nat.lt_of_lt_of_le (by omega) hz); (try have q2 : w.heap.size + 1 + 1 < _ := Nat.lt_of_lt_of_le (by omega) hz); (try have q3 : w.heap.size + 1 + 1 + 1 < _ := Nat.lt_of_lt_of_le (by omega) hz)
  go_wp2_with fail
  refine wp_at (fun W => Has W w.heap.size #[.int .i64 x.1, .int .i64 x.2] 23 ∧ Has W (w.heap.size + 1) #[.int .i64 y.1, .int .i64 y.2] 23 ∧ Has W (w.heap.size + 1 + 1) #[.int .i64 z.1, .int .i64 z.2] 23 ∧ Below w.heap.size w W) ⟨by (repeat (first | (with_reducible assumption) | (with_reducible exact Has.new _ _ _) | (with_reducible exact Has.new' (by first | rfl | (simp; done) | (simp; omega)) _ _) | (with_reducible apply Has.alloc) | (with_reducible apply Has.mix) | (with_reducible apply Has.drew) | (with_reducible apply Has.drewN) | (with_reducible apply Has.set_same) | (with_reducible apply Has.set_other (hp := (by first | (simp; done) | (simp; omega) | omega))) | (with_reducible rfl) | rfl)), by (repeat (first | (with_reducible assumption) | (with_reducible exact Has.new _ _ _) | (with_reducible exact Has.new' (by first | rfl | (simp; done) | (simp; omega)) _ _) | (with_reducible apply Has.alloc) | (with_reducible apply Has.mix) | (with_reducible apply Has.drew) | (with_reducible apply Has.drewN) | (with_reducible apply Has.set_same) | (with_reducible apply Has.set_other (hp := (by first | (simp; done) | (simp; omega) | omega))) | (with_reducible rfl) | rfl)), by (repeat (first | (with_reducible assumption) | (with_reducible exact Has.new _ _ _) | (with_reducible exact Has.new' (by first | rfl | (simp; done) | (simp; omega)) _ _) | (with_reducible apply Has.alloc) | (with_reducible apply Has.mix) | (with_reducible apply Has.drew) | (with_reducible apply Has.drewN) | (with_reducible apply Has.set_same) | (with_reducible apply Has.set_other (hp := (by first | (simp; done) | (simp; omega) | omega))) | (with_reducible rfl) | rfl)), by (try have HBB := HW.out); (repeat (first | (with_reducible assumption) | (with_reducible exact Below.refl _ _) | (with_reducible refine grow_alloc ?_ _) | (with_reducible refine grow_mix ?_ _) | (with_reducible refine grow_drew ?_) | (with_reducible refine grow_drewN ?_ _) | (with_reducible refine grow_set ?_ (by first | (simp; done) | (simp; omega) | omega) _)))⟩ ?_
  rintro w2 ⟨Y0, Y1, Y2, hW⟩
  have hz_w2 := hW.size
  have HW := Lib.hid hW
  clear hW
  have Y0_c0 := Y0.cell 0
  have Y0_c1 := Y0.cell 1
  have Y0_f := Y0.frozen
  have Y0_l := Y0.lt
  simp only [List.size_toArray, List.length_cons, List.length_nil, Nat.reduceAdd, Nat.zero_lt_succ, Nat.one_lt_succ_succ, Nat.reduceLT, getElem?_pos, List.getElem_toArray, List.getElem_cons_zero, List.getElem_cons_succ] at Y0_c0 Y0_c1
  (try have n_Y0 : w.heap.size ≠ w2.heap.size := by omega)
  (try have m_Y0 : w2.heap.size ≠ w.heap.size := by omega)
  (try have u_Y0 : w.heap.size < w2.heap.size + 1 := by omega)
  have Y1_c0 := Y1.cell 0
  have Y1_c1 := Y1.cell 1
  have Y1_f := Y1.frozen
  have Y1_l := Y1.lt
  simp only [List.size_toArray, List.length_cons, List.length_nil, Nat.reduceAdd, Nat.zero_lt_succ, Nat.one_lt_succ_succ, Nat.reduceLT, getElem?_pos, List.getElem_toArray, List.getElem_cons_zero, List.getElem_cons_succ] at Y1_c0 Y1_c1
  (try have n_Y1 : (w.heap.size + 1) ≠ w2.heap.size := by omega)
  (try have m_Y1 : w2.heap.size ≠ (w.heap.size + 1) := by omega)
  (try have u_Y1 : (w.heap.size + 1) < w2.heap.size + 1 := by omega)
  have Y2_c0 := Y2.cell 0
  have Y2_c1 := Y2.cell 1
  have Y2_f := Y2.frozen
  have Y2_l := Y2.lt
  simp only [List.size_toArray, List.length_cons, List.length_nil, Nat.reduceAdd, Nat.zero_lt_succ, Nat.one_lt_succ_succ, Nat.reduceLT, getElem?_pos, List.getElem_toArray, List.getElem_cons_zero, List.getElem_cons_succ] at Y2_c0 Y2_c1
  (try have n_Y2 : (w.heap.size + 1 + 1) ≠ w2.heap.size := by omega)
  (try have m_Y2 : w2.heap.size ≠ (w.heap.size + 1 + 1) := by omega)
  (try have u_Y2 : (w.heap.size + 1 + 1) < w2.heap.size + 1 := by omega)
  refine wp_region_mix_all (by kernel_rfl) (by kernel_rfl) ?_
  repeat (go_big_quiet_step ((first | (go_at_call 18; (with_reducible exact mix_call (Add_calls _ _ _))) | (go_at_call 14; (with_reducible exact mix_call (Mul_calls _ _ _))) | (go_at_call 20; (with_reducible exact mix_call (Sub_calls _ _ _))))))
  refine wpQuiet_nil ?_
  intro _ hmix
  (try (with_reducible replace hmix := mix_flat hmix))
  obtain ⟨x1, hmix'⟩ := hmix
  have hz := mix_size' hmix'
  subst hmix'
  (try simp only [World.size_alloc, World.size_setCell, World.size_drew] at hz); (try have q0 : w.heap.size < _ := Nat.lt_of_lt_of_le (by omega) hz); (try have q1 : w.heap.size + 1 < _ := Nat.lt_of_lt_of_le (by omega) hz); (try have q2 : w.heap.size + 1 + 1 < _ := Nat.lt_of_lt_of_le (by omega) hz); (try have q3 : w.heap.size + 1 + 1 + 1 < _ := Nat.lt_of_lt_of_le (by omega) hz)
  go_wp2_with fail
  rcases e6.out with ⟨c1, c2, c3, c4, c5⟩ | ⟨c1, c2, c3, c4, c5⟩ | ⟨c1, c2, c3, c4, c5⟩ | ⟨c1, c2, c3, c4, c5⟩
  ·
    (go_at_call 15; refine (Gauss.Div_calls _ _ _).mono ?_; rintro e w3 ⟨rfl, hb⟩; obtain ⟨hc_w3, hf_w3⟩ := bcell hb; have hz_w3 := hb.size; (try simp only [World.size_alloc] at hz_w3); (try have hy0_w3 : w.heap.size < w3.heap.size := by omega); (try have hy1_w3 : w.heap.size + 1 < w3.heap.size := by omega); (try have hy2_w3 : w.heap.size + 1 + 1 < w3.heap.size := by omega); (try have hyA_w3 : w.heap.size < w3.heap.size + 1 := by omega); (try have hyB_w3 : w.heap.size + 1 < w3.heap.size + 1 := by omega); (try have hyC_w3 : w.heap.size + 1 + 1 < w3.heap.size + 1 := by omega); have hb_w3 := Lib.hid hb; clear hb)
    go_wp2_with fail
    have Y0_w3 : Has w3 w.heap.size #[.int .i64 x.1, .int .i64 x.2] 23 := by
      refine Has.below' ?_ hb_w3.out
      (repeat (first | (with_reducible assumption) | (with_reducible exact Has.new _ _ _) | (with_reducible exact Has.new' (by first | rfl | (simp; done) | (simp; omega)) _ _) | (with_reducible apply Has.alloc) | (with_reducible apply Has.mix) | (with_reducible apply Has.drew) | (with_reducible apply Has.drewN) | (with_reducible apply Has.set_same) | (with_reducible apply Has.set_other (hp := (by first | (simp; done) | (simp; omega) | omega))) | (with_reducible rfl) | rfl))
    have Y1_w3 : Has w3 (w.heap.size + 1) #[.int .i64 y.1, .int .i64 y.2] 23 := by
      refine Has.below' ?_ hb_w3.out
      (repeat (first | (with_reducible assumption) | (with_reducible exact Has.new _ _ _) | (with_reducible exact Has.new' (by first | rfl | (simp; done) | (simp; omega)) _ _) | (with_reducible apply Has.alloc) | (with_reducible apply Has.mix) | (with_reducible apply Has.drew) | (with_reducible apply Has.drewN) | (with_reducible apply Has.set_same) | (with_reducible apply Has.set_other (hp := (by first | (simp; done) | (simp; omega) | omega))) | (with_reducible rfl) | rfl))
    have Y2_w3 : Has w3 (w.heap.size + 1 + 1) #[.int .i64 z.1, .int .i64 z.2] 23 := by
      refine Has.below' ?_ hb_w3.out
      (repeat (first | (with_reducible assumption) | (with_reducible exact Has.new _ _ _) | (with_reducible exact Has.new' (by first | rfl | (simp; done) | (simp; omega)) _ _) | (with_reducible apply Has.alloc) | (with_reducible apply Has.mix) | (with_reducible apply Has.drew) | (with_reducible apply Has.drewN) | (with_reducible apply Has.set_same) | (with_reducible apply Has.set_other (hp := (by first | (simp; done) | (simp; omega) | omega))) | (with_reducible rfl) | rfl))
    have HB := HW.out
    have HW := Lib.hid (show Below w.heap.size w w3 from Below.trans (by (repeat (first | (with_reducible assumption) | (with_reducible exact Below.refl _ _) | (with_reducible refine grow_alloc ?_ _) | (with_reducible refine grow_mix ?_ _) | (with_reducible refine grow_drew ?_) | (with_reducible refine grow_drewN ?_ _) | (with_reducible refine grow_set ?_ (by first | (simp; done) | (simp; omega) | omega) _)))) (hb_w3.out.mono (by first | omega | (simp; done) | (simp; omega))))
    clear hc_w3 hf_w3 HB
    have Y0_w3_l := Y0_w3.lt
    have Y1_w3_l := Y1_w3.lt
    have Y2_w3_l := Y2_w3.lt
    refine wp_at (fun W => Has W w.heap.size #[.int .i64 x.1, .int .i64 x.2] 23 ∧ Has W (w.heap.size + 1) #[.int .i64 y.1, .int .i64 y.2] 23 ∧ Has W (w.heap.size + 1 + 1) #[.int .i64 z.1, .int .i64 z.2] 23 ∧ Has W w3.heap.size #[.int .i64 (divV x y).1, .int .i64 (divV x y).2] 23 ∧ Has W (w3.heap.size + 1) #[.int .i64 0, .int .i64 0] 23 ∧ Below w.heap.size w W) ⟨by (repeat (first | (with_reducible assumption) | (with_reducible exact Has.new _ _ _) | (with_reducible exact Has.new' (by first | rfl | (simp; done) | (simp; omega)) _ _) | (with_reducible apply Has.alloc) | (with_reducible apply Has.mix) | (with_reducible apply Has.drew) | (with_reducible apply Has.drewN) | (with_reducible apply Has.set_same) | (with_reducible apply Has.set_other (hp := (by first | (simp; done) | (simp; omega) | omega))) | (with_reducible rfl) | rfl)), by (repeat (first | (with_reducible assumption) | (with_reducible exact Has.new _ _ _) | (with_reducible exact Has.new' (by first | rfl | (simp; done) | (simp; omega)) _ _) | (with_reducible apply Has.alloc) | (with_reducible apply Has.mix) | (with_reducible apply Has.drew) | (with_reducible apply Has.drewN) | (with_reducible apply Has.set_same) | (with_reducible apply Has.set_other (hp := (by first | (simp; done) | (simp; omega) | omega))) | (with_reducible rfl) | rfl)), by (repeat (first | (with_reducible assumption) | (with_reducible exact Has.new _ _ _) | (with_reducible exact Has.new' (by first | rfl | (simp; done) | (simp; omega)) _ _) | (with_reducible apply Has.alloc) | (with_reducible apply Has.mix) | (with_reducible apply Has.drew) | (with_reducible apply Has.drewN) | (with_reducible apply Has.set_same) | (with_reducible apply Has.set_other (hp := (by first | (simp; done) | (simp; omega) | omega))) | (with_reducible rfl) | rfl)), by (repeat (first | (with_reducible assumption) | (with_reducible exact Has.new _ _ _) | (with_reducible exact Has.new' (by first | rfl | (simp; done) | (simp; omega)) _ _) | (with_reducible apply Has.alloc) | (with_reducible apply Has.mix) | (with_reducible apply Has.drew) | (with_reducible apply Has.drewN) | (with_reducible apply Has.set_same) | (with_reducible apply Has.set_other (hp := (by first | (simp; done) | (simp; omega) | omega))) | (with_reducible rfl) | rfl)), by (repeat (first | (with_reducible assumption) | (with_reducible exact Has.new _ _ _) | (with_reducible exact Has.new' (by first | rfl | (simp; done) | (simp; omega)) _ _) | (with_reducible apply Has.alloc) | (with_reducible apply Has.mix) | (with_reducible apply Has.drew) | (with_reducible apply Has.drewN) | (with_reducible apply Has.set_same) | (with_reducible apply Has.set_other (hp := (by first | (simp; done) | (simp; omega) | omega))) | (with_reducible rfl) | rfl)), by (try have HBB := HW.out); (repeat (first | (with_reducible assumption) | (with_reducible exact Below.refl _ _) | (with_reducible refine grow_alloc ?_ _) | (with_reducible refine grow_mix ?_ _) | (with_reducible refine grow_drew ?_) | (with_reducible refine grow_drewN ?_ _) | (with_reducible refine grow_set ?_ (by first | (simp; done) | (simp; omega) | omega) _)))⟩ ?_
    rintro w4 ⟨Z0, Z1, Z2, Z3, Z4, hW⟩
    have hz_w4 := hW.size
    have HW := Lib.hid hW
    clear hW
    have Z0_c0 := Z0.cell 0
    have Z0_c1 := Z0.cell 1
    have Z0_f := Z0.frozen
    have Z0_l := Z0.lt
    simp only [List.size_toArray, List.length_cons, List.length_nil, Nat.reduceAdd, Nat.zero_lt_succ, Nat.one_lt_succ_succ, Nat.reduceLT, getElem?_pos, List.getElem_toArray, List.getElem_cons_zero, List.getElem_cons_succ] at Z0_c0 Z0_c1
    (try have n_Z0 : w.heap.size ≠ w4.heap.size := by omega)
    (try have m_Z0 : w4.heap.size ≠ w.heap.size := by omega)
    (try have u_Z0 : w.heap.size < w4.heap.size + 1 := by omega)
    have Z1_c0 := Z1.cell 0
    have Z1_c1 := Z1.cell 1
    have Z1_f := Z1.frozen
    have Z1_l := Z1.lt
    simp only [List.size_toArray, List.length_cons, List.length_nil, Nat.reduceAdd, Nat.zero_lt_succ, Nat.one_lt_succ_succ, Nat.reduceLT, getElem?_pos, List.getElem_toArray, List.getElem_cons_zero, List.getElem_cons_succ] at Z1_c0 Z1_c1
    (try have n_Z1 : (w.heap.size + 1) ≠ w4.heap.size := by omega)
    (try have m_Z1 : w4.heap.size ≠ (w.heap.size + 1) := by omega)
    (try have u_Z1 : (w.heap.size + 1) < w4.heap.size + 1 := by omega)
    have Z2_c0 := Z2.cell 0
    have Z2_c1 := Z2.cell 1
    have Z2_f := Z2.frozen
    have Z2_l := Z2.lt
    simp only [List.size_toArray, List.length_cons, List.length_nil, Nat.reduceAdd, Nat.zero_lt_succ, Nat.one_lt_succ_succ, Nat.reduceLT, getElem?_pos, List.getElem_toArray, List.getElem_cons_zero, List.getElem_cons_succ] at Z2_c0 Z2_c1
    (try have n_Z2 : (w.heap.size + 1 + 1) ≠ w4.heap.size := by omega)
    (try have m_Z2 : w4.heap.size ≠ (w.heap.size + 1 + 1) := by omega)
    (try have u_Z2 : (w.heap.size + 1 + 1) < w4.heap.size + 1 := by omega)
    have Z3_c0 := Z3.cell 0
    have Z3_c1 := Z3.cell 1
    have Z3_f := Z3.frozen
    have Z3_l := Z3.lt
    simp only [List.size_toArray, List.length_cons, List.length_nil, Nat.reduceAdd, Nat.zero_lt_succ, Nat.one_lt_succ_succ, Nat.reduceLT, getElem?_pos, List.getElem_toArray, List.getElem_cons_zero, List.getElem_cons_succ] at Z3_c0 Z3_c1
    (try have n_Z3 : w3.heap.size ≠ w4.heap.size := by omega)
    (try have m_Z3 : w4.heap.size ≠ w3.heap.size := by omega)
    (try have u_Z3 : w3.heap.size < w4.heap.size + 1 := by omega)
    have Z4_c0 := Z4.cell 0
    have Z4_c1 := Z4.cell 1
    have Z4_f := Z4.frozen
    have Z4_l := Z4.lt
    simp only [List.size_toArray, List.length_cons, List.length_nil, Nat.reduceAdd, Nat.zero_lt_succ, Nat.one_lt_succ_succ, Nat.reduceLT, getElem?_pos, List.getElem_toArray, List.getElem_cons_zero, List.getElem_cons_succ] at Z4_c0 Z4_c1
    (try have n_Z4 : (w3.heap.size + 1) ≠ w4.heap.size := by omega)
    (try have m_Z4 : w4.heap.size ≠ (w3.heap.size + 1) := by omega)
    (try have u_Z4 : (w3.heap.size + 1) < w4.heap.size + 1 := by omega)
    refine wp_region_mix 32 (by kernel_rfl) (by kernel_rfl) ?_
    simp only [List.take_succ_cons, List.take_zero, List.drop_succ_cons, List.drop_zero]
    repeat (go_big_quiet_step ((first | (go_at_call 18; (with_reducible exact mix_call (Add_calls _ _ _))) | (go_at_call 14; (with_reducible exact mix_call (Mul_calls _ _ _))) | (go_at_call 20; (with_reducible exact mix_call (Sub_calls _ _ _))))))
    refine wpQuiet_nil ?_
    intro _ hmix
    (try (with_reducible replace hmix := mix_flat hmix))
    obtain ⟨x1, hmix'⟩ := hmix
    have hz := mix_size' hmix'
    subst hmix'
    (try simp only [World.size_alloc, World.size_setCell, World.size_drew] at hz); (try have q0 : w.heap.size < _ := Nat.lt_of_lt_of_le (by omega) hz); (try have q1 : w.heap.size + 1 < _ := Nat.lt_of_lt_of_le (by omega) hz); (try have q2 : w.heap.size + 1 + 1 < _ := Nat.lt_of_lt_of_le (by omega) hz); (try have q3 : w.heap.size + 1 + 1 + 1 < _ := Nat.lt_of_lt_of_le (by omega) hz)
    go_wp2
    go_ret
    have HB := HW.out
    exact ⟨rfl, HB.trans (Below.mono (by (repeat (first | (with_reducible assumption) | (with_reducible exact Below.refl _ _) | (with_reducible refine grow_alloc ?_ _) | (with_reducible refine grow_mix ?_ _) | (with_reducible refine grow_drew ?_) | (with_reducible refine grow_drewN ?_ _) | (with_reducible refine grow_set ?_ (by first | (simp; done) | (simp; omega) | omega) _)))) (by omega))⟩
  ·
    (go_at_call 15; refine (Gauss.Div_calls _ _ _).mono ?_; rintro e w3 ⟨rfl, hb⟩; obtain ⟨hc_w3, hf_w3⟩ := bcell hb; have hz_w3 := hb.size; (try simp only [World.size_alloc] at hz_w3); (try have hy0_w3 : w.heap.size < w3.heap.size := by omega); (try have hy1_w3 : w.heap.size + 1 < w3.heap.size := by omega); (try have hy2_w3 : w.heap.size + 1 + 1 < w3.heap.size := by omega); (try have hyA_w3 : w.heap.size < w3.heap.size + 1 := by omega); (try have hyB_w3 : w.heap.size + 1 < w3.heap.size + 1 := by omega); (try have hyC_w3 : w.heap.size + 1 + 1 < w3.heap.size + 1 := by omega); have hb_w3 := Lib.hid hb; clear hb)
    go_wp2_with fail
    have Y0_w3 : Has w3 w.heap.size #[.int .i64 x.1, .int .i64 x.2] 23 := by
      refine Has.below' ?_ hb_w3.out
      (repeat (first | (with_reducible assumption) | (with_reducible exact Has.new _ _ _) | (with_reducible exact Has.new' (by first | rfl | (simp; done) | (simp; omega)) _ _) | (with_reducible apply Has.alloc) | (with_reducible apply Has.mix) | (with_reducible apply Has.drew) | (with_reducible apply Has.drewN) | (with_reducible apply Has.set_same) | (with_reducible apply Has.set_other (hp := (by first | (simp; done) | (simp; omega) | omega))) | (with_reducible rfl) | rfl))
    have Y1_w3 : Has w3 (w.heap.size + 1) #[.int .i64 y.1, .int .i64 y.2] 23 := by
      refine Has.below' ?_ hb_w3.out
      (repeat (first | (with_reducible assumption) | (with_reducible exact Has.new _ _ _) | (with_reducible exact Has.new' (by first | rfl | (simp; done) | (simp; omega)) _ _) | (with_reducible apply Has.alloc) | (with_reducible apply Has.mix) | (with_reducible apply Has.drew) | (with_reducible apply Has.drewN) | (with_reducible apply Has.set_same) | (with_reducible apply Has.set_other (hp := (by first | (simp; done) | (simp; omega) | omega))) | (with_reducible rfl) | rfl))
    have Y2_w3 : Has w3 (w.heap.size + 1 + 1) #[.int .i64 z.1, .int .i64 z.2] 23 := by
      refine Has.below' ?_ hb_w3.out
      (repeat (first | (with_reducible assumption) | (with_reducible exact Has.new _ _ _) | (with_reducible exact Has.new' (by first | rfl | (simp; done) | (simp; omega)) _ _) | (with_reducible apply Has.alloc) | (with_reducible apply Has.mix) | (with_reducible apply Has.drew) | (with_reducible apply Has.drewN) | (with_reducible apply Has.set_same) | (with_reducible apply Has.set_other (hp := (by first | (simp; done) | (simp; omega) | omega))) | (with_reducible rfl) | rfl))
    have HB := HW.out
    have HW := Lib.hid (show Below w.heap.size w w3 from Below.trans (by (repeat (first | (with_reducible assumption) | (with_reducible exact Below.refl _ _) | (with_reducible refine grow_alloc ?_ _) | (with_reducible refine grow_mix ?_ _) | (with_reducible refine grow_drew ?_) | (with_reducible refine grow_drewN ?_ _) | (with_reducible refine grow_set ?_ (by first | (simp; done) | (simp; omega) | omega) _)))) (hb_w3.out.mono (by first | omega | (simp; done) | (simp; omega))))
    clear hc_w3 hf_w3 HB
    have Y0_w3_l := Y0_w3.lt
    have Y1_w3_l := Y1_w3.lt
    have Y2_w3_l := Y2_w3.lt
    refine wp_at (fun W => Has W w.heap.size #[.int .i64 x.1, .int .i64 x.2] 23 ∧ Has W (w.heap.size + 1) #[.int .i64 y.1, .int .i64 y.2] 23 ∧ Has W (w.heap.size + 1 + 1) #[.int .i64 z.1, .int .i64 z.2] 23 ∧ Has W w3.heap.size #[.int .i64 (divV x y).1, .int .i64 (divV x y).2] 23 ∧ Has W (w3.heap.size + 1) #[.int .i64 0, .int .i64 0] 23 ∧ Below w.heap.size w W) ⟨by (repeat (first | (with_reducible assumption) | (with_reducible exact Has.new _ _ _) | (with_reducible exact Has.new' (by first | rfl | (simp; done) | (simp; omega)) _ _) | (with_reducible apply Has.alloc) | (with_reducible apply Has.mix) | (with_reducible apply Has.drew) | (with_reducible apply Has.drewN) | (with_reducible apply Has.set_same) | (with_reducible apply Has.set_other (hp := (by first | (simp; done) | (simp; omega) | omega))) | (with_reducible rfl) | rfl)), by (repeat (first | (with_reducible assumption) | (with_reducible exact Has.new _ _ _) | (with_reducible exact Has.new' (by first | rfl | (simp; done) | (simp; omega)) _ _) | (with_reducible apply Has.alloc) | (with_reducible apply Has.mix) | (with_reducible apply Has.drew) | (with_reducible apply Has.drewN) | (with_reducible apply Has.set_same) | (with_reducible apply Has.set_other (hp := (by first | (simp; done) | (simp; omega) | omega))) | (with_reducible rfl) | rfl)), by (repeat (first | (with_reducible assumption) | (with_reducible exact Has.new _ _ _) | (with_reducible exact Has.new' (by first | rfl | (simp; done) | (simp; omega)) _ _) | (with_reducible apply Has.alloc) | (with_reducible apply Has.mix) | (with_reducible apply Has.drew) | (with_reducible apply Has.drewN) | (with_reducible apply Has.set_same) | (with_reducible apply Has.set_other (hp := (by first | (simp; done) | (simp; omega) | omega))) | (with_reducible rfl) | rfl)), by (repeat (first | (with_reducible assumption) | (with_reducible exact Has.new _ _ _) | (with_reducible exact Has.new' (by first | rfl | (simp; done) | (simp; omega)) _ _) | (with_reducible apply Has.alloc) | (with_reducible apply Has.mix) | (with_reducible apply Has.drew) | (with_reducible apply Has.drewN) | (with_reducible apply Has.set_same) | (with_reducible apply Has.set_other (hp := (by first | (simp; done) | (simp; omega) | omega))) | (with_reducible rfl) | rfl)), by (repeat (first | (with_reducible assumption) | (with_reducible exact Has.new _ _ _) | (with_reducible exact Has.new' (by first | rfl | (simp; done) | (simp; omega)) _ _) | (with_reducible apply Has.alloc) | (with_reducible apply Has.mix) | (with_reducible apply Has.drew) | (with_reducible apply Has.drewN) | (with_reducible apply Has.set_same) | (with_reducible apply Has.set_other (hp := (by first | (simp; done) | (simp; omega) | omega))) | (with_reducible rfl) | rfl)), by (try have HBB := HW.out); (repeat (first | (with_reducible assumption) | (with_reducible exact Below.refl _ _) | (with_reducible refine grow_alloc ?_ _) | (with_reducible refine grow_mix ?_ _) | (with_reducible refine grow_drew ?_) | (with_reducible refine grow_drewN ?_ _) | (with_reducible refine grow_set ?_ (by first | (simp; done) | (simp; omega) | omega) _)))⟩ ?_
    rintro w4 ⟨Z0, Z1, Z2, Z3, Z4, hW⟩
    have hz_w4 := hW.size
    have HW := Lib.hid hW
    clear hW
    have Z0_c0 := Z0.cell 0
    have Z0_c1 := Z0.cell 1
    have Z0_f := Z0.frozen
    have Z0_l := Z0.lt
    simp only [List.size_toArray, List.length_cons, List.length_nil, Nat.reduceAdd, Nat.zero_lt_succ, Nat.one_lt_succ_succ, Nat.reduceLT, getElem?_pos, List.getElem_toArray, List.getElem_cons_zero, List.getElem_cons_succ] at Z0_c0 Z0_c1
    (try have n_Z0 : w.heap.size ≠ w4.heap.size := by omega)
    (try have m_Z0 : w4.heap.size ≠ w.heap.size := by omega)
    (try have u_Z0 : w.heap.size < w4.heap.size + 1 := by omega)
    have Z1_c0 := Z1.cell 0
    have Z1_c1 := Z1.cell 1
    have Z1_f := Z1.frozen
    have Z1_l := Z1.lt
    simp only [List.size_toArray, List.length_cons, List.length_nil, Nat.reduceAdd, Nat.zero_lt_succ, Nat.one_lt_succ_succ, Nat.reduceLT, getElem?_pos, List.getElem_toArray, List.getElem_cons_zero, List.getElem_cons_succ] at Z1_c0 Z1_c1
    (try have n_Z1 : (w.heap.size + 1) ≠ w4.heap.size := by omega)
    (try have m_Z1 : w4.heap.size ≠ (w.heap.size + 1) := by omega)
    (try have u_Z1 : (w.heap.size + 1) < w4.heap.size + 1 := by omega)
    have Z2_c0 := Z2.cell 0
    have Z2_c1 := Z2.cell 1
    have Z2_f := Z2.frozen
    have Z2_l := Z2.lt
    simp only [List.size_toArray, List.length_cons, List.length_nil, Nat.reduceAdd, Nat.zero_lt_succ, Nat.one_lt_succ_succ, Nat.reduceLT, getElem?_pos, List.getElem_toArray, List.getElem_cons_zero, List.getElem_cons_succ] at Z2_c0 Z2_c1
    (try have n_Z2 : (w.heap.size + 1 + 1) ≠ w4.heap.size := by omega)
    (try have m_Z2 : w4.heap.size ≠ (w.heap.size + 1 + 1) := by omega)
    (try have u_Z2 : (w.heap.size + 1 + 1) < w4.heap.size + 1 := by omega)
    have Z3_c0 := Z3.cell 0
    have Z3_c1 := Z3.cell 1
    have Z3_f := Z3.frozen
    have Z3_l := Z3.lt
    simp only [List.size_toArray, List.length_cons, List.length_nil, Nat.reduceAdd, Nat.zero_lt_succ, Nat.one_lt_succ_succ, Nat.reduceLT, getElem?_pos, List.getElem_toArray, List.getElem_cons_zero, List.getElem_cons_succ] at Z3_c0 Z3_c1
    (try have n_Z3 : w3.heap.size ≠ w4.heap.size := by omega)
    (try have m_Z3 : w4.heap.size ≠ w3.heap.size := by omega)
    (try have u_Z3 : w3.heap.size < w4.heap.size + 1 := by omega)
    have Z4_c0 := Z4.cell 0
    have Z4_c1 := Z4.cell 1
    have Z4_f := Z4.frozen
    have Z4_l := Z4.lt
    simp only [List.size_toArray, List.length_cons, List.length_nil, Nat.reduceAdd, Nat.zero_lt_succ, Nat.one_lt_succ_succ, Nat.reduceLT, getElem?_pos, List.getElem_toArray, List.getElem_cons_zero, List.getElem_cons_succ] at Z4_c0 Z4_c1
    (try have n_Z4 : (w3.heap.size + 1) ≠ w4.heap.size := by omega)
    (try have m_Z4 : w4.heap.size ≠ (w3.heap.size + 1) := by omega)
    (try have u_Z4 : (w3.heap.size + 1) < w4.heap.size + 1 := by omega)
    refine wp_region_mix 32 (by kernel_rfl) (by kernel_rfl) ?_
    simp only [List.take_succ_cons, List.take_zero, List.drop_succ_cons, List.drop_zero]
    repeat (go_big_quiet_step ((first | (go_at_call 18; (with_reducible exact mix_call (Add_calls _ _ _))) | (go_at_call 14; (with_reducible exact mix_call (Mul_calls _ _ _))) | (go_at_call 20; (with_reducible exact mix_call (Sub_calls _ _ _))))))
    refine wpQuiet_nil ?_
    intro _ hmix
    (try (with_reducible replace hmix := mix_flat hmix))
    obtain ⟨x1, hmix'⟩ := hmix
    have hz := mix_size' hmix'
    subst hmix'
    (try simp only [World.size_alloc, World.size_setCell, World.size_drew] at hz); (try have q0 : w.heap.size < _ := Nat.lt_of_lt_of_le (by omega) hz); (try have q1 : w.heap.size + 1 < _ := Nat.lt_of_lt_of_le (by omega) hz); (try have q2 : w.heap.size + 1 + 1 < _ := Nat.lt_of_lt_of_le (by omega) hz); (try have q3 : w.heap.size + 1 + 1 + 1 < _ := Nat.lt_of_lt_of_le (by omega) hz)
    go_wp2
    go_ret
    have HB := HW.out
    exact ⟨rfl, HB.trans (Below.mono (by (repeat (first | (with_reducible assumption) | (with_reducible exact Below.refl _ _) | (with_reducible refine grow_alloc ?_ _) | (with_reducible refine grow_mix ?_ _) | (with_reducible refine grow_drew ?_) | (with_reducible refine grow_drewN ?_ _) | (with_reducible refine grow_set ?_ (by first | (simp; done) | (simp; omega) | omega) _)))) (by omega))⟩
  ·
    (go_at_call 15; refine (Gauss.Div_calls _ _ _).mono ?_; rintro e w3 ⟨rfl, hb⟩; obtain ⟨hc_w3, hf_w3⟩ := bcell hb; have hz_w3 := hb.size; (try simp only [World.size_alloc] at hz_w3); (try have hy0_w3 : w.heap.size < w3.heap.size := by omega); (try have hy1_w3 : w.heap.size + 1 < w3.heap.size := by omega); (try have hy2_w3 : w.heap.size + 1 + 1 < w3.heap.size := by omega); (try have hyA_w3 : w.heap.size < w3.heap.size + 1 := by omega); (try have hyB_w3 : w.heap.size + 1 < w3.heap.size + 1 := by omega); (try have hyC_w3 : w.heap.size + 1 + 1 < w3.heap.size + 1 := by omega); have hb_w3 := Lib.hid hb; clear hb)
    go_wp2_with fail
    have Y0_w3 : Has w3 w.heap.size #[.int .i64 x.1, .int .i64 x.2] 23 := by
      refine Has.below' ?_ hb_w3.out
      (repeat (first | (with_reducible assumption) | (with_reducible exact Has.new _ _ _) | (with_reducible exact Has.new' (by first | rfl | (simp; done) | (simp; omega)) _ _) | (with_reducible apply Has.alloc) | (with_reducible apply Has.mix) | (with_reducible apply Has.drew) | (with_reducible apply Has.drewN) | (with_reducible apply Has.set_same) | (with_reducible apply Has.set_other (hp := (by first | (simp; done) | (simp; omega) | omega))) | (with_reducible rfl) | rfl))
    have Y1_w3 : Has w3 (w.heap.size + 1) #[.int .i64 y.1, .int .i64 y.2] 23 := by
      refine Has.below' ?_ hb_w3.out
      (repeat (first | (with_reducible assumption) | (with_reducible exact Has.new _ _ _) | (with_reducible exact Has.new' (by first | rfl | (simp; done) | (simp; omega)) _ _) | (with_reducible apply Has.alloc) | (with_reducible apply Has.mix) | (with_reducible apply Has.drew) | (with_reducible apply Has.drewN) | (with_reducible apply Has.set_same) | (with_reducible apply Has.set_other (hp := (by first | (simp; done) | (simp; omega) | omega))) | (with_reducible rfl) | rfl))
    have Y2_w3 : Has w3 (w.heap.size + 1 + 1) #[.int .i64 z.1, .int .i64 z.2] 23 := by
      refine Has.below' ?_ hb_w3.out
      (repeat (first | (with_reducible assumption) | (with_reducible exact Has.new _ _ _) | (with_reducible exact Has.new' (by first | rfl | (simp; done) | (simp; omega)) _ _) | (with_reducible apply Has.alloc) | (with_reducible apply Has.mix) | (with_reducible apply Has.drew) | (with_reducible apply Has.drewN) | (with_reducible apply Has.set_same) | (with_reducible apply Has.set_other (hp := (by first | (simp; done) | (simp; omega) | omega))) | (with_reducible rfl) | rfl))
    have HB := HW.out
    have HW := Lib.hid (show Below w.heap.size w w3 from Below.trans (by (repeat (first | (with_reducible assumption) | (with_reducible exact Below.refl _ _) | (with_reducible refine grow_alloc ?_ _) | (with_reducible refine grow_mix ?_ _) | (with_reducible refine grow_drew ?_) | (with_reducible refine grow_drewN ?_ _) | (with_reducible refine grow_set ?_ (by first | (simp; done) | (simp; omega) | omega) _)))) (hb_w3.out.mono (by first | omega | (simp; done) | (simp; omega))))
    clear hc_w3 hf_w3 HB
    have Y0_w3_l := Y0_w3.lt
    have Y1_w3_l := Y1_w3.lt
    have Y2_w3_l := Y2_w3.lt
    refine wp_at (fun W => Has W w.heap.size #[.int .i64 x.1, .int .i64 x.2] 23 ∧ Has W (w.heap.size + 1) #[.int .i64 y.1, .int .i64 y.2] 23 ∧ Has W (w.heap.size + 1 + 1) #[.int .i64 z.1, .int .i64 z.2] 23 ∧ Has W w3.heap.size #[.int .i64 (divV x y).1, .int .i64 (divV x y).2] 23 ∧ Has W (w3.heap.size + 1) #[.int .i64 0, .int .i64 0] 23 ∧ Below w.heap.size w W) ⟨by (repeat (first | (with_reducible assumption) | (with_reducible exact Has.new _ _ _) | (with_reducible exact Has.new' (by first | rfl | (simp; done) | (simp; omega)) _ _) | (with_reducible apply Has.alloc) | (with_reducible apply Has.mix) | (with_reducible apply Has.drew) | (with_reducible apply Has.drewN) | (with_reducible apply Has.set_same) | (with_reducible apply Has.set_other (hp := (by first | (simp; done) | (simp; omega) | omega))) | (with_reducible rfl) | rfl)), by (repeat (first | (with_reducible assumption) | (with_reducible exact Has.new _ _ _) | (with_reducible exact Has.new' (by first | rfl | (simp; done) | (simp; omega)) _ _) | (with_reducible apply Has.alloc) | (with_reducible apply Has.mix) | (with_reducible apply Has.drew) | (with_reducible apply Has.drewN) | (with_reducible apply Has.set_same) | (with_reducible apply Has.set_other (hp := (by first | (simp; done) | (simp; omega) | omega))) | (with_reducible rfl) | rfl)), by (repeat (first | (with_reducible assumption) | (with_reducible exact Has.new _ _ _) | (with_reducible exact Has.new' (by first | rfl | (simp; done) | (simp; omega)) _ _) | (with_reducible apply Has.alloc) | (with_reducible apply Has.mix) | (with_reducible apply Has.drew) | (with_reducible apply Has.drewN) | (with_reducible apply Has.set_same) | (with_reducible apply Has.set_other (hp := (by first | (simp; done) | (simp; omega) | omega))) | (with_reducible rfl) | rfl)), by (repeat (first | (with_reducible assumption) | (with_reducible exact Has.new _ _ _) | (with_reducible exact Has.new' (by first | rfl | (simp; done) | (simp; omega)) _ _) | (with_reducible apply Has.alloc) | (with_reducible apply Has.mix) | (with_reducible apply Has.drew) | (with_reducible apply Has.drewN) | (with_reducible apply Has.set_same) | (with_reducible apply Has.set_other (hp := (by first | (simp; done) | (simp; omega) | omega))) | (with_reducible rfl) | rfl)), by (repeat (first | (with_reducible assumption) | (with_reducible exact Has.new _ _ _) | (with_reducible exact Has.new' (by first | rfl | (simp; done) | (simp; omega)) _ _) | (with_reducible apply Has.alloc) | (with_reducible apply Has.mix) | (with_reducible apply Has.drew) | (with_reducible apply Has.drewN) | (with_reducible apply Has.set_same) | (with_reducible apply Has.set_other (hp := (by first | (simp; done) | (simp; omega) | omega))) | (with_reducible rfl) | rfl)), by (try have HBB := HW.out); (repeat (first | (with_reducible assumption) | (with_reducible exact Below.refl _ _) | (with_reducible refine grow_alloc ?_ _) | (with_reducible refine grow_mix ?_ _) | (with_reducible refine grow_drew ?_) | (with_reducible refine grow_drewN ?_ _) | (with_reducible refine grow_set ?_ (by first | (simp; done) | (simp; omega) | omega) _)))⟩ ?_
    rintro w4 ⟨Z0, Z1, Z2, Z3, Z4, hW⟩
    have hz_w4 := hW.size
    have HW := Lib.hid hW
    clear hW
    have Z0_c0 := Z0.cell 0
    have Z0_c1 := Z0.cell 1
    have Z0_f := Z0.frozen
    have Z0_l := Z0.lt
    simp only [List.size_toArray, List.length_cons, List.length_nil, Nat.reduceAdd, Nat.zero_lt_succ, Nat.one_lt_succ_succ, Nat.reduceLT, getElem?_pos, List.getElem_toArray, List.getElem_cons_zero, List.getElem_cons_succ] at Z0_c0 Z0_c1
    (try have n_Z0 : w.heap.size ≠ w4.heap.size := by omega)
    (try have m_Z0 : w4.heap.size ≠ w.heap.size := by omega)
    (try have u_Z0 : w.heap.size < w4.heap.size + 1 := by omega)
    have Z1_c0 := Z1.cell 0
    have Z1_c1 := Z1.cell 1
    have Z1_f := Z1.frozen
    have Z1_l := Z1.lt
    simp only [List.size_toArray, List.length_cons, List.length_nil, Nat.reduceAdd, Nat.zero_lt_succ, Nat.one_lt_succ_succ, Nat.reduceLT, getElem?_pos, List.getElem_toArray, List.getElem_cons_zero, List.getElem_cons_succ] at Z1_c0 Z1_c1
    (try have n_Z1 : (w.heap.size + 1) ≠ w4.heap.size := by omega)
    (try have m_Z1 : w4.heap.size ≠ (w.heap.size + 1) := by omega)
    (try have u_Z1 : (w.heap.size + 1) < w4.heap.size + 1 := by omega)
    have Z2_c0 := Z2.cell 0
    have Z2_c1 := Z2.cell 1
    have Z2_f := Z2.frozen
    have Z2_l := Z2.lt
    simp only [List.size_toArray, List.length_cons, List.length_nil, Nat.reduceAdd, Nat.zero_lt_succ, Nat.one_lt_succ_succ, Nat.reduceLT, getElem?_pos, List.getElem_toArray, List.getElem_cons_zero, List.getElem_cons_succ] at Z2_c0 Z2_c1
    (try have n_Z2 : (w.heap.size + 1 + 1) ≠ w4.heap.size := by omega)
    (try have m_Z2 : w4.heap.size ≠ (w.heap.size + 1 + 1) := by omega)
    (try have u_Z2 : (w.heap.size + 1 + 1) < w4.heap.size + 1 := by omega)
    have Z3_c0 := Z3.cell 0
    have Z3_c1 := Z3.cell 1
    have Z3_f := Z3.frozen
    have Z3_l := Z3.lt
    simp only [List.size_toArray, List.length_cons, List.length_nil, Nat.reduceAdd, Nat.zero_lt_succ, Nat.one_lt_succ_succ, Nat.reduceLT, getElem?_pos, List.getElem_toArray, List.getElem_cons_zero, List.getElem_cons_succ] at Z3_c0 Z3_c1
    (try have n_Z3 : w3.heap.size ≠ w4.heap.size := by omega)
    (try have m_Z3 : w4.heap.size ≠ w3.heap.size := by omega)
    (try have u_Z3 : w3.heap.size < w4.heap.size + 1 := by omega)
    have Z4_c0 := Z4.cell 0
    have Z4_c1 := Z4.cell 1
    have Z4_f := Z4.frozen
    have Z4_l := Z4.lt
    simp only [List.size_toArray, List.length_cons, List.length_nil, Nat.reduceAdd, Nat.zero_lt_succ, Nat.one_lt_succ_succ, Nat.reduceLT, getElem?_pos, List.getElem_toArray, List.getElem_cons_zero, List.getElem_cons_succ] at Z4_c0 Z4_c1
    (try have n_Z4 : (w3.heap.size + 1) ≠ w4.heap.size := by omega)
    (try have m_Z4 : w4.heap.size ≠ (w3.heap.size + 1) := by omega)
    (try have u_Z4 : (w3.heap.size + 1) < w4.heap.size + 1 := by omega)
    refine wp_region_mix 32 (by kernel_rfl) (by kernel_rfl) ?_
    simp only [List.take_succ_cons, List.take_zero, List.drop_succ_cons, List.drop_zero]
    repeat (go_big_quiet_step ((first | (go_at_call 18; (with_reducible exact mix_call (Add_calls _ _ _))) | (go_at_call 14; (with_reducible exact mix_call (Mul_calls _ _ _))) | (go_at_call 20; (with_reducible exact mix_call (Sub_calls _ _ _))))))
    refine wpQuiet_nil ?_
    intro _ hmix
    (try (with_reducible replace hmix := mix_flat hmix))
    obtain ⟨x1, hmix'⟩ := hmix
    have hz := mix_size' hmix'
    subst hmix'
    (try simp only [World.size_alloc, World.size_setCell, World.size_drew] at hz); (try have q0 : w.heap.size < _ := Nat.lt_of_lt_of_le (by omega) hz); (try have q1 : w.heap.size + 1 < _ := Nat.lt_of_lt_of_le (by omega) hz); (try have q2 : w.heap.size + 1 + 1 < _ := Nat.lt_of_lt_of_le (by omega) hz); (try have q3 : w.heap.size + 1 + 1 + 1 < _ := Nat.lt_of_lt_of_le (by omega) hz)
    go_wp2
    go_ret
    have HB := HW.out
    exact ⟨rfl, HB.trans (Below.mono (by (repeat (first | (with_reducible assumption) | (with_reducible exact Below.refl _ _) | (with_reducible refine grow_alloc ?_ _) | (with_reducible refine grow_mix ?_ _) | (with_reducible refine grow_drew ?_) | (with_reducible refine grow_drewN ?_ _) | (with_reducible refine grow_set ?_ (by first | (simp; done) | (simp; omega) | omega) _)))) (by omega))⟩
  ·
    (go_at_call 15; refine (Gauss.Div_calls _ _ _).mono ?_; rintro e w3 ⟨rfl, hb⟩; obtain ⟨hc_w3, hf_w3⟩ := bcell hb; have hz_w3 := hb.size; (try simp only [World.size_alloc] at hz_w3); (try have hy0_w3 : w.heap.size < w3.heap.size := by omega); (try have hy1_w3 : w.heap.size + 1 < w3.heap.size := by omega); (try have hy2_w3 : w.heap.size + 1 + 1 < w3.heap.size := by omega); (try have hyA_w3 : w.heap.size < w3.heap.size + 1 := by omega); (try have hyB_w3 : w.heap.size + 1 < w3.heap.size + 1 := by omega); (try have hyC_w3 : w.heap.size + 1 + 1 < w3.heap.size + 1 := by omega); have hb_w3 := Lib.hid hb; clear hb)
    go_wp2_with fail
    have Y0_w3 : Has w3 w.heap.size #[.int .i64 x.1, .int .i64 x.2] 23 := by
      refine Has.below' ?_ hb_w3.out
      (repeat (first | (with_reducible assumption) | (with_reducible exact Has.new _ _ _) | (with_reducible exact Has.new' (by first | rfl | (simp; done) | (simp; omega)) _ _) | (with_reducible apply Has.alloc) | (with_reducible apply Has.mix) | (with_reducible apply Has.drew) | (with_reducible apply Has.drewN) | (with_reducible apply Has.set_same) | (with_reducible apply Has.set_other (hp := (by first | (simp; done) | (simp; omega) | omega))) | (with_reducible rfl) | rfl))
    have Y1_w3 : Has w3 (w.heap.size + 1) #[.int .i64 y.1, .int .i64 y.2] 23 := by
      refine Has.below' ?_ hb_w3.out
      (repeat (first | (with_reducible assumption) | (with_reducible exact Has.new _ _ _) | (with_reducible exact Has.new' (by first | rfl | (simp; done) | (simp; omega)) _ _) | (with_reducible apply Has.alloc) | (with_reducible apply Has.mix) | (with_reducible apply Has.drew) | (with_reducible apply Has.drewN) | (with_reducible apply Has.set_same) | (with_reducible apply Has.set_other (hp := (by first | (simp; done) | (simp; omega) | omega))) | (with_reducible rfl) | rfl))
    have Y2_w3 : Has w3 (w.heap.size + 1 + 1) #[.int .i64 z.1, .int .i64 z.2] 23 := by
      refine Has.below' ?_ hb_w3.out
      (repeat (first | (with_reducible assumption) | (with_reducible exact Has.new _ _ _) | (with_reducible exact Has.new' (by first | rfl | (simp; done) | (simp; omega)) _ _) | (with_reducible apply Has.alloc) | (with_reducible apply Has.mix) | (with_reducible apply Has.drew) | (with_reducible apply Has.drewN) | (with_reducible apply Has.set_same) | (with_reducible apply Has.set_other (hp := (by first | (simp; done) | (simp; omega) | omega))) | (with_reducible rfl) | rfl))
    have HB := HW.out
    have HW := Lib.hid (show Below w.heap.size w w3 from Below.trans (by (repeat (first | (with_reducible assumption) | (with_reducible exact Below.refl _ _) | (with_reducible refine grow_alloc ?_ _) | (with_reducible refine grow_mix ?_ _) | (with_reducible refine grow_drew ?_) | (with_reducible refine grow_drewN ?_ _) | (with_reducible refine grow_set ?_ (by first | (simp; done) | (simp; omega) | omega) _)))) (hb_w3.out.mono (by first | omega | (simp; done) | (simp; omega))))
    clear hc_w3 hf_w3 HB
    have Y0_w3_l := Y0_w3.lt
    have Y1_w3_l := Y1_w3.lt
    have Y2_w3_l := Y2_w3.lt
    refine wp_at (fun W => Has W w.heap.size #[.int .i64 x.1, .int .i64 x.2] 23 ∧ Has W (w.heap.size + 1) #[.int .i64 y.1, .int .i64 y.2] 23 ∧ Has W (w.heap.size + 1 + 1) #[.int .i64 z.1, .int .i64 z.2] 23 ∧ Has W w3.heap.size #[.int .i64 (divV x y).1, .int .i64 (divV x y).2] 23 ∧ Has W (w3.heap.size + 1) #[.int .i64 0, .int .i64 0] 23 ∧ Below w.heap.size w W) ⟨by (repeat (first | (with_reducible assumption) | (with_reducible exact Has.new _ _ _) | (with_reducible exact Has.new' (by first | rfl | (simp; done) | (simp; omega)) _ _) | (with_reducible apply Has.alloc) | (with_reducible apply Has.mix) | (with_reducible apply Has.drew) | (with_reducible apply Has.drewN) | (with_reducible apply Has.set_same) | (with_reducible apply Has.set_other (hp := (by first | (simp; done) | (simp; omega) | omega))) | (with_reducible rfl) | rfl)), by (repeat (first | (with_reducible assumption) | (with_reducible exact Has.new _ _ _) | (with_reducible exact Has.new' (by first | rfl | (simp; done) | (simp; omega)) _ _) | (with_reducible apply Has.alloc) | (with_reducible apply Has.mix) | (with_reducible apply Has.drew) | (with_reducible apply Has.drewN) | (with_reducible apply Has.set_same) | (with_reducible apply Has.set_other (hp := (by first | (simp; done) | (simp; omega) | omega))) | (with_reducible rfl) | rfl)), by (repeat (first | (with_reducible assumption) | (with_reducible exact Has.new _ _ _) | (with_reducible exact Has.new' (by first | rfl | (simp; done) | (simp; omega)) _ _) | (with_reducible apply Has.alloc) | (with_reducible apply Has.mix) | (with_reducible apply Has.drew) | (with_reducible apply Has.drewN) | (with_reducible apply Has.set_same) | (with_reducible apply Has.set_other (hp := (by first | (simp; done) | (simp; omega) | omega))) | (with_reducible rfl) | rfl)), by (repeat (first | (with_reducible assumption) | (with_reducible exact Has.new _ _ _) | (with_reducible exact Has.new' (by first | rfl | (simp; done) | (simp; omega)) _ _) | (with_reducible apply Has.alloc) | (with_reducible apply Has.mix) | (with_reducible apply Has.drew) | (with_reducible apply Has.drewN) | (with_reducible apply Has.set_same) | (with_reducible apply Has.set_other (hp := (by first | (simp; done) | (simp; omega) | omega))) | (with_reducible rfl) | rfl)), by (repeat (first | (with_reducible assumption) | (with_reducible exact Has.new _ _ _) | (with_reducible exact Has.new' (by first | rfl | (simp; done) | (simp; omega)) _ _) | (with_reducible apply Has.alloc) | (with_reducible apply Has.mix) | (with_reducible apply Has.drew) | (with_reducible apply Has.drewN) | (with_reducible apply Has.set_same) | (with_reducible apply Has.set_other (hp := (by first | (simp; done) | (simp; omega) | omega))) | (with_reducible rfl) | rfl)), by (try have HBB := HW.out); (repeat (first | (with_reducible assumption) | (with_reducible exact Below.refl _ _) | (with_reducible refine grow_alloc ?_ _) | (with_reducible refine grow_mix ?_ _) | (with_reducible refine grow_drew ?_) | (with_reducible refine grow_drewN ?_ _) | (with_reducible refine grow_set ?_ (by first | (simp; done) | (simp; omega) | omega) _)))⟩ ?_
    rintro w4 ⟨Z0, Z1, Z2, Z3, Z4, hW⟩
    have hz_w4 := hW.size
    have HW := Lib.hid hW
    clear hW
    have Z0_c0 := Z0.cell 0
    have Z0_c1 := Z0.cell 1
    have Z0_f := Z0.frozen
    have Z0_l := Z0.lt
    simp only [List.size_toArray, List.length_cons, List.length_nil, Nat.reduceAdd, Nat.zero_lt_succ, Nat.one_lt_succ_succ, Nat.reduceLT, getElem?_pos, List.getElem_toArray, List.getElem_cons_zero, List.getElem_cons_succ] at Z0_c0 Z0_c1
    (try have n_Z0 : w.heap.size ≠ w4.heap.size := by omega)
    (try have m_Z0 : w4.heap.size ≠ w.heap.size := by omega)
    (try have u_Z0 : w.heap.size < w4.heap.size + 1 := by omega)
    have Z1_c0 := Z1.cell 0
    have Z1_c1 := Z1.cell 1
    have Z1_f := Z1.frozen
    have Z1_l := Z1.lt
    simp only [List.size_toArray, List.length_cons, List.length_nil, Nat.reduceAdd, Nat.zero_lt_succ, Nat.one_lt_succ_succ, Nat.reduceLT, getElem?_pos, List.getElem_toArray, List.getElem_cons_zero, List.getElem_cons_succ] at Z1_c0 Z1_c1
    (try have n_Z1 : (w.heap.size + 1) ≠ w4.heap.size := by omega)
    (try have m_Z1 : w4.heap.size ≠ (w.heap.size + 1) := by omega)
    (try have u_Z1 : (w.heap.size + 1) < w4.heap.size + 1 := by omega)
    have Z2_c0 := Z2.cell 0
    have Z2_c1 := Z2.cell 1
    have Z2_f := Z2.frozen
    have Z2_l := Z2.lt
    simp only [List.size_toArray, List.length_cons, List.length_nil, Nat.reduceAdd, Nat.zero_lt_succ, Nat.one_lt_succ_succ, Nat.reduceLT, getElem?_pos, List.getElem_toArray, List.getElem_cons_zero, List.getElem_cons_succ] at Z2_c0 Z2_c1
    (try have n_Z2 : (w.heap.size + 1 + 1) ≠ w4.heap.size := by omega)
    (try have m_Z2 : w4.heap.size ≠ (w.heap.size + 1 + 1) := by omega)
    (try have u_Z2 : (w.heap.size + 1 + 1) < w4.heap.size + 1 := by omega)
    have Z3_c0 := Z3.cell 0
    have Z3_c1 := Z3.cell 1
    have Z3_f := Z3.frozen
    have Z3_l := Z3.lt
    simp only [List.size_toArray, List.length_cons, List.length_nil, Nat.reduceAdd, Nat.zero_lt_succ, Nat.one_lt_succ_succ, Nat.reduceLT, getElem?_pos, List.getElem_toArray, List.getElem_cons_zero, List.getElem_cons_succ] at Z3_c0 Z3_c1
    (try have n_Z3 : w3.heap.size ≠ w4.heap.size := by omega)
    (try have m_Z3 : w4.heap.size ≠ w3.heap.size := by omega)
    (try have u_Z3 : w3.heap.size < w4.heap.size + 1 := by omega)
    have Z4_c0 := Z4.cell 0
    have Z4_c1 := Z4.cell 1
    have Z4_f := Z4.frozen
    have Z4_l := Z4.lt
    simp only [List.size_toArray, List.length_cons, List.length_nil, Nat.reduceAdd, Nat.zero_lt_succ, Nat.one_lt_succ_succ, Nat.reduceLT, getElem?_pos, List.getElem_toArray, List.getElem_cons_zero, List.getElem_cons_succ] at Z4_c0 Z4_c1
    (try have n_Z4 : (w3.heap.size + 1) ≠ w4.heap.size := by omega)
    (try have m_Z4 : w4.heap.size ≠ (w3.heap.size + 1) := by omega)
    (try have u_Z4 : (w3.heap.size + 1) < w4.heap.size + 1 := by omega)
    refine wp_region_mix 32 (by kernel_rfl) (by kernel_rfl) ?_
    simp only [List.take_succ_cons, List.take_zero, List.drop_succ_cons, List.drop_zero]
    repeat (go_big_quiet_step ((first | (go_at_call 18; (with_reducible exact mix_call (Add_calls _ _ _))) | (go_at_call 14; (with_reducible exact mix_call (Mul_calls _ _ _))) | (go_at_call 20; (with_reducible exact mix_call (Sub_calls _ _ _))))))
    refine wpQuiet_nil ?_
    intro _ hmix
    (try (with_reducible replace hmix := mix_flat hmix))
    obtain ⟨x1, hmix'⟩ := hmix
    have hz := mix_size' hmix'
    subst hmix'
    (try simp only [World.size_alloc, World.size_setCell, World.size_drew] at hz); (try have q0 : w.heap.size < _ := Nat.lt_of_lt_of_le (by omega) hz); (try have q1 : w.heap.size + 1 < _ := Nat.lt_of_lt_of_le (by omega) hz); (try have q2 : w.heap.size + 1 + 1 < _ := Nat.lt_of_lt_of_le (by omega) hz); (try have q3 : w.heap.size + 1 + 1 + 1 < _ := Nat.lt_of_lt_of_le (by omega) hz)
    go_wp2
    go_ret
    have HB := HW.out
    exact ⟨rfl, HB.trans (Below.mono (by (repeat (first | (with_reducible assumption) | (with_reducible exact Below.refl _ _) | (with_reducible refine grow_alloc ?_ _) | (with_reducible refine grow_mix ?_ _) | (with_reducible refine grow_drew ?_) | (with_reducible refine grow_drewN ?_ _) | (with_reducible refine grow_set ?_ (by first | (simp; done) | (simp; omega) | omega) _)))) (by omega))⟩

theorem gaussField_walk (x y z : Int × Int) (_ : (Lit.int .i64 x.1).wf = true) (_ : (Lit.int .i64 x.2).wf = true) (_ : (Lit.int .i64 y.1).wf = true) (_ : (Lit.int .i64 y.2).wf = true) (_ : (Lit.int .i64 z.1).wf = true) (_ : (Lit.int .i64 z.2).wf = true) (w : World) (ht : Tab w) :
    Calls Tryd.prog 6 #[vv x, vv y, vv z] w fun e w' => e = .returned (.bool true) ∧ Below w.heap.size w w' := by
  cases hx : mayR x with
  | false => exact field_leave1 x y z w ht hx
  | true =>
    cases hy : mayR y with
    | false => exact field_leave2 x y z w ht hx hy
    | true =>
      cases hz : mayR z with
      | false => exact field_leave3 x y z w ht hx hy hz
      | true => exact field_all x y z w ht hx hy hz
end Go.Proofs.YtepagnaabncllaaDoor.Laws
