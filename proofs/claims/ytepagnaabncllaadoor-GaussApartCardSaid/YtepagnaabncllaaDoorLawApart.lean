/-
  The walks of %s: for every input it returns true, and makes only new memory.
-/
import Derived.Test.YtepagnaabncllaaDoorLawFacts
import Derived.Test.YtepagnaabncllaaDoorRow
set_option linter.unusedSimpArgs false
set_option linter.unusedVariables false
namespace Go.Proofs.YtepagnaabncllaaDoor.Laws
open Go Go.RowKit Go.Proofs.YtepagnaabncllaaDoor Go.Proofs.YtepagnaabncllaaDoor.Gauss Go.Proofs.YtepagnaabncllaaDoor.Pure Go.Proofs.YtepagnaabncllaaDoor.Text Go.Proofs.YtepagnaabncllaaDoor.Ref04

attribute [local go_sem high] eql_value neq_value equal_value field_re field_im
set_option maxRecDepth 100000 in
set_option maxHeartbeats 8000000 in
theorem apart_leave1 (x : Int × Int) (y : Int × Int) (z : Int × Int) (w : World) (ht : Tab w) (h0 : mayR x = false) :
    Calls Tryd.prog 9 #[vv x, vv y, vv z] w fun e w' => e = .returned (.bool true) ∧ Below w.heap.size w w' := by
  have HT := Lib.hid (fun (w1 : World) (h : Below w.heap.size w w1) => fixed_calls w1 (ht.below h))
  have Mx := Lib.hid (fun w1 => R_May_false x h0 w1)
  clear ht h0
  go_enter Tryd.func9, Tryd.ntmps9
  go_wp2_with fail
  (go_at_call 10; refine (HT.out _ (by (repeat (first | (with_reducible assumption) | (with_reducible exact Below.refl _ _) | (with_reducible refine grow_alloc ?_ _) | (with_reducible refine grow_mix ?_ _) | (with_reducible refine grow_drew ?_) | (with_reducible refine grow_drewN ?_ _) | (with_reducible refine grow_set ?_ (by first | (simp; done) | (simp; omega) | omega) _))))).mono ?_; rintro e w' ⟨rfl, hb⟩; have hz := hb.size; (first | (obtain ⟨x1, rfl⟩ := to_mix2 hb) | (obtain ⟨x1, rfl⟩ := to_mix hb)); clear hb; (try simp only [World.size_alloc, World.size_setCell, World.size_drew] at hz); (try have q0 : w.heap.size < _ := Nat.lt_of_lt_of_le (by omega) hz); (try have q1 : w.heap.size + 1 < _ := Nat.lt_of_lt_of_le (by omega) hz); (try have q2 : w.heap.size + 1 + 1 < _ := Nat.lt_of_lt_of_le (by omega) hz); (try have q3 : w.heap.size + 1 + 1 + 1 < _ := Nat.lt_of_lt_of_le (by omega) hz))
  go_wp2_with fail
  (go_at_call 11; refine (Mx.out _).mono ?_; rintro e w' ⟨rfl, hb⟩; have hz := hb.size; (first | (obtain ⟨x1, rfl⟩ := to_mix2 hb) | (obtain ⟨x1, rfl⟩ := to_mix hb)); clear hb; (try simp only [World.size_alloc, World.size_setCell, World.size_drew] at hz); (try have q0 : w.heap.size < _ := Nat.lt_of_lt_of_le (by omega) hz); (try have q1 : w.heap.size + 1 < _ := Nat.lt_of_lt_of_le (by omega) hz); (try have q2 : w.heap.size + 1 + 1 < _ := Nat.lt_of_lt_of_le (by omega) hz); (try have q3 : w.heap.size + 1 + 1 + 1 < _ := Nat.lt_of_lt_of_le (by omega) hz))
  go_wp2_with fail
  (go_at_call 10; refine (HT.out _ (by (repeat (first | (with_reducible assumption) | (with_reducible exact Below.refl _ _) | (with_reducible refine grow_alloc ?_ _) | (with_reducible refine grow_mix ?_ _) | (with_reducible refine grow_drew ?_) | (with_reducible refine grow_drewN ?_ _) | (with_reducible refine grow_set ?_ (by first | (simp; done) | (simp; omega) | omega) _))))).mono ?_; rintro e w' ⟨rfl, hb⟩; have hz := hb.size; (first | (obtain ⟨x1, rfl⟩ := to_mix2 hb) | (obtain ⟨x1, rfl⟩ := to_mix hb)); clear hb; (try simp only [World.size_alloc, World.size_setCell, World.size_drew] at hz); (try have q0 : w.heap.size < _ := Nat.lt_of_lt_of_le (by omega) hz); (try have q1 : w.heap.size + 1 < _ := Nat.lt_of_lt_of_le (by omega) hz); (try have q2 : w.heap.size + 1 + 1 < _ := Nat.lt_of_lt_of_le (by omega) hz); (try have q3 : w.heap.size + 1 + 1 + 1 < _ := Nat.lt_of_lt_of_le (by omega) hz))
  go_wp2
  go_ret
  exact ⟨rfl, by (repeat (first | (with_reducible assumption) | (with_reducible exact Below.refl _ _) | (with_reducible refine grow_alloc ?_ _) | (with_reducible refine grow_mix ?_ _) | (with_reducible refine grow_drew ?_) | (with_reducible refine grow_drewN ?_ _) | (with_reducible refine grow_set ?_ (by first | (simp; done) | (simp; omega) | omega) _)))⟩

set_option maxRecDepth 100000 in
set_option maxHeartbeats 8000000 in
theorem apart_leave2 (x : Int × Int) (y : Int × Int) (z : Int × Int) (w : World) (ht : Tab w) (h0 : mayR x = true) (h1 : mayR y = false) :
    Calls Tryd.prog 9 #[vv x, vv y, vv z] w fun e w' => e = .returned (.bool true) ∧ Below w.heap.size w w' := by
  have HT := Lib.hid (fun (w1 : World) (h : Below w.heap.size w w1) => fixed_calls w1 (ht.below h))
  have Mx := Lib.hid (fun w1 => R_May_true x h0 w1)
  have My := Lib.hid (fun w1 => R_May_false y h1 w1)
  clear ht h0 h1
  go_enter Tryd.func9, Tryd.ntmps9
  go_wp2_with fail
  (go_at_call 10; refine (HT.out _ (by (repeat (first | (with_reducible assumption) | (with_reducible exact Below.refl _ _) | (with_reducible refine grow_alloc ?_ _) | (with_reducible refine grow_mix ?_ _) | (with_reducible refine grow_drew ?_) | (with_reducible refine grow_drewN ?_ _) | (with_reducible refine grow_set ?_ (by first | (simp; done) | (simp; omega) | omega) _))))).mono ?_; rintro e w' ⟨rfl, hb⟩; have hz := hb.size; (first | (obtain ⟨x1, rfl⟩ := to_mix2 hb) | (obtain ⟨x1, rfl⟩ := to_mix hb)); clear hb; (try simp only [World.size_alloc, World.size_setCell, World.size_drew] at hz); (try have q0 : w.heap.size < _ := Nat.lt_of_lt_of_le (by omega) hz); (try have q1 : w.heap.size + 1 < _ := Nat.lt_of_lt_of_le (by omega) hz); (try have q2 : w.heap.size + 1 + 1 < _ := Nat.lt_of_lt_of_le (by omega) hz); (try have q3 : w.heap.size + 1 + 1 + 1 < _ := Nat.lt_of_lt_of_le (by omega) hz))
  go_wp2_with fail
  (go_at_call 11; refine (Mx.out _).mono ?_; rintro e w' ⟨rfl, hb⟩; have hz := hb.size; (first | (obtain ⟨x1, rfl⟩ := to_mix2 hb) | (obtain ⟨x1, rfl⟩ := to_mix hb)); clear hb; (try simp only [World.size_alloc, World.size_setCell, World.size_drew] at hz); (try have q0 : w.heap.size < _ := Nat.lt_of_lt_of_le (by omega) hz); (try have q1 : w.heap.size + 1 < _ := Nat.lt_of_lt_of_le (by omega) hz); (try have q2 : w.heap.size + 1 + 1 < _ := Nat.lt_of_lt_of_le (by omega) hz); (try have q3 : w.heap.size + 1 + 1 + 1 < _ := Nat.lt_of_lt_of_le (by omega) hz))
  go_wp2_with fail
  (go_at_call 11; refine (My.out _).mono ?_; rintro e w' ⟨rfl, hb⟩; have hz := hb.size; (first | (obtain ⟨x1, rfl⟩ := to_mix2 hb) | (obtain ⟨x1, rfl⟩ := to_mix hb)); clear hb; (try simp only [World.size_alloc, World.size_setCell, World.size_drew] at hz); (try have q0 : w.heap.size < _ := Nat.lt_of_lt_of_le (by omega) hz); (try have q1 : w.heap.size + 1 < _ := Nat.lt_of_lt_of_le (by omega) hz); (try have q2 : w.heap.size + 1 + 1 < _ := Nat.lt_of_lt_of_le (by omega) hz); (try have q3 : w.heap.size + 1 + 1 + 1 < _ := Nat.lt_of_lt_of_le (by omega) hz))
  go_wp2_with fail
  (go_at_call 10; refine (HT.out _ (by (repeat (first | (with_reducible assumption) | (with_reducible exact Below.refl _ _) | (with_reducible refine grow_alloc ?_ _) | (with_reducible refine grow_mix ?_ _) | (with_reducible refine grow_drew ?_) | (with_reducible refine grow_drewN ?_ _) | (with_reducible refine grow_set ?_ (by first | (simp; done) | (simp; omega) | omega) _))))).mono ?_; rintro e w' ⟨rfl, hb⟩; have hz := hb.size; (first | (obtain ⟨x1, rfl⟩ := to_mix2 hb) | (obtain ⟨x1, rfl⟩ := to_mix hb)); clear hb; (try simp only [World.size_alloc, World.size_setCell, World.size_drew] at hz); (try have q0 : w.heap.size < _ := Nat.lt_of_lt_of_le (by omega) hz); (try have q1 : w.heap.size + 1 < _ := Nat.lt_of_lt_of_le (by omega) hz); (try have q2 : w.heap.size + 1 + 1 < _ := Nat.lt_of_lt_of_le (by omega) hz); (try have q3 : w.heap.size + 1 + 1 + 1 < _ := Nat.lt_of_lt_of_le (by omega) hz))
  go_wp2
  go_ret
  exact ⟨rfl, by (repeat (first | (with_reducible assumption) | (with_reducible exact Below.refl _ _) | (with_reducible refine grow_alloc ?_ _) | (with_reducible refine grow_mix ?_ _) | (with_reducible refine grow_drew ?_) | (with_reducible refine grow_drewN ?_ _) | (with_reducible refine grow_set ?_ (by first | (simp; done) | (simp; omega) | omega) _)))⟩

set_option maxRecDepth 100000 in
set_option maxHeartbeats 8000000 in
theorem apart_leave3 (x : Int × Int) (y : Int × Int) (z : Int × Int) (w : World) (ht : Tab w) (h0 : mayR x = true) (h1 : mayR y = true) (h2 : mayR z = false) :
    Calls Tryd.prog 9 #[vv x, vv y, vv z] w fun e w' => e = .returned (.bool true) ∧ Below w.heap.size w w' := by
  have HT := Lib.hid (fun (w1 : World) (h : Below w.heap.size w w1) => fixed_calls w1 (ht.below h))
  have Mx := Lib.hid (fun w1 => R_May_true x h0 w1)
  have My := Lib.hid (fun w1 => R_May_true y h1 w1)
  have Mz := Lib.hid (fun w1 => R_May_false z h2 w1)
  clear ht h0 h1 h2
  go_enter Tryd.func9, Tryd.ntmps9
  go_wp2_with fail
  (go_at_call 10; refine (HT.out _ (by (repeat (first | (with_reducible assumption) | (with_reducible exact Below.refl _ _) | (with_reducible refine grow_alloc ?_ _) | (with_reducible refine grow_mix ?_ _) | (with_reducible refine grow_drew ?_) | (with_reducible refine grow_drewN ?_ _) | (with_reducible refine grow_set ?_ (by first | (simp; done) | (simp; omega) | omega) _))))).mono ?_; rintro e w' ⟨rfl, hb⟩; have hz := hb.size; (first | (obtain ⟨x1, rfl⟩ := to_mix2 hb) | (obtain ⟨x1, rfl⟩ := to_mix hb)); clear hb; (try simp only [World.size_alloc, World.size_setCell, World.size_drew] at hz); (try have q0 : w.heap.size < _ := Nat.lt_of_lt_of_le (by omega) hz); (try have q1 : w.heap.size + 1 < _ := Nat.lt_of_lt_of_le (by omega) hz); (try have q2 : w.heap.size + 1 + 1 < _ := Nat.lt_of_lt_of_le (by omega) hz); (try have q3 : w.heap.size + 1 + 1 + 1 < _ := Nat.lt_of_lt_of_le (by omega) hz))
  go_wp2_with fail
  (go_at_call 11; refine (Mx.out _).mono ?_; rintro e w' ⟨rfl, hb⟩; have hz := hb.size; (first | (obtain ⟨x1, rfl⟩ := to_mix2 hb) | (obtain ⟨x1, rfl⟩ := to_mix hb)); clear hb; (try simp only [World.size_alloc, World.size_setCell, World.size_drew] at hz); (try have q0 : w.heap.size < _ := Nat.lt_of_lt_of_le (by omega) hz); (try have q1 : w.heap.size + 1 < _ := Nat.lt_of_lt_of_le (by omega) hz); (try have q2 : w.heap.size + 1 + 1 < _ := Nat.lt_of_lt_of_le (by omega) hz); (try have q3 : w.heap.size + 1 + 1 + 1 < _ := Nat.lt_of_lt_of_le (by omega) hz))
  go_wp2_with fail
  (go_at_call 11; refine (My.out _).mono ?_; rintro e w' ⟨rfl, hb⟩; have hz := hb.size; (first | (obtain ⟨x1, rfl⟩ := to_mix2 hb) | (obtain ⟨x1, rfl⟩ := to_mix hb)); clear hb; (try simp only [World.size_alloc, World.size_setCell, World.size_drew] at hz); (try have q0 : w.heap.size < _ := Nat.lt_of_lt_of_le (by omega) hz); (try have q1 : w.heap.size + 1 < _ := Nat.lt_of_lt_of_le (by omega) hz); (try have q2 : w.heap.size + 1 + 1 < _ := Nat.lt_of_lt_of_le (by omega) hz); (try have q3 : w.heap.size + 1 + 1 + 1 < _ := Nat.lt_of_lt_of_le (by omega) hz))
  go_wp2_with fail
  (go_at_call 11; refine (Mz.out _).mono ?_; rintro e w' ⟨rfl, hb⟩; have hz := hb.size; (first | (obtain ⟨x1, rfl⟩ := to_mix2 hb) | (obtain ⟨x1, rfl⟩ := to_mix hb)); clear hb; (try simp only [World.size_alloc, World.size_setCell, World.size_drew] at hz); (try have q0 : w.heap.size < _ := Nat.lt_of_lt_of_le (by omega) hz); (try have q1 : w.heap.size + 1 < _ := Nat.lt_of_lt_of_le (by omega) hz); (try have q2 : w.heap.size + 1 + 1 < _ := Nat.lt_of_lt_of_le (by omega) hz); (try have q3 : w.heap.size + 1 + 1 + 1 < _ := Nat.lt_of_lt_of_le (by omega) hz))
  go_wp2_with fail
  (go_at_call 10; refine (HT.out _ (by (repeat (first | (with_reducible assumption) | (with_reducible exact Below.refl _ _) | (with_reducible refine grow_alloc ?_ _) | (with_reducible refine grow_mix ?_ _) | (with_reducible refine grow_drew ?_) | (with_reducible refine grow_drewN ?_ _) | (with_reducible refine grow_set ?_ (by first | (simp; done) | (simp; omega) | omega) _))))).mono ?_; rintro e w' ⟨rfl, hb⟩; have hz := hb.size; (first | (obtain ⟨x1, rfl⟩ := to_mix2 hb) | (obtain ⟨x1, rfl⟩ := to_mix hb)); clear hb; (try simp only [World.size_alloc, World.size_setCell, World.size_drew] at hz); (try have q0 : w.heap.size < _ := Nat.lt_of_lt_of_le (by omega) hz); (try have q1 : w.heap.size + 1 < _ := Nat.lt_of_lt_of_le (by omega) hz); (try have q2 : w.heap.size + 1 + 1 < _ := Nat.lt_of_lt_of_le (by omega) hz); (try have q3 : w.heap.size + 1 + 1 + 1 < _ := Nat.lt_of_lt_of_le (by omega) hz))
  go_wp2
  go_ret
  exact ⟨rfl, by (repeat (first | (with_reducible assumption) | (with_reducible exact Below.refl _ _) | (with_reducible refine grow_alloc ?_ _) | (with_reducible refine grow_mix ?_ _) | (with_reducible refine grow_drew ?_) | (with_reducible refine grow_drewN ?_ _) | (with_reducible refine grow_set ?_ (by first | (simp; done) | (simp; omega) | omega) _)))⟩

def ApartCases (x y z : Int × Int) : Prop :=
  (eqB x y = true ∧ eqB (addV x z) (addV y z) = true ∧ eqB (subV z x) (subV z y) = true ∧ isZ z = true ∧ eqB z (0, 0) = true ∧ (textV x == textV y) = true ∧ True) ∨
  (eqB x y = true ∧ eqB (addV x z) (addV y z) = true ∧ eqB (subV z x) (subV z y) = true ∧ isZ z = false ∧ eqB z (0, 0) = false ∧ (textV x == textV y) = true ∧ (eqB (divV x z) (divV y z) = true ∧ eqB (mulV x z) (mulV y z) = true)) ∨
  (eqB x y = false ∧ eqB (addV x z) (addV y z) = false ∧ eqB (subV z x) (subV z y) = false ∧ isZ z = true ∧ eqB z (0, 0) = true ∧ (textV x == textV y) = false ∧ True) ∨
  (eqB x y = false ∧ eqB (addV x z) (addV y z) = false ∧ eqB (subV z x) (subV z y) = false ∧ isZ z = false ∧ eqB z (0, 0) = false ∧ (textV x == textV y) = false ∧ (eqB (divV x z) (divV y z) = false ∧ eqB (mulV x z) (mulV y z) = false))
theorem apart_cases {x y z : Int × Int} (hx : Pure.May x) (hy : Pure.May y) (hz : Pure.May z) : ApartCases x y z := by
  have h1 := l_add_apart hx hy z
  have h2 := l_sub_apart hx hy z
  have h3 := l_isZ hz
  have h4 : (textV x == textV y) = eqB x y := by rw [← text_eq hx hy, Bool.eq_iff_iff]; simp
  have h5 : z ≠ (0, 0) → _ := l_div_apart hx hy hz
  have h6 : z ≠ (0, 0) → _ := l_mul_apart hx hy hz
  unfold ApartCases
  by_cases e : x = y
  · have c := eqB_true e
    by_cases f : z = (0, 0)
    · have d := eqB_true f
      exact .inl ⟨c, h1.trans c, h2.trans c, h3.trans d, d, h4.trans c, trivial⟩
    · have d := eqB_false f
      exact .inr (.inl ⟨c, h1.trans c, h2.trans c, h3.trans d, d, h4.trans c, (h5 f).trans c, (h6 f).trans c⟩)
  · have c := eqB_false e
    by_cases f : z = (0, 0)
    · have d := eqB_true f
      exact .inr (.inr (.inl ⟨c, h1.trans c, h2.trans c, h3.trans d, d, h4.trans c, trivial⟩))
    · have d := eqB_false f
      exact .inr (.inr (.inr ⟨c, h1.trans c, h2.trans c, h3.trans d, d, h4.trans c, (h5 f).trans c, (h6 f).trans c⟩))

set_option maxRecDepth 100000 in
set_option maxHeartbeats 8000000 in
theorem apart_all (x : Int × Int) (y : Int × Int) (z : Int × Int) (w : World) (ht : Tab w) (hx : mayR x = true) (hy : mayR y = true) (hz : mayR z = true)  :
    Calls Tryd.prog 9 #[vv x, vv y, vv z] w fun e w' => e = .returned (.bool true) ∧ Below w.heap.size w w' := by
  have TT := Lib.hid (fun (w1 : World) (h : Below w.heap.size w w1) => ht.below h)
  have HT := Lib.hid (fun (w1 : World) (h : Below w.heap.size w w1) => fixed_calls w1 (ht.below h))
  have Mx := Lib.hid (fun w1 => R_May_true x hx w1)
  have My := Lib.hid (fun w1 => R_May_true y hy w1)
  have Mz := Lib.hid (fun w1 => R_May_true z hz w1)
  have e0 := l_conj_real x
  have e1 := Lib.hid (apart_cases ((mayR_iff x).1 hx) ((mayR_iff y).1 hy) ((mayR_iff z).1 hz))
  clear ht hx hy hz
  go_enter Tryd.func9, Tryd.ntmps9
  go_wp2_with fail
  (go_at_call 10; refine (HT.out _ (by (repeat (first | (with_reducible assumption) | (with_reducible exact Below.refl _ _) | (with_reducible refine grow_alloc ?_ _) | (with_reducible refine grow_mix ?_ _) | (with_reducible refine grow_drew ?_) | (with_reducible refine grow_drewN ?_ _) | (with_reducible refine grow_set ?_ (by first | (simp; done) | (simp; omega) | omega) _))))).mono ?_; rintro e w' ⟨rfl, hb⟩; have hz := hb.size; (first | (obtain ⟨x1, rfl⟩ := to_mix2 hb) | (obtain ⟨x1, rfl⟩ := to_mix hb)); clear hb; (try simp only [World.size_alloc, World.size_setCell, World.size_drew] at hz); (try have q0 : w.heap.size < _ := Nat.lt_of_lt_of_le (by omega) hz); (try have q1 : w.heap.size + 1 < _ := Nat.lt_of_lt_of_le (by omega) hz); (try have q2 : w.heap.size + 1 + 1 < _ := Nat.lt_of_lt_of_le (by omega) hz); (try have q3 : w.heap.size + 1 + 1 + 1 < _ := Nat.lt_of_lt_of_le (by omega) hz))
  go_wp2_with fail
  (go_at_call 11; refine (Mx.out _).mono ?_; rintro e w' ⟨rfl, hb⟩; have hz := hb.size; (first | (obtain ⟨x1, rfl⟩ := to_mix2 hb) | (obtain ⟨x1, rfl⟩ := to_mix hb)); clear hb; (try simp only [World.size_alloc, World.size_setCell, World.size_drew] at hz); (try have q0 : w.heap.size < _ := Nat.lt_of_lt_of_le (by omega) hz); (try have q1 : w.heap.size + 1 < _ := Nat.lt_of_lt_of_le (by omega) hz); (try have q2 : w.heap.size + 1 + 1 < _ := Nat.lt_of_lt_of_le (by omega) hz); (try have q3 : w.heap.size + 1 + 1 + 1 < _ := Nat.lt_of_lt_of_le (by omega) hz))
  go_wp2_with fail
  (go_at_call 11; refine (My.out _).mono ?_; rintro e w' ⟨rfl, hb⟩; have hz := hb.size; (first | (obtain ⟨x1, rfl⟩ := to_mix2 hb) | (obtain ⟨x1, rfl⟩ := to_mix hb)); clear hb; (try simp only [World.size_alloc, World.size_setCell, World.size_drew] at hz); (try have q0 : w.heap.size < _ := Nat.lt_of_lt_of_le (by omega) hz); (try have q1 : w.heap.size + 1 < _ := Nat.lt_of_lt_of_le (by omega) hz); (try have q2 : w.heap.size + 1 + 1 < _ := Nat.lt_of_lt_of_le (by omega) hz); (try have q3 : w.heap.size + 1 + 1 + 1 < _ := Nat.lt_of_lt_of_le (by omega) hz))
  go_wp2_with fail
  (go_at_call 11; refine (Mz.out _).mono ?_; rintro e w1 ⟨rfl, hb⟩; obtain ⟨hc_w1, hf_w1⟩ := bcell hb; have hz_w1 := hb.size; (try simp only [World.size_alloc] at hz_w1); (try have hy0_w1 : w.heap.size < w1.heap.size := by omega); (try have hy1_w1 : w.heap.size + 1 < w1.heap.size := by omega); (try have hy2_w1 : w.heap.size + 1 + 1 < w1.heap.size := by omega); (try have hyA_w1 : w.heap.size < w1.heap.size + 1 := by omega); (try have hyB_w1 : w.heap.size + 1 < w1.heap.size + 1 := by omega); (try have hyC_w1 : w.heap.size + 1 + 1 < w1.heap.size + 1 := by omega); have hb_w1 := Lib.hid hb; clear hb)
  go_wp2_with fail
  have X0 : Has w1 w.heap.size #[.int .i64 x.1, .int .i64 x.2] 23 := by
    refine Has.below' ?_ hb_w1.out
    (repeat (first | (with_reducible assumption) | (with_reducible exact Has.new _ _ _) | (with_reducible exact Has.new' (by first | rfl | (simp; done) | (simp; omega)) _ _) | (with_reducible apply Has.alloc) | (with_reducible apply Has.mix) | (with_reducible apply Has.drew) | (with_reducible apply Has.drewN) | (with_reducible apply Has.set_same) | (with_reducible apply Has.set_other (hp := (by first | (simp; done) | (simp; omega) | omega))) | (with_reducible rfl) | rfl))
  have X1 : Has w1 (w.heap.size + 1) #[.int .i64 y.1, .int .i64 y.2] 23 := by
    refine Has.below' ?_ hb_w1.out
    (repeat (first | (with_reducible assumption) | (with_reducible exact Has.new _ _ _) | (with_reducible exact Has.new' (by first | rfl | (simp; done) | (simp; omega)) _ _) | (with_reducible apply Has.alloc) | (with_reducible apply Has.mix) | (with_reducible apply Has.drew) | (with_reducible apply Has.drewN) | (with_reducible apply Has.set_same) | (with_reducible apply Has.set_other (hp := (by first | (simp; done) | (simp; omega) | omega))) | (with_reducible rfl) | rfl))
  have X2 : Has w1 (w.heap.size + 1 + 1) #[.int .i64 z.1, .int .i64 z.2] 23 := by
    refine Has.below' ?_ hb_w1.out
    (repeat (first | (with_reducible assumption) | (with_reducible exact Has.new _ _ _) | (with_reducible exact Has.new' (by first | rfl | (simp; done) | (simp; omega)) _ _) | (with_reducible apply Has.alloc) | (with_reducible apply Has.mix) | (with_reducible apply Has.drew) | (with_reducible apply Has.drewN) | (with_reducible apply Has.set_same) | (with_reducible apply Has.set_other (hp := (by first | (simp; done) | (simp; omega) | omega))) | (with_reducible rfl) | rfl))
  have HW := Lib.hid (show Below w.heap.size w w1 from Below.trans (by (repeat (first | (with_reducible assumption) | (with_reducible exact Below.refl _ _) | (with_reducible refine grow_alloc ?_ _) | (with_reducible refine grow_mix ?_ _) | (with_reducible refine grow_drew ?_) | (with_reducible refine grow_drewN ?_ _) | (with_reducible refine grow_set ?_ (by first | (simp; done) | (simp; omega) | omega) _)))) (hb_w1.out.mono (by first | (simp; done) | (simp; omega))))
  clear hc_w1 hf_w1
  have X0_c0 := X0.cell 0
  have X0_c1 := X0.cell 1
  have X0_f := X0.frozen
  have X0_l := X0.lt
  simp only [List.size_toArray, List.length_cons, List.length_nil, Nat.reduceAdd, Nat.zero_lt_succ, Nat.one_lt_succ_succ, Nat.reduceLT, getElem?_pos, List.getElem_toArray, List.getElem_cons_zero, List.getElem_cons_succ] at X0_c0 X0_c1
  have X1_c0 := X1.cell 0
  have X1_c1 := X1.cell 1
  have X1_f := X1.frozen
  have X1_l := X1.lt
  simp only [List.size_toArray, List.length_cons, List.length_nil, Nat.reduceAdd, Nat.zero_lt_succ, Nat.one_lt_succ_succ, Nat.reduceLT, getElem?_pos, List.getElem_toArray, List.getElem_cons_zero, List.getElem_cons_succ] at X1_c0 X1_c1
  have X2_c0 := X2.cell 0
  have X2_c1 := X2.cell 1
  have X2_f := X2.frozen
  have X2_l := X2.lt
  simp only [List.size_toArray, List.length_cons, List.length_nil, Nat.reduceAdd, Nat.zero_lt_succ, Nat.one_lt_succ_succ, Nat.reduceLT, getElem?_pos, List.getElem_toArray, List.getElem_cons_zero, List.getElem_cons_succ] at X2_c0 X2_c1
  rcases e1.out with ⟨c1, c2, c3, c4, c5, c6, c7⟩ | ⟨c1, c2, c3, c4, c5, c6, c7, c8⟩ | ⟨c1, c2, c3, c4, c5, c6, c7⟩ | ⟨c1, c2, c3, c4, c5, c6, c7, c8⟩
  ·
    go_wp2_with fail
    refine wp_region_mix_all (by kernel_rfl) (by kernel_rfl) ?_
    repeat (go_big_quiet_step ((first | (go_at_call 18; (with_reducible exact mix_call (Add_calls _ _ _))) | (go_at_call 20; (with_reducible exact mix_call (Sub_calls _ _ _))) | (go_at_call 14; (with_reducible exact mix_call (Mul_calls _ _ _))) | (go_at_call 23; (with_reducible exact mix_call (Conj_calls _ _))))))
    refine wpQuiet_nil ?_
    intro _ hmix
    (try (with_reducible replace hmix := mix_flat hmix))
    obtain ⟨x1, hmix'⟩ := hmix
    have hz := mix_size' hmix'
    subst hmix'
    (try simp only [World.size_alloc, World.size_setCell, World.size_drew] at hz); (try have q0 : w.heap.size < _ := Nat.lt_of_lt_of_le (by omega) hz); (try have q1 : w.heap.size + 1 < _ := Nat.lt_of_lt_of_le (by omega) hz); (try have q2 : w.heap.size + 1 + 1 < _ := Nat.lt_of_lt_of_le (by omega) hz); (try have q3 : w.heap.size + 1 + 1 + 1 < _ := Nat.lt_of_lt_of_le (by omega) hz)
    go_wp2_with fail
    (go_at_call 15; refine (Gauss.Div_calls x z _).mono ?_; rintro e w3 ⟨rfl, hb⟩; obtain ⟨hc_w3, hf_w3⟩ := bcell hb; have hz_w3 := hb.size; (try simp only [World.size_alloc] at hz_w3); (try have hy0_w3 : w.heap.size < w3.heap.size := by omega); (try have hy1_w3 : w.heap.size + 1 < w3.heap.size := by omega); (try have hy2_w3 : w.heap.size + 1 + 1 < w3.heap.size := by omega); (try have hyA_w3 : w.heap.size < w3.heap.size + 1 := by omega); (try have hyB_w3 : w.heap.size + 1 < w3.heap.size + 1 := by omega); (try have hyC_w3 : w.heap.size + 1 + 1 < w3.heap.size + 1 := by omega); have hb_w3 := Lib.hid hb; clear hb)
    have X0_w3 : Has w3 w.heap.size #[.int .i64 x.1, .int .i64 x.2] 23 := by
      refine Has.below' ?_ hb_w3.out
      (repeat (first | (with_reducible assumption) | (with_reducible exact Has.new _ _ _) | (with_reducible exact Has.new' (by first | rfl | (simp; done) | (simp; omega)) _ _) | (with_reducible apply Has.alloc) | (with_reducible apply Has.mix) | (with_reducible apply Has.drew) | (with_reducible apply Has.drewN) | (with_reducible apply Has.set_same) | (with_reducible apply Has.set_other (hp := (by first | (simp; done) | (simp; omega) | omega))) | (with_reducible rfl) | rfl))
    have X1_w3 : Has w3 (w.heap.size + 1) #[.int .i64 y.1, .int .i64 y.2] 23 := by
      refine Has.below' ?_ hb_w3.out
      (repeat (first | (with_reducible assumption) | (with_reducible exact Has.new _ _ _) | (with_reducible exact Has.new' (by first | rfl | (simp; done) | (simp; omega)) _ _) | (with_reducible apply Has.alloc) | (with_reducible apply Has.mix) | (with_reducible apply Has.drew) | (with_reducible apply Has.drewN) | (with_reducible apply Has.set_same) | (with_reducible apply Has.set_other (hp := (by first | (simp; done) | (simp; omega) | omega))) | (with_reducible rfl) | rfl))
    have X2_w3 : Has w3 (w.heap.size + 1 + 1) #[.int .i64 z.1, .int .i64 z.2] 23 := by
      refine Has.below' ?_ hb_w3.out
      (repeat (first | (with_reducible assumption) | (with_reducible exact Has.new _ _ _) | (with_reducible exact Has.new' (by first | rfl | (simp; done) | (simp; omega)) _ _) | (with_reducible apply Has.alloc) | (with_reducible apply Has.mix) | (with_reducible apply Has.drew) | (with_reducible apply Has.drewN) | (with_reducible apply Has.set_same) | (with_reducible apply Has.set_other (hp := (by first | (simp; done) | (simp; omega) | omega))) | (with_reducible rfl) | rfl))
    have HB := HW.out
    have HW := Lib.hid (show Below w.heap.size w w3 from Below.trans (by (repeat (first | (with_reducible assumption) | (with_reducible exact Below.refl _ _) | (with_reducible refine grow_alloc ?_ _) | (with_reducible refine grow_mix ?_ _) | (with_reducible refine grow_drew ?_) | (with_reducible refine grow_drewN ?_ _) | (with_reducible refine grow_set ?_ (by first | (simp; done) | (simp; omega) | omega) _)))) (hb_w3.out.mono (by first | omega | (simp; done) | (simp; omega))))
    clear hc_w3 hf_w3 HB
    have X0_w3_c0 := X0_w3.cell 0
    have X0_w3_c1 := X0_w3.cell 1
    have X0_w3_f := X0_w3.frozen
    have X0_w3_l := X0_w3.lt
    simp only [List.size_toArray, List.length_cons, List.length_nil, Nat.reduceAdd, Nat.zero_lt_succ, Nat.one_lt_succ_succ, Nat.reduceLT, getElem?_pos, List.getElem_toArray, List.getElem_cons_zero, List.getElem_cons_succ] at X0_w3_c0 X0_w3_c1
    have X0_n : w.heap.size ≠ w3.heap.size := by omega
    have X0_m : w3.heap.size ≠ w.heap.size := by omega
    have X1_w3_c0 := X1_w3.cell 0
    have X1_w3_c1 := X1_w3.cell 1
    have X1_w3_f := X1_w3.frozen
    have X1_w3_l := X1_w3.lt
    simp only [List.size_toArray, List.length_cons, List.length_nil, Nat.reduceAdd, Nat.zero_lt_succ, Nat.one_lt_succ_succ, Nat.reduceLT, getElem?_pos, List.getElem_toArray, List.getElem_cons_zero, List.getElem_cons_succ] at X1_w3_c0 X1_w3_c1
    have X1_n : (w.heap.size + 1) ≠ w3.heap.size := by omega
    have X1_m : w3.heap.size ≠ (w.heap.size + 1) := by omega
    have X2_w3_c0 := X2_w3.cell 0
    have X2_w3_c1 := X2_w3.cell 1
    have X2_w3_f := X2_w3.frozen
    have X2_w3_l := X2_w3.lt
    simp only [List.size_toArray, List.length_cons, List.length_nil, Nat.reduceAdd, Nat.zero_lt_succ, Nat.one_lt_succ_succ, Nat.reduceLT, getElem?_pos, List.getElem_toArray, List.getElem_cons_zero, List.getElem_cons_succ] at X2_w3_c0 X2_w3_c1
    have X2_n : (w.heap.size + 1 + 1) ≠ w3.heap.size := by omega
    have X2_m : w3.heap.size ≠ (w.heap.size + 1 + 1) := by omega
    go_wp2_with fail
    (go_at_call 15; refine (Gauss.Div_calls y z _).mono ?_; rintro e w5 ⟨rfl, hb⟩; obtain ⟨hc_w5, hf_w5⟩ := bcell hb; have hz_w5 := hb.size; (try simp only [World.size_alloc] at hz_w5); (try have hy0_w5 : w.heap.size < w5.heap.size := by omega); (try have hy1_w5 : w.heap.size + 1 < w5.heap.size := by omega); (try have hy2_w5 : w.heap.size + 1 + 1 < w5.heap.size := by omega); (try have hyA_w5 : w.heap.size < w5.heap.size + 1 := by omega); (try have hyB_w5 : w.heap.size + 1 < w5.heap.size + 1 := by omega); (try have hyC_w5 : w.heap.size + 1 + 1 < w5.heap.size + 1 := by omega); have hb_w5 := Lib.hid hb; clear hb)
    have Z0_w5 : Has w5 w.heap.size #[.int .i64 x.1, .int .i64 x.2] 23 := by
      refine Has.below' ?_ hb_w5.out
      (repeat (first | (with_reducible assumption) | (with_reducible exact Has.new _ _ _) | (with_reducible exact Has.new' (by first | rfl | (simp; done) | (simp; omega)) _ _) | (with_reducible apply Has.alloc) | (with_reducible apply Has.mix) | (with_reducible apply Has.drew) | (with_reducible apply Has.drewN) | (with_reducible apply Has.set_same) | (with_reducible apply Has.set_other (hp := (by first | (simp; done) | (simp; omega) | omega))) | (with_reducible rfl) | rfl))
    have Z1_w5 : Has w5 (w.heap.size + 1) #[.int .i64 y.1, .int .i64 y.2] 23 := by
      refine Has.below' ?_ hb_w5.out
      (repeat (first | (with_reducible assumption) | (with_reducible exact Has.new _ _ _) | (with_reducible exact Has.new' (by first | rfl | (simp; done) | (simp; omega)) _ _) | (with_reducible apply Has.alloc) | (with_reducible apply Has.mix) | (with_reducible apply Has.drew) | (with_reducible apply Has.drewN) | (with_reducible apply Has.set_same) | (with_reducible apply Has.set_other (hp := (by first | (simp; done) | (simp; omega) | omega))) | (with_reducible rfl) | rfl))
    have Z2_w5 : Has w5 (w.heap.size + 1 + 1) #[.int .i64 z.1, .int .i64 z.2] 23 := by
      refine Has.below' ?_ hb_w5.out
      (repeat (first | (with_reducible assumption) | (with_reducible exact Has.new _ _ _) | (with_reducible exact Has.new' (by first | rfl | (simp; done) | (simp; omega)) _ _) | (with_reducible apply Has.alloc) | (with_reducible apply Has.mix) | (with_reducible apply Has.drew) | (with_reducible apply Has.drewN) | (with_reducible apply Has.set_same) | (with_reducible apply Has.set_other (hp := (by first | (simp; done) | (simp; omega) | omega))) | (with_reducible rfl) | rfl))
    have Z3_w5 : Has w5 w3.heap.size #[.int .i64 (divV x z).1, .int .i64 (divV x z).2] 23 := by
      refine Has.below' ?_ hb_w5.out
      (repeat (first | (with_reducible assumption) | (with_reducible exact Has.new _ _ _) | (with_reducible exact Has.new' (by first | rfl | (simp; done) | (simp; omega)) _ _) | (with_reducible apply Has.alloc) | (with_reducible apply Has.mix) | (with_reducible apply Has.drew) | (with_reducible apply Has.drewN) | (with_reducible apply Has.set_same) | (with_reducible apply Has.set_other (hp := (by first | (simp; done) | (simp; omega) | omega))) | (with_reducible rfl) | rfl))
    have HB := HW.out
    have HW := Lib.hid (show Below w.heap.size w w5 from Below.trans (by (repeat (first | (with_reducible assumption) | (with_reducible exact Below.refl _ _) | (with_reducible refine grow_alloc ?_ _) | (with_reducible refine grow_mix ?_ _) | (with_reducible refine grow_drew ?_) | (with_reducible refine grow_drewN ?_ _) | (with_reducible refine grow_set ?_ (by first | (simp; done) | (simp; omega) | omega) _)))) (hb_w5.out.mono (by first | omega | (simp; done) | (simp; omega))))
    clear hc_w5 hf_w5 HB
    have Z0_w5_c0 := Z0_w5.cell 0
    have Z0_w5_c1 := Z0_w5.cell 1
    have Z0_w5_f := Z0_w5.frozen
    have Z0_w5_l := Z0_w5.lt
    simp only [List.size_toArray, List.length_cons, List.length_nil, Nat.reduceAdd, Nat.zero_lt_succ, Nat.one_lt_succ_succ, Nat.reduceLT, getElem?_pos, List.getElem_toArray, List.getElem_cons_zero, List.getElem_cons_succ] at Z0_w5_c0 Z0_w5_c1
    have Z0_n : w.heap.size ≠ w5.heap.size := by omega
    have Z0_m : w5.heap.size ≠ w.heap.size := by omega
    have Z1_w5_c0 := Z1_w5.cell 0
    have Z1_w5_c1 := Z1_w5.cell 1
    have Z1_w5_f := Z1_w5.frozen
    have Z1_w5_l := Z1_w5.lt
    simp only [List.size_toArray, List.length_cons, List.length_nil, Nat.reduceAdd, Nat.zero_lt_succ, Nat.one_lt_succ_succ, Nat.reduceLT, getElem?_pos, List.getElem_toArray, List.getElem_cons_zero, List.getElem_cons_succ] at Z1_w5_c0 Z1_w5_c1
    have Z1_n : (w.heap.size + 1) ≠ w5.heap.size := by omega
    have Z1_m : w5.heap.size ≠ (w.heap.size + 1) := by omega
    have Z2_w5_c0 := Z2_w5.cell 0
    have Z2_w5_c1 := Z2_w5.cell 1
    have Z2_w5_f := Z2_w5.frozen
    have Z2_w5_l := Z2_w5.lt
    simp only [List.size_toArray, List.length_cons, List.length_nil, Nat.reduceAdd, Nat.zero_lt_succ, Nat.one_lt_succ_succ, Nat.reduceLT, getElem?_pos, List.getElem_toArray, List.getElem_cons_zero, List.getElem_cons_succ] at Z2_w5_c0 Z2_w5_c1
    have Z2_n : (w.heap.size + 1 + 1) ≠ w5.heap.size := by omega
    have Z2_m : w5.heap.size ≠ (w.heap.size + 1 + 1) := by omega
    have Z3_w5_c0 := Z3_w5.cell 0
    have Z3_w5_c1 := Z3_w5.cell 1
    have Z3_w5_f := Z3_w5.frozen
    have Z3_w5_l := Z3_w5.lt
    simp only [List.size_toArray, List.length_cons, List.length_nil, Nat.reduceAdd, Nat.zero_lt_succ, Nat.one_lt_succ_succ, Nat.reduceLT, getElem?_pos, List.getElem_toArray, List.getElem_cons_zero, List.getElem_cons_succ] at Z3_w5_c0 Z3_w5_c1
    have Z3_n : w3.heap.size ≠ w5.heap.size := by omega
    have Z3_m : w5.heap.size ≠ w3.heap.size := by omega
    go_wp2_with fail
    refine wp_at (fun W => Has W w.heap.size #[.int .i64 x.1, .int .i64 x.2] 23 ∧ Has W (w.heap.size + 1) #[.int .i64 y.1, .int .i64 y.2] 23 ∧ Has W (w.heap.size + 1 + 1) #[.int .i64 z.1, .int .i64 z.2] 23 ∧ Has W w3.heap.size #[.int .i64 (divV x z).1, .int .i64 (divV x z).2] 23 ∧ Has W w5.heap.size #[.int .i64 (divV y z).1, .int .i64 (divV y z).2] 23 ∧ Below w.heap.size w W) ⟨by (repeat (first | (with_reducible assumption) | (with_reducible exact Has.new _ _ _) | (with_reducible exact Has.new' (by first | rfl | (simp; done) | (simp; omega)) _ _) | (with_reducible apply Has.alloc) | (with_reducible apply Has.mix) | (with_reducible apply Has.drew) | (with_reducible apply Has.drewN) | (with_reducible apply Has.set_same) | (with_reducible apply Has.set_other (hp := (by first | (simp; done) | (simp; omega) | omega))) | (with_reducible rfl) | rfl)), by (repeat (first | (with_reducible assumption) | (with_reducible exact Has.new _ _ _) | (with_reducible exact Has.new' (by first | rfl | (simp; done) | (simp; omega)) _ _) | (with_reducible apply Has.alloc) | (with_reducible apply Has.mix) | (with_reducible apply Has.drew) | (with_reducible apply Has.drewN) | (with_reducible apply Has.set_same) | (with_reducible apply Has.set_other (hp := (by first | (simp; done) | (simp; omega) | omega))) | (with_reducible rfl) | rfl)), by (repeat (first | (with_reducible assumption) | (with_reducible exact Has.new _ _ _) | (with_reducible exact Has.new' (by first | rfl | (simp; done) | (simp; omega)) _ _) | (with_reducible apply Has.alloc) | (with_reducible apply Has.mix) | (with_reducible apply Has.drew) | (with_reducible apply Has.drewN) | (with_reducible apply Has.set_same) | (with_reducible apply Has.set_other (hp := (by first | (simp; done) | (simp; omega) | omega))) | (with_reducible rfl) | rfl)), by (repeat (first | (with_reducible assumption) | (with_reducible exact Has.new _ _ _) | (with_reducible exact Has.new' (by first | rfl | (simp; done) | (simp; omega)) _ _) | (with_reducible apply Has.alloc) | (with_reducible apply Has.mix) | (with_reducible apply Has.drew) | (with_reducible apply Has.drewN) | (with_reducible apply Has.set_same) | (with_reducible apply Has.set_other (hp := (by first | (simp; done) | (simp; omega) | omega))) | (with_reducible rfl) | rfl)), by (repeat (first | (with_reducible assumption) | (with_reducible exact Has.new _ _ _) | (with_reducible exact Has.new' (by first | rfl | (simp; done) | (simp; omega)) _ _) | (with_reducible apply Has.alloc) | (with_reducible apply Has.mix) | (with_reducible apply Has.drew) | (with_reducible apply Has.drewN) | (with_reducible apply Has.set_same) | (with_reducible apply Has.set_other (hp := (by first | (simp; done) | (simp; omega) | omega))) | (with_reducible rfl) | rfl)), by (try have HBB := HW.out); (repeat (first | (with_reducible assumption) | (with_reducible exact Below.refl _ _) | (with_reducible refine grow_alloc ?_ _) | (with_reducible refine grow_mix ?_ _) | (with_reducible refine grow_drew ?_) | (with_reducible refine grow_drewN ?_ _) | (with_reducible refine grow_set ?_ (by first | (simp; done) | (simp; omega) | omega) _)))⟩ ?_
    rintro w6 ⟨U0, U1, U2, U3, U4, hW⟩
    have hz_w6 := hW.size
    have HW := Lib.hid hW
    clear hW
    have U0_c0 := U0.cell 0
    have U0_c1 := U0.cell 1
    have U0_f := U0.frozen
    have U0_l := U0.lt
    simp only [List.size_toArray, List.length_cons, List.length_nil, Nat.reduceAdd, Nat.zero_lt_succ, Nat.one_lt_succ_succ, Nat.reduceLT, getElem?_pos, List.getElem_toArray, List.getElem_cons_zero, List.getElem_cons_succ] at U0_c0 U0_c1
    (try have n_U0 : w.heap.size ≠ w6.heap.size := by omega)
    (try have m_U0 : w6.heap.size ≠ w.heap.size := by omega)
    (try have u_U0 : w.heap.size < w6.heap.size + 1 := by omega)
    have U1_c0 := U1.cell 0
    have U1_c1 := U1.cell 1
    have U1_f := U1.frozen
    have U1_l := U1.lt
    simp only [List.size_toArray, List.length_cons, List.length_nil, Nat.reduceAdd, Nat.zero_lt_succ, Nat.one_lt_succ_succ, Nat.reduceLT, getElem?_pos, List.getElem_toArray, List.getElem_cons_zero, List.getElem_cons_succ] at U1_c0 U1_c1
    (try have n_U1 : (w.heap.size + 1) ≠ w6.heap.size := by omega)
    (try have m_U1 : w6.heap.size ≠ (w.heap.size + 1) := by omega)
    (try have u_U1 : (w.heap.size + 1) < w6.heap.size + 1 := by omega)
    have U2_c0 := U2.cell 0
    have U2_c1 := U2.cell 1
    have U2_f := U2.frozen
    have U2_l := U2.lt
    simp only [List.size_toArray, List.length_cons, List.length_nil, Nat.reduceAdd, Nat.zero_lt_succ, Nat.one_lt_succ_succ, Nat.reduceLT, getElem?_pos, List.getElem_toArray, List.getElem_cons_zero, List.getElem_cons_succ] at U2_c0 U2_c1
    (try have n_U2 : (w.heap.size + 1 + 1) ≠ w6.heap.size := by omega)
    (try have m_U2 : w6.heap.size ≠ (w.heap.size + 1 + 1) := by omega)
    (try have u_U2 : (w.heap.size + 1 + 1) < w6.heap.size + 1 := by omega)
    have U3_c0 := U3.cell 0
    have U3_c1 := U3.cell 1
    have U3_f := U3.frozen
    have U3_l := U3.lt
    simp only [List.size_toArray, List.length_cons, List.length_nil, Nat.reduceAdd, Nat.zero_lt_succ, Nat.one_lt_succ_succ, Nat.reduceLT, getElem?_pos, List.getElem_toArray, List.getElem_cons_zero, List.getElem_cons_succ] at U3_c0 U3_c1
    (try have n_U3 : w3.heap.size ≠ w6.heap.size := by omega)
    (try have m_U3 : w6.heap.size ≠ w3.heap.size := by omega)
    (try have u_U3 : w3.heap.size < w6.heap.size + 1 := by omega)
    have U4_c0 := U4.cell 0
    have U4_c1 := U4.cell 1
    have U4_f := U4.frozen
    have U4_l := U4.lt
    simp only [List.size_toArray, List.length_cons, List.length_nil, Nat.reduceAdd, Nat.zero_lt_succ, Nat.one_lt_succ_succ, Nat.reduceLT, getElem?_pos, List.getElem_toArray, List.getElem_cons_zero, List.getElem_cons_succ] at U4_c0 U4_c1
    (try have n_U4 : w5.heap.size ≠ w6.heap.size := by omega)
    (try have m_U4 : w6.heap.size ≠ w5.heap.size := by omega)
    (try have u_U4 : w5.heap.size < w6.heap.size + 1 := by omega)
    have TW := Lib.hid (fun x => TT.out (mix w6 x) (by have HBB := HW.out; (repeat (first | (with_reducible assumption) | (with_reducible exact Below.refl _ _) | (with_reducible refine grow_alloc ?_ _) | (with_reducible refine grow_mix ?_ _) | (with_reducible refine grow_drew ?_) | (with_reducible refine grow_drewN ?_ _) | (with_reducible refine grow_set ?_ (by first | (simp; done) | (simp; omega) | omega) _)))))
    go_wp2_with fail
    refine wp_region_mix 38 (by kernel_rfl) (by kernel_rfl) ?_
    simp only [List.take_succ_cons, List.take_zero, List.drop_succ_cons, List.drop_zero]
    repeat (go_big_quiet_step ((first | (go_at_call 18; (with_reducible exact mix_call (Add_calls _ _ _))) | (go_at_call 20; (with_reducible exact mix_call (Sub_calls _ _ _))) | (go_at_call 14; (with_reducible exact mix_call (Mul_calls _ _ _))) | (go_at_call 23; (with_reducible exact mix_call (Conj_calls _ _))) | (go_at_call 16; (with_reducible exact mix_call (Text_calls _ _ (TW.out _)))))))
    refine wpQuiet_nil ?_
    intro _ hmix
    (try (with_reducible replace hmix := mix_flat hmix))
    obtain ⟨x1, hmix'⟩ := hmix
    have hz := mix_size' hmix'
    subst hmix'
    (try simp only [World.size_alloc, World.size_setCell, World.size_drew] at hz); (try have q0 : w.heap.size < _ := Nat.lt_of_lt_of_le (by omega) hz); (try have q1 : w.heap.size + 1 < _ := Nat.lt_of_lt_of_le (by omega) hz); (try have q2 : w.heap.size + 1 + 1 < _ := Nat.lt_of_lt_of_le (by omega) hz); (try have q3 : w.heap.size + 1 + 1 + 1 < _ := Nat.lt_of_lt_of_le (by omega) hz)
    go_wp2
    go_ret
    have HB := HW.out
    exact ⟨rfl, HB.trans (Below.mono (by (repeat (first | (with_reducible assumption) | (with_reducible exact Below.refl _ _) | (with_reducible refine grow_alloc ?_ _) | (with_reducible refine grow_mix ?_ _) | (with_reducible refine grow_drew ?_) | (with_reducible refine grow_drewN ?_ _) | (with_reducible refine grow_set ?_ (by first | (simp; done) | (simp; omega) | omega) _)))) (by omega))⟩
  ·
    go_wp2_with fail
    refine wp_region_mix_all (by kernel_rfl) (by kernel_rfl) ?_
    repeat (go_big_quiet_step ((first | (go_at_call 18; (with_reducible exact mix_call (Add_calls _ _ _))) | (go_at_call 20; (with_reducible exact mix_call (Sub_calls _ _ _))) | (go_at_call 14; (with_reducible exact mix_call (Mul_calls _ _ _))) | (go_at_call 23; (with_reducible exact mix_call (Conj_calls _ _))))))
    refine wpQuiet_nil ?_
    intro _ hmix
    (try (with_reducible replace hmix := mix_flat hmix))
    obtain ⟨x1, hmix'⟩ := hmix
    have hz := mix_size' hmix'
    subst hmix'
    (try simp only [World.size_alloc, World.size_setCell, World.size_drew] at hz); (try have q0 : w.heap.size < _ := Nat.lt_of_lt_of_le (by omega) hz); (try have q1 : w.heap.size + 1 < _ := Nat.lt_of_lt_of_le (by omega) hz); (try have q2 : w.heap.size + 1 + 1 < _ := Nat.lt_of_lt_of_le (by omega) hz); (try have q3 : w.heap.size + 1 + 1 + 1 < _ := Nat.lt_of_lt_of_le (by omega) hz)
    go_wp2_with fail
    (go_at_call 15; refine (Gauss.Div_calls x z _).mono ?_; rintro e w3 ⟨rfl, hb⟩; obtain ⟨hc_w3, hf_w3⟩ := bcell hb; have hz_w3 := hb.size; (try simp only [World.size_alloc] at hz_w3); (try have hy0_w3 : w.heap.size < w3.heap.size := by omega); (try have hy1_w3 : w.heap.size + 1 < w3.heap.size := by omega); (try have hy2_w3 : w.heap.size + 1 + 1 < w3.heap.size := by omega); (try have hyA_w3 : w.heap.size < w3.heap.size + 1 := by omega); (try have hyB_w3 : w.heap.size + 1 < w3.heap.size + 1 := by omega); (try have hyC_w3 : w.heap.size + 1 + 1 < w3.heap.size + 1 := by omega); have hb_w3 := Lib.hid hb; clear hb)
    have X0_w3 : Has w3 w.heap.size #[.int .i64 x.1, .int .i64 x.2] 23 := by
      refine Has.below' ?_ hb_w3.out
      (repeat (first | (with_reducible assumption) | (with_reducible exact Has.new _ _ _) | (with_reducible exact Has.new' (by first | rfl | (simp; done) | (simp; omega)) _ _) | (with_reducible apply Has.alloc) | (with_reducible apply Has.mix) | (with_reducible apply Has.drew) | (with_reducible apply Has.drewN) | (with_reducible apply Has.set_same) | (with_reducible apply Has.set_other (hp := (by first | (simp; done) | (simp; omega) | omega))) | (with_reducible rfl) | rfl))
    have X1_w3 : Has w3 (w.heap.size + 1) #[.int .i64 y.1, .int .i64 y.2] 23 := by
      refine Has.below' ?_ hb_w3.out
      (repeat (first | (with_reducible assumption) | (with_reducible exact Has.new _ _ _) | (with_reducible exact Has.new' (by first | rfl | (simp; done) | (simp; omega)) _ _) | (with_reducible apply Has.alloc) | (with_reducible apply Has.mix) | (with_reducible apply Has.drew) | (with_reducible apply Has.drewN) | (with_reducible apply Has.set_same) | (with_reducible apply Has.set_other (hp := (by first | (simp; done) | (simp; omega) | omega))) | (with_reducible rfl) | rfl))
    have X2_w3 : Has w3 (w.heap.size + 1 + 1) #[.int .i64 z.1, .int .i64 z.2] 23 := by
      refine Has.below' ?_ hb_w3.out
      (repeat (first | (with_reducible assumption) | (with_reducible exact Has.new _ _ _) | (with_reducible exact Has.new' (by first | rfl | (simp; done) | (simp; omega)) _ _) | (with_reducible apply Has.alloc) | (with_reducible apply Has.mix) | (with_reducible apply Has.drew) | (with_reducible apply Has.drewN) | (with_reducible apply Has.set_same) | (with_reducible apply Has.set_other (hp := (by first | (simp; done) | (simp; omega) | omega))) | (with_reducible rfl) | rfl))
    have HB := HW.out
    have HW := Lib.hid (show Below w.heap.size w w3 from Below.trans (by (repeat (first | (with_reducible assumption) | (with_reducible exact Below.refl _ _) | (with_reducible refine grow_alloc ?_ _) | (with_reducible refine grow_mix ?_ _) | (with_reducible refine grow_drew ?_) | (with_reducible refine grow_drewN ?_ _) | (with_reducible refine grow_set ?_ (by first | (simp; done) | (simp; omega) | omega) _)))) (hb_w3.out.mono (by first | omega | (simp; done) | (simp; omega))))
    clear hc_w3 hf_w3 HB
    have X0_w3_c0 := X0_w3.cell 0
    have X0_w3_c1 := X0_w3.cell 1
    have X0_w3_f := X0_w3.frozen
    have X0_w3_l := X0_w3.lt
    simp only [List.size_toArray, List.length_cons, List.length_nil, Nat.reduceAdd, Nat.zero_lt_succ, Nat.one_lt_succ_succ, Nat.reduceLT, getElem?_pos, List.getElem_toArray, List.getElem_cons_zero, List.getElem_cons_succ] at X0_w3_c0 X0_w3_c1
    have X0_n : w.heap.size ≠ w3.heap.size := by omega
    have X0_m : w3.heap.size ≠ w.heap.size := by omega
    have X1_w3_c0 := X1_w3.cell 0
    have X1_w3_c1 := X1_w3.cell 1
    have X1_w3_f := X1_w3.frozen
    have X1_w3_l := X1_w3.lt
    simp only [List.size_toArray, List.length_cons, List.length_nil, Nat.reduceAdd, Nat.zero_lt_succ, Nat.one_lt_succ_succ, Nat.reduceLT, getElem?_pos, List.getElem_toArray, List.getElem_cons_zero, List.getElem_cons_succ] at X1_w3_c0 X1_w3_c1
    have X1_n : (w.heap.size + 1) ≠ w3.heap.size := by omega
    have X1_m : w3.heap.size ≠ (w.heap.size + 1) := by omega
    have X2_w3_c0 := X2_w3.cell 0
    have X2_w3_c1 := X2_w3.cell 1
    have X2_w3_f := X2_w3.frozen
    have X2_w3_l := X2_w3.lt
    simp only [List.size_toArray, List.length_cons, List.length_nil, Nat.reduceAdd, Nat.zero_lt_succ, Nat.one_lt_succ_succ, Nat.reduceLT, getElem?_pos, List.getElem_toArray, List.getElem_cons_zero, List.getElem_cons_succ] at X2_w3_c0 X2_w3_c1
    have X2_n : (w.heap.size + 1 + 1) ≠ w3.heap.size := by omega
    have X2_m : w3.heap.size ≠ (w.heap.size + 1 + 1) := by omega
    go_wp2_with fail
    (go_at_call 15; refine (Gauss.Div_calls y z _).mono ?_; rintro e w5 ⟨rfl, hb⟩; obtain ⟨hc_w5, hf_w5⟩ := bcell hb; have hz_w5 := hb.size; (try simp only [World.size_alloc] at hz_w5); (try have hy0_w5 : w.heap.size < w5.heap.size := by omega); (try have hy1_w5 : w.heap.size + 1 < w5.heap.size := by omega); (try have hy2_w5 : w.heap.size + 1 + 1 < w5.heap.size := by omega); (try have hyA_w5 : w.heap.size < w5.heap.size + 1 := by omega); (try have hyB_w5 : w.heap.size + 1 < w5.heap.size + 1 := by omega); (try have hyC_w5 : w.heap.size + 1 + 1 < w5.heap.size + 1 := by omega); have hb_w5 := Lib.hid hb; clear hb)
    have Z0_w5 : Has w5 w.heap.size #[.int .i64 x.1, .int .i64 x.2] 23 := by
      refine Has.below' ?_ hb_w5.out
      (repeat (first | (with_reducible assumption) | (with_reducible exact Has.new _ _ _) | (with_reducible exact Has.new' (by first | rfl | (simp; done) | (simp; omega)) _ _) | (with_reducible apply Has.alloc) | (with_reducible apply Has.mix) | (with_reducible apply Has.drew) | (with_reducible apply Has.drewN) | (with_reducible apply Has.set_same) | (with_reducible apply Has.set_other (hp := (by first | (simp; done) | (simp; omega) | omega))) | (with_reducible rfl) | rfl))
    have Z1_w5 : Has w5 (w.heap.size + 1) #[.int .i64 y.1, .int .i64 y.2] 23 := by
      refine Has.below' ?_ hb_w5.out
      (repeat (first | (with_reducible assumption) | (with_reducible exact Has.new _ _ _) | (with_reducible exact Has.new' (by first | rfl | (simp; done) | (simp; omega)) _ _) | (with_reducible apply Has.alloc) | (with_reducible apply Has.mix) | (with_reducible apply Has.drew) | (with_reducible apply Has.drewN) | (with_reducible apply Has.set_same) | (with_reducible apply Has.set_other (hp := (by first | (simp; done) | (simp; omega) | omega))) | (with_reducible rfl) | rfl))
    have Z2_w5 : Has w5 (w.heap.size + 1 + 1) #[.int .i64 z.1, .int .i64 z.2] 23 := by
      refine Has.below' ?_ hb_w5.out
      (repeat (first | (with_reducible assumption) | (with_reducible exact Has.new _ _ _) | (with_reducible exact Has.new' (by first | rfl | (simp; done) | (simp; omega)) _ _) | (with_reducible apply Has.alloc) | (with_reducible apply Has.mix) | (with_reducible apply Has.drew) | (with_reducible apply Has.drewN) | (with_reducible apply Has.set_same) | (with_reducible apply Has.set_other (hp := (by first | (simp; done) | (simp; omega) | omega))) | (with_reducible rfl) | rfl))
    have Z3_w5 : Has w5 w3.heap.size #[.int .i64 (divV x z).1, .int .i64 (divV x z).2] 23 := by
      refine Has.below' ?_ hb_w5.out
      (repeat (first | (with_reducible assumption) | (with_reducible exact Has.new _ _ _) | (with_reducible exact Has.new' (by first | rfl | (simp; done) | (simp; omega)) _ _) | (with_reducible apply Has.alloc) | (with_reducible apply Has.mix) | (with_reducible apply Has.drew) | (with_reducible apply Has.drewN) | (with_reducible apply Has.set_same) | (with_reducible apply Has.set_other (hp := (by first | (simp; done) | (simp; omega) | omega))) | (with_reducible rfl) | rfl))
    have HB := HW.out
    have HW := Lib.hid (show Below w.heap.size w w5 from Below.trans (by (repeat (first | (with_reducible assumption) | (with_reducible exact Below.refl _ _) | (with_reducible refine grow_alloc ?_ _) | (with_reducible refine grow_mix ?_ _) | (with_reducible refine grow_drew ?_) | (with_reducible refine grow_drewN ?_ _) | (with_reducible refine grow_set ?_ (by first | (simp; done) | (simp; omega) | omega) _)))) (hb_w5.out.mono (by first | omega | (simp; done) | (simp; omega))))
    clear hc_w5 hf_w5 HB
    have Z0_w5_c0 := Z0_w5.cell 0
    have Z0_w5_c1 := Z0_w5.cell 1
    have Z0_w5_f := Z0_w5.frozen
    have Z0_w5_l := Z0_w5.lt
    simp only [List.size_toArray, List.length_cons, List.length_nil, Nat.reduceAdd, Nat.zero_lt_succ, Nat.one_lt_succ_succ, Nat.reduceLT, getElem?_pos, List.getElem_toArray, List.getElem_cons_zero, List.getElem_cons_succ] at Z0_w5_c0 Z0_w5_c1
    have Z0_n : w.heap.size ≠ w5.heap.size := by omega
    have Z0_m : w5.heap.size ≠ w.heap.size := by omega
    have Z1_w5_c0 := Z1_w5.cell 0
    have Z1_w5_c1 := Z1_w5.cell 1
    have Z1_w5_f := Z1_w5.frozen
    have Z1_w5_l := Z1_w5.lt
    simp only [List.size_toArray, List.length_cons, List.length_nil, Nat.reduceAdd, Nat.zero_lt_succ, Nat.one_lt_succ_succ, Nat.reduceLT, getElem?_pos, List.getElem_toArray, List.getElem_cons_zero, List.getElem_cons_succ] at Z1_w5_c0 Z1_w5_c1
    have Z1_n : (w.heap.size + 1) ≠ w5.heap.size := by omega
    have Z1_m : w5.heap.size ≠ (w.heap.size + 1) := by omega
    have Z2_w5_c0 := Z2_w5.cell 0
    have Z2_w5_c1 := Z2_w5.cell 1
    have Z2_w5_f := Z2_w5.frozen
    have Z2_w5_l := Z2_w5.lt
    simp only [List.size_toArray, List.length_cons, List.length_nil, Nat.reduceAdd, Nat.zero_lt_succ, Nat.one_lt_succ_succ, Nat.reduceLT, getElem?_pos, List.getElem_toArray, List.getElem_cons_zero, List.getElem_cons_succ] at Z2_w5_c0 Z2_w5_c1
    have Z2_n : (w.heap.size + 1 + 1) ≠ w5.heap.size := by omega
    have Z2_m : w5.heap.size ≠ (w.heap.size + 1 + 1) := by omega
    have Z3_w5_c0 := Z3_w5.cell 0
    have Z3_w5_c1 := Z3_w5.cell 1
    have Z3_w5_f := Z3_w5.frozen
    have Z3_w5_l := Z3_w5.lt
    simp only [List.size_toArray, List.length_cons, List.length_nil, Nat.reduceAdd, Nat.zero_lt_succ, Nat.one_lt_succ_succ, Nat.reduceLT, getElem?_pos, List.getElem_toArray, List.getElem_cons_zero, List.getElem_cons_succ] at Z3_w5_c0 Z3_w5_c1
    have Z3_n : w3.heap.size ≠ w5.heap.size := by omega
    have Z3_m : w5.heap.size ≠ w3.heap.size := by omega
    go_wp2_with fail
    refine wp_at (fun W => Has W w.heap.size #[.int .i64 x.1, .int .i64 x.2] 23 ∧ Has W (w.heap.size + 1) #[.int .i64 y.1, .int .i64 y.2] 23 ∧ Has W (w.heap.size + 1 + 1) #[.int .i64 z.1, .int .i64 z.2] 23 ∧ Has W w3.heap.size #[.int .i64 (divV x z).1, .int .i64 (divV x z).2] 23 ∧ Has W w5.heap.size #[.int .i64 (divV y z).1, .int .i64 (divV y z).2] 23 ∧ Below w.heap.size w W) ⟨by (repeat (first | (with_reducible assumption) | (with_reducible exact Has.new _ _ _) | (with_reducible exact Has.new' (by first | rfl | (simp; done) | (simp; omega)) _ _) | (with_reducible apply Has.alloc) | (with_reducible apply Has.mix) | (with_reducible apply Has.drew) | (with_reducible apply Has.drewN) | (with_reducible apply Has.set_same) | (with_reducible apply Has.set_other (hp := (by first | (simp; done) | (simp; omega) | omega))) | (with_reducible rfl) | rfl)), by (repeat (first | (with_reducible assumption) | (with_reducible exact Has.new _ _ _) | (with_reducible exact Has.new' (by first | rfl | (simp; done) | (simp; omega)) _ _) | (with_reducible apply Has.alloc) | (with_reducible apply Has.mix) | (with_reducible apply Has.drew) | (with_reducible apply Has.drewN) | (with_reducible apply Has.set_same) | (with_reducible apply Has.set_other (hp := (by first | (simp; done) | (simp; omega) | omega))) | (with_reducible rfl) | rfl)), by (repeat (first | (with_reducible assumption) | (with_reducible exact Has.new _ _ _) | (with_reducible exact Has.new' (by first | rfl | (simp; done) | (simp; omega)) _ _) | (with_reducible apply Has.alloc) | (with_reducible apply Has.mix) | (with_reducible apply Has.drew) | (with_reducible apply Has.drewN) | (with_reducible apply Has.set_same) | (with_reducible apply Has.set_other (hp := (by first | (simp; done) | (simp; omega) | omega))) | (with_reducible rfl) | rfl)), by (repeat (first | (with_reducible assumption) | (with_reducible exact Has.new _ _ _) | (with_reducible exact Has.new' (by first | rfl | (simp; done) | (simp; omega)) _ _) | (with_reducible apply Has.alloc) | (with_reducible apply Has.mix) | (with_reducible apply Has.drew) | (with_reducible apply Has.drewN) | (with_reducible apply Has.set_same) | (with_reducible apply Has.set_other (hp := (by first | (simp; done) | (simp; omega) | omega))) | (with_reducible rfl) | rfl)), by (repeat (first | (with_reducible assumption) | (with_reducible exact Has.new _ _ _) | (with_reducible exact Has.new' (by first | rfl | (simp; done) | (simp; omega)) _ _) | (with_reducible apply Has.alloc) | (with_reducible apply Has.mix) | (with_reducible apply Has.drew) | (with_reducible apply Has.drewN) | (with_reducible apply Has.set_same) | (with_reducible apply Has.set_other (hp := (by first | (simp; done) | (simp; omega) | omega))) | (with_reducible rfl) | rfl)), by (try have HBB := HW.out); (repeat (first | (with_reducible assumption) | (with_reducible exact Below.refl _ _) | (with_reducible refine grow_alloc ?_ _) | (with_reducible refine grow_mix ?_ _) | (with_reducible refine grow_drew ?_) | (with_reducible refine grow_drewN ?_ _) | (with_reducible refine grow_set ?_ (by first | (simp; done) | (simp; omega) | omega) _)))⟩ ?_
    rintro w6 ⟨U0, U1, U2, U3, U4, hW⟩
    have hz_w6 := hW.size
    have HW := Lib.hid hW
    clear hW
    have U0_c0 := U0.cell 0
    have U0_c1 := U0.cell 1
    have U0_f := U0.frozen
    have U0_l := U0.lt
    simp only [List.size_toArray, List.length_cons, List.length_nil, Nat.reduceAdd, Nat.zero_lt_succ, Nat.one_lt_succ_succ, Nat.reduceLT, getElem?_pos, List.getElem_toArray, List.getElem_cons_zero, List.getElem_cons_succ] at U0_c0 U0_c1
    (try have n_U0 : w.heap.size ≠ w6.heap.size := by omega)
    (try have m_U0 : w6.heap.size ≠ w.heap.size := by omega)
    (try have u_U0 : w.heap.size < w6.heap.size + 1 := by omega)
    have U1_c0 := U1.cell 0
    have U1_c1 := U1.cell 1
    have U1_f := U1.frozen
    have U1_l := U1.lt
    simp only [List.size_toArray, List.length_cons, List.length_nil, Nat.reduceAdd, Nat.zero_lt_succ, Nat.one_lt_succ_succ, Nat.reduceLT, getElem?_pos, List.getElem_toArray, List.getElem_cons_zero, List.getElem_cons_succ] at U1_c0 U1_c1
    (try have n_U1 : (w.heap.size + 1) ≠ w6.heap.size := by omega)
    (try have m_U1 : w6.heap.size ≠ (w.heap.size + 1) := by omega)
    (try have u_U1 : (w.heap.size + 1) < w6.heap.size + 1 := by omega)
    have U2_c0 := U2.cell 0
    have U2_c1 := U2.cell 1
    have U2_f := U2.frozen
    have U2_l := U2.lt
    simp only [List.size_toArray, List.length_cons, List.length_nil, Nat.reduceAdd, Nat.zero_lt_succ, Nat.one_lt_succ_succ, Nat.reduceLT, getElem?_pos, List.getElem_toArray, List.getElem_cons_zero, List.getElem_cons_succ] at U2_c0 U2_c1
    (try have n_U2 : (w.heap.size + 1 + 1) ≠ w6.heap.size := by omega)
    (try have m_U2 : w6.heap.size ≠ (w.heap.size + 1 + 1) := by omega)
    (try have u_U2 : (w.heap.size + 1 + 1) < w6.heap.size + 1 := by omega)
    have U3_c0 := U3.cell 0
    have U3_c1 := U3.cell 1
    have U3_f := U3.frozen
    have U3_l := U3.lt
    simp only [List.size_toArray, List.length_cons, List.length_nil, Nat.reduceAdd, Nat.zero_lt_succ, Nat.one_lt_succ_succ, Nat.reduceLT, getElem?_pos, List.getElem_toArray, List.getElem_cons_zero, List.getElem_cons_succ] at U3_c0 U3_c1
    (try have n_U3 : w3.heap.size ≠ w6.heap.size := by omega)
    (try have m_U3 : w6.heap.size ≠ w3.heap.size := by omega)
    (try have u_U3 : w3.heap.size < w6.heap.size + 1 := by omega)
    have U4_c0 := U4.cell 0
    have U4_c1 := U4.cell 1
    have U4_f := U4.frozen
    have U4_l := U4.lt
    simp only [List.size_toArray, List.length_cons, List.length_nil, Nat.reduceAdd, Nat.zero_lt_succ, Nat.one_lt_succ_succ, Nat.reduceLT, getElem?_pos, List.getElem_toArray, List.getElem_cons_zero, List.getElem_cons_succ] at U4_c0 U4_c1
    (try have n_U4 : w5.heap.size ≠ w6.heap.size := by omega)
    (try have m_U4 : w6.heap.size ≠ w5.heap.size := by omega)
    (try have u_U4 : w5.heap.size < w6.heap.size + 1 := by omega)
    have TW := Lib.hid (fun x => TT.out (mix w6 x) (by have HBB := HW.out; (repeat (first | (with_reducible assumption) | (with_reducible exact Below.refl _ _) | (with_reducible refine grow_alloc ?_ _) | (with_reducible refine grow_mix ?_ _) | (with_reducible refine grow_drew ?_) | (with_reducible refine grow_drewN ?_ _) | (with_reducible refine grow_set ?_ (by first | (simp; done) | (simp; omega) | omega) _)))))
    go_wp2_with fail
    refine wp_region_mix 38 (by kernel_rfl) (by kernel_rfl) ?_
    simp only [List.take_succ_cons, List.take_zero, List.drop_succ_cons, List.drop_zero]
    repeat (go_big_quiet_step ((first | (go_at_call 18; (with_reducible exact mix_call (Add_calls _ _ _))) | (go_at_call 20; (with_reducible exact mix_call (Sub_calls _ _ _))) | (go_at_call 14; (with_reducible exact mix_call (Mul_calls _ _ _))) | (go_at_call 23; (with_reducible exact mix_call (Conj_calls _ _))) | (go_at_call 16; (with_reducible exact mix_call (Text_calls _ _ (TW.out _)))))))
    refine wpQuiet_nil ?_
    intro _ hmix
    (try (with_reducible replace hmix := mix_flat hmix))
    obtain ⟨x1, hmix'⟩ := hmix
    have hz := mix_size' hmix'
    subst hmix'
    (try simp only [World.size_alloc, World.size_setCell, World.size_drew] at hz); (try have q0 : w.heap.size < _ := Nat.lt_of_lt_of_le (by omega) hz); (try have q1 : w.heap.size + 1 < _ := Nat.lt_of_lt_of_le (by omega) hz); (try have q2 : w.heap.size + 1 + 1 < _ := Nat.lt_of_lt_of_le (by omega) hz); (try have q3 : w.heap.size + 1 + 1 + 1 < _ := Nat.lt_of_lt_of_le (by omega) hz)
    go_wp2
    go_ret
    have HB := HW.out
    exact ⟨rfl, HB.trans (Below.mono (by (repeat (first | (with_reducible assumption) | (with_reducible exact Below.refl _ _) | (with_reducible refine grow_alloc ?_ _) | (with_reducible refine grow_mix ?_ _) | (with_reducible refine grow_drew ?_) | (with_reducible refine grow_drewN ?_ _) | (with_reducible refine grow_set ?_ (by first | (simp; done) | (simp; omega) | omega) _)))) (by omega))⟩
  ·
    go_wp2_with fail
    refine wp_region_mix_all (by kernel_rfl) (by kernel_rfl) ?_
    repeat (go_big_quiet_step ((first | (go_at_call 18; (with_reducible exact mix_call (Add_calls _ _ _))) | (go_at_call 20; (with_reducible exact mix_call (Sub_calls _ _ _))) | (go_at_call 14; (with_reducible exact mix_call (Mul_calls _ _ _))) | (go_at_call 23; (with_reducible exact mix_call (Conj_calls _ _))))))
    refine wpQuiet_nil ?_
    intro _ hmix
    (try (with_reducible replace hmix := mix_flat hmix))
    obtain ⟨x1, hmix'⟩ := hmix
    have hz := mix_size' hmix'
    subst hmix'
    (try simp only [World.size_alloc, World.size_setCell, World.size_drew] at hz); (try have q0 : w.heap.size < _ := Nat.lt_of_lt_of_le (by omega) hz); (try have q1 : w.heap.size + 1 < _ := Nat.lt_of_lt_of_le (by omega) hz); (try have q2 : w.heap.size + 1 + 1 < _ := Nat.lt_of_lt_of_le (by omega) hz); (try have q3 : w.heap.size + 1 + 1 + 1 < _ := Nat.lt_of_lt_of_le (by omega) hz)
    go_wp2_with fail
    (go_at_call 15; refine (Gauss.Div_calls x z _).mono ?_; rintro e w3 ⟨rfl, hb⟩; obtain ⟨hc_w3, hf_w3⟩ := bcell hb; have hz_w3 := hb.size; (try simp only [World.size_alloc] at hz_w3); (try have hy0_w3 : w.heap.size < w3.heap.size := by omega); (try have hy1_w3 : w.heap.size + 1 < w3.heap.size := by omega); (try have hy2_w3 : w.heap.size + 1 + 1 < w3.heap.size := by omega); (try have hyA_w3 : w.heap.size < w3.heap.size + 1 := by omega); (try have hyB_w3 : w.heap.size + 1 < w3.heap.size + 1 := by omega); (try have hyC_w3 : w.heap.size + 1 + 1 < w3.heap.size + 1 := by omega); have hb_w3 := Lib.hid hb; clear hb)
    have X0_w3 : Has w3 w.heap.size #[.int .i64 x.1, .int .i64 x.2] 23 := by
      refine Has.below' ?_ hb_w3.out
      (repeat (first | (with_reducible assumption) | (with_reducible exact Has.new _ _ _) | (with_reducible exact Has.new' (by first | rfl | (simp; done) | (simp; omega)) _ _) | (with_reducible apply Has.alloc) | (with_reducible apply Has.mix) | (with_reducible apply Has.drew) | (with_reducible apply Has.drewN) | (with_reducible apply Has.set_same) | (with_reducible apply Has.set_other (hp := (by first | (simp; done) | (simp; omega) | omega))) | (with_reducible rfl) | rfl))
    have X1_w3 : Has w3 (w.heap.size + 1) #[.int .i64 y.1, .int .i64 y.2] 23 := by
      refine Has.below' ?_ hb_w3.out
      (repeat (first | (with_reducible assumption) | (with_reducible exact Has.new _ _ _) | (with_reducible exact Has.new' (by first | rfl | (simp; done) | (simp; omega)) _ _) | (with_reducible apply Has.alloc) | (with_reducible apply Has.mix) | (with_reducible apply Has.drew) | (with_reducible apply Has.drewN) | (with_reducible apply Has.set_same) | (with_reducible apply Has.set_other (hp := (by first | (simp; done) | (simp; omega) | omega))) | (with_reducible rfl) | rfl))
    have X2_w3 : Has w3 (w.heap.size + 1 + 1) #[.int .i64 z.1, .int .i64 z.2] 23 := by
      refine Has.below' ?_ hb_w3.out
      (repeat (first | (with_reducible assumption) | (with_reducible exact Has.new _ _ _) | (with_reducible exact Has.new' (by first | rfl | (simp; done) | (simp; omega)) _ _) | (with_reducible apply Has.alloc) | (with_reducible apply Has.mix) | (with_reducible apply Has.drew) | (with_reducible apply Has.drewN) | (with_reducible apply Has.set_same) | (with_reducible apply Has.set_other (hp := (by first | (simp; done) | (simp; omega) | omega))) | (with_reducible rfl) | rfl))
    have HB := HW.out
    have HW := Lib.hid (show Below w.heap.size w w3 from Below.trans (by (repeat (first | (with_reducible assumption) | (with_reducible exact Below.refl _ _) | (with_reducible refine grow_alloc ?_ _) | (with_reducible refine grow_mix ?_ _) | (with_reducible refine grow_drew ?_) | (with_reducible refine grow_drewN ?_ _) | (with_reducible refine grow_set ?_ (by first | (simp; done) | (simp; omega) | omega) _)))) (hb_w3.out.mono (by first | omega | (simp; done) | (simp; omega))))
    clear hc_w3 hf_w3 HB
    have X0_w3_c0 := X0_w3.cell 0
    have X0_w3_c1 := X0_w3.cell 1
    have X0_w3_f := X0_w3.frozen
    have X0_w3_l := X0_w3.lt
    simp only [List.size_toArray, List.length_cons, List.length_nil, Nat.reduceAdd, Nat.zero_lt_succ, Nat.one_lt_succ_succ, Nat.reduceLT, getElem?_pos, List.getElem_toArray, List.getElem_cons_zero, List.getElem_cons_succ] at X0_w3_c0 X0_w3_c1
    have X0_n : w.heap.size ≠ w3.heap.size := by omega
    have X0_m : w3.heap.size ≠ w.heap.size := by omega
    have X1_w3_c0 := X1_w3.cell 0
    have X1_w3_c1 := X1_w3.cell 1
    have X1_w3_f := X1_w3.frozen
    have X1_w3_l := X1_w3.lt
    simp only [List.size_toArray, List.length_cons, List.length_nil, Nat.reduceAdd, Nat.zero_lt_succ, Nat.one_lt_succ_succ, Nat.reduceLT, getElem?_pos, List.getElem_toArray, List.getElem_cons_zero, List.getElem_cons_succ] at X1_w3_c0 X1_w3_c1
    have X1_n : (w.heap.size + 1) ≠ w3.heap.size := by omega
    have X1_m : w3.heap.size ≠ (w.heap.size + 1) := by omega
    have X2_w3_c0 := X2_w3.cell 0
    have X2_w3_c1 := X2_w3.cell 1
    have X2_w3_f := X2_w3.frozen
    have X2_w3_l := X2_w3.lt
    simp only [List.size_toArray, List.length_cons, List.length_nil, Nat.reduceAdd, Nat.zero_lt_succ, Nat.one_lt_succ_succ, Nat.reduceLT, getElem?_pos, List.getElem_toArray, List.getElem_cons_zero, List.getElem_cons_succ] at X2_w3_c0 X2_w3_c1
    have X2_n : (w.heap.size + 1 + 1) ≠ w3.heap.size := by omega
    have X2_m : w3.heap.size ≠ (w.heap.size + 1 + 1) := by omega
    go_wp2_with fail
    (go_at_call 15; refine (Gauss.Div_calls y z _).mono ?_; rintro e w5 ⟨rfl, hb⟩; obtain ⟨hc_w5, hf_w5⟩ := bcell hb; have hz_w5 := hb.size; (try simp only [World.size_alloc] at hz_w5); (try have hy0_w5 : w.heap.size < w5.heap.size := by omega); (try have hy1_w5 : w.heap.size + 1 < w5.heap.size := by omega); (try have hy2_w5 : w.heap.size + 1 + 1 < w5.heap.size := by omega); (try have hyA_w5 : w.heap.size < w5.heap.size + 1 := by omega); (try have hyB_w5 : w.heap.size + 1 < w5.heap.size + 1 := by omega); (try have hyC_w5 : w.heap.size + 1 + 1 < w5.heap.size + 1 := by omega); have hb_w5 := Lib.hid hb; clear hb)
    have Z0_w5 : Has w5 w.heap.size #[.int .i64 x.1, .int .i64 x.2] 23 := by
      refine Has.below' ?_ hb_w5.out
      (repeat (first | (with_reducible assumption) | (with_reducible exact Has.new _ _ _) | (with_reducible exact Has.new' (by first | rfl | (simp; done) | (simp; omega)) _ _) | (with_reducible apply Has.alloc) | (with_reducible apply Has.mix) | (with_reducible apply Has.drew) | (with_reducible apply Has.drewN) | (with_reducible apply Has.set_same) | (with_reducible apply Has.set_other (hp := (by first | (simp; done) | (simp; omega) | omega))) | (with_reducible rfl) | rfl))
    have Z1_w5 : Has w5 (w.heap.size + 1) #[.int .i64 y.1, .int .i64 y.2] 23 := by
      refine Has.below' ?_ hb_w5.out
      (repeat (first | (with_reducible assumption) | (with_reducible exact Has.new _ _ _) | (with_reducible exact Has.new' (by first | rfl | (simp; done) | (simp; omega)) _ _) | (with_reducible apply Has.alloc) | (with_reducible apply Has.mix) | (with_reducible apply Has.drew) | (with_reducible apply Has.drewN) | (with_reducible apply Has.set_same) | (with_reducible apply Has.set_other (hp := (by first | (simp; done) | (simp; omega) | omega))) | (with_reducible rfl) | rfl))
    have Z2_w5 : Has w5 (w.heap.size + 1 + 1) #[.int .i64 z.1, .int .i64 z.2] 23 := by
      refine Has.below' ?_ hb_w5.out
      (repeat (first | (with_reducible assumption) | (with_reducible exact Has.new _ _ _) | (with_reducible exact Has.new' (by first | rfl | (simp; done) | (simp; omega)) _ _) | (with_reducible apply Has.alloc) | (with_reducible apply Has.mix) | (with_reducible apply Has.drew) | (with_reducible apply Has.drewN) | (with_reducible apply Has.set_same) | (with_reducible apply Has.set_other (hp := (by first | (simp; done) | (simp; omega) | omega))) | (with_reducible rfl) | rfl))
    have Z3_w5 : Has w5 w3.heap.size #[.int .i64 (divV x z).1, .int .i64 (divV x z).2] 23 := by
      refine Has.below' ?_ hb_w5.out
      (repeat (first | (with_reducible assumption) | (with_reducible exact Has.new _ _ _) | (with_reducible exact Has.new' (by first | rfl | (simp; done) | (simp; omega)) _ _) | (with_reducible apply Has.alloc) | (with_reducible apply Has.mix) | (with_reducible apply Has.drew) | (with_reducible apply Has.drewN) | (with_reducible apply Has.set_same) | (with_reducible apply Has.set_other (hp := (by first | (simp; done) | (simp; omega) | omega))) | (with_reducible rfl) | rfl))
    have HB := HW.out
    have HW := Lib.hid (show Below w.heap.size w w5 from Below.trans (by (repeat (first | (with_reducible assumption) | (with_reducible exact Below.refl _ _) | (with_reducible refine grow_alloc ?_ _) | (with_reducible refine grow_mix ?_ _) | (with_reducible refine grow_drew ?_) | (with_reducible refine grow_drewN ?_ _) | (with_reducible refine grow_set ?_ (by first | (simp; done) | (simp; omega) | omega) _)))) (hb_w5.out.mono (by first | omega | (simp; done) | (simp; omega))))
    clear hc_w5 hf_w5 HB
    have Z0_w5_c0 := Z0_w5.cell 0
    have Z0_w5_c1 := Z0_w5.cell 1
    have Z0_w5_f := Z0_w5.frozen
    have Z0_w5_l := Z0_w5.lt
    simp only [List.size_toArray, List.length_cons, List.length_nil, Nat.reduceAdd, Nat.zero_lt_succ, Nat.one_lt_succ_succ, Nat.reduceLT, getElem?_pos, List.getElem_toArray, List.getElem_cons_zero, List.getElem_cons_succ] at Z0_w5_c0 Z0_w5_c1
    have Z0_n : w.heap.size ≠ w5.heap.size := by omega
    have Z0_m : w5.heap.size ≠ w.heap.size := by omega
    have Z1_w5_c0 := Z1_w5.cell 0
    have Z1_w5_c1 := Z1_w5.cell 1
    have Z1_w5_f := Z1_w5.frozen
    have Z1_w5_l := Z1_w5.lt
    simp only [List.size_toArray, List.length_cons, List.length_nil, Nat.reduceAdd, Nat.zero_lt_succ, Nat.one_lt_succ_succ, Nat.reduceLT, getElem?_pos, List.getElem_toArray, List.getElem_cons_zero, List.getElem_cons_succ] at Z1_w5_c0 Z1_w5_c1
    have Z1_n : (w.heap.size + 1) ≠ w5.heap.size := by omega
    have Z1_m : w5.heap.size ≠ (w.heap.size + 1) := by omega
    have Z2_w5_c0 := Z2_w5.cell 0
    have Z2_w5_c1 := Z2_w5.cell 1
    have Z2_w5_f := Z2_w5.frozen
    have Z2_w5_l := Z2_w5.lt
    simp only [List.size_toArray, List.length_cons, List.length_nil, Nat.reduceAdd, Nat.zero_lt_succ, Nat.one_lt_succ_succ, Nat.reduceLT, getElem?_pos, List.getElem_toArray, List.getElem_cons_zero, List.getElem_cons_succ] at Z2_w5_c0 Z2_w5_c1
    have Z2_n : (w.heap.size + 1 + 1) ≠ w5.heap.size := by omega
    have Z2_m : w5.heap.size ≠ (w.heap.size + 1 + 1) := by omega
    have Z3_w5_c0 := Z3_w5.cell 0
    have Z3_w5_c1 := Z3_w5.cell 1
    have Z3_w5_f := Z3_w5.frozen
    have Z3_w5_l := Z3_w5.lt
    simp only [List.size_toArray, List.length_cons, List.length_nil, Nat.reduceAdd, Nat.zero_lt_succ, Nat.one_lt_succ_succ, Nat.reduceLT, getElem?_pos, List.getElem_toArray, List.getElem_cons_zero, List.getElem_cons_succ] at Z3_w5_c0 Z3_w5_c1
    have Z3_n : w3.heap.size ≠ w5.heap.size := by omega
    have Z3_m : w5.heap.size ≠ w3.heap.size := by omega
    go_wp2_with fail
    refine wp_at (fun W => Has W w.heap.size #[.int .i64 x.1, .int .i64 x.2] 23 ∧ Has W (w.heap.size + 1) #[.int .i64 y.1, .int .i64 y.2] 23 ∧ Has W (w.heap.size + 1 + 1) #[.int .i64 z.1, .int .i64 z.2] 23 ∧ Has W w3.heap.size #[.int .i64 (divV x z).1, .int .i64 (divV x z).2] 23 ∧ Has W w5.heap.size #[.int .i64 (divV y z).1, .int .i64 (divV y z).2] 23 ∧ Below w.heap.size w W) ⟨by (repeat (first | (with_reducible assumption) | (with_reducible exact Has.new _ _ _) | (with_reducible exact Has.new' (by first | rfl | (simp; done) | (simp; omega)) _ _) | (with_reducible apply Has.alloc) | (with_reducible apply Has.mix) | (with_reducible apply Has.drew) | (with_reducible apply Has.drewN) | (with_reducible apply Has.set_same) | (with_reducible apply Has.set_other (hp := (by first | (simp; done) | (simp; omega) | omega))) | (with_reducible rfl) | rfl)), by (repeat (first | (with_reducible assumption) | (with_reducible exact Has.new _ _ _) | (with_reducible exact Has.new' (by first | rfl | (simp; done) | (simp; omega)) _ _) | (with_reducible apply Has.alloc) | (with_reducible apply Has.mix) | (with_reducible apply Has.drew) | (with_reducible apply Has.drewN) | (with_reducible apply Has.set_same) | (with_reducible apply Has.set_other (hp := (by first | (simp; done) | (simp; omega) | omega))) | (with_reducible rfl) | rfl)), by (repeat (first | (with_reducible assumption) | (with_reducible exact Has.new _ _ _) | (with_reducible exact Has.new' (by first | rfl | (simp; done) | (simp; omega)) _ _) | (with_reducible apply Has.alloc) | (with_reducible apply Has.mix) | (with_reducible apply Has.drew) | (with_reducible apply Has.drewN) | (with_reducible apply Has.set_same) | (with_reducible apply Has.set_other (hp := (by first | (simp; done) | (simp; omega) | omega))) | (with_reducible rfl) | rfl)), by (repeat (first | (with_reducible assumption) | (with_reducible exact Has.new _ _ _) | (with_reducible exact Has.new' (by first | rfl | (simp; done) | (simp; omega)) _ _) | (with_reducible apply Has.alloc) | (with_reducible apply Has.mix) | (with_reducible apply Has.drew) | (with_reducible apply Has.drewN) | (with_reducible apply Has.set_same) | (with_reducible apply Has.set_other (hp := (by first | (simp; done) | (simp; omega) | omega))) | (with_reducible rfl) | rfl)), by (repeat (first | (with_reducible assumption) | (with_reducible exact Has.new _ _ _) | (with_reducible exact Has.new' (by first | rfl | (simp; done) | (simp; omega)) _ _) | (with_reducible apply Has.alloc) | (with_reducible apply Has.mix) | (with_reducible apply Has.drew) | (with_reducible apply Has.drewN) | (with_reducible apply Has.set_same) | (with_reducible apply Has.set_other (hp := (by first | (simp; done) | (simp; omega) | omega))) | (with_reducible rfl) | rfl)), by (try have HBB := HW.out); (repeat (first | (with_reducible assumption) | (with_reducible exact Below.refl _ _) | (with_reducible refine grow_alloc ?_ _) | (with_reducible refine grow_mix ?_ _) | (with_reducible refine grow_drew ?_) | (with_reducible refine grow_drewN ?_ _) | (with_reducible refine grow_set ?_ (by first | (simp; done) | (simp; omega) | omega) _)))⟩ ?_
    rintro w6 ⟨U0, U1, U2, U3, U4, hW⟩
    have hz_w6 := hW.size
    have HW := Lib.hid hW
    clear hW
    have U0_c0 := U0.cell 0
    have U0_c1 := U0.cell 1
    have U0_f := U0.frozen
    have U0_l := U0.lt
    simp only [List.size_toArray, List.length_cons, List.length_nil, Nat.reduceAdd, Nat.zero_lt_succ, Nat.one_lt_succ_succ, Nat.reduceLT, getElem?_pos, List.getElem_toArray, List.getElem_cons_zero, List.getElem_cons_succ] at U0_c0 U0_c1
    (try have n_U0 : w.heap.size ≠ w6.heap.size := by omega)
    (try have m_U0 : w6.heap.size ≠ w.heap.size := by omega)
    (try have u_U0 : w.heap.size < w6.heap.size + 1 := by omega)
    have U1_c0 := U1.cell 0
    have U1_c1 := U1.cell 1
    have U1_f := U1.frozen
    have U1_l := U1.lt
    simp only [List.size_toArray, List.length_cons, List.length_nil, Nat.reduceAdd, Nat.zero_lt_succ, Nat.one_lt_succ_succ, Nat.reduceLT, getElem?_pos, List.getElem_toArray, List.getElem_cons_zero, List.getElem_cons_succ] at U1_c0 U1_c1
    (try have n_U1 : (w.heap.size + 1) ≠ w6.heap.size := by omega)
    (try have m_U1 : w6.heap.size ≠ (w.heap.size + 1) := by omega)
    (try have u_U1 : (w.heap.size + 1) < w6.heap.size + 1 := by omega)
    have U2_c0 := U2.cell 0
    have U2_c1 := U2.cell 1
    have U2_f := U2.frozen
    have U2_l := U2.lt
    simp only [List.size_toArray, List.length_cons, List.length_nil, Nat.reduceAdd, Nat.zero_lt_succ, Nat.one_lt_succ_succ, Nat.reduceLT, getElem?_pos, List.getElem_toArray, List.getElem_cons_zero, List.getElem_cons_succ] at U2_c0 U2_c1
    (try have n_U2 : (w.heap.size + 1 + 1) ≠ w6.heap.size := by omega)
    (try have m_U2 : w6.heap.size ≠ (w.heap.size + 1 + 1) := by omega)
    (try have u_U2 : (w.heap.size + 1 + 1) < w6.heap.size + 1 := by omega)
    have U3_c0 := U3.cell 0
    have U3_c1 := U3.cell 1
    have U3_f := U3.frozen
    have U3_l := U3.lt
    simp only [List.size_toArray, List.length_cons, List.length_nil, Nat.reduceAdd, Nat.zero_lt_succ, Nat.one_lt_succ_succ, Nat.reduceLT, getElem?_pos, List.getElem_toArray, List.getElem_cons_zero, List.getElem_cons_succ] at U3_c0 U3_c1
    (try have n_U3 : w3.heap.size ≠ w6.heap.size := by omega)
    (try have m_U3 : w6.heap.size ≠ w3.heap.size := by omega)
    (try have u_U3 : w3.heap.size < w6.heap.size + 1 := by omega)
    have U4_c0 := U4.cell 0
    have U4_c1 := U4.cell 1
    have U4_f := U4.frozen
    have U4_l := U4.lt
    simp only [List.size_toArray, List.length_cons, List.length_nil, Nat.reduceAdd, Nat.zero_lt_succ, Nat.one_lt_succ_succ, Nat.reduceLT, getElem?_pos, List.getElem_toArray, List.getElem_cons_zero, List.getElem_cons_succ] at U4_c0 U4_c1
    (try have n_U4 : w5.heap.size ≠ w6.heap.size := by omega)
    (try have m_U4 : w6.heap.size ≠ w5.heap.size := by omega)
    (try have u_U4 : w5.heap.size < w6.heap.size + 1 := by omega)
    have TW := Lib.hid (fun x => TT.out (mix w6 x) (by have HBB := HW.out; (repeat (first | (with_reducible assumption) | (with_reducible exact Below.refl _ _) | (with_reducible refine grow_alloc ?_ _) | (with_reducible refine grow_mix ?_ _) | (with_reducible refine grow_drew ?_) | (with_reducible refine grow_drewN ?_ _) | (with_reducible refine grow_set ?_ (by first | (simp; done) | (simp; omega) | omega) _)))))
    go_wp2_with fail
    refine wp_region_mix 38 (by kernel_rfl) (by kernel_rfl) ?_
    simp only [List.take_succ_cons, List.take_zero, List.drop_succ_cons, List.drop_zero]
    repeat (go_big_quiet_step ((first | (go_at_call 18; (with_reducible exact mix_call (Add_calls _ _ _))) | (go_at_call 20; (with_reducible exact mix_call (Sub_calls _ _ _))) | (go_at_call 14; (with_reducible exact mix_call (Mul_calls _ _ _))) | (go_at_call 23; (with_reducible exact mix_call (Conj_calls _ _))) | (go_at_call 16; (with_reducible exact mix_call (Text_calls _ _ (TW.out _)))))))
    refine wpQuiet_nil ?_
    intro _ hmix
    (try (with_reducible replace hmix := mix_flat hmix))
    obtain ⟨x1, hmix'⟩ := hmix
    have hz := mix_size' hmix'
    subst hmix'
    (try simp only [World.size_alloc, World.size_setCell, World.size_drew] at hz); (try have q0 : w.heap.size < _ := Nat.lt_of_lt_of_le (by omega) hz); (try have q1 : w.heap.size + 1 < _ := Nat.lt_of_lt_of_le (by omega) hz); (try have q2 : w.heap.size + 1 + 1 < _ := Nat.lt_of_lt_of_le (by omega) hz); (try have q3 : w.heap.size + 1 + 1 + 1 < _ := Nat.lt_of_lt_of_le (by omega) hz)
    go_wp2
    go_ret
    have HB := HW.out
    exact ⟨rfl, HB.trans (Below.mono (by (repeat (first | (with_reducible assumption) | (with_reducible exact Below.refl _ _) | (with_reducible refine grow_alloc ?_ _) | (with_reducible refine grow_mix ?_ _) | (with_reducible refine grow_drew ?_) | (with_reducible refine grow_drewN ?_ _) | (with_reducible refine grow_set ?_ (by first | (simp; done) | (simp; omega) | omega) _)))) (by omega))⟩
  ·
    go_wp2_with fail
    refine wp_region_mix_all (by kernel_rfl) (by kernel_rfl) ?_
    repeat (go_big_quiet_step ((first | (go_at_call 18; (with_reducible exact mix_call (Add_calls _ _ _))) | (go_at_call 20; (with_reducible exact mix_call (Sub_calls _ _ _))) | (go_at_call 14; (with_reducible exact mix_call (Mul_calls _ _ _))) | (go_at_call 23; (with_reducible exact mix_call (Conj_calls _ _))))))
    refine wpQuiet_nil ?_
    intro _ hmix
    (try (with_reducible replace hmix := mix_flat hmix))
    obtain ⟨x1, hmix'⟩ := hmix
    have hz := mix_size' hmix'
    subst hmix'
    (try simp only [World.size_alloc, World.size_setCell, World.size_drew] at hz); (try have q0 : w.heap.size < _ := Nat.lt_of_lt_of_le (by omega) hz); (try have q1 : w.heap.size + 1 < _ := Nat.lt_of_lt_of_le (by omega) hz); (try have q2 : w.heap.size + 1 + 1 < _ := Nat.lt_of_lt_of_le (by omega) hz); (try have q3 : w.heap.size + 1 + 1 + 1 < _ := Nat.lt_of_lt_of_le (by omega) hz)
    go_wp2_with fail
    (go_at_call 15; refine (Gauss.Div_calls x z _).mono ?_; rintro e w3 ⟨rfl, hb⟩; obtain ⟨hc_w3, hf_w3⟩ := bcell hb; have hz_w3 := hb.size; (try simp only [World.size_alloc] at hz_w3); (try have hy0_w3 : w.heap.size < w3.heap.size := by omega); (try have hy1_w3 : w.heap.size + 1 < w3.heap.size := by omega); (try have hy2_w3 : w.heap.size + 1 + 1 < w3.heap.size := by omega); (try have hyA_w3 : w.heap.size < w3.heap.size + 1 := by omega); (try have hyB_w3 : w.heap.size + 1 < w3.heap.size + 1 := by omega); (try have hyC_w3 : w.heap.size + 1 + 1 < w3.heap.size + 1 := by omega); have hb_w3 := Lib.hid hb; clear hb)
    have X0_w3 : Has w3 w.heap.size #[.int .i64 x.1, .int .i64 x.2] 23 := by
      refine Has.below' ?_ hb_w3.out
      (repeat (first | (with_reducible assumption) | (with_reducible exact Has.new _ _ _) | (with_reducible exact Has.new' (by first | rfl | (simp; done) | (simp; omega)) _ _) | (with_reducible apply Has.alloc) | (with_reducible apply Has.mix) | (with_reducible apply Has.drew) | (with_reducible apply Has.drewN) | (with_reducible apply Has.set_same) | (with_reducible apply Has.set_other (hp := (by first | (simp; done) | (simp; omega) | omega))) | (with_reducible rfl) | rfl))
    have X1_w3 : Has w3 (w.heap.size + 1) #[.int .i64 y.1, .int .i64 y.2] 23 := by
      refine Has.below' ?_ hb_w3.out
      (repeat (first | (with_reducible assumption) | (with_reducible exact Has.new _ _ _) | (with_reducible exact Has.new' (by first | rfl | (simp; done) | (simp; omega)) _ _) | (with_reducible apply Has.alloc) | (with_reducible apply Has.mix) | (with_reducible apply Has.drew) | (with_reducible apply Has.drewN) | (with_reducible apply Has.set_same) | (with_reducible apply Has.set_other (hp := (by first | (simp; done) | (simp; omega) | omega))) | (with_reducible rfl) | rfl))
    have X2_w3 : Has w3 (w.heap.size + 1 + 1) #[.int .i64 z.1, .int .i64 z.2] 23 := by
      refine Has.below' ?_ hb_w3.out
      (repeat (first | (with_reducible assumption) | (with_reducible exact Has.new _ _ _) | (with_reducible exact Has.new' (by first | rfl | (simp; done) | (simp; omega)) _ _) | (with_reducible apply Has.alloc) | (with_reducible apply Has.mix) | (with_reducible apply Has.drew) | (with_reducible apply Has.drewN) | (with_reducible apply Has.set_same) | (with_reducible apply Has.set_other (hp := (by first | (simp; done) | (simp; omega) | omega))) | (with_reducible rfl) | rfl))
    have HB := HW.out
    have HW := Lib.hid (show Below w.heap.size w w3 from Below.trans (by (repeat (first | (with_reducible assumption) | (with_reducible exact Below.refl _ _) | (with_reducible refine grow_alloc ?_ _) | (with_reducible refine grow_mix ?_ _) | (with_reducible refine grow_drew ?_) | (with_reducible refine grow_drewN ?_ _) | (with_reducible refine grow_set ?_ (by first | (simp; done) | (simp; omega) | omega) _)))) (hb_w3.out.mono (by first | omega | (simp; done) | (simp; omega))))
    clear hc_w3 hf_w3 HB
    have X0_w3_c0 := X0_w3.cell 0
    have X0_w3_c1 := X0_w3.cell 1
    have X0_w3_f := X0_w3.frozen
    have X0_w3_l := X0_w3.lt
    simp only [List.size_toArray, List.length_cons, List.length_nil, Nat.reduceAdd, Nat.zero_lt_succ, Nat.one_lt_succ_succ, Nat.reduceLT, getElem?_pos, List.getElem_toArray, List.getElem_cons_zero, List.getElem_cons_succ] at X0_w3_c0 X0_w3_c1
    have X0_n : w.heap.size ≠ w3.heap.size := by omega
    have X0_m : w3.heap.size ≠ w.heap.size := by omega
    have X1_w3_c0 := X1_w3.cell 0
    have X1_w3_c1 := X1_w3.cell 1
    have X1_w3_f := X1_w3.frozen
    have X1_w3_l := X1_w3.lt
    simp only [List.size_toArray, List.length_cons, List.length_nil, Nat.reduceAdd, Nat.zero_lt_succ, Nat.one_lt_succ_succ, Nat.reduceLT, getElem?_pos, List.getElem_toArray, List.getElem_cons_zero, List.getElem_cons_succ] at X1_w3_c0 X1_w3_c1
    have X1_n : (w.heap.size + 1) ≠ w3.heap.size := by omega
    have X1_m : w3.heap.size ≠ (w.heap.size + 1) := by omega
    have X2_w3_c0 := X2_w3.cell 0
    have X2_w3_c1 := X2_w3.cell 1
    have X2_w3_f := X2_w3.frozen
    have X2_w3_l := X2_w3.lt
    simp only [List.size_toArray, List.length_cons, List.length_nil, Nat.reduceAdd, Nat.zero_lt_succ, Nat.one_lt_succ_succ, Nat.reduceLT, getElem?_pos, List.getElem_toArray, List.getElem_cons_zero, List.getElem_cons_succ] at X2_w3_c0 X2_w3_c1
    have X2_n : (w.heap.size + 1 + 1) ≠ w3.heap.size := by omega
    have X2_m : w3.heap.size ≠ (w.heap.size + 1 + 1) := by omega
    go_wp2_with fail
    (go_at_call 15; refine (Gauss.Div_calls y z _).mono ?_; rintro e w5 ⟨rfl, hb⟩; obtain ⟨hc_w5, hf_w5⟩ := bcell hb; have hz_w5 := hb.size; (try simp only [World.size_alloc] at hz_w5); (try have hy0_w5 : w.heap.size < w5.heap.size := by omega); (try have hy1_w5 : w.heap.size + 1 < w5.heap.size := by omega); (try have hy2_w5 : w.heap.size + 1 + 1 < w5.heap.size := by omega); (try have hyA_w5 : w.heap.size < w5.heap.size + 1 := by omega); (try have hyB_w5 : w.heap.size + 1 < w5.heap.size + 1 := by omega); (try have hyC_w5 : w.heap.size + 1 + 1 < w5.heap.size + 1 := by omega); have hb_w5 := Lib.hid hb; clear hb)
    have Z0_w5 : Has w5 w.heap.size #[.int .i64 x.1, .int .i64 x.2] 23 := by
      refine Has.below' ?_ hb_w5.out
      (repeat (first | (with_reducible assumption) | (with_reducible exact Has.new _ _ _) | (with_reducible exact Has.new' (by first | rfl | (simp; done) | (simp; omega)) _ _) | (with_reducible apply Has.alloc) | (with_reducible apply Has.mix) | (with_reducible apply Has.drew) | (with_reducible apply Has.drewN) | (with_reducible apply Has.set_same) | (with_reducible apply Has.set_other (hp := (by first | (simp; done) | (simp; omega) | omega))) | (with_reducible rfl) | rfl))
    have Z1_w5 : Has w5 (w.heap.size + 1) #[.int .i64 y.1, .int .i64 y.2] 23 := by
      refine Has.below' ?_ hb_w5.out
      (repeat (first | (with_reducible assumption) | (with_reducible exact Has.new _ _ _) | (with_reducible exact Has.new' (by first | rfl | (simp; done) | (simp; omega)) _ _) | (with_reducible apply Has.alloc) | (with_reducible apply Has.mix) | (with_reducible apply Has.drew) | (with_reducible apply Has.drewN) | (with_reducible apply Has.set_same) | (with_reducible apply Has.set_other (hp := (by first | (simp; done) | (simp; omega) | omega))) | (with_reducible rfl) | rfl))
    have Z2_w5 : Has w5 (w.heap.size + 1 + 1) #[.int .i64 z.1, .int .i64 z.2] 23 := by
      refine Has.below' ?_ hb_w5.out
      (repeat (first | (with_reducible assumption) | (with_reducible exact Has.new _ _ _) | (with_reducible exact Has.new' (by first | rfl | (simp; done) | (simp; omega)) _ _) | (with_reducible apply Has.alloc) | (with_reducible apply Has.mix) | (with_reducible apply Has.drew) | (with_reducible apply Has.drewN) | (with_reducible apply Has.set_same) | (with_reducible apply Has.set_other (hp := (by first | (simp; done) | (simp; omega) | omega))) | (with_reducible rfl) | rfl))
    have Z3_w5 : Has w5 w3.heap.size #[.int .i64 (divV x z).1, .int .i64 (divV x z).2] 23 := by
      refine Has.below' ?_ hb_w5.out
      (repeat (first | (with_reducible assumption) | (with_reducible exact Has.new _ _ _) | (with_reducible exact Has.new' (by first | rfl | (simp; done) | (simp; omega)) _ _) | (with_reducible apply Has.alloc) | (with_reducible apply Has.mix) | (with_reducible apply Has.drew) | (with_reducible apply Has.drewN) | (with_reducible apply Has.set_same) | (with_reducible apply Has.set_other (hp := (by first | (simp; done) | (simp; omega) | omega))) | (with_reducible rfl) | rfl))
    have HB := HW.out
    have HW := Lib.hid (show Below w.heap.size w w5 from Below.trans (by (repeat (first | (with_reducible assumption) | (with_reducible exact Below.refl _ _) | (with_reducible refine grow_alloc ?_ _) | (with_reducible refine grow_mix ?_ _) | (with_reducible refine grow_drew ?_) | (with_reducible refine grow_drewN ?_ _) | (with_reducible refine grow_set ?_ (by first | (simp; done) | (simp; omega) | omega) _)))) (hb_w5.out.mono (by first | omega | (simp; done) | (simp; omega))))
    clear hc_w5 hf_w5 HB
    have Z0_w5_c0 := Z0_w5.cell 0
    have Z0_w5_c1 := Z0_w5.cell 1
    have Z0_w5_f := Z0_w5.frozen
    have Z0_w5_l := Z0_w5.lt
    simp only [List.size_toArray, List.length_cons, List.length_nil, Nat.reduceAdd, Nat.zero_lt_succ, Nat.one_lt_succ_succ, Nat.reduceLT, getElem?_pos, List.getElem_toArray, List.getElem_cons_zero, List.getElem_cons_succ] at Z0_w5_c0 Z0_w5_c1
    have Z0_n : w.heap.size ≠ w5.heap.size := by omega
    have Z0_m : w5.heap.size ≠ w.heap.size := by omega
    have Z1_w5_c0 := Z1_w5.cell 0
    have Z1_w5_c1 := Z1_w5.cell 1
    have Z1_w5_f := Z1_w5.frozen
    have Z1_w5_l := Z1_w5.lt
    simp only [List.size_toArray, List.length_cons, List.length_nil, Nat.reduceAdd, Nat.zero_lt_succ, Nat.one_lt_succ_succ, Nat.reduceLT, getElem?_pos, List.getElem_toArray, List.getElem_cons_zero, List.getElem_cons_succ] at Z1_w5_c0 Z1_w5_c1
    have Z1_n : (w.heap.size + 1) ≠ w5.heap.size := by omega
    have Z1_m : w5.heap.size ≠ (w.heap.size + 1) := by omega
    have Z2_w5_c0 := Z2_w5.cell 0
    have Z2_w5_c1 := Z2_w5.cell 1
    have Z2_w5_f := Z2_w5.frozen
    have Z2_w5_l := Z2_w5.lt
    simp only [List.size_toArray, List.length_cons, List.length_nil, Nat.reduceAdd, Nat.zero_lt_succ, Nat.one_lt_succ_succ, Nat.reduceLT, getElem?_pos, List.getElem_toArray, List.getElem_cons_zero, List.getElem_cons_succ] at Z2_w5_c0 Z2_w5_c1
    have Z2_n : (w.heap.size + 1 + 1) ≠ w5.heap.size := by omega
    have Z2_m : w5.heap.size ≠ (w.heap.size + 1 + 1) := by omega
    have Z3_w5_c0 := Z3_w5.cell 0
    have Z3_w5_c1 := Z3_w5.cell 1
    have Z3_w5_f := Z3_w5.frozen
    have Z3_w5_l := Z3_w5.lt
    simp only [List.size_toArray, List.length_cons, List.length_nil, Nat.reduceAdd, Nat.zero_lt_succ, Nat.one_lt_succ_succ, Nat.reduceLT, getElem?_pos, List.getElem_toArray, List.getElem_cons_zero, List.getElem_cons_succ] at Z3_w5_c0 Z3_w5_c1
    have Z3_n : w3.heap.size ≠ w5.heap.size := by omega
    have Z3_m : w5.heap.size ≠ w3.heap.size := by omega
    go_wp2_with fail
    refine wp_at (fun W => Has W w.heap.size #[.int .i64 x.1, .int .i64 x.2] 23 ∧ Has W (w.heap.size + 1) #[.int .i64 y.1, .int .i64 y.2] 23 ∧ Has W (w.heap.size + 1 + 1) #[.int .i64 z.1, .int .i64 z.2] 23 ∧ Has W w3.heap.size #[.int .i64 (divV x z).1, .int .i64 (divV x z).2] 23 ∧ Has W w5.heap.size #[.int .i64 (divV y z).1, .int .i64 (divV y z).2] 23 ∧ Below w.heap.size w W) ⟨by (repeat (first | (with_reducible assumption) | (with_reducible exact Has.new _ _ _) | (with_reducible exact Has.new' (by first | rfl | (simp; done) | (simp; omega)) _ _) | (with_reducible apply Has.alloc) | (with_reducible apply Has.mix) | (with_reducible apply Has.drew) | (with_reducible apply Has.drewN) | (with_reducible apply Has.set_same) | (with_reducible apply Has.set_other (hp := (by first | (simp; done) | (simp; omega) | omega))) | (with_reducible rfl) | rfl)), by (repeat (first | (with_reducible assumption) | (with_reducible exact Has.new _ _ _) | (with_reducible exact Has.new' (by first | rfl | (simp; done) | (simp; omega)) _ _) | (with_reducible apply Has.alloc) | (with_reducible apply Has.mix) | (with_reducible apply Has.drew) | (with_reducible apply Has.drewN) | (with_reducible apply Has.set_same) | (with_reducible apply Has.set_other (hp := (by first | (simp; done) | (simp; omega) | omega))) | (with_reducible rfl) | rfl)), by (repeat (first | (with_reducible assumption) | (with_reducible exact Has.new _ _ _) | (with_reducible exact Has.new' (by first | rfl | (simp; done) | (simp; omega)) _ _) | (with_reducible apply Has.alloc) | (with_reducible apply Has.mix) | (with_reducible apply Has.drew) | (with_reducible apply Has.drewN) | (with_reducible apply Has.set_same) | (with_reducible apply Has.set_other (hp := (by first | (simp; done) | (simp; omega) | omega))) | (with_reducible rfl) | rfl)), by (repeat (first | (with_reducible assumption) | (with_reducible exact Has.new _ _ _) | (with_reducible exact Has.new' (by first | rfl | (simp; done) | (simp; omega)) _ _) | (with_reducible apply Has.alloc) | (with_reducible apply Has.mix) | (with_reducible apply Has.drew) | (with_reducible apply Has.drewN) | (with_reducible apply Has.set_same) | (with_reducible apply Has.set_other (hp := (by first | (simp; done) | (simp; omega) | omega))) | (with_reducible rfl) | rfl)), by (repeat (first | (with_reducible assumption) | (with_reducible exact Has.new _ _ _) | (with_reducible exact Has.new' (by first | rfl | (simp; done) | (simp; omega)) _ _) | (with_reducible apply Has.alloc) | (with_reducible apply Has.mix) | (with_reducible apply Has.drew) | (with_reducible apply Has.drewN) | (with_reducible apply Has.set_same) | (with_reducible apply Has.set_other (hp := (by first | (simp; done) | (simp; omega) | omega))) | (with_reducible rfl) | rfl)), by (try have HBB := HW.out); (repeat (first | (with_reducible assumption) | (with_reducible exact Below.refl _ _) | (with_reducible refine grow_alloc ?_ _) | (with_reducible refine grow_mix ?_ _) | (with_reducible refine grow_drew ?_) | (with_reducible refine grow_drewN ?_ _) | (with_reducible refine grow_set ?_ (by first | (simp; done) | (simp; omega) | omega) _)))⟩ ?_
    rintro w6 ⟨U0, U1, U2, U3, U4, hW⟩
    have hz_w6 := hW.size
    have HW := Lib.hid hW
    clear hW
    have U0_c0 := U0.cell 0
    have U0_c1 := U0.cell 1
    have U0_f := U0.frozen
    have U0_l := U0.lt
    simp only [List.size_toArray, List.length_cons, List.length_nil, Nat.reduceAdd, Nat.zero_lt_succ, Nat.one_lt_succ_succ, Nat.reduceLT, getElem?_pos, List.getElem_toArray, List.getElem_cons_zero, List.getElem_cons_succ] at U0_c0 U0_c1
    (try have n_U0 : w.heap.size ≠ w6.heap.size := by omega)
    (try have m_U0 : w6.heap.size ≠ w.heap.size := by omega)
    (try have u_U0 : w.heap.size < w6.heap.size + 1 := by omega)
    have U1_c0 := U1.cell 0
    have U1_c1 := U1.cell 1
    have U1_f := U1.frozen
    have U1_l := U1.lt
    simp only [List.size_toArray, List.length_cons, List.length_nil, Nat.reduceAdd, Nat.zero_lt_succ, Nat.one_lt_succ_succ, Nat.reduceLT, getElem?_pos, List.getElem_toArray, List.getElem_cons_zero, List.getElem_cons_succ] at U1_c0 U1_c1
    (try have n_U1 : (w.heap.size + 1) ≠ w6.heap.size := by omega)
    (try have m_U1 : w6.heap.size ≠ (w.heap.size + 1) := by omega)
    (try have u_U1 : (w.heap.size + 1) < w6.heap.size + 1 := by omega)
    have U2_c0 := U2.cell 0
    have U2_c1 := U2.cell 1
    have U2_f := U2.frozen
    have U2_l := U2.lt
    simp only [List.size_toArray, List.length_cons, List.length_nil, Nat.reduceAdd, Nat.zero_lt_succ, Nat.one_lt_succ_succ, Nat.reduceLT, getElem?_pos, List.getElem_toArray, List.getElem_cons_zero, List.getElem_cons_succ] at U2_c0 U2_c1
    (try have n_U2 : (w.heap.size + 1 + 1) ≠ w6.heap.size := by omega)
    (try have m_U2 : w6.heap.size ≠ (w.heap.size + 1 + 1) := by omega)
    (try have u_U2 : (w.heap.size + 1 + 1) < w6.heap.size + 1 := by omega)
    have U3_c0 := U3.cell 0
    have U3_c1 := U3.cell 1
    have U3_f := U3.frozen
    have U3_l := U3.lt
    simp only [List.size_toArray, List.length_cons, List.length_nil, Nat.reduceAdd, Nat.zero_lt_succ, Nat.one_lt_succ_succ, Nat.reduceLT, getElem?_pos, List.getElem_toArray, List.getElem_cons_zero, List.getElem_cons_succ] at U3_c0 U3_c1
    (try have n_U3 : w3.heap.size ≠ w6.heap.size := by omega)
    (try have m_U3 : w6.heap.size ≠ w3.heap.size := by omega)
    (try have u_U3 : w3.heap.size < w6.heap.size + 1 := by omega)
    have U4_c0 := U4.cell 0
    have U4_c1 := U4.cell 1
    have U4_f := U4.frozen
    have U4_l := U4.lt
    simp only [List.size_toArray, List.length_cons, List.length_nil, Nat.reduceAdd, Nat.zero_lt_succ, Nat.one_lt_succ_succ, Nat.reduceLT, getElem?_pos, List.getElem_toArray, List.getElem_cons_zero, List.getElem_cons_succ] at U4_c0 U4_c1
    (try have n_U4 : w5.heap.size ≠ w6.heap.size := by omega)
    (try have m_U4 : w6.heap.size ≠ w5.heap.size := by omega)
    (try have u_U4 : w5.heap.size < w6.heap.size + 1 := by omega)
    have TW := Lib.hid (fun x => TT.out (mix w6 x) (by have HBB := HW.out; (repeat (first | (with_reducible assumption) | (with_reducible exact Below.refl _ _) | (with_reducible refine grow_alloc ?_ _) | (with_reducible refine grow_mix ?_ _) | (with_reducible refine grow_drew ?_) | (with_reducible refine grow_drewN ?_ _) | (with_reducible refine grow_set ?_ (by first | (simp; done) | (simp; omega) | omega) _)))))
    go_wp2_with fail
    refine wp_region_mix 38 (by kernel_rfl) (by kernel_rfl) ?_
    simp only [List.take_succ_cons, List.take_zero, List.drop_succ_cons, List.drop_zero]
    repeat (go_big_quiet_step ((first | (go_at_call 18; (with_reducible exact mix_call (Add_calls _ _ _))) | (go_at_call 20; (with_reducible exact mix_call (Sub_calls _ _ _))) | (go_at_call 14; (with_reducible exact mix_call (Mul_calls _ _ _))) | (go_at_call 23; (with_reducible exact mix_call (Conj_calls _ _))) | (go_at_call 16; (with_reducible exact mix_call (Text_calls _ _ (TW.out _)))))))
    refine wpQuiet_nil ?_
    intro _ hmix
    (try (with_reducible replace hmix := mix_flat hmix))
    obtain ⟨x1, hmix'⟩ := hmix
    have hz := mix_size' hmix'
    subst hmix'
    (try simp only [World.size_alloc, World.size_setCell, World.size_drew] at hz); (try have q0 : w.heap.size < _ := Nat.lt_of_lt_of_le (by omega) hz); (try have q1 : w.heap.size + 1 < _ := Nat.lt_of_lt_of_le (by omega) hz); (try have q2 : w.heap.size + 1 + 1 < _ := Nat.lt_of_lt_of_le (by omega) hz); (try have q3 : w.heap.size + 1 + 1 + 1 < _ := Nat.lt_of_lt_of_le (by omega) hz)
    go_wp2
    go_ret
    have HB := HW.out
    exact ⟨rfl, HB.trans (Below.mono (by (repeat (first | (with_reducible assumption) | (with_reducible exact Below.refl _ _) | (with_reducible refine grow_alloc ?_ _) | (with_reducible refine grow_mix ?_ _) | (with_reducible refine grow_drew ?_) | (with_reducible refine grow_drewN ?_ _) | (with_reducible refine grow_set ?_ (by first | (simp; done) | (simp; omega) | omega) _)))) (by omega))⟩

theorem gaussApart_walk (x : Int × Int) (y : Int × Int) (z : Int × Int) (_ : (Lit.int .i64 x.1).wf = true) (_ : (Lit.int .i64 x.2).wf = true) (_ : (Lit.int .i64 y.1).wf = true) (_ : (Lit.int .i64 y.2).wf = true) (_ : (Lit.int .i64 z.1).wf = true) (_ : (Lit.int .i64 z.2).wf = true) (w : World) (ht : Tab w)  :
    Calls Tryd.prog 9 #[vv x, vv y, vv z] w fun e w' => e = .returned (.bool true) ∧ Below w.heap.size w w' := by
  cases h0 : mayR x with
  | false => exact apart_leave1 x y z w ht h0
  | true =>
    cases h1 : mayR y with
    | false => exact apart_leave2 x y z w ht h0 h1
    | true =>
      cases h2 : mayR z with
      | false => exact apart_leave3 x y z w ht h0 h1 h2
      | true =>
        exact apart_all x y z w ht h0 h1 h2
end Go.Proofs.YtepagnaabncllaaDoor.Laws
