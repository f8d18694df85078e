/-
  The walks of %s: for every input it returns true, and makes only new memory.
-/
import Derived.Test.YtepagnaabncllaaDoorLawFacts
import Derived.Test.YtepagnaabncllaaDoorRow
set_option linter.unusedSimpArgs false
set_option linter.unusedVariables false
namespace Go.Proofs.YtepagnaabncllaaDoor.Laws
open Go Go.RowKit Go.Proofs.YtepagnaabncllaaDoor Go.Proofs.YtepagnaabncllaaDoor.Gauss Go.Proofs.YtepagnaabncllaaDoor.Pure Go.Proofs.YtepagnaabncllaaDoor.Text Go.Proofs.YtepagnaabncllaaDoor.Ref04

attribute [local go_sem high] eql_value neq_value equal_value field_re field_im
set_option maxRecDepth 100000 in
set_option maxHeartbeats 8000000 in
theorem rest_leave1 (x : Int × Int) (y : Int × Int) (k : Int) (w : World) (ht : Tab w) (h0 : x.1 < -1152921504606846976) :
    Calls Tryd.prog 8 #[vv x, vv y, .int .i64 k] w fun e w' => e = .returned (.bool true) ∧ Below w.heap.size w w' := by
  have HT := Lib.hid (fun (w1 : World) (h : Below w.heap.size w w1) => fixed_calls w1 (ht.below h))
  clear ht
  go_enter Tryd.func8, Tryd.ntmps8
  go_wp2_with fail
  (go_at_call 10; refine (HT.out _ (by (repeat (first | (with_reducible assumption) | (with_reducible exact Below.refl _ _) | (with_reducible refine grow_alloc ?_ _) | (with_reducible refine grow_mix ?_ _) | (with_reducible refine grow_drew ?_) | (with_reducible refine grow_drewN ?_ _) | (with_reducible refine grow_set ?_ (by first | (simp; done) | (simp; omega) | omega) _))))).mono ?_; rintro e w' ⟨rfl, hb⟩; have hz := hb.size; (first | (obtain ⟨x1, rfl⟩ := to_mix2 hb) | (obtain ⟨x1, rfl⟩ := to_mix hb)); clear hb; (try simp only [World.size_alloc, World.size_setCell, World.size_drew] at hz); (try have q0 : w.heap.size < _ := Nat.lt_of_lt_of_le (by omega) hz); (try have q1 : w.heap.size + 1 < _ := Nat.lt_of_lt_of_le (by omega) hz); (try have q2 : w.heap.size + 1 + 1 < _ := Nat.lt_of_lt_of_le (by omega) hz); (try have q3 : w.heap.size + 1 + 1 + 1 < _ := Nat.lt_of_lt_of_le (by omega) hz))
  go_wp2_with fail
  (go_at_call 10; refine (HT.out _ (by (repeat (first | (with_reducible assumption) | (with_reducible exact Below.refl _ _) | (with_reducible refine grow_alloc ?_ _) | (with_reducible refine grow_mix ?_ _) | (with_reducible refine grow_drew ?_) | (with_reducible refine grow_drewN ?_ _) | (with_reducible refine grow_set ?_ (by first | (simp; done) | (simp; omega) | omega) _))))).mono ?_; rintro e w' ⟨rfl, hb⟩; have hz := hb.size; (first | (obtain ⟨x1, rfl⟩ := to_mix2 hb) | (obtain ⟨x1, rfl⟩ := to_mix hb)); clear hb; (try simp only [World.size_alloc, World.size_setCell, World.size_drew] at hz); (try have q0 : w.heap.size < _ := Nat.lt_of_lt_of_le (by omega) hz); (try have q1 : w.heap.size + 1 < _ := Nat.lt_of_lt_of_le (by omega) hz); (try have q2 : w.heap.size + 1 + 1 < _ := Nat.lt_of_lt_of_le (by omega) hz); (try have q3 : w.heap.size + 1 + 1 + 1 < _ := Nat.lt_of_lt_of_le (by omega) hz))
  go_wp2
  go_ret
  exact ⟨rfl, by (repeat (first | (with_reducible assumption) | (with_reducible exact Below.refl _ _) | (with_reducible refine grow_alloc ?_ _) | (with_reducible refine grow_mix ?_ _) | (with_reducible refine grow_drew ?_) | (with_reducible refine grow_drewN ?_ _) | (with_reducible refine grow_set ?_ (by first | (simp; done) | (simp; omega) | omega) _)))⟩

set_option maxRecDepth 100000 in
set_option maxHeartbeats 8000000 in
theorem rest_leave2 (x : Int × Int) (y : Int × Int) (k : Int) (w : World) (ht : Tab w) (h0 : ¬ (x.1 < -1152921504606846976)) (h1 : 1152921504606846976 < x.1) :
    Calls Tryd.prog 8 #[vv x, vv y, .int .i64 k] w fun e w' => e = .returned (.bool true) ∧ Below w.heap.size w w' := by
  have HT := Lib.hid (fun (w1 : World) (h : Below w.heap.size w w1) => fixed_calls w1 (ht.below h))
  clear ht
  go_enter Tryd.func8, Tryd.ntmps8
  go_wp2_with fail
  (go_at_call 10; refine (HT.out _ (by (repeat (first | (with_reducible assumption) | (with_reducible exact Below.refl _ _) | (with_reducible refine grow_alloc ?_ _) | (with_reducible refine grow_mix ?_ _) | (with_reducible refine grow_drew ?_) | (with_reducible refine grow_drewN ?_ _) | (with_reducible refine grow_set ?_ (by first | (simp; done) | (simp; omega) | omega) _))))).mono ?_; rintro e w' ⟨rfl, hb⟩; have hz := hb.size; (first | (obtain ⟨x1, rfl⟩ := to_mix2 hb) | (obtain ⟨x1, rfl⟩ := to_mix hb)); clear hb; (try simp only [World.size_alloc, World.size_setCell, World.size_drew] at hz); (try have q0 : w.heap.size < _ := Nat.lt_of_lt_of_le (by omega) hz); (try have q1 : w.heap.size + 1 < _ := Nat.lt_of_lt_of_le (by omega) hz); (try have q2 : w.heap.size + 1 + 1 < _ := Nat.lt_of_lt_of_le (by omega) hz); (try have q3 : w.heap.size + 1 + 1 + 1 < _ := Nat.lt_of_lt_of_le (by omega) hz))
  go_wp2_with fail
  (go_at_call 10; refine (HT.out _ (by (repeat (first | (with_reducible assumption) | (with_reducible exact Below.refl _ _) | (with_reducible refine grow_alloc ?_ _) | (with_reducible refine grow_mix ?_ _) | (with_reducible refine grow_drew ?_) | (with_reducible refine grow_drewN ?_ _) | (with_reducible refine grow_set ?_ (by first | (simp; done) | (simp; omega) | omega) _))))).mono ?_; rintro e w' ⟨rfl, hb⟩; have hz := hb.size; (first | (obtain ⟨x1, rfl⟩ := to_mix2 hb) | (obtain ⟨x1, rfl⟩ := to_mix hb)); clear hb; (try simp only [World.size_alloc, World.size_setCell, World.size_drew] at hz); (try have q0 : w.heap.size < _ := Nat.lt_of_lt_of_le (by omega) hz); (try have q1 : w.heap.size + 1 < _ := Nat.lt_of_lt_of_le (by omega) hz); (try have q2 : w.heap.size + 1 + 1 < _ := Nat.lt_of_lt_of_le (by omega) hz); (try have q3 : w.heap.size + 1 + 1 + 1 < _ := Nat.lt_of_lt_of_le (by omega) hz))
  go_wp2
  go_ret
  exact ⟨rfl, by (repeat (first | (with_reducible assumption) | (with_reducible exact Below.refl _ _) | (with_reducible refine grow_alloc ?_ _) | (with_reducible refine grow_mix ?_ _) | (with_reducible refine grow_drew ?_) | (with_reducible refine grow_drewN ?_ _) | (with_reducible refine grow_set ?_ (by first | (simp; done) | (simp; omega) | omega) _)))⟩

set_option maxRecDepth 100000 in
set_option maxHeartbeats 8000000 in
theorem rest_leave3 (x : Int × Int) (y : Int × Int) (k : Int) (w : World) (ht : Tab w) (h0 : ¬ (x.1 < -1152921504606846976)) (h1 : ¬ (1152921504606846976 < x.1)) (h2 : x.2 < -1152921504606846976) :
    Calls Tryd.prog 8 #[vv x, vv y, .int .i64 k] w fun e w' => e = .returned (.bool true) ∧ Below w.heap.size w w' := by
  have HT := Lib.hid (fun (w1 : World) (h : Below w.heap.size w w1) => fixed_calls w1 (ht.below h))
  clear ht
  go_enter Tryd.func8, Tryd.ntmps8
  go_wp2_with fail
  (go_at_call 10; refine (HT.out _ (by (repeat (first | (with_reducible assumption) | (with_reducible exact Below.refl _ _) | (with_reducible refine grow_alloc ?_ _) | (with_reducible refine grow_mix ?_ _) | (with_reducible refine grow_drew ?_) | (with_reducible refine grow_drewN ?_ _) | (with_reducible refine grow_set ?_ (by first | (simp; done) | (simp; omega) | omega) _))))).mono ?_; rintro e w' ⟨rfl, hb⟩; have hz := hb.size; (first | (obtain ⟨x1, rfl⟩ := to_mix2 hb) | (obtain ⟨x1, rfl⟩ := to_mix hb)); clear hb; (try simp only [World.size_alloc, World.size_setCell, World.size_drew] at hz); (try have q0 : w.heap.size < _ := Nat.lt_of_lt_of_le (by omega) hz); (try have q1 : w.heap.size + 1 < _ := Nat.lt_of_lt_of_le (by omega) hz); (try have q2 : w.heap.size + 1 + 1 < _ := Nat.lt_of_lt_of_le (by omega) hz); (try have q3 : w.heap.size + 1 + 1 + 1 < _ := Nat.lt_of_lt_of_le (by omega) hz))
  go_wp2_with fail
  (go_at_call 10; refine (HT.out _ (by (repeat (first | (with_reducible assumption) | (with_reducible exact Below.refl _ _) | (with_reducible refine grow_alloc ?_ _) | (with_reducible refine grow_mix ?_ _) | (with_reducible refine grow_drew ?_) | (with_reducible refine grow_drewN ?_ _) | (with_reducible refine grow_set ?_ (by first | (simp; done) | (simp; omega) | omega) _))))).mono ?_; rintro e w' ⟨rfl, hb⟩; have hz := hb.size; (first | (obtain ⟨x1, rfl⟩ := to_mix2 hb) | (obtain ⟨x1, rfl⟩ := to_mix hb)); clear hb; (try simp only [World.size_alloc, World.size_setCell, World.size_drew] at hz); (try have q0 : w.heap.size < _ := Nat.lt_of_lt_of_le (by omega) hz); (try have q1 : w.heap.size + 1 < _ := Nat.lt_of_lt_of_le (by omega) hz); (try have q2 : w.heap.size + 1 + 1 < _ := Nat.lt_of_lt_of_le (by omega) hz); (try have q3 : w.heap.size + 1 + 1 + 1 < _ := Nat.lt_of_lt_of_le (by omega) hz))
  go_wp2
  go_ret
  exact ⟨rfl, by (repeat (first | (with_reducible assumption) | (with_reducible exact Below.refl _ _) | (with_reducible refine grow_alloc ?_ _) | (with_reducible refine grow_mix ?_ _) | (with_reducible refine grow_drew ?_) | (with_reducible refine grow_drewN ?_ _) | (with_reducible refine grow_set ?_ (by first | (simp; done) | (simp; omega) | omega) _)))⟩

set_option maxRecDepth 100000 in
set_option maxHeartbeats 8000000 in
theorem rest_leave4 (x : Int × Int) (y : Int × Int) (k : Int) (w : World) (ht : Tab w) (h0 : ¬ (x.1 < -1152921504606846976)) (h1 : ¬ (1152921504606846976 < x.1)) (h2 : ¬ (x.2 < -1152921504606846976)) (h3 : 1152921504606846976 < x.2) :
    Calls Tryd.prog 8 #[vv x, vv y, .int .i64 k] w fun e w' => e = .returned (.bool true) ∧ Below w.heap.size w w' := by
  have HT := Lib.hid (fun (w1 : World) (h : Below w.heap.size w w1) => fixed_calls w1 (ht.below h))
  clear ht
  go_enter Tryd.func8, Tryd.ntmps8
  go_wp2_with fail
  (go_at_call 10; refine (HT.out _ (by (repeat (first | (with_reducible assumption) | (with_reducible exact Below.refl _ _) | (with_reducible refine grow_alloc ?_ _) | (with_reducible refine grow_mix ?_ _) | (with_reducible refine grow_drew ?_) | (with_reducible refine grow_drewN ?_ _) | (with_reducible refine grow_set ?_ (by first | (simp; done) | (simp; omega) | omega) _))))).mono ?_; rintro e w' ⟨rfl, hb⟩; have hz := hb.size; (first | (obtain ⟨x1, rfl⟩ := to_mix2 hb) | (obtain ⟨x1, rfl⟩ := to_mix hb)); clear hb; (try simp only [World.size_alloc, World.size_setCell, World.size_drew] at hz); (try have q0 : w.heap.size < _ := Nat.lt_of_lt_of_le (by omega) hz); (try have q1 : w.heap.size + 1 < _ := Nat.lt_of_lt_of_le (by omega) hz); (try have q2 : w.heap.size + 1 + 1 < _ := Nat.lt_of_lt_of_le (by omega) hz); (try have q3 : w.heap.size + 1 + 1 + 1 < _ := Nat.lt_of_lt_of_le (by omega) hz))
  go_wp2_with fail
  (go_at_call 10; refine (HT.out _ (by (repeat (first | (with_reducible assumption) | (with_reducible exact Below.refl _ _) | (with_reducible refine grow_alloc ?_ _) | (with_reducible refine grow_mix ?_ _) | (with_reducible refine grow_drew ?_) | (with_reducible refine grow_drewN ?_ _) | (with_reducible refine grow_set ?_ (by first | (simp; done) | (simp; omega) | omega) _))))).mono ?_; rintro e w' ⟨rfl, hb⟩; have hz := hb.size; (first | (obtain ⟨x1, rfl⟩ := to_mix2 hb) | (obtain ⟨x1, rfl⟩ := to_mix hb)); clear hb; (try simp only [World.size_alloc, World.size_setCell, World.size_drew] at hz); (try have q0 : w.heap.size < _ := Nat.lt_of_lt_of_le (by omega) hz); (try have q1 : w.heap.size + 1 < _ := Nat.lt_of_lt_of_le (by omega) hz); (try have q2 : w.heap.size + 1 + 1 < _ := Nat.lt_of_lt_of_le (by omega) hz); (try have q3 : w.heap.size + 1 + 1 + 1 < _ := Nat.lt_of_lt_of_le (by omega) hz))
  go_wp2
  go_ret
  exact ⟨rfl, by (repeat (first | (with_reducible assumption) | (with_reducible exact Below.refl _ _) | (with_reducible refine grow_alloc ?_ _) | (with_reducible refine grow_mix ?_ _) | (with_reducible refine grow_drew ?_) | (with_reducible refine grow_drewN ?_ _) | (with_reducible refine grow_set ?_ (by first | (simp; done) | (simp; omega) | omega) _)))⟩

set_option maxRecDepth 100000 in
set_option maxHeartbeats 8000000 in
theorem rest_leave5 (x : Int × Int) (y : Int × Int) (k : Int) (w : World) (ht : Tab w) (h0 : ¬ (x.1 < -1152921504606846976)) (h1 : ¬ (1152921504606846976 < x.1)) (h2 : ¬ (x.2 < -1152921504606846976)) (h3 : ¬ (1152921504606846976 < x.2)) (h4 : k < -1000) :
    Calls Tryd.prog 8 #[vv x, vv y, .int .i64 k] w fun e w' => e = .returned (.bool true) ∧ Below w.heap.size w w' := by
  have HT := Lib.hid (fun (w1 : World) (h : Below w.heap.size w w1) => fixed_calls w1 (ht.below h))
  clear ht
  go_enter Tryd.func8, Tryd.ntmps8
  go_wp2_with fail
  (go_at_call 10; refine (HT.out _ (by (repeat (first | (with_reducible assumption) | (with_reducible exact Below.refl _ _) | (with_reducible refine grow_alloc ?_ _) | (with_reducible refine grow_mix ?_ _) | (with_reducible refine grow_drew ?_) | (with_reducible refine grow_drewN ?_ _) | (with_reducible refine grow_set ?_ (by first | (simp; done) | (simp; omega) | omega) _))))).mono ?_; rintro e w' ⟨rfl, hb⟩; have hz := hb.size; (first | (obtain ⟨x1, rfl⟩ := to_mix2 hb) | (obtain ⟨x1, rfl⟩ := to_mix hb)); clear hb; (try simp only [World.size_alloc, World.size_setCell, World.size_drew] at hz); (try have q0 : w.heap.size < _ := Nat.lt_of_lt_of_le (by omega) hz); (try have q1 : w.heap.size + 1 < _ := Nat.lt_of_lt_of_le (by omega) hz); (try have q2 : w.heap.size + 1 + 1 < _ := Nat.lt_of_lt_of_le (by omega) hz); (try have q3 : w.heap.size + 1 + 1 + 1 < _ := Nat.lt_of_lt_of_le (by omega) hz))
  go_wp2_with fail
  (go_at_call 10; refine (HT.out _ (by (repeat (first | (with_reducible assumption) | (with_reducible exact Below.refl _ _) | (with_reducible refine grow_alloc ?_ _) | (with_reducible refine grow_mix ?_ _) | (with_reducible refine grow_drew ?_) | (with_reducible refine grow_drewN ?_ _) | (with_reducible refine grow_set ?_ (by first | (simp; done) | (simp; omega) | omega) _))))).mono ?_; rintro e w' ⟨rfl, hb⟩; have hz := hb.size; (first | (obtain ⟨x1, rfl⟩ := to_mix2 hb) | (obtain ⟨x1, rfl⟩ := to_mix hb)); clear hb; (try simp only [World.size_alloc, World.size_setCell, World.size_drew] at hz); (try have q0 : w.heap.size < _ := Nat.lt_of_lt_of_le (by omega) hz); (try have q1 : w.heap.size + 1 < _ := Nat.lt_of_lt_of_le (by omega) hz); (try have q2 : w.heap.size + 1 + 1 < _ := Nat.lt_of_lt_of_le (by omega) hz); (try have q3 : w.heap.size + 1 + 1 + 1 < _ := Nat.lt_of_lt_of_le (by omega) hz))
  go_wp2
  go_ret
  exact ⟨rfl, by (repeat (first | (with_reducible assumption) | (with_reducible exact Below.refl _ _) | (with_reducible refine grow_alloc ?_ _) | (with_reducible refine grow_mix ?_ _) | (with_reducible refine grow_drew ?_) | (with_reducible refine grow_drewN ?_ _) | (with_reducible refine grow_set ?_ (by first | (simp; done) | (simp; omega) | omega) _)))⟩

set_option maxRecDepth 100000 in
set_option maxHeartbeats 8000000 in
theorem rest_leave6 (x : Int × Int) (y : Int × Int) (k : Int) (w : World) (ht : Tab w) (h0 : ¬ (x.1 < -1152921504606846976)) (h1 : ¬ (1152921504606846976 < x.1)) (h2 : ¬ (x.2 < -1152921504606846976)) (h3 : ¬ (1152921504606846976 < x.2)) (h4 : ¬ (k < -1000)) (h5 : 1000 < k) :
    Calls Tryd.prog 8 #[vv x, vv y, .int .i64 k] w fun e w' => e = .returned (.bool true) ∧ Below w.heap.size w w' := by
  have HT := Lib.hid (fun (w1 : World) (h : Below w.heap.size w w1) => fixed_calls w1 (ht.below h))
  clear ht
  go_enter Tryd.func8, Tryd.ntmps8
  go_wp2_with fail
  (go_at_call 10; refine (HT.out _ (by (repeat (first | (with_reducible assumption) | (with_reducible exact Below.refl _ _) | (with_reducible refine grow_alloc ?_ _) | (with_reducible refine grow_mix ?_ _) | (with_reducible refine grow_drew ?_) | (with_reducible refine grow_drewN ?_ _) | (with_reducible refine grow_set ?_ (by first | (simp; done) | (simp; omega) | omega) _))))).mono ?_; rintro e w' ⟨rfl, hb⟩; have hz := hb.size; (first | (obtain ⟨x1, rfl⟩ := to_mix2 hb) | (obtain ⟨x1, rfl⟩ := to_mix hb)); clear hb; (try simp only [World.size_alloc, World.size_setCell, World.size_drew] at hz); (try have q0 : w.heap.size < _ := Nat.lt_of_lt_of_le (by omega) hz); (try have q1 : w.heap.size + 1 < _ := Nat.lt_of_lt_of_le (by omega) hz); (try have q2 : w.heap.size + 1 + 1 < _ := Nat.lt_of_lt_of_le (by omega) hz); (try have q3 : w.heap.size + 1 + 1 + 1 < _ := Nat.lt_of_lt_of_le (by omega) hz))
  go_wp2_with fail
  (go_at_call 10; refine (HT.out _ (by (repeat (first | (with_reducible assumption) | (with_reducible exact Below.refl _ _) | (with_reducible refine grow_alloc ?_ _) | (with_reducible refine grow_mix ?_ _) | (with_reducible refine grow_drew ?_) | (with_reducible refine grow_drewN ?_ _) | (with_reducible refine grow_set ?_ (by first | (simp; done) | (simp; omega) | omega) _))))).mono ?_; rintro e w' ⟨rfl, hb⟩; have hz := hb.size; (first | (obtain ⟨x1, rfl⟩ := to_mix2 hb) | (obtain ⟨x1, rfl⟩ := to_mix hb)); clear hb; (try simp only [World.size_alloc, World.size_setCell, World.size_drew] at hz); (try have q0 : w.heap.size < _ := Nat.lt_of_lt_of_le (by omega) hz); (try have q1 : w.heap.size + 1 < _ := Nat.lt_of_lt_of_le (by omega) hz); (try have q2 : w.heap.size + 1 + 1 < _ := Nat.lt_of_lt_of_le (by omega) hz); (try have q3 : w.heap.size + 1 + 1 + 1 < _ := Nat.lt_of_lt_of_le (by omega) hz))
  go_wp2
  go_ret
  exact ⟨rfl, by (repeat (first | (with_reducible assumption) | (with_reducible exact Below.refl _ _) | (with_reducible refine grow_alloc ?_ _) | (with_reducible refine grow_mix ?_ _) | (with_reducible refine grow_drew ?_) | (with_reducible refine grow_drewN ?_ _) | (with_reducible refine grow_set ?_ (by first | (simp; done) | (simp; omega) | omega) _)))⟩

theorem rest_more (n k : Int) : rest (n + 251 * k) = rest n := by unfold rest; omega
theorem rest_less (n k : Int) : rest (n - 251 * k) = rest n := by unfold rest; omega
/-- Values with the same rests. -/
theorem of_more (a b k : Int) : ofV (a + 251 * k) (b - 251 * k) = ofV a b := by unfold ofV; rw [rest_more, rest_less]
theorem mul_more (x y : Int × Int) (k : Int) : mulV (x.1 + 251 * k, x.2 - 251 * k) y = mulV x y := by unfold mulV; simp only [rest_more, rest_less]
theorem add_more (x y : Int × Int) (k : Int) : addV (x.1 + 251 * k, x.2 - 251 * k) y = addV x y := by unfold addV; simp only [rest_more, rest_less]
theorem div_more (x y : Int × Int) (k : Int) : divV (x.1 + 251 * k, x.2 - 251 * k) y = divV x y := by unfold divV; rw [mul_more]
theorem text_more (x : Int × Int) (k : Int) : textV (x.1 + 251 * k, x.2 - 251 * k) = textV x := by unfold textV; simp only [rest_more, rest_less]
set_option maxRecDepth 100000 in
set_option maxHeartbeats 8000000 in
theorem rest_all_true (x : Int × Int) (y : Int × Int) (k : Int) (w : World) (ht : Tab w) (h0 : ¬ (x.1 < -1152921504606846976)) (h1 : ¬ (1152921504606846976 < x.1)) (h2 : ¬ (x.2 < -1152921504606846976)) (h3 : ¬ (1152921504606846976 < x.2)) (h4 : ¬ (k < -1000)) (h5 : ¬ (1000 < k)) (hz : isZ y = true) :
    Calls Tryd.prog 8 #[vv x, vv y, .int .i64 k] w fun e w' => e = .returned (.bool true) ∧ Below w.heap.size w w' := by
  have TT := Lib.hid (fun (w1 : World) (h : Below w.heap.size w w1) => ht.below h)
  have HT := Lib.hid (fun (w1 : World) (h : Below w.heap.size w w1) => fixed_calls w1 (ht.below h))
  have e0 := eqB_true (of_more x.1 x.2 k).symm
  have e1 := eqB_true (mul_more x y k).symm
  have e2 := eqB_true (add_more x y k).symm
  have e3 := eqB_true (div_more x y k).symm
  have e4 := beq_iff_eq.2 (text_more x k).symm
  clear ht
  go_enter Tryd.func8, Tryd.ntmps8
  go_wp2_with fail
  (go_at_call 10; refine (HT.out _ (by (repeat (first | (with_reducible assumption) | (with_reducible exact Below.refl _ _) | (with_reducible refine grow_alloc ?_ _) | (with_reducible refine grow_mix ?_ _) | (with_reducible refine grow_drew ?_) | (with_reducible refine grow_drewN ?_ _) | (with_reducible refine grow_set ?_ (by first | (simp; done) | (simp; omega) | omega) _))))).mono ?_; rintro e w1 ⟨rfl, hb⟩; obtain ⟨hc_w1, hf_w1⟩ := bcell hb; have hz_w1 := hb.size; (try simp only [World.size_alloc] at hz_w1); (try have hy0_w1 : w.heap.size < w1.heap.size := by omega); (try have hy1_w1 : w.heap.size + 1 < w1.heap.size := by omega); (try have hy2_w1 : w.heap.size + 1 + 1 < w1.heap.size := by omega); (try have hyA_w1 : w.heap.size < w1.heap.size + 1 := by omega); (try have hyB_w1 : w.heap.size + 1 < w1.heap.size + 1 := by omega); (try have hyC_w1 : w.heap.size + 1 + 1 < w1.heap.size + 1 := by omega); have hb_w1 := Lib.hid hb; clear hb)
  have X0 : Has w1 w.heap.size #[.int .i64 x.1, .int .i64 x.2] 23 := by
    refine Has.below' ?_ hb_w1.out
    (repeat (first | (with_reducible assumption) | (with_reducible exact Has.new _ _ _) | (with_reducible exact Has.new' (by first | rfl | (simp; done) | (simp; omega)) _ _) | (with_reducible apply Has.alloc) | (with_reducible apply Has.mix) | (with_reducible apply Has.drew) | (with_reducible apply Has.drewN) | (with_reducible apply Has.set_same) | (with_reducible apply Has.set_other (hp := (by first | (simp; done) | (simp; omega) | omega))) | (with_reducible rfl) | rfl))
  have X1 : Has w1 (w.heap.size + 1) #[.int .i64 y.1, .int .i64 y.2] 23 := by
    refine Has.below' ?_ hb_w1.out
    (repeat (first | (with_reducible assumption) | (with_reducible exact Has.new _ _ _) | (with_reducible exact Has.new' (by first | rfl | (simp; done) | (simp; omega)) _ _) | (with_reducible apply Has.alloc) | (with_reducible apply Has.mix) | (with_reducible apply Has.drew) | (with_reducible apply Has.drewN) | (with_reducible apply Has.set_same) | (with_reducible apply Has.set_other (hp := (by first | (simp; done) | (simp; omega) | omega))) | (with_reducible rfl) | rfl))
  have HW := Lib.hid (show Below w.heap.size w w1 from Below.trans (by (repeat (first | (with_reducible assumption) | (with_reducible exact Below.refl _ _) | (with_reducible refine grow_alloc ?_ _) | (with_reducible refine grow_mix ?_ _) | (with_reducible refine grow_drew ?_) | (with_reducible refine grow_drewN ?_ _) | (with_reducible refine grow_set ?_ (by first | (simp; done) | (simp; omega) | omega) _)))) (hb_w1.out.mono (by first | omega | (simp; done) | (simp; omega))))
  clear hc_w1 hf_w1
  have X0_c0 := X0.cell 0
  have X0_c1 := X0.cell 1
  have X0_f := X0.frozen
  have X0_l := X0.lt
  simp only [List.size_toArray, List.length_cons, List.length_nil, Nat.reduceAdd, Nat.zero_lt_succ, Nat.one_lt_succ_succ, Nat.reduceLT, getElem?_pos, List.getElem_toArray, List.getElem_cons_zero, List.getElem_cons_succ] at X0_c0 X0_c1
  have X0_n : w.heap.size ≠ w1.heap.size := by omega
  have X0_m : w1.heap.size ≠ w.heap.size := by omega
  have X1_c0 := X1.cell 0
  have X1_c1 := X1.cell 1
  have X1_f := X1.frozen
  have X1_l := X1.lt
  simp only [List.size_toArray, List.length_cons, List.length_nil, Nat.reduceAdd, Nat.zero_lt_succ, Nat.one_lt_succ_succ, Nat.reduceLT, getElem?_pos, List.getElem_toArray, List.getElem_cons_zero, List.getElem_cons_succ] at X1_c0 X1_c1
  have X1_n : (w.heap.size + 1) ≠ w1.heap.size := by omega
  have X1_m : w1.heap.size ≠ (w.heap.size + 1) := by omega
  go_wp2_with fail
  (go_at_call 15; refine (Gauss.Div_calls x y _).mono ?_; rintro e w3 ⟨rfl, hb⟩; obtain ⟨hc_w3, hf_w3⟩ := bcell hb; have hz_w3 := hb.size; (try simp only [World.size_alloc] at hz_w3); (try have hy0_w3 : w.heap.size < w3.heap.size := by omega); (try have hy1_w3 : w.heap.size + 1 < w3.heap.size := by omega); (try have hy2_w3 : w.heap.size + 1 + 1 < w3.heap.size := by omega); (try have hyA_w3 : w.heap.size < w3.heap.size + 1 := by omega); (try have hyB_w3 : w.heap.size + 1 < w3.heap.size + 1 := by omega); (try have hyC_w3 : w.heap.size + 1 + 1 < w3.heap.size + 1 := by omega); have hb_w3 := Lib.hid hb; clear hb)
  have X0_w3 : Has w3 w.heap.size #[.int .i64 x.1, .int .i64 x.2] 23 := by
    refine Has.below' ?_ hb_w3.out
    (repeat (first | (with_reducible assumption) | (with_reducible exact Has.new _ _ _) | (with_reducible exact Has.new' (by first | rfl | (simp; done) | (simp; omega)) _ _) | (with_reducible apply Has.alloc) | (with_reducible apply Has.mix) | (with_reducible apply Has.drew) | (with_reducible apply Has.drewN) | (with_reducible apply Has.set_same) | (with_reducible apply Has.set_other (hp := (by first | (simp; done) | (simp; omega) | omega))) | (with_reducible rfl) | rfl))
  have X1_w3 : Has w3 (w.heap.size + 1) #[.int .i64 y.1, .int .i64 y.2] 23 := by
    refine Has.below' ?_ hb_w3.out
    (repeat (first | (with_reducible assumption) | (with_reducible exact Has.new _ _ _) | (with_reducible exact Has.new' (by first | rfl | (simp; done) | (simp; omega)) _ _) | (with_reducible apply Has.alloc) | (with_reducible apply Has.mix) | (with_reducible apply Has.drew) | (with_reducible apply Has.drewN) | (with_reducible apply Has.set_same) | (with_reducible apply Has.set_other (hp := (by first | (simp; done) | (simp; omega) | omega))) | (with_reducible rfl) | rfl))
  have X2_w3 : Has w3 w1.heap.size #[.int .i64 (x.1 + 251 * k), .int .i64 (x.2 - 251 * k)] 23 := by
    refine Has.below' ?_ hb_w3.out
    (repeat (first | (with_reducible assumption) | (with_reducible exact Has.new _ _ _) | (with_reducible exact Has.new' (by first | rfl | (simp; done) | (simp; omega)) _ _) | (with_reducible apply Has.alloc) | (with_reducible apply Has.mix) | (with_reducible apply Has.drew) | (with_reducible apply Has.drewN) | (with_reducible apply Has.set_same) | (with_reducible apply Has.set_other (hp := (by first | (simp; done) | (simp; omega) | omega))) | (with_reducible rfl) | rfl))
  have HB := HW.out
  have HW := Lib.hid (show Below w.heap.size w w3 from Below.trans (by (repeat (first | (with_reducible assumption) | (with_reducible exact Below.refl _ _) | (with_reducible refine grow_alloc ?_ _) | (with_reducible refine grow_mix ?_ _) | (with_reducible refine grow_drew ?_) | (with_reducible refine grow_drewN ?_ _) | (with_reducible refine grow_set ?_ (by first | (simp; done) | (simp; omega) | omega) _)))) (hb_w3.out.mono (by first | omega | (simp; done) | (simp; omega))))
  clear hc_w3 hf_w3 HB
  have X0_w3_c0 := X0_w3.cell 0
  have X0_w3_c1 := X0_w3.cell 1
  have X0_w3_f := X0_w3.frozen
  have X0_w3_l := X0_w3.lt
  simp only [List.size_toArray, List.length_cons, List.length_nil, Nat.reduceAdd, Nat.zero_lt_succ, Nat.one_lt_succ_succ, Nat.reduceLT, getElem?_pos, List.getElem_toArray, List.getElem_cons_zero, List.getElem_cons_succ] at X0_w3_c0 X0_w3_c1
  have X0_w3_n : w.heap.size ≠ w3.heap.size := by omega
  have X0_w3_m : w3.heap.size ≠ w.heap.size := by omega
  have X1_w3_c0 := X1_w3.cell 0
  have X1_w3_c1 := X1_w3.cell 1
  have X1_w3_f := X1_w3.frozen
  have X1_w3_l := X1_w3.lt
  simp only [List.size_toArray, List.length_cons, List.length_nil, Nat.reduceAdd, Nat.zero_lt_succ, Nat.one_lt_succ_succ, Nat.reduceLT, getElem?_pos, List.getElem_toArray, List.getElem_cons_zero, List.getElem_cons_succ] at X1_w3_c0 X1_w3_c1
  have X1_w3_n : (w.heap.size + 1) ≠ w3.heap.size := by omega
  have X1_w3_m : w3.heap.size ≠ (w.heap.size + 1) := by omega
  have X2_w3_c0 := X2_w3.cell 0
  have X2_w3_c1 := X2_w3.cell 1
  have X2_w3_f := X2_w3.frozen
  have X2_w3_l := X2_w3.lt
  simp only [List.size_toArray, List.length_cons, List.length_nil, Nat.reduceAdd, Nat.zero_lt_succ, Nat.one_lt_succ_succ, Nat.reduceLT, getElem?_pos, List.getElem_toArray, List.getElem_cons_zero, List.getElem_cons_succ] at X2_w3_c0 X2_w3_c1
  have X2_w3_n : w1.heap.size ≠ w3.heap.size := by omega
  have X2_w3_m : w3.heap.size ≠ w1.heap.size := by omega
  go_wp2_with fail
  (go_at_call 15; refine (Gauss.Div_calls (x.1 + 251 * k, x.2 - 251 * k) y _).mono ?_; rintro e w5 ⟨rfl, hb⟩; obtain ⟨hc_w5, hf_w5⟩ := bcell hb; have hz_w5 := hb.size; (try simp only [World.size_alloc] at hz_w5); (try have hy0_w5 : w.heap.size < w5.heap.size := by omega); (try have hy1_w5 : w.heap.size + 1 < w5.heap.size := by omega); (try have hy2_w5 : w.heap.size + 1 + 1 < w5.heap.size := by omega); (try have hyA_w5 : w.heap.size < w5.heap.size + 1 := by omega); (try have hyB_w5 : w.heap.size + 1 < w5.heap.size + 1 := by omega); (try have hyC_w5 : w.heap.size + 1 + 1 < w5.heap.size + 1 := by omega); have hb_w5 := Lib.hid hb; clear hb)
  have Z0_w5 : Has w5 w.heap.size #[.int .i64 x.1, .int .i64 x.2] 23 := by
    refine Has.below' ?_ hb_w5.out
    (repeat (first | (with_reducible assumption) | (with_reducible exact Has.new _ _ _) | (with_reducible exact Has.new' (by first | rfl | (simp; done) | (simp; omega)) _ _) | (with_reducible apply Has.alloc) | (with_reducible apply Has.mix) | (with_reducible apply Has.drew) | (with_reducible apply Has.drewN) | (with_reducible apply Has.set_same) | (with_reducible apply Has.set_other (hp := (by first | (simp; done) | (simp; omega) | omega))) | (with_reducible rfl) | rfl))
  have Z1_w5 : Has w5 (w.heap.size + 1) #[.int .i64 y.1, .int .i64 y.2] 23 := by
    refine Has.below' ?_ hb_w5.out
    (repeat (first | (with_reducible assumption) | (with_reducible exact Has.new _ _ _) | (with_reducible exact Has.new' (by first | rfl | (simp; done) | (simp; omega)) _ _) | (with_reducible apply Has.alloc) | (with_reducible apply Has.mix) | (with_reducible apply Has.drew) | (with_reducible apply Has.drewN) | (with_reducible apply Has.set_same) | (with_reducible apply Has.set_other (hp := (by first | (simp; done) | (simp; omega) | omega))) | (with_reducible rfl) | rfl))
  have Z2_w5 : Has w5 w1.heap.size #[.int .i64 (x.1 + 251 * k), .int .i64 (x.2 - 251 * k)] 23 := by
    refine Has.below' ?_ hb_w5.out
    (repeat (first | (with_reducible assumption) | (with_reducible exact Has.new _ _ _) | (with_reducible exact Has.new' (by first | rfl | (simp; done) | (simp; omega)) _ _) | (with_reducible apply Has.alloc) | (with_reducible apply Has.mix) | (with_reducible apply Has.drew) | (with_reducible apply Has.drewN) | (with_reducible apply Has.set_same) | (with_reducible apply Has.set_other (hp := (by first | (simp; done) | (simp; omega) | omega))) | (with_reducible rfl) | rfl))
  have Z3_w5 : Has w5 w3.heap.size #[.int .i64 (divV x y).1, .int .i64 (divV x y).2] 23 := by
    refine Has.below' ?_ hb_w5.out
    (repeat (first | (with_reducible assumption) | (with_reducible exact Has.new _ _ _) | (with_reducible exact Has.new' (by first | rfl | (simp; done) | (simp; omega)) _ _) | (with_reducible apply Has.alloc) | (with_reducible apply Has.mix) | (with_reducible apply Has.drew) | (with_reducible apply Has.drewN) | (with_reducible apply Has.set_same) | (with_reducible apply Has.set_other (hp := (by first | (simp; done) | (simp; omega) | omega))) | (with_reducible rfl) | rfl))
  have HB := HW.out
  have HW := Lib.hid (show Below w.heap.size w w5 from Below.trans (by (repeat (first | (with_reducible assumption) | (with_reducible exact Below.refl _ _) | (with_reducible refine grow_alloc ?_ _) | (with_reducible refine grow_mix ?_ _) | (with_reducible refine grow_drew ?_) | (with_reducible refine grow_drewN ?_ _) | (with_reducible refine grow_set ?_ (by first | (simp; done) | (simp; omega) | omega) _)))) (hb_w5.out.mono (by first | omega | (simp; done) | (simp; omega))))
  clear hc_w5 hf_w5 HB
  have Z0_w5_c0 := Z0_w5.cell 0
  have Z0_w5_c1 := Z0_w5.cell 1
  have Z0_w5_f := Z0_w5.frozen
  have Z0_w5_l := Z0_w5.lt
  simp only [List.size_toArray, List.length_cons, List.length_nil, Nat.reduceAdd, Nat.zero_lt_succ, Nat.one_lt_succ_succ, Nat.reduceLT, getElem?_pos, List.getElem_toArray, List.getElem_cons_zero, List.getElem_cons_succ] at Z0_w5_c0 Z0_w5_c1
  have Z0_n : w.heap.size ≠ w5.heap.size := by omega
  have Z0_m : w5.heap.size ≠ w.heap.size := by omega
  have Z1_w5_c0 := Z1_w5.cell 0
  have Z1_w5_c1 := Z1_w5.cell 1
  have Z1_w5_f := Z1_w5.frozen
  have Z1_w5_l := Z1_w5.lt
  simp only [List.size_toArray, List.length_cons, List.length_nil, Nat.reduceAdd, Nat.zero_lt_succ, Nat.one_lt_succ_succ, Nat.reduceLT, getElem?_pos, List.getElem_toArray, List.getElem_cons_zero, List.getElem_cons_succ] at Z1_w5_c0 Z1_w5_c1
  have Z1_n : (w.heap.size + 1) ≠ w5.heap.size := by omega
  have Z1_m : w5.heap.size ≠ (w.heap.size + 1) := by omega
  have Z2_w5_c0 := Z2_w5.cell 0
  have Z2_w5_c1 := Z2_w5.cell 1
  have Z2_w5_f := Z2_w5.frozen
  have Z2_w5_l := Z2_w5.lt
  simp only [List.size_toArray, List.length_cons, List.length_nil, Nat.reduceAdd, Nat.zero_lt_succ, Nat.one_lt_succ_succ, Nat.reduceLT, getElem?_pos, List.getElem_toArray, List.getElem_cons_zero, List.getElem_cons_succ] at Z2_w5_c0 Z2_w5_c1
  have Z2_n : w1.heap.size ≠ w5.heap.size := by omega
  have Z2_m : w5.heap.size ≠ w1.heap.size := by omega
  have Z3_w5_c0 := Z3_w5.cell 0
  have Z3_w5_c1 := Z3_w5.cell 1
  have Z3_w5_f := Z3_w5.frozen
  have Z3_w5_l := Z3_w5.lt
  simp only [List.size_toArray, List.length_cons, List.length_nil, Nat.reduceAdd, Nat.zero_lt_succ, Nat.one_lt_succ_succ, Nat.reduceLT, getElem?_pos, List.getElem_toArray, List.getElem_cons_zero, List.getElem_cons_succ] at Z3_w5_c0 Z3_w5_c1
  have Z3_n : w3.heap.size ≠ w5.heap.size := by omega
  have Z3_m : w5.heap.size ≠ w3.heap.size := by omega
  go_wp2_with fail
  refine wp_at (fun W => Has W w.heap.size #[.int .i64 x.1, .int .i64 x.2] 23 ∧ Has W (w.heap.size + 1) #[.int .i64 y.1, .int .i64 y.2] 23 ∧ Has W w1.heap.size #[.int .i64 (x.1 + 251 * k), .int .i64 (x.2 - 251 * k)] 23 ∧ Has W w3.heap.size #[.int .i64 (divV x y).1, .int .i64 (divV x y).2] 23 ∧ Has W w5.heap.size #[.int .i64 (divV (x.1 + 251 * k, x.2 - 251 * k) y).1, .int .i64 (divV (x.1 + 251 * k, x.2 - 251 * k) y).2] 23 ∧ Below w.heap.size w W) ⟨by (repeat (first | (with_reducible assumption) | (with_reducible exact Has.new _ _ _) | (with_reducible exact Has.new' (by first | rfl | (simp; done) | (simp; omega)) _ _) | (with_reducible apply Has.alloc) | (with_reducible apply Has.mix) | (with_reducible apply Has.drew) | (with_reducible apply Has.drewN) | (with_reducible apply Has.set_same) | (with_reducible apply Has.set_other (hp := (by first | (simp; done) | (simp; omega) | omega))) | (with_reducible rfl) | rfl)), by (repeat (first | (with_reducible assumption) | (with_reducible exact Has.new _ _ _) | (with_reducible exact Has.new' (by first | rfl | (simp; done) | (simp; omega)) _ _) | (with_reducible apply Has.alloc) | (with_reducible apply Has.mix) | (with_reducible apply Has.drew) | (with_reducible apply Has.drewN) | (with_reducible apply Has.set_same) | (with_reducible apply Has.set_other (hp := (by first | (simp; done) | (simp; omega) | omega))) | (with_reducible rfl) | rfl)), by (repeat (first | (with_reducible assumption) | (with_reducible exact Has.new _ _ _) | (with_reducible exact Has.new' (by first | rfl | (simp; done) | (simp; omega)) _ _) | (with_reducible apply Has.alloc) | (with_reducible apply Has.mix) | (with_reducible apply Has.drew) | (with_reducible apply Has.drewN) | (with_reducible apply Has.set_same) | (with_reducible apply Has.set_other (hp := (by first | (simp; done) | (simp; omega) | omega))) | (with_reducible rfl) | rfl)), by (repeat (first | (with_reducible assumption) | (with_reducible exact Has.new _ _ _) | (with_reducible exact Has.new' (by first | rfl | (simp; done) | (simp; omega)) _ _) | (with_reducible apply Has.alloc) | (with_reducible apply Has.mix) | (with_reducible apply Has.drew) | (with_reducible apply Has.drewN) | (with_reducible apply Has.set_same) | (with_reducible apply Has.set_other (hp := (by first | (simp; done) | (simp; omega) | omega))) | (with_reducible rfl) | rfl)), by (repeat (first | (with_reducible assumption) | (with_reducible exact Has.new _ _ _) | (with_reducible exact Has.new' (by first | rfl | (simp; done) | (simp; omega)) _ _) | (with_reducible apply Has.alloc) | (with_reducible apply Has.mix) | (with_reducible apply Has.drew) | (with_reducible apply Has.drewN) | (with_reducible apply Has.set_same) | (with_reducible apply Has.set_other (hp := (by first | (simp; done) | (simp; omega) | omega))) | (with_reducible rfl) | rfl)), by (try have HBB := HW.out); (repeat (first | (with_reducible assumption) | (with_reducible exact Below.refl _ _) | (with_reducible refine grow_alloc ?_ _) | (with_reducible refine grow_mix ?_ _) | (with_reducible refine grow_drew ?_) | (with_reducible refine grow_drewN ?_ _) | (with_reducible refine grow_set ?_ (by first | (simp; done) | (simp; omega) | omega) _)))⟩ ?_
  rintro w6 ⟨U0, U1, U2, U3, U4, hW⟩
  have hz_w6 := hW.size
  have HW := Lib.hid hW
  clear hW
  have U0_c0 := U0.cell 0
  have U0_c1 := U0.cell 1
  have U0_f := U0.frozen
  have U0_l := U0.lt
  simp only [List.size_toArray, List.length_cons, List.length_nil, Nat.reduceAdd, Nat.zero_lt_succ, Nat.one_lt_succ_succ, Nat.reduceLT, getElem?_pos, List.getElem_toArray, List.getElem_cons_zero, List.getElem_cons_succ] at U0_c0 U0_c1
  (try have n_U0 : w.heap.size ≠ w6.heap.size := by omega)
  (try have m_U0 : w6.heap.size ≠ w.heap.size := by omega)
  (try have u_U0 : w.heap.size < w6.heap.size + 1 := by omega)
  have U1_c0 := U1.cell 0
  have U1_c1 := U1.cell 1
  have U1_f := U1.frozen
  have U1_l := U1.lt
  simp only [List.size_toArray, List.length_cons, List.length_nil, Nat.reduceAdd, Nat.zero_lt_succ, Nat.one_lt_succ_succ, Nat.reduceLT, getElem?_pos, List.getElem_toArray, List.getElem_cons_zero, List.getElem_cons_succ] at U1_c0 U1_c1
  (try have n_U1 : (w.heap.size + 1) ≠ w6.heap.size := by omega)
  (try have m_U1 : w6.heap.size ≠ (w.heap.size + 1) := by omega)
  (try have u_U1 : (w.heap.size + 1) < w6.heap.size + 1 := by omega)
  have U2_c0 := U2.cell 0
  have U2_c1 := U2.cell 1
  have U2_f := U2.frozen
  have U2_l := U2.lt
  simp only [List.size_toArray, List.length_cons, List.length_nil, Nat.reduceAdd, Nat.zero_lt_succ, Nat.one_lt_succ_succ, Nat.reduceLT, getElem?_pos, List.getElem_toArray, List.getElem_cons_zero, List.getElem_cons_succ] at U2_c0 U2_c1
  (try have n_U2 : w1.heap.size ≠ w6.heap.size := by omega)
  (try have m_U2 : w6.heap.size ≠ w1.heap.size := by omega)
  (try have u_U2 : w1.heap.size < w6.heap.size + 1 := by omega)
  have U3_c0 := U3.cell 0
  have U3_c1 := U3.cell 1
  have U3_f := U3.frozen
  have U3_l := U3.lt
  simp only [List.size_toArray, List.length_cons, List.length_nil, Nat.reduceAdd, Nat.zero_lt_succ, Nat.one_lt_succ_succ, Nat.reduceLT, getElem?_pos, List.getElem_toArray, List.getElem_cons_zero, List.getElem_cons_succ] at U3_c0 U3_c1
  (try have n_U3 : w3.heap.size ≠ w6.heap.size := by omega)
  (try have m_U3 : w6.heap.size ≠ w3.heap.size := by omega)
  (try have u_U3 : w3.heap.size < w6.heap.size + 1 := by omega)
  have U4_c0 := U4.cell 0
  have U4_c1 := U4.cell 1
  have U4_c2 := U4.cell 2
  have U4_c3 := U4.cell 3
  have U4_f := U4.frozen
  have U4_l := U4.lt
  simp only [List.size_toArray, List.length_cons, List.length_nil, Nat.reduceAdd, Nat.zero_lt_succ, Nat.one_lt_succ_succ, Nat.reduceLT, getElem?_pos, List.getElem_toArray, List.getElem_cons_zero, List.getElem_cons_succ] at U4_c0 U4_c1 U4_c2 U4_c3
  (try have n_U4 : w5.heap.size ≠ w6.heap.size := by omega)
  (try have m_U4 : w6.heap.size ≠ w5.heap.size := by omega)
  (try have u_U4 : w5.heap.size < w6.heap.size + 1 := by omega)
  have TW := Lib.hid (fun x => TT.out (mix w6 x) (by have HBB := HW.out; (repeat (first | (with_reducible assumption) | (with_reducible exact Below.refl _ _) | (with_reducible refine grow_alloc ?_ _) | (with_reducible refine grow_mix ?_ _) | (with_reducible refine grow_drew ?_) | (with_reducible refine grow_drewN ?_ _) | (with_reducible refine grow_set ?_ (by first | (simp; done) | (simp; omega) | omega) _)))))
  refine wp_region_mix 62 (by kernel_rfl) (by kernel_rfl) ?_
  simp only [List.take_succ_cons, List.take_zero, List.drop_succ_cons, List.drop_zero]
  repeat (go_big_quiet_step ((first | (go_at_call 12; (with_reducible exact mix_call (Gauss.Of_calls x.1 x.2 _))) | (go_at_call 12; (with_reducible exact mix_call (Gauss.Of_calls (x.1 + 251 * k) (x.2 - 251 * k) _))) | (go_at_call 14; (with_reducible exact mix_call (Gauss.Mul_calls x y _))) | (go_at_call 14; (with_reducible exact mix_call (Gauss.Mul_calls (x.1 + 251 * k, x.2 - 251 * k) y _))) | (go_at_call 18; (with_reducible exact mix_call (Gauss.Add_calls x y _))) | (go_at_call 18; (with_reducible exact mix_call (Gauss.Add_calls (x.1 + 251 * k, x.2 - 251 * k) y _))) | (go_at_call 20; (with_reducible exact mix_call (Gauss.Sub_calls y x _))) | (go_at_call 27; (with_reducible exact mix_call (G_May_true (mulV x y) (may_mul _ _) _))) | (go_at_call 27; (with_reducible exact mix_call (G_May_true (subV y x) (may_sub _ _) _))) | (go_at_call 27; (with_reducible exact mix_call (G_May_true (divV x y) (may_div _ _) _))) | (go_at_call 16; (with_reducible exact mix_call (Text_calls x _ (TW.out _)))) | (go_at_call 16; (with_reducible exact mix_call (Text_calls (x.1 + 251 * k, x.2 - 251 * k) _ (TW.out _)))))))
  refine wpQuiet_nil ?_
  intro _ hmix
  (try (with_reducible replace hmix := mix_flat hmix))
  obtain ⟨x1, hmix'⟩ := hmix
  have hz := mix_size' hmix'
  subst hmix'
  (try simp only [World.size_alloc, World.size_setCell, World.size_drew] at hz); (try have q0 : w.heap.size < _ := Nat.lt_of_lt_of_le (by omega) hz); (try have q1 : w.heap.size + 1 < _ := Nat.lt_of_lt_of_le (by omega) hz); (try have q2 : w.heap.size + 1 + 1 < _ := Nat.lt_of_lt_of_le (by omega) hz); (try have q3 : w.heap.size + 1 + 1 + 1 < _ := Nat.lt_of_lt_of_le (by omega) hz)
  go_wp2
  go_ret
  have HB := HW.out
  exact ⟨rfl, HB.trans (Below.mono (by (repeat (first | (with_reducible assumption) | (with_reducible exact Below.refl _ _) | (with_reducible refine grow_alloc ?_ _) | (with_reducible refine grow_mix ?_ _) | (with_reducible refine grow_drew ?_) | (with_reducible refine grow_drewN ?_ _) | (with_reducible refine grow_set ?_ (by first | (simp; done) | (simp; omega) | omega) _)))) (by omega))⟩

set_option maxRecDepth 100000 in
set_option maxHeartbeats 8000000 in
theorem rest_all_false (x : Int × Int) (y : Int × Int) (k : Int) (w : World) (ht : Tab w) (h0 : ¬ (x.1 < -1152921504606846976)) (h1 : ¬ (1152921504606846976 < x.1)) (h2 : ¬ (x.2 < -1152921504606846976)) (h3 : ¬ (1152921504606846976 < x.2)) (h4 : ¬ (k < -1000)) (h5 : ¬ (1000 < k)) (hz : isZ y = false) :
    Calls Tryd.prog 8 #[vv x, vv y, .int .i64 k] w fun e w' => e = .returned (.bool true) ∧ Below w.heap.size w w' := by
  have TT := Lib.hid (fun (w1 : World) (h : Below w.heap.size w w1) => ht.below h)
  have HT := Lib.hid (fun (w1 : World) (h : Below w.heap.size w w1) => fixed_calls w1 (ht.below h))
  have e0 := eqB_true (of_more x.1 x.2 k).symm
  have e1 := eqB_true (mul_more x y k).symm
  have e2 := eqB_true (add_more x y k).symm
  have e3 := eqB_true (div_more x y k).symm
  have e4 := beq_iff_eq.2 (text_more x k).symm
  clear ht
  go_enter Tryd.func8, Tryd.ntmps8
  go_wp2_with fail
  (go_at_call 10; refine (HT.out _ (by (repeat (first | (with_reducible assumption) | (with_reducible exact Below.refl _ _) | (with_reducible refine grow_alloc ?_ _) | (with_reducible refine grow_mix ?_ _) | (with_reducible refine grow_drew ?_) | (with_reducible refine grow_drewN ?_ _) | (with_reducible refine grow_set ?_ (by first | (simp; done) | (simp; omega) | omega) _))))).mono ?_; rintro e w1 ⟨rfl, hb⟩; obtain ⟨hc_w1, hf_w1⟩ := bcell hb; have hz_w1 := hb.size; (try simp only [World.size_alloc] at hz_w1); (try have hy0_w1 : w.heap.size < w1.heap.size := by omega); (try have hy1_w1 : w.heap.size + 1 < w1.heap.size := by omega); (try have hy2_w1 : w.heap.size + 1 + 1 < w1.heap.size := by omega); (try have hyA_w1 : w.heap.size < w1.heap.size + 1 := by omega); (try have hyB_w1 : w.heap.size + 1 < w1.heap.size + 1 := by omega); (try have hyC_w1 : w.heap.size + 1 + 1 < w1.heap.size + 1 := by omega); have hb_w1 := Lib.hid hb; clear hb)
  have X0 : Has w1 w.heap.size #[.int .i64 x.1, .int .i64 x.2] 23 := by
    refine Has.below' ?_ hb_w1.out
    (repeat (first | (with_reducible assumption) | (with_reducible exact Has.new _ _ _) | (with_reducible exact Has.new' (by first | rfl | (simp; done) | (simp; omega)) _ _) | (with_reducible apply Has.alloc) | (with_reducible apply Has.mix) | (with_reducible apply Has.drew) | (with_reducible apply Has.drewN) | (with_reducible apply Has.set_same) | (with_reducible apply Has.set_other (hp := (by first | (simp; done) | (simp; omega) | omega))) | (with_reducible rfl) | rfl))
  have X1 : Has w1 (w.heap.size + 1) #[.int .i64 y.1, .int .i64 y.2] 23 := by
    refine Has.below' ?_ hb_w1.out
    (repeat (first | (with_reducible assumption) | (with_reducible exact Has.new _ _ _) | (with_reducible exact Has.new' (by first | rfl | (simp; done) | (simp; omega)) _ _) | (with_reducible apply Has.alloc) | (with_reducible apply Has.mix) | (with_reducible apply Has.drew) | (with_reducible apply Has.drewN) | (with_reducible apply Has.set_same) | (with_reducible apply Has.set_other (hp := (by first | (simp; done) | (simp; omega) | omega))) | (with_reducible rfl) | rfl))
  have HW := Lib.hid (show Below w.heap.size w w1 from Below.trans (by (repeat (first | (with_reducible assumption) | (with_reducible exact Below.refl _ _) | (with_reducible refine grow_alloc ?_ _) | (with_reducible refine grow_mix ?_ _) | (with_reducible refine grow_drew ?_) | (with_reducible refine grow_drewN ?_ _) | (with_reducible refine grow_set ?_ (by first | (simp; done) | (simp; omega) | omega) _)))) (hb_w1.out.mono (by first | omega | (simp; done) | (simp; omega))))
  clear hc_w1 hf_w1
  have X0_c0 := X0.cell 0
  have X0_c1 := X0.cell 1
  have X0_f := X0.frozen
  have X0_l := X0.lt
  simp only [List.size_toArray, List.length_cons, List.length_nil, Nat.reduceAdd, Nat.zero_lt_succ, Nat.one_lt_succ_succ, Nat.reduceLT, getElem?_pos, List.getElem_toArray, List.getElem_cons_zero, List.getElem_cons_succ] at X0_c0 X0_c1
  have X0_n : w.heap.size ≠ w1.heap.size := by omega
  have X0_m : w1.heap.size ≠ w.heap.size := by omega
  have X1_c0 := X1.cell 0
  have X1_c1 := X1.cell 1
  have X1_f := X1.frozen
  have X1_l := X1.lt
  simp only [List.size_toArray, List.length_cons, List.length_nil, Nat.reduceAdd, Nat.zero_lt_succ, Nat.one_lt_succ_succ, Nat.reduceLT, getElem?_pos, List.getElem_toArray, List.getElem_cons_zero, List.getElem_cons_succ] at X1_c0 X1_c1
  have X1_n : (w.heap.size + 1) ≠ w1.heap.size := by omega
  have X1_m : w1.heap.size ≠ (w.heap.size + 1) := by omega
  go_wp2_with fail
  (go_at_call 15; refine (Gauss.Div_calls x y _).mono ?_; rintro e w3 ⟨rfl, hb⟩; obtain ⟨hc_w3, hf_w3⟩ := bcell hb; have hz_w3 := hb.size; (try simp only [World.size_alloc] at hz_w3); (try have hy0_w3 : w.heap.size < w3.heap.size := by omega); (try have hy1_w3 : w.heap.size + 1 < w3.heap.size := by omega); (try have hy2_w3 : w.heap.size + 1 + 1 < w3.heap.size := by omega); (try have hyA_w3 : w.heap.size < w3.heap.size + 1 := by omega); (try have hyB_w3 : w.heap.size + 1 < w3.heap.size + 1 := by omega); (try have hyC_w3 : w.heap.size + 1 + 1 < w3.heap.size + 1 := by omega); have hb_w3 := Lib.hid hb; clear hb)
  have X0_w3 : Has w3 w.heap.size #[.int .i64 x.1, .int .i64 x.2] 23 := by
    refine Has.below' ?_ hb_w3.out
    (repeat (first | (with_reducible assumption) | (with_reducible exact Has.new _ _ _) | (with_reducible exact Has.new' (by first | rfl | (simp; done) | (simp; omega)) _ _) | (with_reducible apply Has.alloc) | (with_reducible apply Has.mix) | (with_reducible apply Has.drew) | (with_reducible apply Has.drewN) | (with_reducible apply Has.set_same) | (with_reducible apply Has.set_other (hp := (by first | (simp; done) | (simp; omega) | omega))) | (with_reducible rfl) | rfl))
  have X1_w3 : Has w3 (w.heap.size + 1) #[.int .i64 y.1, .int .i64 y.2] 23 := by
    refine Has.below' ?_ hb_w3.out
    (repeat (first | (with_reducible assumption) | (with_reducible exact Has.new _ _ _) | (with_reducible exact Has.new' (by first | rfl | (simp; done) | (simp; omega)) _ _) | (with_reducible apply Has.alloc) | (with_reducible apply Has.mix) | (with_reducible apply Has.drew) | (with_reducible apply Has.drewN) | (with_reducible apply Has.set_same) | (with_reducible apply Has.set_other (hp := (by first | (simp; done) | (simp; omega) | omega))) | (with_reducible rfl) | rfl))
  have X2_w3 : Has w3 w1.heap.size #[.int .i64 (x.1 + 251 * k), .int .i64 (x.2 - 251 * k)] 23 := by
    refine Has.below' ?_ hb_w3.out
    (repeat (first | (with_reducible assumption) | (with_reducible exact Has.new _ _ _) | (with_reducible exact Has.new' (by first | rfl | (simp; done) | (simp; omega)) _ _) | (with_reducible apply Has.alloc) | (with_reducible apply Has.mix) | (with_reducible apply Has.drew) | (with_reducible apply Has.drewN) | (with_reducible apply Has.set_same) | (with_reducible apply Has.set_other (hp := (by first | (simp; done) | (simp; omega) | omega))) | (with_reducible rfl) | rfl))
  have HB := HW.out
  have HW := Lib.hid (show Below w.heap.size w w3 from Below.trans (by (repeat (first | (with_reducible assumption) | (with_reducible exact Below.refl _ _) | (with_reducible refine grow_alloc ?_ _) | (with_reducible refine grow_mix ?_ _) | (with_reducible refine grow_drew ?_) | (with_reducible refine grow_drewN ?_ _) | (with_reducible refine grow_set ?_ (by first | (simp; done) | (simp; omega) | omega) _)))) (hb_w3.out.mono (by first | omega | (simp; done) | (simp; omega))))
  clear hc_w3 hf_w3 HB
  have X0_w3_c0 := X0_w3.cell 0
  have X0_w3_c1 := X0_w3.cell 1
  have X0_w3_f := X0_w3.frozen
  have X0_w3_l := X0_w3.lt
  simp only [List.size_toArray, List.length_cons, List.length_nil, Nat.reduceAdd, Nat.zero_lt_succ, Nat.one_lt_succ_succ, Nat.reduceLT, getElem?_pos, List.getElem_toArray, List.getElem_cons_zero, List.getElem_cons_succ] at X0_w3_c0 X0_w3_c1
  have X0_w3_n : w.heap.size ≠ w3.heap.size := by omega
  have X0_w3_m : w3.heap.size ≠ w.heap.size := by omega
  have X1_w3_c0 := X1_w3.cell 0
  have X1_w3_c1 := X1_w3.cell 1
  have X1_w3_f := X1_w3.frozen
  have X1_w3_l := X1_w3.lt
  simp only [List.size_toArray, List.length_cons, List.length_nil, Nat.reduceAdd, Nat.zero_lt_succ, Nat.one_lt_succ_succ, Nat.reduceLT, getElem?_pos, List.getElem_toArray, List.getElem_cons_zero, List.getElem_cons_succ] at X1_w3_c0 X1_w3_c1
  have X1_w3_n : (w.heap.size + 1) ≠ w3.heap.size := by omega
  have X1_w3_m : w3.heap.size ≠ (w.heap.size + 1) := by omega
  have X2_w3_c0 := X2_w3.cell 0
  have X2_w3_c1 := X2_w3.cell 1
  have X2_w3_f := X2_w3.frozen
  have X2_w3_l := X2_w3.lt
  simp only [List.size_toArray, List.length_cons, List.length_nil, Nat.reduceAdd, Nat.zero_lt_succ, Nat.one_lt_succ_succ, Nat.reduceLT, getElem?_pos, List.getElem_toArray, List.getElem_cons_zero, List.getElem_cons_succ] at X2_w3_c0 X2_w3_c1
  have X2_w3_n : w1.heap.size ≠ w3.heap.size := by omega
  have X2_w3_m : w3.heap.size ≠ w1.heap.size := by omega
  go_wp2_with fail
  (go_at_call 15; refine (Gauss.Div_calls (x.1 + 251 * k, x.2 - 251 * k) y _).mono ?_; rintro e w5 ⟨rfl, hb⟩; obtain ⟨hc_w5, hf_w5⟩ := bcell hb; have hz_w5 := hb.size; (try simp only [World.size_alloc] at hz_w5); (try have hy0_w5 : w.heap.size < w5.heap.size := by omega); (try have hy1_w5 : w.heap.size + 1 < w5.heap.size := by omega); (try have hy2_w5 : w.heap.size + 1 + 1 < w5.heap.size := by omega); (try have hyA_w5 : w.heap.size < w5.heap.size + 1 := by omega); (try have hyB_w5 : w.heap.size + 1 < w5.heap.size + 1 := by omega); (try have hyC_w5 : w.heap.size + 1 + 1 < w5.heap.size + 1 := by omega); have hb_w5 := Lib.hid hb; clear hb)
  have Z0_w5 : Has w5 w.heap.size #[.int .i64 x.1, .int .i64 x.2] 23 := by
    refine Has.below' ?_ hb_w5.out
    (repeat (first | (with_reducible assumption) | (with_reducible exact Has.new _ _ _) | (with_reducible exact Has.new' (by first | rfl | (simp; done) | (simp; omega)) _ _) | (with_reducible apply Has.alloc) | (with_reducible apply Has.mix) | (with_reducible apply Has.drew) | (with_reducible apply Has.drewN) | (with_reducible apply Has.set_same) | (with_reducible apply Has.set_other (hp := (by first | (simp; done) | (simp; omega) | omega))) | (with_reducible rfl) | rfl))
  have Z1_w5 : Has w5 (w.heap.size + 1) #[.int .i64 y.1, .int .i64 y.2] 23 := by
    refine Has.below' ?_ hb_w5.out
    (repeat (first | (with_reducible assumption) | (with_reducible exact Has.new _ _ _) | (with_reducible exact Has.new' (by first | rfl | (simp; done) | (simp; omega)) _ _) | (with_reducible apply Has.alloc) | (with_reducible apply Has.mix) | (with_reducible apply Has.drew) | (with_reducible apply Has.drewN) | (with_reducible apply Has.set_same) | (with_reducible apply Has.set_other (hp := (by first | (simp; done) | (simp; omega) | omega))) | (with_reducible rfl) | rfl))
  have Z2_w5 : Has w5 w1.heap.size #[.int .i64 (x.1 + 251 * k), .int .i64 (x.2 - 251 * k)] 23 := by
    refine Has.below' ?_ hb_w5.out
    (repeat (first | (with_reducible assumption) | (with_reducible exact Has.new _ _ _) | (with_reducible exact Has.new' (by first | rfl | (simp; done) | (simp; omega)) _ _) | (with_reducible apply Has.alloc) | (with_reducible apply Has.mix) | (with_reducible apply Has.drew) | (with_reducible apply Has.drewN) | (with_reducible apply Has.set_same) | (with_reducible apply Has.set_other (hp := (by first | (simp; done) | (simp; omega) | omega))) | (with_reducible rfl) | rfl))
  have Z3_w5 : Has w5 w3.heap.size #[.int .i64 (divV x y).1, .int .i64 (divV x y).2] 23 := by
    refine Has.below' ?_ hb_w5.out
    (repeat (first | (with_reducible assumption) | (with_reducible exact Has.new _ _ _) | (with_reducible exact Has.new' (by first | rfl | (simp; done) | (simp; omega)) _ _) | (with_reducible apply Has.alloc) | (with_reducible apply Has.mix) | (with_reducible apply Has.drew) | (with_reducible apply Has.drewN) | (with_reducible apply Has.set_same) | (with_reducible apply Has.set_other (hp := (by first | (simp; done) | (simp; omega) | omega))) | (with_reducible rfl) | rfl))
  have HB := HW.out
  have HW := Lib.hid (show Below w.heap.size w w5 from Below.trans (by (repeat (first | (with_reducible assumption) | (with_reducible exact Below.refl _ _) | (with_reducible refine grow_alloc ?_ _) | (with_reducible refine grow_mix ?_ _) | (with_reducible refine grow_drew ?_) | (with_reducible refine grow_drewN ?_ _) | (with_reducible refine grow_set ?_ (by first | (simp; done) | (simp; omega) | omega) _)))) (hb_w5.out.mono (by first | omega | (simp; done) | (simp; omega))))
  clear hc_w5 hf_w5 HB
  have Z0_w5_c0 := Z0_w5.cell 0
  have Z0_w5_c1 := Z0_w5.cell 1
  have Z0_w5_f := Z0_w5.frozen
  have Z0_w5_l := Z0_w5.lt
  simp only [List.size_toArray, List.length_cons, List.length_nil, Nat.reduceAdd, Nat.zero_lt_succ, Nat.one_lt_succ_succ, Nat.reduceLT, getElem?_pos, List.getElem_toArray, List.getElem_cons_zero, List.getElem_cons_succ] at Z0_w5_c0 Z0_w5_c1
  have Z0_n : w.heap.size ≠ w5.heap.size := by omega
  have Z0_m : w5.heap.size ≠ w.heap.size := by omega
  have Z1_w5_c0 := Z1_w5.cell 0
  have Z1_w5_c1 := Z1_w5.cell 1
  have Z1_w5_f := Z1_w5.frozen
  have Z1_w5_l := Z1_w5.lt
  simp only [List.size_toArray, List.length_cons, List.length_nil, Nat.reduceAdd, Nat.zero_lt_succ, Nat.one_lt_succ_succ, Nat.reduceLT, getElem?_pos, List.getElem_toArray, List.getElem_cons_zero, List.getElem_cons_succ] at Z1_w5_c0 Z1_w5_c1
  have Z1_n : (w.heap.size + 1) ≠ w5.heap.size := by omega
  have Z1_m : w5.heap.size ≠ (w.heap.size + 1) := by omega
  have Z2_w5_c0 := Z2_w5.cell 0
  have Z2_w5_c1 := Z2_w5.cell 1
  have Z2_w5_f := Z2_w5.frozen
  have Z2_w5_l := Z2_w5.lt
  simp only [List.size_toArray, List.length_cons, List.length_nil, Nat.reduceAdd, Nat.zero_lt_succ, Nat.one_lt_succ_succ, Nat.reduceLT, getElem?_pos, List.getElem_toArray, List.getElem_cons_zero, List.getElem_cons_succ] at Z2_w5_c0 Z2_w5_c1
  have Z2_n : w1.heap.size ≠ w5.heap.size := by omega
  have Z2_m : w5.heap.size ≠ w1.heap.size := by omega
  have Z3_w5_c0 := Z3_w5.cell 0
  have Z3_w5_c1 := Z3_w5.cell 1
  have Z3_w5_f := Z3_w5.frozen
  have Z3_w5_l := Z3_w5.lt
  simp only [List.size_toArray, List.length_cons, List.length_nil, Nat.reduceAdd, Nat.zero_lt_succ, Nat.one_lt_succ_succ, Nat.reduceLT, getElem?_pos, List.getElem_toArray, List.getElem_cons_zero, List.getElem_cons_succ] at Z3_w5_c0 Z3_w5_c1
  have Z3_n : w3.heap.size ≠ w5.heap.size := by omega
  have Z3_m : w5.heap.size ≠ w3.heap.size := by omega
  go_wp2_with fail
  refine wp_at (fun W => Has W w.heap.size #[.int .i64 x.1, .int .i64 x.2] 23 ∧ Has W (w.heap.size + 1) #[.int .i64 y.1, .int .i64 y.2] 23 ∧ Has W w1.heap.size #[.int .i64 (x.1 + 251 * k), .int .i64 (x.2 - 251 * k)] 23 ∧ Has W w3.heap.size #[.int .i64 (divV x y).1, .int .i64 (divV x y).2] 23 ∧ Has W w5.heap.size #[.int .i64 (divV (x.1 + 251 * k, x.2 - 251 * k) y).1, .int .i64 (divV (x.1 + 251 * k, x.2 - 251 * k) y).2] 23 ∧ Below w.heap.size w W) ⟨by (repeat (first | (with_reducible assumption) | (with_reducible exact Has.new _ _ _) | (with_reducible exact Has.new' (by first | rfl | (simp; done) | (simp; omega)) _ _) | (with_reducible apply Has.alloc) | (with_reducible apply Has.mix) | (with_reducible apply Has.drew) | (with_reducible apply Has.drewN) | (with_reducible apply Has.set_same) | (with_reducible apply Has.set_other (hp := (by first | (simp; done) | (simp; omega) | omega))) | (with_reducible rfl) | rfl)), by (repeat (first | (with_reducible assumption) | (with_reducible exact Has.new _ _ _) | (with_reducible exact Has.new' (by first | rfl | (simp; done) | (simp; omega)) _ _) | (with_reducible apply Has.alloc) | (with_reducible apply Has.mix) | (with_reducible apply Has.drew) | (with_reducible apply Has.drewN) | (with_reducible apply Has.set_same) | (with_reducible apply Has.set_other (hp := (by first | (simp; done) | (simp; omega) | omega))) | (with_reducible rfl) | rfl)), by (repeat (first | (with_reducible assumption) | (with_reducible exact Has.new _ _ _) | (with_reducible exact Has.new' (by first | rfl | (simp; done) | (simp; omega)) _ _) | (with_reducible apply Has.alloc) | (with_reducible apply Has.mix) | (with_reducible apply Has.drew) | (with_reducible apply Has.drewN) | (with_reducible apply Has.set_same) | (with_reducible apply Has.set_other (hp := (by first | (simp; done) | (simp; omega) | omega))) | (with_reducible rfl) | rfl)), by (repeat (first | (with_reducible assumption) | (with_reducible exact Has.new _ _ _) | (with_reducible exact Has.new' (by first | rfl | (simp; done) | (simp; omega)) _ _) | (with_reducible apply Has.alloc) | (with_reducible apply Has.mix) | (with_reducible apply Has.drew) | (with_reducible apply Has.drewN) | (with_reducible apply Has.set_same) | (with_reducible apply Has.set_other (hp := (by first | (simp; done) | (simp; omega) | omega))) | (with_reducible rfl) | rfl)), by (repeat (first | (with_reducible assumption) | (with_reducible exact Has.new _ _ _) | (with_reducible exact Has.new' (by first | rfl | (simp; done) | (simp; omega)) _ _) | (with_reducible apply Has.alloc) | (with_reducible apply Has.mix) | (with_reducible apply Has.drew) | (with_reducible apply Has.drewN) | (with_reducible apply Has.set_same) | (with_reducible apply Has.set_other (hp := (by first | (simp; done) | (simp; omega) | omega))) | (with_reducible rfl) | rfl)), by (try have HBB := HW.out); (repeat (first | (with_reducible assumption) | (with_reducible exact Below.refl _ _) | (with_reducible refine grow_alloc ?_ _) | (with_reducible refine grow_mix ?_ _) | (with_reducible refine grow_drew ?_) | (with_reducible refine grow_drewN ?_ _) | (with_reducible refine grow_set ?_ (by first | (simp; done) | (simp; omega) | omega) _)))⟩ ?_
  rintro w6 ⟨U0, U1, U2, U3, U4, hW⟩
  have hz_w6 := hW.size
  have HW := Lib.hid hW
  clear hW
  have U0_c0 := U0.cell 0
  have U0_c1 := U0.cell 1
  have U0_f := U0.frozen
  have U0_l := U0.lt
  simp only [List.size_toArray, List.length_cons, List.length_nil, Nat.reduceAdd, Nat.zero_lt_succ, Nat.one_lt_succ_succ, Nat.reduceLT, getElem?_pos, List.getElem_toArray, List.getElem_cons_zero, List.getElem_cons_succ] at U0_c0 U0_c1
  (try have n_U0 : w.heap.size ≠ w6.heap.size := by omega)
  (try have m_U0 : w6.heap.size ≠ w.heap.size := by omega)
  (try have u_U0 : w.heap.size < w6.heap.size + 1 := by omega)
  have U1_c0 := U1.cell 0
  have U1_c1 := U1.cell 1
  have U1_f := U1.frozen
  have U1_l := U1.lt
  simp only [List.size_toArray, List.length_cons, List.length_nil, Nat.reduceAdd, Nat.zero_lt_succ, Nat.one_lt_succ_succ, Nat.reduceLT, getElem?_pos, List.getElem_toArray, List.getElem_cons_zero, List.getElem_cons_succ] at U1_c0 U1_c1
  (try have n_U1 : (w.heap.size + 1) ≠ w6.heap.size := by omega)
  (try have m_U1 : w6.heap.size ≠ (w.heap.size + 1) := by omega)
  (try have u_U1 : (w.heap.size + 1) < w6.heap.size + 1 := by omega)
  have U2_c0 := U2.cell 0
  have U2_c1 := U2.cell 1
  have U2_f := U2.frozen
  have U2_l := U2.lt
  simp only [List.size_toArray, List.length_cons, List.length_nil, Nat.reduceAdd, Nat.zero_lt_succ, Nat.one_lt_succ_succ, Nat.reduceLT, getElem?_pos, List.getElem_toArray, List.getElem_cons_zero, List.getElem_cons_succ] at U2_c0 U2_c1
  (try have n_U2 : w1.heap.size ≠ w6.heap.size := by omega)
  (try have m_U2 : w6.heap.size ≠ w1.heap.size := by omega)
  (try have u_U2 : w1.heap.size < w6.heap.size + 1 := by omega)
  have U3_c0 := U3.cell 0
  have U3_c1 := U3.cell 1
  have U3_f := U3.frozen
  have U3_l := U3.lt
  simp only [List.size_toArray, List.length_cons, List.length_nil, Nat.reduceAdd, Nat.zero_lt_succ, Nat.one_lt_succ_succ, Nat.reduceLT, getElem?_pos, List.getElem_toArray, List.getElem_cons_zero, List.getElem_cons_succ] at U3_c0 U3_c1
  (try have n_U3 : w3.heap.size ≠ w6.heap.size := by omega)
  (try have m_U3 : w6.heap.size ≠ w3.heap.size := by omega)
  (try have u_U3 : w3.heap.size < w6.heap.size + 1 := by omega)
  have U4_c0 := U4.cell 0
  have U4_c1 := U4.cell 1
  have U4_c2 := U4.cell 2
  have U4_c3 := U4.cell 3
  have U4_f := U4.frozen
  have U4_l := U4.lt
  simp only [List.size_toArray, List.length_cons, List.length_nil, Nat.reduceAdd, Nat.zero_lt_succ, Nat.one_lt_succ_succ, Nat.reduceLT, getElem?_pos, List.getElem_toArray, List.getElem_cons_zero, List.getElem_cons_succ] at U4_c0 U4_c1 U4_c2 U4_c3
  (try have n_U4 : w5.heap.size ≠ w6.heap.size := by omega)
  (try have m_U4 : w6.heap.size ≠ w5.heap.size := by omega)
  (try have u_U4 : w5.heap.size < w6.heap.size + 1 := by omega)
  have TW := Lib.hid (fun x => TT.out (mix w6 x) (by have HBB := HW.out; (repeat (first | (with_reducible assumption) | (with_reducible exact Below.refl _ _) | (with_reducible refine grow_alloc ?_ _) | (with_reducible refine grow_mix ?_ _) | (with_reducible refine grow_drew ?_) | (with_reducible refine grow_drewN ?_ _) | (with_reducible refine grow_set ?_ (by first | (simp; done) | (simp; omega) | omega) _)))))
  refine wp_region_mix 62 (by kernel_rfl) (by kernel_rfl) ?_
  simp only [List.take_succ_cons, List.take_zero, List.drop_succ_cons, List.drop_zero]
  repeat (go_big_quiet_step ((first | (go_at_call 12; (with_reducible exact mix_call (Gauss.Of_calls x.1 x.2 _))) | (go_at_call 12; (with_reducible exact mix_call (Gauss.Of_calls (x.1 + 251 * k) (x.2 - 251 * k) _))) | (go_at_call 14; (with_reducible exact mix_call (Gauss.Mul_calls x y _))) | (go_at_call 14; (with_reducible exact mix_call (Gauss.Mul_calls (x.1 + 251 * k, x.2 - 251 * k) y _))) | (go_at_call 18; (with_reducible exact mix_call (Gauss.Add_calls x y _))) | (go_at_call 18; (with_reducible exact mix_call (Gauss.Add_calls (x.1 + 251 * k, x.2 - 251 * k) y _))) | (go_at_call 20; (with_reducible exact mix_call (Gauss.Sub_calls y x _))) | (go_at_call 27; (with_reducible exact mix_call (G_May_true (mulV x y) (may_mul _ _) _))) | (go_at_call 27; (with_reducible exact mix_call (G_May_true (subV y x) (may_sub _ _) _))) | (go_at_call 27; (with_reducible exact mix_call (G_May_true (divV x y) (may_div _ _) _))) | (go_at_call 16; (with_reducible exact mix_call (Text_calls x _ (TW.out _)))) | (go_at_call 16; (with_reducible exact mix_call (Text_calls (x.1 + 251 * k, x.2 - 251 * k) _ (TW.out _)))))))
  refine wpQuiet_nil ?_
  intro _ hmix
  (try (with_reducible replace hmix := mix_flat hmix))
  obtain ⟨x1, hmix'⟩ := hmix
  have hz := mix_size' hmix'
  subst hmix'
  (try simp only [World.size_alloc, World.size_setCell, World.size_drew] at hz); (try have q0 : w.heap.size < _ := Nat.lt_of_lt_of_le (by omega) hz); (try have q1 : w.heap.size + 1 < _ := Nat.lt_of_lt_of_le (by omega) hz); (try have q2 : w.heap.size + 1 + 1 < _ := Nat.lt_of_lt_of_le (by omega) hz); (try have q3 : w.heap.size + 1 + 1 + 1 < _ := Nat.lt_of_lt_of_le (by omega) hz)
  go_wp2
  go_ret
  have HB := HW.out
  exact ⟨rfl, HB.trans (Below.mono (by (repeat (first | (with_reducible assumption) | (with_reducible exact Below.refl _ _) | (with_reducible refine grow_alloc ?_ _) | (with_reducible refine grow_mix ?_ _) | (with_reducible refine grow_drew ?_) | (with_reducible refine grow_drewN ?_ _) | (with_reducible refine grow_set ?_ (by first | (simp; done) | (simp; omega) | omega) _)))) (by omega))⟩

theorem rest_all (x : Int × Int) (y : Int × Int) (k : Int) (w : World) (ht : Tab w) (h0 : ¬ (x.1 < -1152921504606846976)) (h1 : ¬ (1152921504606846976 < x.1)) (h2 : ¬ (x.2 < -1152921504606846976)) (h3 : ¬ (1152921504606846976 < x.2)) (h4 : ¬ (k < -1000)) (h5 : ¬ (1000 < k)) :
    Calls Tryd.prog 8 #[vv x, vv y, .int .i64 k] w fun e w' => e = .returned (.bool true) ∧ Below w.heap.size w w' := by
  cases hz : isZ y with
  | true => exact rest_all_true x y k w ht h0 h1 h2 h3 h4 h5 hz
  | false => exact rest_all_false x y k w ht h0 h1 h2 h3 h4 h5 hz

theorem gaussRest_walk (x : Int × Int) (y : Int × Int) (k : Int) (_ : (Lit.int .i64 x.1).wf = true) (_ : (Lit.int .i64 x.2).wf = true) (_ : (Lit.int .i64 y.1).wf = true) (_ : (Lit.int .i64 y.2).wf = true) (ak : (-9223372036854775808 : Int) ≤ k) (bk : k ≤ (9223372036854775807 : Int)) (w : World) (ht : Tab w)  :
    Calls Tryd.prog 8 #[vv x, vv y, .int .i64 k] w fun e w' => e = .returned (.bool true) ∧ Below w.heap.size w w' := by
  by_cases h0 : x.1 < -1152921504606846976
  · exact rest_leave1 x y k w ht h0
  by_cases h1 : 1152921504606846976 < x.1
  · exact rest_leave2 x y k w ht h0 h1
  by_cases h2 : x.2 < -1152921504606846976
  · exact rest_leave3 x y k w ht h0 h1 h2
  by_cases h3 : 1152921504606846976 < x.2
  · exact rest_leave4 x y k w ht h0 h1 h2 h3
  by_cases h4 : k < -1000
  · exact rest_leave5 x y k w ht h0 h1 h2 h3 h4
  by_cases h5 : 1000 < k
  · exact rest_leave6 x y k w ht h0 h1 h2 h3 h4 h5
  exact rest_all x y k w ht h0 h1 h2 h3 h4 h5
end Go.Proofs.YtepagnaabncllaaDoor.Laws
