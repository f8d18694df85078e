/-
  The walks of %s: for every input it returns true, and makes only new memory.
-/
import Derived.Test.YtepagnaabncllaaDoorLawFacts
import Derived.Test.YtepagnaabncllaaDoorRow
set_option linter.unusedSimpArgs false
set_option linter.unusedVariables false
namespace Go.Proofs.YtepagnaabncllaaDoor.Laws
open Go Go.RowKit Go.Proofs.YtepagnaabncllaaDoor Go.Proofs.YtepagnaabncllaaDoor.Gauss Go.Proofs.YtepagnaabncllaaDoor.Pure Go.Proofs.YtepagnaabncllaaDoor.Text Go.Proofs.YtepagnaabncllaaDoor.Ref04

attribute [local go_sem high] eql_value neq_value equal_value field_re field_im
theorem l_refl (x : Int × Int) : eqB x x = true := eqB_true rfl
theorem R_Div (x y : Int × Int) (w : World) : Calls Tryd.prog 17 #[vv x, vv y] w fun e w' => e = .returned (.tuple #[vv (divV x y), .bool (!isZ y)]) ∧ Below w.heap.size w w' := by
  refine (Ref04.Div_calls x y w).mono fun e w' ⟨h, hb⟩ => ⟨?_, hb⟩
  rcases h with ⟨h0, rfl⟩ | ⟨h0, k, hk, rfl⟩
  · have hz := (normR_zero y).1 h0
    rw [div_zero x y hz, (isZ_iff y).2 hz]; rfl
  · have hz : Φ y ≠ kzero := fun e => h0 ((normR_zero y).2 e)
    rw [divs x y k h0 hk, (isZ_false y).2 hz]; rfl
theorem R_Pow (x : Int × Int) (n : Int) (hn : n ≤ 9223372036854775807) (w : World) : Calls Tryd.prog 25 #[vv x, .int .i64 n] w fun e w' => e = .returned (vv (powV x n)) ∧ Below w.heap.size w w' := by
  rw [pows]
  by_cases h : n < 0
  · exact Ref04.Pow_neg x n h w
  · obtain ⟨k, rfl⟩ := Int.eq_ofNat_of_zero_le (by omega : 0 ≤ n)
    have e : powRI x (k : Int) = powR x k := by unfold powRI; rw [if_neg h]; rfl
    rw [e]
    exact Ref04.Pow_nonneg k (by omega) x w
theorem G_May_at (x : Int × Int) (b : Bool) (h : mayR x = b) (w : World) : Calls Tryd.prog 27 #[vv x] w fun e w' => e = .returned (.bool b) ∧ Below w.heap.size w w' := by
  have := Gauss.May_calls x w
  have e : eqB x (red x) = b := by
    subst h
    rw [Bool.eq_iff_iff, mayR_iff]
    constructor
    · intro h
      have := of_eqB h
      rw [this]
      exact ⟨rest_bd _, rest_bd _⟩
    · intro h; exact may_eq h
  rw [e] at this; exact this
theorem R_May_at (x : Int × Int) (b : Bool) (h : mayR x = b) (w : World) : Calls Tryd.prog 11 #[vv x] w fun e w' => e = .returned (.bool b) ∧ Below w.heap.size w w' := by
  have := Ref04.May_calls x w
  rw [h] at this; exact this
set_option maxRecDepth 100000 in
set_option maxHeartbeats 8000000 in
theorem tells_all_true_true (x : Int × Int) (y : Int × Int) (n : Int) (w : World) (ht : Tab w) (bn : n ≤ 9223372036854775807) (hz : isZ y = true) (hm : mayR x = true) :
    Calls Tryd.prog 5 #[vv x, vv y, .int .i64 n] w fun e w' => e = .returned (.bool true) ∧ Below w.heap.size w w' := by
  have TT := Lib.hid (fun (w1 : World) (h : Below w.heap.size w w1) => ht.below h)
  have HT := Lib.hid (fun (w1 : World) (h : Below w.heap.size w w1) => fixed_calls w1 (ht.below h))
  have e0 := l_refl (addV x y)
  have e1 := l_refl (subV x y)
  have e2 := l_refl (mulV x y)
  have e3 := l_refl (conjV x)
  have e4 := l_refl (divV x y)
  have e5 := l_refl (powV x n)
  have e6 := l_refl (ofV x.1 y.2)
  clear ht
  go_enter Tryd.func5, Tryd.ntmps5
  go_wp2_with fail
  (go_at_call 15; refine (Gauss.Div_calls x y _).mono ?_; rintro e w1 ⟨rfl, hb⟩; obtain ⟨hc_w1, hf_w1⟩ := bcell hb; have hz_w1 := hb.size; (try simp only [World.size_alloc] at hz_w1); (try have hy0_w1 : w.heap.size < w1.heap.size := by omega); (try have hy1_w1 : w.heap.size + 1 < w1.heap.size := by omega); (try have hy2_w1 : w.heap.size + 1 + 1 < w1.heap.size := by omega); (try have hyA_w1 : w.heap.size < w1.heap.size + 1 := by omega); (try have hyB_w1 : w.heap.size + 1 < w1.heap.size + 1 := by omega); (try have hyC_w1 : w.heap.size + 1 + 1 < w1.heap.size + 1 := by omega); have hb_w1 := Lib.hid hb; clear hb)
  have X0 : Has w1 w.heap.size #[.int .i64 x.1, .int .i64 x.2] 23 := by
    refine Has.below' ?_ hb_w1.out
    (repeat (first | (with_reducible assumption) | (with_reducible exact Has.new _ _ _) | (with_reducible exact Has.new' (by first | rfl | (simp; done) | (simp; omega)) _ _) | (with_reducible apply Has.alloc) | (with_reducible apply Has.mix) | (with_reducible apply Has.drew) | (with_reducible apply Has.drewN) | (with_reducible apply Has.set_same) | (with_reducible apply Has.set_other (hp := (by first | (simp; done) | (simp; omega) | omega))) | (with_reducible rfl) | rfl))
  have X1 : Has w1 (w.heap.size + 1) #[.int .i64 y.1, .int .i64 y.2] 23 := by
    refine Has.below' ?_ hb_w1.out
    (repeat (first | (with_reducible assumption) | (with_reducible exact Has.new _ _ _) | (with_reducible exact Has.new' (by first | rfl | (simp; done) | (simp; omega)) _ _) | (with_reducible apply Has.alloc) | (with_reducible apply Has.mix) | (with_reducible apply Has.drew) | (with_reducible apply Has.drewN) | (with_reducible apply Has.set_same) | (with_reducible apply Has.set_other (hp := (by first | (simp; done) | (simp; omega) | omega))) | (with_reducible rfl) | rfl))
  have HW := Lib.hid (show Below w.heap.size w w1 from Below.trans (by (repeat (first | (with_reducible assumption) | (with_reducible exact Below.refl _ _) | (with_reducible refine grow_alloc ?_ _) | (with_reducible refine grow_mix ?_ _) | (with_reducible refine grow_drew ?_) | (with_reducible refine grow_drewN ?_ _) | (with_reducible refine grow_set ?_ (by first | (simp; done) | (simp; omega) | omega) _)))) (hb_w1.out.mono (by first | omega | (simp; done) | (simp; omega))))
  clear hc_w1 hf_w1
  have X0_c0 := X0.cell 0
  have X0_c1 := X0.cell 1
  have X0_f := X0.frozen
  have X0_l := X0.lt
  simp only [List.size_toArray, List.length_cons, List.length_nil, Nat.reduceAdd, Nat.zero_lt_succ, Nat.one_lt_succ_succ, Nat.reduceLT, getElem?_pos, List.getElem_toArray, List.getElem_cons_zero, List.getElem_cons_succ] at X0_c0 X0_c1
  have X0_n : w.heap.size ≠ w1.heap.size := by omega
  have X0_m : w1.heap.size ≠ w.heap.size := by omega
  have X1_c0 := X1.cell 0
  have X1_c1 := X1.cell 1
  have X1_f := X1.frozen
  have X1_l := X1.lt
  simp only [List.size_toArray, List.length_cons, List.length_nil, Nat.reduceAdd, Nat.zero_lt_succ, Nat.one_lt_succ_succ, Nat.reduceLT, getElem?_pos, List.getElem_toArray, List.getElem_cons_zero, List.getElem_cons_succ] at X1_c0 X1_c1
  have X1_n : (w.heap.size + 1) ≠ w1.heap.size := by omega
  have X1_m : w1.heap.size ≠ (w.heap.size + 1) := by omega
  go_wp2_with fail
  (go_at_call 17; refine (R_Div x y _).mono ?_; rintro e w3 ⟨rfl, hb⟩; obtain ⟨hc_w3, hf_w3⟩ := bcell hb; have hz_w3 := hb.size; (try simp only [World.size_alloc] at hz_w3); (try have hy0_w3 : w.heap.size < w3.heap.size := by omega); (try have hy1_w3 : w.heap.size + 1 < w3.heap.size := by omega); (try have hy2_w3 : w.heap.size + 1 + 1 < w3.heap.size := by omega); (try have hyA_w3 : w.heap.size < w3.heap.size + 1 := by omega); (try have hyB_w3 : w.heap.size + 1 < w3.heap.size + 1 := by omega); (try have hyC_w3 : w.heap.size + 1 + 1 < w3.heap.size + 1 := by omega); have hb_w3 := Lib.hid hb; clear hb)
  have X0_w3 : Has w3 w.heap.size #[.int .i64 x.1, .int .i64 x.2] 23 := by
    refine Has.below' ?_ hb_w3.out
    (repeat (first | (with_reducible assumption) | (with_reducible exact Has.new _ _ _) | (with_reducible exact Has.new' (by first | rfl | (simp; done) | (simp; omega)) _ _) | (with_reducible apply Has.alloc) | (with_reducible apply Has.mix) | (with_reducible apply Has.drew) | (with_reducible apply Has.drewN) | (with_reducible apply Has.set_same) | (with_reducible apply Has.set_other (hp := (by first | (simp; done) | (simp; omega) | omega))) | (with_reducible rfl) | rfl))
  have X1_w3 : Has w3 (w.heap.size + 1) #[.int .i64 y.1, .int .i64 y.2] 23 := by
    refine Has.below' ?_ hb_w3.out
    (repeat (first | (with_reducible assumption) | (with_reducible exact Has.new _ _ _) | (with_reducible exact Has.new' (by first | rfl | (simp; done) | (simp; omega)) _ _) | (with_reducible apply Has.alloc) | (with_reducible apply Has.mix) | (with_reducible apply Has.drew) | (with_reducible apply Has.drewN) | (with_reducible apply Has.set_same) | (with_reducible apply Has.set_other (hp := (by first | (simp; done) | (simp; omega) | omega))) | (with_reducible rfl) | rfl))
  have X2_w3 : Has w3 w1.heap.size #[.int .i64 (divV x y).1, .int .i64 (divV x y).2] 23 := by
    refine Has.below' ?_ hb_w3.out
    (repeat (first | (with_reducible assumption) | (with_reducible exact Has.new _ _ _) | (with_reducible exact Has.new' (by first | rfl | (simp; done) | (simp; omega)) _ _) | (with_reducible apply Has.alloc) | (with_reducible apply Has.mix) | (with_reducible apply Has.drew) | (with_reducible apply Has.drewN) | (with_reducible apply Has.set_same) | (with_reducible apply Has.set_other (hp := (by first | (simp; done) | (simp; omega) | omega))) | (with_reducible rfl) | rfl))
  have HB := HW.out
  have HW := Lib.hid (show Below w.heap.size w w3 from Below.trans (by (repeat (first | (with_reducible assumption) | (with_reducible exact Below.refl _ _) | (with_reducible refine grow_alloc ?_ _) | (with_reducible refine grow_mix ?_ _) | (with_reducible refine grow_drew ?_) | (with_reducible refine grow_drewN ?_ _) | (with_reducible refine grow_set ?_ (by first | (simp; done) | (simp; omega) | omega) _)))) (hb_w3.out.mono (by first | omega | (simp; done) | (simp; omega))))
  clear hc_w3 hf_w3 HB
  have X0_w3_c0 := X0_w3.cell 0
  have X0_w3_c1 := X0_w3.cell 1
  have X0_w3_f := X0_w3.frozen
  have X0_w3_l := X0_w3.lt
  simp only [List.size_toArray, List.length_cons, List.length_nil, Nat.reduceAdd, Nat.zero_lt_succ, Nat.one_lt_succ_succ, Nat.reduceLT, getElem?_pos, List.getElem_toArray, List.getElem_cons_zero, List.getElem_cons_succ] at X0_w3_c0 X0_w3_c1
  have X0_w3_n : w.heap.size ≠ w3.heap.size := by omega
  have X0_w3_m : w3.heap.size ≠ w.heap.size := by omega
  have X1_w3_c0 := X1_w3.cell 0
  have X1_w3_c1 := X1_w3.cell 1
  have X1_w3_f := X1_w3.frozen
  have X1_w3_l := X1_w3.lt
  simp only [List.size_toArray, List.length_cons, List.length_nil, Nat.reduceAdd, Nat.zero_lt_succ, Nat.one_lt_succ_succ, Nat.reduceLT, getElem?_pos, List.getElem_toArray, List.getElem_cons_zero, List.getElem_cons_succ] at X1_w3_c0 X1_w3_c1
  have X1_w3_n : (w.heap.size + 1) ≠ w3.heap.size := by omega
  have X1_w3_m : w3.heap.size ≠ (w.heap.size + 1) := by omega
  have X2_w3_c0 := X2_w3.cell 0
  have X2_w3_c1 := X2_w3.cell 1
  have X2_w3_f := X2_w3.frozen
  have X2_w3_l := X2_w3.lt
  simp only [List.size_toArray, List.length_cons, List.length_nil, Nat.reduceAdd, Nat.zero_lt_succ, Nat.one_lt_succ_succ, Nat.reduceLT, getElem?_pos, List.getElem_toArray, List.getElem_cons_zero, List.getElem_cons_succ] at X2_w3_c0 X2_w3_c1
  have X2_w3_n : w1.heap.size ≠ w3.heap.size := by omega
  have X2_w3_m : w3.heap.size ≠ w1.heap.size := by omega
  go_wp2_with fail
  refine wp_at (fun W => Has W w.heap.size #[.int .i64 x.1, .int .i64 x.2] 23 ∧ Has W (w.heap.size + 1) #[.int .i64 y.1, .int .i64 y.2] 23 ∧ Has W w1.heap.size #[.int .i64 (divV x y).1, .int .i64 (divV x y).2] 23 ∧ Has W w3.heap.size #[.int .i64 (divV x y).1, .int .i64 (divV x y).2] 23 ∧ Below w.heap.size w W) ⟨by (repeat (first | (with_reducible assumption) | (with_reducible exact Has.new _ _ _) | (with_reducible exact Has.new' (by first | rfl | (simp; done) | (simp; omega)) _ _) | (with_reducible apply Has.alloc) | (with_reducible apply Has.mix) | (with_reducible apply Has.drew) | (with_reducible apply Has.drewN) | (with_reducible apply Has.set_same) | (with_reducible apply Has.set_other (hp := (by first | (simp; done) | (simp; omega) | omega))) | (with_reducible rfl) | rfl)), by (repeat (first | (with_reducible assumption) | (with_reducible exact Has.new _ _ _) | (with_reducible exact Has.new' (by first | rfl | (simp; done) | (simp; omega)) _ _) | (with_reducible apply Has.alloc) | (with_reducible apply Has.mix) | (with_reducible apply Has.drew) | (with_reducible apply Has.drewN) | (with_reducible apply Has.set_same) | (with_reducible apply Has.set_other (hp := (by first | (simp; done) | (simp; omega) | omega))) | (with_reducible rfl) | rfl)), by (repeat (first | (with_reducible assumption) | (with_reducible exact Has.new _ _ _) | (with_reducible exact Has.new' (by first | rfl | (simp; done) | (simp; omega)) _ _) | (with_reducible apply Has.alloc) | (with_reducible apply Has.mix) | (with_reducible apply Has.drew) | (with_reducible apply Has.drewN) | (with_reducible apply Has.set_same) | (with_reducible apply Has.set_other (hp := (by first | (simp; done) | (simp; omega) | omega))) | (with_reducible rfl) | rfl)), by (repeat (first | (with_reducible assumption) | (with_reducible exact Has.new _ _ _) | (with_reducible exact Has.new' (by first | rfl | (simp; done) | (simp; omega)) _ _) | (with_reducible apply Has.alloc) | (with_reducible apply Has.mix) | (with_reducible apply Has.drew) | (with_reducible apply Has.drewN) | (with_reducible apply Has.set_same) | (with_reducible apply Has.set_other (hp := (by first | (simp; done) | (simp; omega) | omega))) | (with_reducible rfl) | rfl)), by (try have HBB := HW.out); (repeat (first | (with_reducible assumption) | (with_reducible exact Below.refl _ _) | (with_reducible refine grow_alloc ?_ _) | (with_reducible refine grow_mix ?_ _) | (with_reducible refine grow_drew ?_) | (with_reducible refine grow_drewN ?_ _) | (with_reducible refine grow_set ?_ (by first | (simp; done) | (simp; omega) | omega) _)))⟩ ?_
  rintro w4 ⟨U0, U1, U2, U3, hW⟩
  have hz_w4 := hW.size
  have HW := Lib.hid hW
  clear hW
  have U0_c0 := U0.cell 0
  have U0_c1 := U0.cell 1
  have U0_f := U0.frozen
  have U0_l := U0.lt
  simp only [List.size_toArray, List.length_cons, List.length_nil, Nat.reduceAdd, Nat.zero_lt_succ, Nat.one_lt_succ_succ, Nat.reduceLT, getElem?_pos, List.getElem_toArray, List.getElem_cons_zero, List.getElem_cons_succ] at U0_c0 U0_c1
  (try have n_U0 : w.heap.size ≠ w4.heap.size := by omega)
  (try have m_U0 : w4.heap.size ≠ w.heap.size := by omega)
  (try have u_U0 : w.heap.size < w4.heap.size + 1 := by omega)
  have U1_c0 := U1.cell 0
  have U1_c1 := U1.cell 1
  have U1_f := U1.frozen
  have U1_l := U1.lt
  simp only [List.size_toArray, List.length_cons, List.length_nil, Nat.reduceAdd, Nat.zero_lt_succ, Nat.one_lt_succ_succ, Nat.reduceLT, getElem?_pos, List.getElem_toArray, List.getElem_cons_zero, List.getElem_cons_succ] at U1_c0 U1_c1
  (try have n_U1 : (w.heap.size + 1) ≠ w4.heap.size := by omega)
  (try have m_U1 : w4.heap.size ≠ (w.heap.size + 1) := by omega)
  (try have u_U1 : (w.heap.size + 1) < w4.heap.size + 1 := by omega)
  have U2_c0 := U2.cell 0
  have U2_c1 := U2.cell 1
  have U2_f := U2.frozen
  have U2_l := U2.lt
  simp only [List.size_toArray, List.length_cons, List.length_nil, Nat.reduceAdd, Nat.zero_lt_succ, Nat.one_lt_succ_succ, Nat.reduceLT, getElem?_pos, List.getElem_toArray, List.getElem_cons_zero, List.getElem_cons_succ] at U2_c0 U2_c1
  (try have n_U2 : w1.heap.size ≠ w4.heap.size := by omega)
  (try have m_U2 : w4.heap.size ≠ w1.heap.size := by omega)
  (try have u_U2 : w1.heap.size < w4.heap.size + 1 := by omega)
  have U3_c0 := U3.cell 0
  have U3_c1 := U3.cell 1
  have U3_f := U3.frozen
  have U3_l := U3.lt
  simp only [List.size_toArray, List.length_cons, List.length_nil, Nat.reduceAdd, Nat.zero_lt_succ, Nat.one_lt_succ_succ, Nat.reduceLT, getElem?_pos, List.getElem_toArray, List.getElem_cons_zero, List.getElem_cons_succ] at U3_c0 U3_c1
  (try have n_U3 : w3.heap.size ≠ w4.heap.size := by omega)
  (try have m_U3 : w4.heap.size ≠ w3.heap.size := by omega)
  (try have u_U3 : w3.heap.size < w4.heap.size + 1 := by omega)
  refine wp_region_mix_all (by kernel_rfl) (by kernel_rfl) ?_
  repeat (go_big_quiet_step ((first | (go_at_call 18; (with_reducible exact mix_call (Gauss.Add_calls x y _))) | (go_at_call 19; (with_reducible exact mix_call (Ref04.Add_calls x y _))) | (go_at_call 20; (with_reducible exact mix_call (Gauss.Sub_calls x y _))) | (go_at_call 21; (with_reducible exact mix_call (Ref04.Sub_calls x y _))) | (go_at_call 14; (with_reducible exact mix_call (Gauss.Mul_calls x y _))) | (go_at_call 22; (with_reducible exact mix_call (Ref04.Mul_calls x y _))) | (go_at_call 23; (with_reducible exact mix_call (Gauss.Conj_calls x _))) | (go_at_call 24; (with_reducible exact mix_call (Ref04.Conj_calls x _))))))
  refine wpQuiet_nil ?_
  intro _ hmix
  (try (with_reducible replace hmix := mix_flat hmix))
  obtain ⟨x1, hmix'⟩ := hmix
  have hz := mix_size' hmix'
  subst hmix'
  (try simp only [World.size_alloc, World.size_setCell, World.size_drew] at hz); (try have q0 : w.heap.size < _ := Nat.lt_of_lt_of_le (by omega) hz); (try have q1 : w.heap.size + 1 < _ := Nat.lt_of_lt_of_le (by omega) hz); (try have q2 : w.heap.size + 1 + 1 < _ := Nat.lt_of_lt_of_le (by omega) hz); (try have q3 : w.heap.size + 1 + 1 + 1 < _ := Nat.lt_of_lt_of_le (by omega) hz)
  go_wp2_with fail
  refine wp_at (fun W => Has W w.heap.size #[.int .i64 x.1, .int .i64 x.2] 23 ∧ Has W (w.heap.size + 1) #[.int .i64 y.1, .int .i64 y.2] 23 ∧ Below w.heap.size w W) ⟨by (repeat (first | (with_reducible assumption) | (with_reducible exact Has.new _ _ _) | (with_reducible exact Has.new' (by first | rfl | (simp; done) | (simp; omega)) _ _) | (with_reducible apply Has.alloc) | (with_reducible apply Has.mix) | (with_reducible apply Has.drew) | (with_reducible apply Has.drewN) | (with_reducible apply Has.set_same) | (with_reducible apply Has.set_other (hp := (by first | (simp; done) | (simp; omega) | omega))) | (with_reducible rfl) | rfl)), by (repeat (first | (with_reducible assumption) | (with_reducible exact Has.new _ _ _) | (with_reducible exact Has.new' (by first | rfl | (simp; done) | (simp; omega)) _ _) | (with_reducible apply Has.alloc) | (with_reducible apply Has.mix) | (with_reducible apply Has.drew) | (with_reducible apply Has.drewN) | (with_reducible apply Has.set_same) | (with_reducible apply Has.set_other (hp := (by first | (simp; done) | (simp; omega) | omega))) | (with_reducible rfl) | rfl)), by (try have HBB := HW.out); (repeat (first | (with_reducible assumption) | (with_reducible exact Below.refl _ _) | (with_reducible refine grow_alloc ?_ _) | (with_reducible refine grow_mix ?_ _) | (with_reducible refine grow_drew ?_) | (with_reducible refine grow_drewN ?_ _) | (with_reducible refine grow_set ?_ (by first | (simp; done) | (simp; omega) | omega) _)))⟩ ?_
  rintro w5 ⟨V0, V1, hW⟩
  have hz_w5 := hW.size
  have HW := Lib.hid hW
  clear hW
  have V0_c0 := V0.cell 0
  have V0_c1 := V0.cell 1
  have V0_f := V0.frozen
  have V0_l := V0.lt
  simp only [List.size_toArray, List.length_cons, List.length_nil, Nat.reduceAdd, Nat.zero_lt_succ, Nat.one_lt_succ_succ, Nat.reduceLT, getElem?_pos, List.getElem_toArray, List.getElem_cons_zero, List.getElem_cons_succ] at V0_c0 V0_c1
  (try have n_V0 : w.heap.size ≠ w5.heap.size := by omega)
  (try have m_V0 : w5.heap.size ≠ w.heap.size := by omega)
  (try have u_V0 : w.heap.size < w5.heap.size + 1 := by omega)
  have V1_c0 := V1.cell 0
  have V1_c1 := V1.cell 1
  have V1_f := V1.frozen
  have V1_l := V1.lt
  simp only [List.size_toArray, List.length_cons, List.length_nil, Nat.reduceAdd, Nat.zero_lt_succ, Nat.one_lt_succ_succ, Nat.reduceLT, getElem?_pos, List.getElem_toArray, List.getElem_cons_zero, List.getElem_cons_succ] at V1_c0 V1_c1
  (try have n_V1 : (w.heap.size + 1) ≠ w5.heap.size := by omega)
  (try have m_V1 : w5.heap.size ≠ (w.heap.size + 1) := by omega)
  (try have u_V1 : (w.heap.size + 1) < w5.heap.size + 1 := by omega)
  have TW := Lib.hid (fun x => TT.out (mix w5 x) (by have HBB := HW.out; (repeat (first | (with_reducible assumption) | (with_reducible exact Below.refl _ _) | (with_reducible refine grow_alloc ?_ _) | (with_reducible refine grow_mix ?_ _) | (with_reducible refine grow_drew ?_) | (with_reducible refine grow_drewN ?_ _) | (with_reducible refine grow_set ?_ (by first | (simp; done) | (simp; omega) | omega) _)))))
  have HF := Lib.hid (fun x => HT.out (mix w5 x) (by have HBB := HW.out; (repeat (first | (with_reducible assumption) | (with_reducible exact Below.refl _ _) | (with_reducible refine grow_alloc ?_ _) | (with_reducible refine grow_mix ?_ _) | (with_reducible refine grow_drew ?_) | (with_reducible refine grow_drewN ?_ _) | (with_reducible refine grow_set ?_ (by first | (simp; done) | (simp; omega) | omega) _)))))
  refine wp_region_mix 37 (by kernel_rfl) (by kernel_rfl) ?_
  simp only [List.take_succ_cons, List.take_zero, List.drop_succ_cons, List.drop_zero]
  repeat (go_big_quiet_step ((first | (go_at_call 13; (with_reducible exact mix_call (Gauss.Pow_calls x n bn _))) | (go_at_call 25; (with_reducible exact mix_call (R_Pow x n bn _))) | (go_at_call 16; (with_reducible exact mix_call (Text_calls x _ (TW.out _)))) | (go_at_call 26; (with_reducible exact mix_call (RText_calls x _))) | (go_at_call 27; (with_reducible exact mix_call (G_May_at x _ hm _))) | (go_at_call 11; (with_reducible exact mix_call (R_May_at x _ hm _))) | (go_at_call 12; (with_reducible exact mix_call (Gauss.Of_calls x.1 y.2 _))) | (go_at_call 28; (with_reducible exact mix_call (Ref04.Of_calls x.1 y.2 _))) | (go_at_call 10; (with_reducible exact mix_call (HF.out _))))))
  refine wpQuiet_nil ?_
  intro _ hmix
  (try (with_reducible replace hmix := mix_flat hmix))
  obtain ⟨x1, hmix'⟩ := hmix
  have hz := mix_size' hmix'
  subst hmix'
  (try simp only [World.size_alloc, World.size_setCell, World.size_drew] at hz); (try have q0 : w.heap.size < _ := Nat.lt_of_lt_of_le (by omega) hz); (try have q1 : w.heap.size + 1 < _ := Nat.lt_of_lt_of_le (by omega) hz); (try have q2 : w.heap.size + 1 + 1 < _ := Nat.lt_of_lt_of_le (by omega) hz); (try have q3 : w.heap.size + 1 + 1 + 1 < _ := Nat.lt_of_lt_of_le (by omega) hz)
  go_wp2
  go_ret
  have HB := HW.out
  exact ⟨rfl, HB.trans (Below.mono (by (repeat (first | (with_reducible assumption) | (with_reducible exact Below.refl _ _) | (with_reducible refine grow_alloc ?_ _) | (with_reducible refine grow_mix ?_ _) | (with_reducible refine grow_drew ?_) | (with_reducible refine grow_drewN ?_ _) | (with_reducible refine grow_set ?_ (by first | (simp; done) | (simp; omega) | omega) _)))) (by omega))⟩

set_option maxRecDepth 100000 in
set_option maxHeartbeats 8000000 in
theorem tells_all_true_false (x : Int × Int) (y : Int × Int) (n : Int) (w : World) (ht : Tab w) (bn : n ≤ 9223372036854775807) (hz : isZ y = true) (hm : mayR x = false) :
    Calls Tryd.prog 5 #[vv x, vv y, .int .i64 n] w fun e w' => e = .returned (.bool true) ∧ Below w.heap.size w w' := by
  have TT := Lib.hid (fun (w1 : World) (h : Below w.heap.size w w1) => ht.below h)
  have HT := Lib.hid (fun (w1 : World) (h : Below w.heap.size w w1) => fixed_calls w1 (ht.below h))
  have e0 := l_refl (addV x y)
  have e1 := l_refl (subV x y)
  have e2 := l_refl (mulV x y)
  have e3 := l_refl (conjV x)
  have e4 := l_refl (divV x y)
  have e5 := l_refl (powV x n)
  have e6 := l_refl (ofV x.1 y.2)
  clear ht
  go_enter Tryd.func5, Tryd.ntmps5
  go_wp2_with fail
  (go_at_call 15; refine (Gauss.Div_calls x y _).mono ?_; rintro e w1 ⟨rfl, hb⟩; obtain ⟨hc_w1, hf_w1⟩ := bcell hb; have hz_w1 := hb.size; (try simp only [World.size_alloc] at hz_w1); (try have hy0_w1 : w.heap.size < w1.heap.size := by omega); (try have hy1_w1 : w.heap.size + 1 < w1.heap.size := by omega); (try have hy2_w1 : w.heap.size + 1 + 1 < w1.heap.size := by omega); (try have hyA_w1 : w.heap.size < w1.heap.size + 1 := by omega); (try have hyB_w1 : w.heap.size + 1 < w1.heap.size + 1 := by omega); (try have hyC_w1 : w.heap.size + 1 + 1 < w1.heap.size + 1 := by omega); have hb_w1 := Lib.hid hb; clear hb)
  have X0 : Has w1 w.heap.size #[.int .i64 x.1, .int .i64 x.2] 23 := by
    refine Has.below' ?_ hb_w1.out
    (repeat (first | (with_reducible assumption) | (with_reducible exact Has.new _ _ _) | (with_reducible exact Has.new' (by first | rfl | (simp; done) | (simp; omega)) _ _) | (with_reducible apply Has.alloc) | (with_reducible apply Has.mix) | (with_reducible apply Has.drew) | (with_reducible apply Has.drewN) | (with_reducible apply Has.set_same) | (with_reducible apply Has.set_other (hp := (by first | (simp; done) | (simp; omega) | omega))) | (with_reducible rfl) | rfl))
  have X1 : Has w1 (w.heap.size + 1) #[.int .i64 y.1, .int .i64 y.2] 23 := by
    refine Has.below' ?_ hb_w1.out
    (repeat (first | (with_reducible assumption) | (with_reducible exact Has.new _ _ _) | (with_reducible exact Has.new' (by first | rfl | (simp; done) | (simp; omega)) _ _) | (with_reducible apply Has.alloc) | (with_reducible apply Has.mix) | (with_reducible apply Has.drew) | (with_reducible apply Has.drewN) | (with_reducible apply Has.set_same) | (with_reducible apply Has.set_other (hp := (by first | (simp; done) | (simp; omega) | omega))) | (with_reducible rfl) | rfl))
  have HW := Lib.hid (show Below w.heap.size w w1 from Below.trans (by (repeat (first | (with_reducible assumption) | (with_reducible exact Below.refl _ _) | (with_reducible refine grow_alloc ?_ _) | (with_reducible refine grow_mix ?_ _) | (with_reducible refine grow_drew ?_) | (with_reducible refine grow_drewN ?_ _) | (with_reducible refine grow_set ?_ (by first | (simp; done) | (simp; omega) | omega) _)))) (hb_w1.out.mono (by first | omega | (simp; done) | (simp; omega))))
  clear hc_w1 hf_w1
  have X0_c0 := X0.cell 0
  have X0_c1 := X0.cell 1
  have X0_f := X0.frozen
  have X0_l := X0.lt
  simp only [List.size_toArray, List.length_cons, List.length_nil, Nat.reduceAdd, Nat.zero_lt_succ, Nat.one_lt_succ_succ, Nat.reduceLT, getElem?_pos, List.getElem_toArray, List.getElem_cons_zero, List.getElem_cons_succ] at X0_c0 X0_c1
  have X0_n : w.heap.size ≠ w1.heap.size := by omega
  have X0_m : w1.heap.size ≠ w.heap.size := by omega
  have X1_c0 := X1.cell 0
  have X1_c1 := X1.cell 1
  have X1_f := X1.frozen
  have X1_l := X1.lt
  simp only [List.size_toArray, List.length_cons, List.length_nil, Nat.reduceAdd, Nat.zero_lt_succ, Nat.one_lt_succ_succ, Nat.reduceLT, getElem?_pos, List.getElem_toArray, List.getElem_cons_zero, List.getElem_cons_succ] at X1_c0 X1_c1
  have X1_n : (w.heap.size + 1) ≠ w1.heap.size := by omega
  have X1_m : w1.heap.size ≠ (w.heap.size + 1) := by omega
  go_wp2_with fail
  (go_at_call 17; refine (R_Div x y _).mono ?_; rintro e w3 ⟨rfl, hb⟩; obtain ⟨hc_w3, hf_w3⟩ := bcell hb; have hz_w3 := hb.size; (try simp only [World.size_alloc] at hz_w3); (try have hy0_w3 : w.heap.size < w3.heap.size := by omega); (try have hy1_w3 : w.heap.size + 1 < w3.heap.size := by omega); (try have hy2_w3 : w.heap.size + 1 + 1 < w3.heap.size := by omega); (try have hyA_w3 : w.heap.size < w3.heap.size + 1 := by omega); (try have hyB_w3 : w.heap.size + 1 < w3.heap.size + 1 := by omega); (try have hyC_w3 : w.heap.size + 1 + 1 < w3.heap.size + 1 := by omega); have hb_w3 := Lib.hid hb; clear hb)
  have X0_w3 : Has w3 w.heap.size #[.int .i64 x.1, .int .i64 x.2] 23 := by
    refine Has.below' ?_ hb_w3.out
    (repeat (first | (with_reducible assumption) | (with_reducible exact Has.new _ _ _) | (with_reducible exact Has.new' (by first | rfl | (simp; done) | (simp; omega)) _ _) | (with_reducible apply Has.alloc) | (with_reducible apply Has.mix) | (with_reducible apply Has.drew) | (with_reducible apply Has.drewN) | (with_reducible apply Has.set_same) | (with_reducible apply Has.set_other (hp := (by first | (simp; done) | (simp; omega) | omega))) | (with_reducible rfl) | rfl))
  have X1_w3 : Has w3 (w.heap.size + 1) #[.int .i64 y.1, .int .i64 y.2] 23 := by
    refine Has.below' ?_ hb_w3.out
    (repeat (first | (with_reducible assumption) | (with_reducible exact Has.new _ _ _) | (with_reducible exact Has.new' (by first | rfl | (simp; done) | (simp; omega)) _ _) | (with_reducible apply Has.alloc) | (with_reducible apply Has.mix) | (with_reducible apply Has.drew) | (with_reducible apply Has.drewN) | (with_reducible apply Has.set_same) | (with_reducible apply Has.set_other (hp := (by first | (simp; done) | (simp; omega) | omega))) | (with_reducible rfl) | rfl))
  have X2_w3 : Has w3 w1.heap.size #[.int .i64 (divV x y).1, .int .i64 (divV x y).2] 23 := by
    refine Has.below' ?_ hb_w3.out
    (repeat (first | (with_reducible assumption) | (with_reducible exact Has.new _ _ _) | (with_reducible exact Has.new' (by first | rfl | (simp; done) | (simp; omega)) _ _) | (with_reducible apply Has.alloc) | (with_reducible apply Has.mix) | (with_reducible apply Has.drew) | (with_reducible apply Has.drewN) | (with_reducible apply Has.set_same) | (with_reducible apply Has.set_other (hp := (by first | (simp; done) | (simp; omega) | omega))) | (with_reducible rfl) | rfl))
  have HB := HW.out
  have HW := Lib.hid (show Below w.heap.size w w3 from Below.trans (by (repeat (first | (with_reducible assumption) | (with_reducible exact Below.refl _ _) | (with_reducible refine grow_alloc ?_ _) | (with_reducible refine grow_mix ?_ _) | (with_reducible refine grow_drew ?_) | (with_reducible refine grow_drewN ?_ _) | (with_reducible refine grow_set ?_ (by first | (simp; done) | (simp; omega) | omega) _)))) (hb_w3.out.mono (by first | omega | (simp; done) | (simp; omega))))
  clear hc_w3 hf_w3 HB
  have X0_w3_c0 := X0_w3.cell 0
  have X0_w3_c1 := X0_w3.cell 1
  have X0_w3_f := X0_w3.frozen
  have X0_w3_l := X0_w3.lt
  simp only [List.size_toArray, List.length_cons, List.length_nil, Nat.reduceAdd, Nat.zero_lt_succ, Nat.one_lt_succ_succ, Nat.reduceLT, getElem?_pos, List.getElem_toArray, List.getElem_cons_zero, List.getElem_cons_succ] at X0_w3_c0 X0_w3_c1
  have X0_w3_n : w.heap.size ≠ w3.heap.size := by omega
  have X0_w3_m : w3.heap.size ≠ w.heap.size := by omega
  have X1_w3_c0 := X1_w3.cell 0
  have X1_w3_c1 := X1_w3.cell 1
  have X1_w3_f := X1_w3.frozen
  have X1_w3_l := X1_w3.lt
  simp only [List.size_toArray, List.length_cons, List.length_nil, Nat.reduceAdd, Nat.zero_lt_succ, Nat.one_lt_succ_succ, Nat.reduceLT, getElem?_pos, List.getElem_toArray, List.getElem_cons_zero, List.getElem_cons_succ] at X1_w3_c0 X1_w3_c1
  have X1_w3_n : (w.heap.size + 1) ≠ w3.heap.size := by omega
  have X1_w3_m : w3.heap.size ≠ (w.heap.size + 1) := by omega
  have X2_w3_c0 := X2_w3.cell 0
  have X2_w3_c1 := X2_w3.cell 1
  have X2_w3_f := X2_w3.frozen
  have X2_w3_l := X2_w3.lt
  simp only [List.size_toArray, List.length_cons, List.length_nil, Nat.reduceAdd, Nat.zero_lt_succ, Nat.one_lt_succ_succ, Nat.reduceLT, getElem?_pos, List.getElem_toArray, List.getElem_cons_zero, List.getElem_cons_succ] at X2_w3_c0 X2_w3_c1
  have X2_w3_n : w1.heap.size ≠ w3.heap.size := by omega
  have X2_w3_m : w3.heap.size ≠ w1.heap.size := by omega
  go_wp2_with fail
  refine wp_at (fun W => Has W w.heap.size #[.int .i64 x.1, .int .i64 x.2] 23 ∧ Has W (w.heap.size + 1) #[.int .i64 y.1, .int .i64 y.2] 23 ∧ Has W w1.heap.size #[.int .i64 (divV x y).1, .int .i64 (divV x y).2] 23 ∧ Has W w3.heap.size #[.int .i64 (divV x y).1, .int .i64 (divV x y).2] 23 ∧ Below w.heap.size w W) ⟨by (repeat (first | (with_reducible assumption) | (with_reducible exact Has.new _ _ _) | (with_reducible exact Has.new' (by first | rfl | (simp; done) | (simp; omega)) _ _) | (with_reducible apply Has.alloc) | (with_reducible apply Has.mix) | (with_reducible apply Has.drew) | (with_reducible apply Has.drewN) | (with_reducible apply Has.set_same) | (with_reducible apply Has.set_other (hp := (by first | (simp; done) | (simp; omega) | omega))) | (with_reducible rfl) | rfl)), by (repeat (first | (with_reducible assumption) | (with_reducible exact Has.new _ _ _) | (with_reducible exact Has.new' (by first | rfl | (simp; done) | (simp; omega)) _ _) | (with_reducible apply Has.alloc) | (with_reducible apply Has.mix) | (with_reducible apply Has.drew) | (with_reducible apply Has.drewN) | (with_reducible apply Has.set_same) | (with_reducible apply Has.set_other (hp := (by first | (simp; done) | (simp; omega) | omega))) | (with_reducible rfl) | rfl)), by (repeat (first | (with_reducible assumption) | (with_reducible exact Has.new _ _ _) | (with_reducible exact Has.new' (by first | rfl | (simp; done) | (simp; omega)) _ _) | (with_reducible apply Has.alloc) | (with_reducible apply Has.mix) | (with_reducible apply Has.drew) | (with_reducible apply Has.drewN) | (with_reducible apply Has.set_same) | (with_reducible apply Has.set_other (hp := (by first | (simp; done) | (simp; omega) | omega))) | (with_reducible rfl) | rfl)), by (repeat (first | (with_reducible assumption) | (with_reducible exact Has.new _ _ _) | (with_reducible exact Has.new' (by first | rfl | (simp; done) | (simp; omega)) _ _) | (with_reducible apply Has.alloc) | (with_reducible apply Has.mix) | (with_reducible apply Has.drew) | (with_reducible apply Has.drewN) | (with_reducible apply Has.set_same) | (with_reducible apply Has.set_other (hp := (by first | (simp; done) | (simp; omega) | omega))) | (with_reducible rfl) | rfl)), by (try have HBB := HW.out); (repeat (first | (with_reducible assumption) | (with_reducible exact Below.refl _ _) | (with_reducible refine grow_alloc ?_ _) | (with_reducible refine grow_mix ?_ _) | (with_reducible refine grow_drew ?_) | (with_reducible refine grow_drewN ?_ _) | (with_reducible refine grow_set ?_ (by first | (simp; done) | (simp; omega) | omega) _)))⟩ ?_
  rintro w4 ⟨U0, U1, U2, U3, hW⟩
  have hz_w4 := hW.size
  have HW := Lib.hid hW
  clear hW
  have U0_c0 := U0.cell 0
  have U0_c1 := U0.cell 1
  have U0_f := U0.frozen
  have U0_l := U0.lt
  simp only [List.size_toArray, List.length_cons, List.length_nil, Nat.reduceAdd, Nat.zero_lt_succ, Nat.one_lt_succ_succ, Nat.reduceLT, getElem?_pos, List.getElem_toArray, List.getElem_cons_zero, List.getElem_cons_succ] at U0_c0 U0_c1
  (try have n_U0 : w.heap.size ≠ w4.heap.size := by omega)
  (try have m_U0 : w4.heap.size ≠ w.heap.size := by omega)
  (try have u_U0 : w.heap.size < w4.heap.size + 1 := by omega)
  have U1_c0 := U1.cell 0
  have U1_c1 := U1.cell 1
  have U1_f := U1.frozen
  have U1_l := U1.lt
  simp only [List.size_toArray, List.length_cons, List.length_nil, Nat.reduceAdd, Nat.zero_lt_succ, Nat.one_lt_succ_succ, Nat.reduceLT, getElem?_pos, List.getElem_toArray, List.getElem_cons_zero, List.getElem_cons_succ] at U1_c0 U1_c1
  (try have n_U1 : (w.heap.size + 1) ≠ w4.heap.size := by omega)
  (try have m_U1 : w4.heap.size ≠ (w.heap.size + 1) := by omega)
  (try have u_U1 : (w.heap.size + 1) < w4.heap.size + 1 := by omega)
  have U2_c0 := U2.cell 0
  have U2_c1 := U2.cell 1
  have U2_f := U2.frozen
  have U2_l := U2.lt
  simp only [List.size_toArray, List.length_cons, List.length_nil, Nat.reduceAdd, Nat.zero_lt_succ, Nat.one_lt_succ_succ, Nat.reduceLT, getElem?_pos, List.getElem_toArray, List.getElem_cons_zero, List.getElem_cons_succ] at U2_c0 U2_c1
  (try have n_U2 : w1.heap.size ≠ w4.heap.size := by omega)
  (try have m_U2 : w4.heap.size ≠ w1.heap.size := by omega)
  (try have u_U2 : w1.heap.size < w4.heap.size + 1 := by omega)
  have U3_c0 := U3.cell 0
  have U3_c1 := U3.cell 1
  have U3_f := U3.frozen
  have U3_l := U3.lt
  simp only [List.size_toArray, List.length_cons, List.length_nil, Nat.reduceAdd, Nat.zero_lt_succ, Nat.one_lt_succ_succ, Nat.reduceLT, getElem?_pos, List.getElem_toArray, List.getElem_cons_zero, List.getElem_cons_succ] at U3_c0 U3_c1
  (try have n_U3 : w3.heap.size ≠ w4.heap.size := by omega)
  (try have m_U3 : w4.heap.size ≠ w3.heap.size := by omega)
  (try have u_U3 : w3.heap.size < w4.heap.size + 1 := by omega)
  refine wp_region_mix_all (by kernel_rfl) (by kernel_rfl) ?_
  repeat (go_big_quiet_step ((first | (go_at_call 18; (with_reducible exact mix_call (Gauss.Add_calls x y _))) | (go_at_call 19; (with_reducible exact mix_call (Ref04.Add_calls x y _))) | (go_at_call 20; (with_reducible exact mix_call (Gauss.Sub_calls x y _))) | (go_at_call 21; (with_reducible exact mix_call (Ref04.Sub_calls x y _))) | (go_at_call 14; (with_reducible exact mix_call (Gauss.Mul_calls x y _))) | (go_at_call 22; (with_reducible exact mix_call (Ref04.Mul_calls x y _))) | (go_at_call 23; (with_reducible exact mix_call (Gauss.Conj_calls x _))) | (go_at_call 24; (with_reducible exact mix_call (Ref04.Conj_calls x _))))))
  refine wpQuiet_nil ?_
  intro _ hmix
  (try (with_reducible replace hmix := mix_flat hmix))
  obtain ⟨x1, hmix'⟩ := hmix
  have hz := mix_size' hmix'
  subst hmix'
  (try simp only [World.size_alloc, World.size_setCell, World.size_drew] at hz); (try have q0 : w.heap.size < _ := Nat.lt_of_lt_of_le (by omega) hz); (try have q1 : w.heap.size + 1 < _ := Nat.lt_of_lt_of_le (by omega) hz); (try have q2 : w.heap.size + 1 + 1 < _ := Nat.lt_of_lt_of_le (by omega) hz); (try have q3 : w.heap.size + 1 + 1 + 1 < _ := Nat.lt_of_lt_of_le (by omega) hz)
  go_wp2_with fail
  refine wp_at (fun W => Has W w.heap.size #[.int .i64 x.1, .int .i64 x.2] 23 ∧ Has W (w.heap.size + 1) #[.int .i64 y.1, .int .i64 y.2] 23 ∧ Below w.heap.size w W) ⟨by (repeat (first | (with_reducible assumption) | (with_reducible exact Has.new _ _ _) | (with_reducible exact Has.new' (by first | rfl | (simp; done) | (simp; omega)) _ _) | (with_reducible apply Has.alloc) | (with_reducible apply Has.mix) | (with_reducible apply Has.drew) | (with_reducible apply Has.drewN) | (with_reducible apply Has.set_same) | (with_reducible apply Has.set_other (hp := (by first | (simp; done) | (simp; omega) | omega))) | (with_reducible rfl) | rfl)), by (repeat (first | (with_reducible assumption) | (with_reducible exact Has.new _ _ _) | (with_reducible exact Has.new' (by first | rfl | (simp; done) | (simp; omega)) _ _) | (with_reducible apply Has.alloc) | (with_reducible apply Has.mix) | (with_reducible apply Has.drew) | (with_reducible apply Has.drewN) | (with_reducible apply Has.set_same) | (with_reducible apply Has.set_other (hp := (by first | (simp; done) | (simp; omega) | omega))) | (with_reducible rfl) | rfl)), by (try have HBB := HW.out); (repeat (first | (with_reducible assumption) | (with_reducible exact Below.refl _ _) | (with_reducible refine grow_alloc ?_ _) | (with_reducible refine grow_mix ?_ _) | (with_reducible refine grow_drew ?_) | (with_reducible refine grow_drewN ?_ _) | (with_reducible refine grow_set ?_ (by first | (simp; done) | (simp; omega) | omega) _)))⟩ ?_
  rintro w5 ⟨V0, V1, hW⟩
  have hz_w5 := hW.size
  have HW := Lib.hid hW
  clear hW
  have V0_c0 := V0.cell 0
  have V0_c1 := V0.cell 1
  have V0_f := V0.frozen
  have V0_l := V0.lt
  simp only [List.size_toArray, List.length_cons, List.length_nil, Nat.reduceAdd, Nat.zero_lt_succ, Nat.one_lt_succ_succ, Nat.reduceLT, getElem?_pos, List.getElem_toArray, List.getElem_cons_zero, List.getElem_cons_succ] at V0_c0 V0_c1
  (try have n_V0 : w.heap.size ≠ w5.heap.size := by omega)
  (try have m_V0 : w5.heap.size ≠ w.heap.size := by omega)
  (try have u_V0 : w.heap.size < w5.heap.size + 1 := by omega)
  have V1_c0 := V1.cell 0
  have V1_c1 := V1.cell 1
  have V1_f := V1.frozen
  have V1_l := V1.lt
  simp only [List.size_toArray, List.length_cons, List.length_nil, Nat.reduceAdd, Nat.zero_lt_succ, Nat.one_lt_succ_succ, Nat.reduceLT, getElem?_pos, List.getElem_toArray, List.getElem_cons_zero, List.getElem_cons_succ] at V1_c0 V1_c1
  (try have n_V1 : (w.heap.size + 1) ≠ w5.heap.size := by omega)
  (try have m_V1 : w5.heap.size ≠ (w.heap.size + 1) := by omega)
  (try have u_V1 : (w.heap.size + 1) < w5.heap.size + 1 := by omega)
  have TW := Lib.hid (fun x => TT.out (mix w5 x) (by have HBB := HW.out; (repeat (first | (with_reducible assumption) | (with_reducible exact Below.refl _ _) | (with_reducible refine grow_alloc ?_ _) | (with_reducible refine grow_mix ?_ _) | (with_reducible refine grow_drew ?_) | (with_reducible refine grow_drewN ?_ _) | (with_reducible refine grow_set ?_ (by first | (simp; done) | (simp; omega) | omega) _)))))
  have HF := Lib.hid (fun x => HT.out (mix w5 x) (by have HBB := HW.out; (repeat (first | (with_reducible assumption) | (with_reducible exact Below.refl _ _) | (with_reducible refine grow_alloc ?_ _) | (with_reducible refine grow_mix ?_ _) | (with_reducible refine grow_drew ?_) | (with_reducible refine grow_drewN ?_ _) | (with_reducible refine grow_set ?_ (by first | (simp; done) | (simp; omega) | omega) _)))))
  refine wp_region_mix 37 (by kernel_rfl) (by kernel_rfl) ?_
  simp only [List.take_succ_cons, List.take_zero, List.drop_succ_cons, List.drop_zero]
  repeat (go_big_quiet_step ((first | (go_at_call 13; (with_reducible exact mix_call (Gauss.Pow_calls x n bn _))) | (go_at_call 25; (with_reducible exact mix_call (R_Pow x n bn _))) | (go_at_call 16; (with_reducible exact mix_call (Text_calls x _ (TW.out _)))) | (go_at_call 26; (with_reducible exact mix_call (RText_calls x _))) | (go_at_call 27; (with_reducible exact mix_call (G_May_at x _ hm _))) | (go_at_call 11; (with_reducible exact mix_call (R_May_at x _ hm _))) | (go_at_call 12; (with_reducible exact mix_call (Gauss.Of_calls x.1 y.2 _))) | (go_at_call 28; (with_reducible exact mix_call (Ref04.Of_calls x.1 y.2 _))) | (go_at_call 10; (with_reducible exact mix_call (HF.out _))))))
  refine wpQuiet_nil ?_
  intro _ hmix
  (try (with_reducible replace hmix := mix_flat hmix))
  obtain ⟨x1, hmix'⟩ := hmix
  have hz := mix_size' hmix'
  subst hmix'
  (try simp only [World.size_alloc, World.size_setCell, World.size_drew] at hz); (try have q0 : w.heap.size < _ := Nat.lt_of_lt_of_le (by omega) hz); (try have q1 : w.heap.size + 1 < _ := Nat.lt_of_lt_of_le (by omega) hz); (try have q2 : w.heap.size + 1 + 1 < _ := Nat.lt_of_lt_of_le (by omega) hz); (try have q3 : w.heap.size + 1 + 1 + 1 < _ := Nat.lt_of_lt_of_le (by omega) hz)
  go_wp2
  go_ret
  have HB := HW.out
  exact ⟨rfl, HB.trans (Below.mono (by (repeat (first | (with_reducible assumption) | (with_reducible exact Below.refl _ _) | (with_reducible refine grow_alloc ?_ _) | (with_reducible refine grow_mix ?_ _) | (with_reducible refine grow_drew ?_) | (with_reducible refine grow_drewN ?_ _) | (with_reducible refine grow_set ?_ (by first | (simp; done) | (simp; omega) | omega) _)))) (by omega))⟩

set_option maxRecDepth 100000 in
set_option maxHeartbeats 8000000 in
theorem tells_all_false_true (x : Int × Int) (y : Int × Int) (n : Int) (w : World) (ht : Tab w) (bn : n ≤ 9223372036854775807) (hz : isZ y = false) (hm : mayR x = true) :
    Calls Tryd.prog 5 #[vv x, vv y, .int .i64 n] w fun e w' => e = .returned (.bool true) ∧ Below w.heap.size w w' := by
  have TT := Lib.hid (fun (w1 : World) (h : Below w.heap.size w w1) => ht.below h)
  have HT := Lib.hid (fun (w1 : World) (h : Below w.heap.size w w1) => fixed_calls w1 (ht.below h))
  have e0 := l_refl (addV x y)
  have e1 := l_refl (subV x y)
  have e2 := l_refl (mulV x y)
  have e3 := l_refl (conjV x)
  have e4 := l_refl (divV x y)
  have e5 := l_refl (powV x n)
  have e6 := l_refl (ofV x.1 y.2)
  clear ht
  go_enter Tryd.func5, Tryd.ntmps5
  go_wp2_with fail
  (go_at_call 15; refine (Gauss.Div_calls x y _).mono ?_; rintro e w1 ⟨rfl, hb⟩; obtain ⟨hc_w1, hf_w1⟩ := bcell hb; have hz_w1 := hb.size; (try simp only [World.size_alloc] at hz_w1); (try have hy0_w1 : w.heap.size < w1.heap.size := by omega); (try have hy1_w1 : w.heap.size + 1 < w1.heap.size := by omega); (try have hy2_w1 : w.heap.size + 1 + 1 < w1.heap.size := by omega); (try have hyA_w1 : w.heap.size < w1.heap.size + 1 := by omega); (try have hyB_w1 : w.heap.size + 1 < w1.heap.size + 1 := by omega); (try have hyC_w1 : w.heap.size + 1 + 1 < w1.heap.size + 1 := by omega); have hb_w1 := Lib.hid hb; clear hb)
  have X0 : Has w1 w.heap.size #[.int .i64 x.1, .int .i64 x.2] 23 := by
    refine Has.below' ?_ hb_w1.out
    (repeat (first | (with_reducible assumption) | (with_reducible exact Has.new _ _ _) | (with_reducible exact Has.new' (by first | rfl | (simp; done) | (simp; omega)) _ _) | (with_reducible apply Has.alloc) | (with_reducible apply Has.mix) | (with_reducible apply Has.drew) | (with_reducible apply Has.drewN) | (with_reducible apply Has.set_same) | (with_reducible apply Has.set_other (hp := (by first | (simp; done) | (simp; omega) | omega))) | (with_reducible rfl) | rfl))
  have X1 : Has w1 (w.heap.size + 1) #[.int .i64 y.1, .int .i64 y.2] 23 := by
    refine Has.below' ?_ hb_w1.out
    (repeat (first | (with_reducible assumption) | (with_reducible exact Has.new _ _ _) | (with_reducible exact Has.new' (by first | rfl | (simp; done) | (simp; omega)) _ _) | (with_reducible apply Has.alloc) | (with_reducible apply Has.mix) | (with_reducible apply Has.drew) | (with_reducible apply Has.drewN) | (with_reducible apply Has.set_same) | (with_reducible apply Has.set_other (hp := (by first | (simp; done) | (simp; omega) | omega))) | (with_reducible rfl) | rfl))
  have HW := Lib.hid (show Below w.heap.size w w1 from Below.trans (by (repeat (first | (with_reducible assumption) | (with_reducible exact Below.refl _ _) | (with_reducible refine grow_alloc ?_ _) | (with_reducible refine grow_mix ?_ _) | (with_reducible refine grow_drew ?_) | (with_reducible refine grow_drewN ?_ _) | (with_reducible refine grow_set ?_ (by first | (simp; done) | (simp; omega) | omega) _)))) (hb_w1.out.mono (by first | omega | (simp; done) | (simp; omega))))
  clear hc_w1 hf_w1
  have X0_c0 := X0.cell 0
  have X0_c1 := X0.cell 1
  have X0_f := X0.frozen
  have X0_l := X0.lt
  simp only [List.size_toArray, List.length_cons, List.length_nil, Nat.reduceAdd, Nat.zero_lt_succ, Nat.one_lt_succ_succ, Nat.reduceLT, getElem?_pos, List.getElem_toArray, List.getElem_cons_zero, List.getElem_cons_succ] at X0_c0 X0_c1
  have X0_n : w.heap.size ≠ w1.heap.size := by omega
  have X0_m : w1.heap.size ≠ w.heap.size := by omega
  have X1_c0 := X1.cell 0
  have X1_c1 := X1.cell 1
  have X1_f := X1.frozen
  have X1_l := X1.lt
  simp only [List.size_toArray, List.length_cons, List.length_nil, Nat.reduceAdd, Nat.zero_lt_succ, Nat.one_lt_succ_succ, Nat.reduceLT, getElem?_pos, List.getElem_toArray, List.getElem_cons_zero, List.getElem_cons_succ] at X1_c0 X1_c1
  have X1_n : (w.heap.size + 1) ≠ w1.heap.size := by omega
  have X1_m : w1.heap.size ≠ (w.heap.size + 1) := by omega
  go_wp2_with fail
  (go_at_call 17; refine (R_Div x y _).mono ?_; rintro e w3 ⟨rfl, hb⟩; obtain ⟨hc_w3, hf_w3⟩ := bcell hb; have hz_w3 := hb.size; (try simp only [World.size_alloc] at hz_w3); (try have hy0_w3 : w.heap.size < w3.heap.size := by omega); (try have hy1_w3 : w.heap.size + 1 < w3.heap.size := by omega); (try have hy2_w3 : w.heap.size + 1 + 1 < w3.heap.size := by omega); (try have hyA_w3 : w.heap.size < w3.heap.size + 1 := by omega); (try have hyB_w3 : w.heap.size + 1 < w3.heap.size + 1 := by omega); (try have hyC_w3 : w.heap.size + 1 + 1 < w3.heap.size + 1 := by omega); have hb_w3 := Lib.hid hb; clear hb)
  have X0_w3 : Has w3 w.heap.size #[.int .i64 x.1, .int .i64 x.2] 23 := by
    refine Has.below' ?_ hb_w3.out
    (repeat (first | (with_reducible assumption) | (with_reducible exact Has.new _ _ _) | (with_reducible exact Has.new' (by first | rfl | (simp; done) | (simp; omega)) _ _) | (with_reducible apply Has.alloc) | (with_reducible apply Has.mix) | (with_reducible apply Has.drew) | (with_reducible apply Has.drewN) | (with_reducible apply Has.set_same) | (with_reducible apply Has.set_other (hp := (by first | (simp; done) | (simp; omega) | omega))) | (with_reducible rfl) | rfl))
  have X1_w3 : Has w3 (w.heap.size + 1) #[.int .i64 y.1, .int .i64 y.2] 23 := by
    refine Has.below' ?_ hb_w3.out
    (repeat (first | (with_reducible assumption) | (with_reducible exact Has.new _ _ _) | (with_reducible exact Has.new' (by first | rfl | (simp; done) | (simp; omega)) _ _) | (with_reducible apply Has.alloc) | (with_reducible apply Has.mix) | (with_reducible apply Has.drew) | (with_reducible apply Has.drewN) | (with_reducible apply Has.set_same) | (with_reducible apply Has.set_other (hp := (by first | (simp; done) | (simp; omega) | omega))) | (with_reducible rfl) | rfl))
  have X2_w3 : Has w3 w1.heap.size #[.int .i64 (divV x y).1, .int .i64 (divV x y).2] 23 := by
    refine Has.below' ?_ hb_w3.out
    (repeat (first | (with_reducible assumption) | (with_reducible exact Has.new _ _ _) | (with_reducible exact Has.new' (by first | rfl | (simp; done) | (simp; omega)) _ _) | (with_reducible apply Has.alloc) | (with_reducible apply Has.mix) | (with_reducible apply Has.drew) | (with_reducible apply Has.drewN) | (with_reducible apply Has.set_same) | (with_reducible apply Has.set_other (hp := (by first | (simp; done) | (simp; omega) | omega))) | (with_reducible rfl) | rfl))
  have HB := HW.out
  have HW := Lib.hid (show Below w.heap.size w w3 from Below.trans (by (repeat (first | (with_reducible assumption) | (with_reducible exact Below.refl _ _) | (with_reducible refine grow_alloc ?_ _) | (with_reducible refine grow_mix ?_ _) | (with_reducible refine grow_drew ?_) | (with_reducible refine grow_drewN ?_ _) | (with_reducible refine grow_set ?_ (by first | (simp; done) | (simp; omega) | omega) _)))) (hb_w3.out.mono (by first | omega | (simp; done) | (simp; omega))))
  clear hc_w3 hf_w3 HB
  have X0_w3_c0 := X0_w3.cell 0
  have X0_w3_c1 := X0_w3.cell 1
  have X0_w3_f := X0_w3.frozen
  have X0_w3_l := X0_w3.lt
  simp only [List.size_toArray, List.length_cons, List.length_nil, Nat.reduceAdd, Nat.zero_lt_succ, Nat.one_lt_succ_succ, Nat.reduceLT, getElem?_pos, List.getElem_toArray, List.getElem_cons_zero, List.getElem_cons_succ] at X0_w3_c0 X0_w3_c1
  have X0_w3_n : w.heap.size ≠ w3.heap.size := by omega
  have X0_w3_m : w3.heap.size ≠ w.heap.size := by omega
  have X1_w3_c0 := X1_w3.cell 0
  have X1_w3_c1 := X1_w3.cell 1
  have X1_w3_f := X1_w3.frozen
  have X1_w3_l := X1_w3.lt
  simp only [List.size_toArray, List.length_cons, List.length_nil, Nat.reduceAdd, Nat.zero_lt_succ, Nat.one_lt_succ_succ, Nat.reduceLT, getElem?_pos, List.getElem_toArray, List.getElem_cons_zero, List.getElem_cons_succ] at X1_w3_c0 X1_w3_c1
  have X1_w3_n : (w.heap.size + 1) ≠ w3.heap.size := by omega
  have X1_w3_m : w3.heap.size ≠ (w.heap.size + 1) := by omega
  have X2_w3_c0 := X2_w3.cell 0
  have X2_w3_c1 := X2_w3.cell 1
  have X2_w3_f := X2_w3.frozen
  have X2_w3_l := X2_w3.lt
  simp only [List.size_toArray, List.length_cons, List.length_nil, Nat.reduceAdd, Nat.zero_lt_succ, Nat.one_lt_succ_succ, Nat.reduceLT, getElem?_pos, List.getElem_toArray, List.getElem_cons_zero, List.getElem_cons_succ] at X2_w3_c0 X2_w3_c1
  have X2_w3_n : w1.heap.size ≠ w3.heap.size := by omega
  have X2_w3_m : w3.heap.size ≠ w1.heap.size := by omega
  go_wp2_with fail
  refine wp_at (fun W => Has W w.heap.size #[.int .i64 x.1, .int .i64 x.2] 23 ∧ Has W (w.heap.size + 1) #[.int .i64 y.1, .int .i64 y.2] 23 ∧ Has W w1.heap.size #[.int .i64 (divV x y).1, .int .i64 (divV x y).2] 23 ∧ Has W w3.heap.size #[.int .i64 (divV x y).1, .int .i64 (divV x y).2] 23 ∧ Below w.heap.size w W) ⟨by (repeat (first | (with_reducible assumption) | (with_reducible exact Has.new _ _ _) | (with_reducible exact Has.new' (by first | rfl | (simp; done) | (simp; omega)) _ _) | (with_reducible apply Has.alloc) | (with_reducible apply Has.mix) | (with_reducible apply Has.drew) | (with_reducible apply Has.drewN) | (with_reducible apply Has.set_same) | (with_reducible apply Has.set_other (hp := (by first | (simp; done) | (simp; omega) | omega))) | (with_reducible rfl) | rfl)), by (repeat (first | (with_reducible assumption) | (with_reducible exact Has.new _ _ _) | (with_reducible exact Has.new' (by first | rfl | (simp; done) | (simp; omega)) _ _) | (with_reducible apply Has.alloc) | (with_reducible apply Has.mix) | (with_reducible apply Has.drew) | (with_reducible apply Has.drewN) | (with_reducible apply Has.set_same) | (with_reducible apply Has.set_other (hp := (by first | (simp; done) | (simp; omega) | omega))) | (with_reducible rfl) | rfl)), by (repeat (first | (with_reducible assumption) | (with_reducible exact Has.new _ _ _) | (with_reducible exact Has.new' (by first | rfl | (simp; done) | (simp; omega)) _ _) | (with_reducible apply Has.alloc) | (with_reducible apply Has.mix) | (with_reducible apply Has.drew) | (with_reducible apply Has.drewN) | (with_reducible apply Has.set_same) | (with_reducible apply Has.set_other (hp := (by first | (simp; done) | (simp; omega) | omega))) | (with_reducible rfl) | rfl)), by (repeat (first | (with_reducible assumption) | (with_reducible exact Has.new _ _ _) | (with_reducible exact Has.new' (by first | rfl | (simp; done) | (simp; omega)) _ _) | (with_reducible apply Has.alloc) | (with_reducible apply Has.mix) | (with_reducible apply Has.drew) | (with_reducible apply Has.drewN) | (with_reducible apply Has.set_same) | (with_reducible apply Has.set_other (hp := (by first | (simp; done) | (simp; omega) | omega))) | (with_reducible rfl) | rfl)), by (try have HBB := HW.out); (repeat (first | (with_reducible assumption) | (with_reducible exact Below.refl _ _) | (with_reducible refine grow_alloc ?_ _) | (with_reducible refine grow_mix ?_ _) | (with_reducible refine grow_drew ?_) | (with_reducible refine grow_drewN ?_ _) | (with_reducible refine grow_set ?_ (by first | (simp; done) | (simp; omega) | omega) _)))⟩ ?_
  rintro w4 ⟨U0, U1, U2, U3, hW⟩
  have hz_w4 := hW.size
  have HW := Lib.hid hW
  clear hW
  have U0_c0 := U0.cell 0
  have U0_c1 := U0.cell 1
  have U0_f := U0.frozen
  have U0_l := U0.lt
  simp only [List.size_toArray, List.length_cons, List.length_nil, Nat.reduceAdd, Nat.zero_lt_succ, Nat.one_lt_succ_succ, Nat.reduceLT, getElem?_pos, List.getElem_toArray, List.getElem_cons_zero, List.getElem_cons_succ] at U0_c0 U0_c1
  (try have n_U0 : w.heap.size ≠ w4.heap.size := by omega)
  (try have m_U0 : w4.heap.size ≠ w.heap.size := by omega)
  (try have u_U0 : w.heap.size < w4.heap.size + 1 := by omega)
  have U1_c0 := U1.cell 0
  have U1_c1 := U1.cell 1
  have U1_f := U1.frozen
  have U1_l := U1.lt
  simp only [List.size_toArray, List.length_cons, List.length_nil, Nat.reduceAdd, Nat.zero_lt_succ, Nat.one_lt_succ_succ, Nat.reduceLT, getElem?_pos, List.getElem_toArray, List.getElem_cons_zero, List.getElem_cons_succ] at U1_c0 U1_c1
  (try have n_U1 : (w.heap.size + 1) ≠ w4.heap.size := by omega)
  (try have m_U1 : w4.heap.size ≠ (w.heap.size + 1) := by omega)
  (try have u_U1 : (w.heap.size + 1) < w4.heap.size + 1 := by omega)
  have U2_c0 := U2.cell 0
  have U2_c1 := U2.cell 1
  have U2_f := U2.frozen
  have U2_l := U2.lt
  simp only [List.size_toArray, List.length_cons, List.length_nil, Nat.reduceAdd, Nat.zero_lt_succ, Nat.one_lt_succ_succ, Nat.reduceLT, getElem?_pos, List.getElem_toArray, List.getElem_cons_zero, List.getElem_cons_succ] at U2_c0 U2_c1
  (try have n_U2 : w1.heap.size ≠ w4.heap.size := by omega)
  (try have m_U2 : w4.heap.size ≠ w1.heap.size := by omega)
  (try have u_U2 : w1.heap.size < w4.heap.size + 1 := by omega)
  have U3_c0 := U3.cell 0
  have U3_c1 := U3.cell 1
  have U3_f := U3.frozen
  have U3_l := U3.lt
  simp only [List.size_toArray, List.length_cons, List.length_nil, Nat.reduceAdd, Nat.zero_lt_succ, Nat.one_lt_succ_succ, Nat.reduceLT, getElem?_pos, List.getElem_toArray, List.getElem_cons_zero, List.getElem_cons_succ] at U3_c0 U3_c1
  (try have n_U3 : w3.heap.size ≠ w4.heap.size := by omega)
  (try have m_U3 : w4.heap.size ≠ w3.heap.size := by omega)
  (try have u_U3 : w3.heap.size < w4.heap.size + 1 := by omega)
  refine wp_region_mix_all (by kernel_rfl) (by kernel_rfl) ?_
  repeat (go_big_quiet_step ((first | (go_at_call 18; (with_reducible exact mix_call (Gauss.Add_calls x y _))) | (go_at_call 19; (with_reducible exact mix_call (Ref04.Add_calls x y _))) | (go_at_call 20; (with_reducible exact mix_call (Gauss.Sub_calls x y _))) | (go_at_call 21; (with_reducible exact mix_call (Ref04.Sub_calls x y _))) | (go_at_call 14; (with_reducible exact mix_call (Gauss.Mul_calls x y _))) | (go_at_call 22; (with_reducible exact mix_call (Ref04.Mul_calls x y _))) | (go_at_call 23; (with_reducible exact mix_call (Gauss.Conj_calls x _))) | (go_at_call 24; (with_reducible exact mix_call (Ref04.Conj_calls x _))))))
  refine wpQuiet_nil ?_
  intro _ hmix
  (try (with_reducible replace hmix := mix_flat hmix))
  obtain ⟨x1, hmix'⟩ := hmix
  have hz := mix_size' hmix'
  subst hmix'
  (try simp only [World.size_alloc, World.size_setCell, World.size_drew] at hz); (try have q0 : w.heap.size < _ := Nat.lt_of_lt_of_le (by omega) hz); (try have q1 : w.heap.size + 1 < _ := Nat.lt_of_lt_of_le (by omega) hz); (try have q2 : w.heap.size + 1 + 1 < _ := Nat.lt_of_lt_of_le (by omega) hz); (try have q3 : w.heap.size + 1 + 1 + 1 < _ := Nat.lt_of_lt_of_le (by omega) hz)
  go_wp2_with fail
  refine wp_at (fun W => Has W w.heap.size #[.int .i64 x.1, .int .i64 x.2] 23 ∧ Has W (w.heap.size + 1) #[.int .i64 y.1, .int .i64 y.2] 23 ∧ Below w.heap.size w W) ⟨by (repeat (first | (with_reducible assumption) | (with_reducible exact Has.new _ _ _) | (with_reducible exact Has.new' (by first | rfl | (simp; done) | (simp; omega)) _ _) | (with_reducible apply Has.alloc) | (with_reducible apply Has.mix) | (with_reducible apply Has.drew) | (with_reducible apply Has.drewN) | (with_reducible apply Has.set_same) | (with_reducible apply Has.set_other (hp := (by first | (simp; done) | (simp; omega) | omega))) | (with_reducible rfl) | rfl)), by (repeat (first | (with_reducible assumption) | (with_reducible exact Has.new _ _ _) | (with_reducible exact Has.new' (by first | rfl | (simp; done) | (simp; omega)) _ _) | (with_reducible apply Has.alloc) | (with_reducible apply Has.mix) | (with_reducible apply Has.drew) | (with_reducible apply Has.drewN) | (with_reducible apply Has.set_same) | (with_reducible apply Has.set_other (hp := (by first | (simp; done) | (simp; omega) | omega))) | (with_reducible rfl) | rfl)), by (try have HBB := HW.out); (repeat (first | (with_reducible assumption) | (with_reducible exact Below.refl _ _) | (with_reducible refine grow_alloc ?_ _) | (with_reducible refine grow_mix ?_ _) | (with_reducible refine grow_drew ?_) | (with_reducible refine grow_drewN ?_ _) | (with_reducible refine grow_set ?_ (by first | (simp; done) | (simp; omega) | omega) _)))⟩ ?_
  rintro w5 ⟨V0, V1, hW⟩
  have hz_w5 := hW.size
  have HW := Lib.hid hW
  clear hW
  have V0_c0 := V0.cell 0
  have V0_c1 := V0.cell 1
  have V0_f := V0.frozen
  have V0_l := V0.lt
  simp only [List.size_toArray, List.length_cons, List.length_nil, Nat.reduceAdd, Nat.zero_lt_succ, Nat.one_lt_succ_succ, Nat.reduceLT, getElem?_pos, List.getElem_toArray, List.getElem_cons_zero, List.getElem_cons_succ] at V0_c0 V0_c1
  (try have n_V0 : w.heap.size ≠ w5.heap.size := by omega)
  (try have m_V0 : w5.heap.size ≠ w.heap.size := by omega)
  (try have u_V0 : w.heap.size < w5.heap.size + 1 := by omega)
  have V1_c0 := V1.cell 0
  have V1_c1 := V1.cell 1
  have V1_f := V1.frozen
  have V1_l := V1.lt
  simp only [List.size_toArray, List.length_cons, List.length_nil, Nat.reduceAdd, Nat.zero_lt_succ, Nat.one_lt_succ_succ, Nat.reduceLT, getElem?_pos, List.getElem_toArray, List.getElem_cons_zero, List.getElem_cons_succ] at V1_c0 V1_c1
  (try have n_V1 : (w.heap.size + 1) ≠ w5.heap.size := by omega)
  (try have m_V1 : w5.heap.size ≠ (w.heap.size + 1) := by omega)
  (try have u_V1 : (w.heap.size + 1) < w5.heap.size + 1 := by omega)
  have TW := Lib.hid (fun x => TT.out (mix w5 x) (by have HBB := HW.out; (repeat (first | (with_reducible assumption) | (with_reducible exact Below.refl _ _) | (with_reducible refine grow_alloc ?_ _) | (with_reducible refine grow_mix ?_ _) | (with_reducible refine grow_drew ?_) | (with_reducible refine grow_drewN ?_ _) | (with_reducible refine grow_set ?_ (by first | (simp; done) | (simp; omega) | omega) _)))))
  have HF := Lib.hid (fun x => HT.out (mix w5 x) (by have HBB := HW.out; (repeat (first | (with_reducible assumption) | (with_reducible exact Below.refl _ _) | (with_reducible refine grow_alloc ?_ _) | (with_reducible refine grow_mix ?_ _) | (with_reducible refine grow_drew ?_) | (with_reducible refine grow_drewN ?_ _) | (with_reducible refine grow_set ?_ (by first | (simp; done) | (simp; omega) | omega) _)))))
  refine wp_region_mix 37 (by kernel_rfl) (by kernel_rfl) ?_
  simp only [List.take_succ_cons, List.take_zero, List.drop_succ_cons, List.drop_zero]
  repeat (go_big_quiet_step ((first | (go_at_call 13; (with_reducible exact mix_call (Gauss.Pow_calls x n bn _))) | (go_at_call 25; (with_reducible exact mix_call (R_Pow x n bn _))) | (go_at_call 16; (with_reducible exact mix_call (Text_calls x _ (TW.out _)))) | (go_at_call 26; (with_reducible exact mix_call (RText_calls x _))) | (go_at_call 27; (with_reducible exact mix_call (G_May_at x _ hm _))) | (go_at_call 11; (with_reducible exact mix_call (R_May_at x _ hm _))) | (go_at_call 12; (with_reducible exact mix_call (Gauss.Of_calls x.1 y.2 _))) | (go_at_call 28; (with_reducible exact mix_call (Ref04.Of_calls x.1 y.2 _))) | (go_at_call 10; (with_reducible exact mix_call (HF.out _))))))
  refine wpQuiet_nil ?_
  intro _ hmix
  (try (with_reducible replace hmix := mix_flat hmix))
  obtain ⟨x1, hmix'⟩ := hmix
  have hz := mix_size' hmix'
  subst hmix'
  (try simp only [World.size_alloc, World.size_setCell, World.size_drew] at hz); (try have q0 : w.heap.size < _ := Nat.lt_of_lt_of_le (by omega) hz); (try have q1 : w.heap.size + 1 < _ := Nat.lt_of_lt_of_le (by omega) hz); (try have q2 : w.heap.size + 1 + 1 < _ := Nat.lt_of_lt_of_le (by omega) hz); (try have q3 : w.heap.size + 1 + 1 + 1 < _ := Nat.lt_of_lt_of_le (by omega) hz)
  go_wp2
  go_ret
  have HB := HW.out
  exact ⟨rfl, HB.trans (Below.mono (by (repeat (first | (with_reducible assumption) | (with_reducible exact Below.refl _ _) | (with_reducible refine grow_alloc ?_ _) | (with_reducible refine grow_mix ?_ _) | (with_reducible refine grow_drew ?_) | (with_reducible refine grow_drewN ?_ _) | (with_reducible refine grow_set ?_ (by first | (simp; done) | (simp; omega) | omega) _)))) (by omega))⟩

set_option maxRecDepth 100000 in
set_option maxHeartbeats 8000000 in
theorem tells_all_false_false (x : Int × Int) (y : Int × Int) (n : Int) (w : World) (ht : Tab w) (bn : n ≤ 9223372036854775807) (hz : isZ y = false) (hm : mayR x = false) :
    Calls Tryd.prog 5 #[vv x, vv y, .int .i64 n] w fun e w' => e = .returned (.bool true) ∧ Below w.heap.size w w' := by
  have TT := Lib.hid (fun (w1 : World) (h : Below w.heap.size w w1) => ht.below h)
  have HT := Lib.hid (fun (w1 : World) (h : Below w.heap.size w w1) => fixed_calls w1 (ht.below h))
  have e0 := l_refl (addV x y)
  have e1 := l_refl (subV x y)
  have e2 := l_refl (mulV x y)
  have e3 := l_refl (conjV x)
  have e4 := l_refl (divV x y)
  have e5 := l_refl (powV x n)
  have e6 := l_refl (ofV x.1 y.2)
  clear ht
  go_enter Tryd.func5, Tryd.ntmps5
  go_wp2_with fail
  (go_at_call 15; refine (Gauss.Div_calls x y _).mono ?_; rintro e w1 ⟨rfl, hb⟩; obtain ⟨hc_w1, hf_w1⟩ := bcell hb; have hz_w1 := hb.size; (try simp only [World.size_alloc] at hz_w1); (try have hy0_w1 : w.heap.size < w1.heap.size := by omega); (try have hy1_w1 : w.heap.size + 1 < w1.heap.size := by omega); (try have hy2_w1 : w.heap.size + 1 + 1 < w1.heap.size := by omega); (try have hyA_w1 : w.heap.size < w1.heap.size + 1 := by omega); (try have hyB_w1 : w.heap.size + 1 < w1.heap.size + 1 := by omega); (try have hyC_w1 : w.heap.size + 1 + 1 < w1.heap.size + 1 := by omega); have hb_w1 := Lib.hid hb; clear hb)
  have X0 : Has w1 w.heap.size #[.int .i64 x.1, .int .i64 x.2] 23 := by
    refine Has.below' ?_ hb_w1.out
    (repeat (first | (with_reducible assumption) | (with_reducible exact Has.new _ _ _) | (with_reducible exact Has.new' (by first | rfl | (simp; done) | (simp; omega)) _ _) | (with_reducible apply Has.alloc) | (with_reducible apply Has.mix) | (with_reducible apply Has.drew) | (with_reducible apply Has.drewN) | (with_reducible apply Has.set_same) | (with_reducible apply Has.set_other (hp := (by first | (simp; done) | (simp; omega) | omega))) | (with_reducible rfl) | rfl))
  have X1 : Has w1 (w.heap.size + 1) #[.int .i64 y.1, .int .i64 y.2] 23 := by
    refine Has.below' ?_ hb_w1.out
    (repeat (first | (with_reducible assumption) | (with_reducible exact Has.new _ _ _) | (with_reducible exact Has.new' (by first | rfl | (simp; done) | (simp; omega)) _ _) | (with_reducible apply Has.alloc) | (with_reducible apply Has.mix) | (with_reducible apply Has.drew) | (with_reducible apply Has.drewN) | (with_reducible apply Has.set_same) | (with_reducible apply Has.set_other (hp := (by first | (simp; done) | (simp; omega) | omega))) | (with_reducible rfl) | rfl))
  have HW := Lib.hid (show Below w.heap.size w w1 from Below.trans (by (repeat (first | (with_reducible assumption) | (with_reducible exact Below.refl _ _) | (with_reducible refine grow_alloc ?_ _) | (with_reducible refine grow_mix ?_ _) | (with_reducible refine grow_drew ?_) | (with_reducible refine grow_drewN ?_ _) | (with_reducible refine grow_set ?_ (by first | (simp; done) | (simp; omega) | omega) _)))) (hb_w1.out.mono (by first | omega | (simp; done) | (simp; omega))))
  clear hc_w1 hf_w1
  have X0_c0 := X0.cell 0
  have X0_c1 := X0.cell 1
  have X0_f := X0.frozen
  have X0_l := X0.lt
  simp only [List.size_toArray, List.length_cons, List.length_nil, Nat.reduceAdd, Nat.zero_lt_succ, Nat.one_lt_succ_succ, Nat.reduceLT, getElem?_pos, List.getElem_toArray, List.getElem_cons_zero, List.getElem_cons_succ] at X0_c0 X0_c1
  have X0_n : w.heap.size ≠ w1.heap.size := by omega
  have X0_m : w1.heap.size ≠ w.heap.size := by omega
  have X1_c0 := X1.cell 0
  have X1_c1 := X1.cell 1
  have X1_f := X1.frozen
  have X1_l := X1.lt
  simp only [List.size_toArray, List.length_cons, List.length_nil, Nat.reduceAdd, Nat.zero_lt_succ, Nat.one_lt_succ_succ, Nat.reduceLT, getElem?_pos, List.getElem_toArray, List.getElem_cons_zero, List.getElem_cons_succ] at X1_c0 X1_c1
  have X1_n : (w.heap.size + 1) ≠ w1.heap.size := by omega
  have X1_m : w1.heap.size ≠ (w.heap.size + 1) := by omega
  go_wp2_with fail
  (go_at_call 17; refine (R_Div x y _).mono ?_; rintro e w3 ⟨rfl, hb⟩; obtain ⟨hc_w3, hf_w3⟩ := bcell hb; have hz_w3 := hb.size; (try simp only [World.size_alloc] at hz_w3); (try have hy0_w3 : w.heap.size < w3.heap.size := by omega); (try have hy1_w3 : w.heap.size + 1 < w3.heap.size := by omega); (try have hy2_w3 : w.heap.size + 1 + 1 < w3.heap.size := by omega); (try have hyA_w3 : w.heap.size < w3.heap.size + 1 := by omega); (try have hyB_w3 : w.heap.size + 1 < w3.heap.size + 1 := by omega); (try have hyC_w3 : w.heap.size + 1 + 1 < w3.heap.size + 1 := by omega); have hb_w3 := Lib.hid hb; clear hb)
  have X0_w3 : Has w3 w.heap.size #[.int .i64 x.1, .int .i64 x.2] 23 := by
    refine Has.below' ?_ hb_w3.out
    (repeat (first | (with_reducible assumption) | (with_reducible exact Has.new _ _ _) | (with_reducible exact Has.new' (by first | rfl | (simp; done) | (simp; omega)) _ _) | (with_reducible apply Has.alloc) | (with_reducible apply Has.mix) | (with_reducible apply Has.drew) | (with_reducible apply Has.drewN) | (with_reducible apply Has.set_same) | (with_reducible apply Has.set_other (hp := (by first | (simp; done) | (simp; omega) | omega))) | (with_reducible rfl) | rfl))
  have X1_w3 : Has w3 (w.heap.size + 1) #[.int .i64 y.1, .int .i64 y.2] 23 := by
    refine Has.below' ?_ hb_w3.out
    (repeat (first | (with_reducible assumption) | (with_reducible exact Has.new _ _ _) | (with_reducible exact Has.new' (by first | rfl | (simp; done) | (simp; omega)) _ _) | (with_reducible apply Has.alloc) | (with_reducible apply Has.mix) | (with_reducible apply Has.drew) | (with_reducible apply Has.drewN) | (with_reducible apply Has.set_same) | (with_reducible apply Has.set_other (hp := (by first | (simp; done) | (simp; omega) | omega))) | (with_reducible rfl) | rfl))
  have X2_w3 : Has w3 w1.heap.size #[.int .i64 (divV x y).1, .int .i64 (divV x y).2] 23 := by
    refine Has.below' ?_ hb_w3.out
    (repeat (first | (with_reducible assumption) | (with_reducible exact Has.new _ _ _) | (with_reducible exact Has.new' (by first | rfl | (simp; done) | (simp; omega)) _ _) | (with_reducible apply Has.alloc) | (with_reducible apply Has.mix) | (with_reducible apply Has.drew) | (with_reducible apply Has.drewN) | (with_reducible apply Has.set_same) | (with_reducible apply Has.set_other (hp := (by first | (simp; done) | (simp; omega) | omega))) | (with_reducible rfl) | rfl))
  have HB := HW.out
  have HW := Lib.hid (show Below w.heap.size w w3 from Below.trans (by (repeat (first | (with_reducible assumption) | (with_reducible exact Below.refl _ _) | (with_reducible refine grow_alloc ?_ _) | (with_reducible refine grow_mix ?_ _) | (with_reducible refine grow_drew ?_) | (with_reducible refine grow_drewN ?_ _) | (with_reducible refine grow_set ?_ (by first | (simp; done) | (simp; omega) | omega) _)))) (hb_w3.out.mono (by first | omega | (simp; done) | (simp; omega))))
  clear hc_w3 hf_w3 HB
  have X0_w3_c0 := X0_w3.cell 0
  have X0_w3_c1 := X0_w3.cell 1
  have X0_w3_f := X0_w3.frozen
  have X0_w3_l := X0_w3.lt
  simp only [List.size_toArray, List.length_cons, List.length_nil, Nat.reduceAdd, Nat.zero_lt_succ, Nat.one_lt_succ_succ, Nat.reduceLT, getElem?_pos, List.getElem_toArray, List.getElem_cons_zero, List.getElem_cons_succ] at X0_w3_c0 X0_w3_c1
  have X0_w3_n : w.heap.size ≠ w3.heap.size := by omega
  have X0_w3_m : w3.heap.size ≠ w.heap.size := by omega
  have X1_w3_c0 := X1_w3.cell 0
  have X1_w3_c1 := X1_w3.cell 1
  have X1_w3_f := X1_w3.frozen
  have X1_w3_l := X1_w3.lt
  simp only [List.size_toArray, List.length_cons, List.length_nil, Nat.reduceAdd, Nat.zero_lt_succ, Nat.one_lt_succ_succ, Nat.reduceLT, getElem?_pos, List.getElem_toArray, List.getElem_cons_zero, List.getElem_cons_succ] at X1_w3_c0 X1_w3_c1
  have X1_w3_n : (w.heap.size + 1) ≠ w3.heap.size := by omega
  have X1_w3_m : w3.heap.size ≠ (w.heap.size + 1) := by omega
  have X2_w3_c0 := X2_w3.cell 0
  have X2_w3_c1 := X2_w3.cell 1
  have X2_w3_f := X2_w3.frozen
  have X2_w3_l := X2_w3.lt
  simp only [List.size_toArray, List.length_cons, List.length_nil, Nat.reduceAdd, Nat.zero_lt_succ, Nat.one_lt_succ_succ, Nat.reduceLT, getElem?_pos, List.getElem_toArray, List.getElem_cons_zero, List.getElem_cons_succ] at X2_w3_c0 X2_w3_c1
  have X2_w3_n : w1.heap.size ≠ w3.heap.size := by omega
  have X2_w3_m : w3.heap.size ≠ w1.heap.size := by omega
  go_wp2_with fail
  refine wp_at (fun W => Has W w.heap.size #[.int .i64 x.1, .int .i64 x.2] 23 ∧ Has W (w.heap.size + 1) #[.int .i64 y.1, .int .i64 y.2] 23 ∧ Has W w1.heap.size #[.int .i64 (divV x y).1, .int .i64 (divV x y).2] 23 ∧ Has W w3.heap.size #[.int .i64 (divV x y).1, .int .i64 (divV x y).2] 23 ∧ Below w.heap.size w W) ⟨by (repeat (first | (with_reducible assumption) | (with_reducible exact Has.new _ _ _) | (with_reducible exact Has.new' (by first | rfl | (simp; done) | (simp; omega)) _ _) | (with_reducible apply Has.alloc) | (with_reducible apply Has.mix) | (with_reducible apply Has.drew) | (with_reducible apply Has.drewN) | (with_reducible apply Has.set_same) | (with_reducible apply Has.set_other (hp := (by first | (simp; done) | (simp; omega) | omega))) | (with_reducible rfl) | rfl)), by (repeat (first | (with_reducible assumption) | (with_reducible exact Has.new _ _ _) | (with_reducible exact Has.new' (by first | rfl | (simp; done) | (simp; omega)) _ _) | (with_reducible apply Has.alloc) | (with_reducible apply Has.mix) | (with_reducible apply Has.drew) | (with_reducible apply Has.drewN) | (with_reducible apply Has.set_same) | (with_reducible apply Has.set_other (hp := (by first | (simp; done) | (simp; omega) | omega))) | (with_reducible rfl) | rfl)), by (repeat (first | (with_reducible assumption) | (with_reducible exact Has.new _ _ _) | (with_reducible exact Has.new' (by first | rfl | (simp; done) | (simp; omega)) _ _) | (with_reducible apply Has.alloc) | (with_reducible apply Has.mix) | (with_reducible apply Has.drew) | (with_reducible apply Has.drewN) | (with_reducible apply Has.set_same) | (with_reducible apply Has.set_other (hp := (by first | (simp; done) | (simp; omega) | omega))) | (with_reducible rfl) | rfl)), by (repeat (first | (with_reducible assumption) | (with_reducible exact Has.new _ _ _) | (with_reducible exact Has.new' (by first | rfl | (simp; done) | (simp; omega)) _ _) | (with_reducible apply Has.alloc) | (with_reducible apply Has.mix) | (with_reducible apply Has.drew) | (with_reducible apply Has.drewN) | (with_reducible apply Has.set_same) | (with_reducible apply Has.set_other (hp := (by first | (simp; done) | (simp; omega) | omega))) | (with_reducible rfl) | rfl)), by (try have HBB := HW.out); (repeat (first | (with_reducible assumption) | (with_reducible exact Below.refl _ _) | (with_reducible refine grow_alloc ?_ _) | (with_reducible refine grow_mix ?_ _) | (with_reducible refine grow_drew ?_) | (with_reducible refine grow_drewN ?_ _) | (with_reducible refine grow_set ?_ (by first | (simp; done) | (simp; omega) | omega) _)))⟩ ?_
  rintro w4 ⟨U0, U1, U2, U3, hW⟩
  have hz_w4 := hW.size
  have HW := Lib.hid hW
  clear hW
  have U0_c0 := U0.cell 0
  have U0_c1 := U0.cell 1
  have U0_f := U0.frozen
  have U0_l := U0.lt
  simp only [List.size_toArray, List.length_cons, List.length_nil, Nat.reduceAdd, Nat.zero_lt_succ, Nat.one_lt_succ_succ, Nat.reduceLT, getElem?_pos, List.getElem_toArray, List.getElem_cons_zero, List.getElem_cons_succ] at U0_c0 U0_c1
  (try have n_U0 : w.heap.size ≠ w4.heap.size := by omega)
  (try have m_U0 : w4.heap.size ≠ w.heap.size := by omega)
  (try have u_U0 : w.heap.size < w4.heap.size + 1 := by omega)
  have U1_c0 := U1.cell 0
  have U1_c1 := U1.cell 1
  have U1_f := U1.frozen
  have U1_l := U1.lt
  simp only [List.size_toArray, List.length_cons, List.length_nil, Nat.reduceAdd, Nat.zero_lt_succ, Nat.one_lt_succ_succ, Nat.reduceLT, getElem?_pos, List.getElem_toArray, List.getElem_cons_zero, List.getElem_cons_succ] at U1_c0 U1_c1
  (try have n_U1 : (w.heap.size + 1) ≠ w4.heap.size := by omega)
  (try have m_U1 : w4.heap.size ≠ (w.heap.size + 1) := by omega)
  (try have u_U1 : (w.heap.size + 1) < w4.heap.size + 1 := by omega)
  have U2_c0 := U2.cell 0
  have U2_c1 := U2.cell 1
  have U2_f := U2.frozen
  have U2_l := U2.lt
  simp only [List.size_toArray, List.length_cons, List.length_nil, Nat.reduceAdd, Nat.zero_lt_succ, Nat.one_lt_succ_succ, Nat.reduceLT, getElem?_pos, List.getElem_toArray, List.getElem_cons_zero, List.getElem_cons_succ] at U2_c0 U2_c1
  (try have n_U2 : w1.heap.size ≠ w4.heap.size := by omega)
  (try have m_U2 : w4.heap.size ≠ w1.heap.size := by omega)
  (try have u_U2 : w1.heap.size < w4.heap.size + 1 := by omega)
  have U3_c0 := U3.cell 0
  have U3_c1 := U3.cell 1
  have U3_f := U3.frozen
  have U3_l := U3.lt
  simp only [List.size_toArray, List.length_cons, List.length_nil, Nat.reduceAdd, Nat.zero_lt_succ, Nat.one_lt_succ_succ, Nat.reduceLT, getElem?_pos, List.getElem_toArray, List.getElem_cons_zero, List.getElem_cons_succ] at U3_c0 U3_c1
  (try have n_U3 : w3.heap.size ≠ w4.heap.size := by omega)
  (try have m_U3 : w4.heap.size ≠ w3.heap.size := by omega)
  (try have u_U3 : w3.heap.size < w4.heap.size + 1 := by omega)
  refine wp_region_mix_all (by kernel_rfl) (by kernel_rfl) ?_
  repeat (go_big_quiet_step ((first | (go_at_call 18; (with_reducible exact mix_call (Gauss.Add_calls x y _))) | (go_at_call 19; (with_reducible exact mix_call (Ref04.Add_calls x y _))) | (go_at_call 20; (with_reducible exact mix_call (Gauss.Sub_calls x y _))) | (go_at_call 21; (with_reducible exact mix_call (Ref04.Sub_calls x y _))) | (go_at_call 14; (with_reducible exact mix_call (Gauss.Mul_calls x y _))) | (go_at_call 22; (with_reducible exact mix_call (Ref04.Mul_calls x y _))) | (go_at_call 23; (with_reducible exact mix_call (Gauss.Conj_calls x _))) | (go_at_call 24; (with_reducible exact mix_call (Ref04.Conj_calls x _))))))
  refine wpQuiet_nil ?_
  intro _ hmix
  (try (with_reducible replace hmix := mix_flat hmix))
  obtain ⟨x1, hmix'⟩ := hmix
  have hz := mix_size' hmix'
  subst hmix'
  (try simp only [World.size_alloc, World.size_setCell, World.size_drew] at hz); (try have q0 : w.heap.size < _ := Nat.lt_of_lt_of_le (by omega) hz); (try have q1 : w.heap.size + 1 < _ := Nat.lt_of_lt_of_le (by omega) hz); (try have q2 : w.heap.size + 1 + 1 < _ := Nat.lt_of_lt_of_le (by omega) hz); (try have q3 : w.heap.size + 1 + 1 + 1 < _ := Nat.lt_of_lt_of_le (by omega) hz)
  go_wp2_with fail
  refine wp_at (fun W => Has W w.heap.size #[.int .i64 x.1, .int .i64 x.2] 23 ∧ Has W (w.heap.size + 1) #[.int .i64 y.1, .int .i64 y.2] 23 ∧ Below w.heap.size w W) ⟨by (repeat (first | (with_reducible assumption) | (with_reducible exact Has.new _ _ _) | (with_reducible exact Has.new' (by first | rfl | (simp; done) | (simp; omega)) _ _) | (with_reducible apply Has.alloc) | (with_reducible apply Has.mix) | (with_reducible apply Has.drew) | (with_reducible apply Has.drewN) | (with_reducible apply Has.set_same) | (with_reducible apply Has.set_other (hp := (by first | (simp; done) | (simp; omega) | omega))) | (with_reducible rfl) | rfl)), by (repeat (first | (with_reducible assumption) | (with_reducible exact Has.new _ _ _) | (with_reducible exact Has.new' (by first | rfl | (simp; done) | (simp; omega)) _ _) | (with_reducible apply Has.alloc) | (with_reducible apply Has.mix) | (with_reducible apply Has.drew) | (with_reducible apply Has.drewN) | (with_reducible apply Has.set_same) | (with_reducible apply Has.set_other (hp := (by first | (simp; done) | (simp; omega) | omega))) | (with_reducible rfl) | rfl)), by (try have HBB := HW.out); (repeat (first | (with_reducible assumption) | (with_reducible exact Below.refl _ _) | (with_reducible refine grow_alloc ?_ _) | (with_reducible refine grow_mix ?_ _) | (with_reducible refine grow_drew ?_) | (with_reducible refine grow_drewN ?_ _) | (with_reducible refine grow_set ?_ (by first | (simp; done) | (simp; omega) | omega) _)))⟩ ?_
  rintro w5 ⟨V0, V1, hW⟩
  have hz_w5 := hW.size
  have HW := Lib.hid hW
  clear hW
  have V0_c0 := V0.cell 0
  have V0_c1 := V0.cell 1
  have V0_f := V0.frozen
  have V0_l := V0.lt
  simp only [List.size_toArray, List.length_cons, List.length_nil, Nat.reduceAdd, Nat.zero_lt_succ, Nat.one_lt_succ_succ, Nat.reduceLT, getElem?_pos, List.getElem_toArray, List.getElem_cons_zero, List.getElem_cons_succ] at V0_c0 V0_c1
  (try have n_V0 : w.heap.size ≠ w5.heap.size := by omega)
  (try have m_V0 : w5.heap.size ≠ w.heap.size := by omega)
  (try have u_V0 : w.heap.size < w5.heap.size + 1 := by omega)
  have V1_c0 := V1.cell 0
  have V1_c1 := V1.cell 1
  have V1_f := V1.frozen
  have V1_l := V1.lt
  simp only [List.size_toArray, List.length_cons, List.length_nil, Nat.reduceAdd, Nat.zero_lt_succ, Nat.one_lt_succ_succ, Nat.reduceLT, getElem?_pos, List.getElem_toArray, List.getElem_cons_zero, List.getElem_cons_succ] at V1_c0 V1_c1
  (try have n_V1 : (w.heap.size + 1) ≠ w5.heap.size := by omega)
  (try have m_V1 : w5.heap.size ≠ (w.heap.size + 1) := by omega)
  (try have u_V1 : (w.heap.size + 1) < w5.heap.size + 1 := by omega)
  have TW := Lib.hid (fun x => TT.out (mix w5 x) (by have HBB := HW.out; (repeat (first | (with_reducible assumption) | (with_reducible exact Below.refl _ _) | (with_reducible refine grow_alloc ?_ _) | (with_reducible refine grow_mix ?_ _) | (with_reducible refine grow_drew ?_) | (with_reducible refine grow_drewN ?_ _) | (with_reducible refine grow_set ?_ (by first | (simp; done) | (simp; omega) | omega) _)))))
  have HF := Lib.hid (fun x => HT.out (mix w5 x) (by have HBB := HW.out; (repeat (first | (with_reducible assumption) | (with_reducible exact Below.refl _ _) | (with_reducible refine grow_alloc ?_ _) | (with_reducible refine grow_mix ?_ _) | (with_reducible refine grow_drew ?_) | (with_reducible refine grow_drewN ?_ _) | (with_reducible refine grow_set ?_ (by first | (simp; done) | (simp; omega) | omega) _)))))
  refine wp_region_mix 37 (by kernel_rfl) (by kernel_rfl) ?_
  simp only [List.take_succ_cons, List.take_zero, List.drop_succ_cons, List.drop_zero]
  repeat (go_big_quiet_step ((first | (go_at_call 13; (with_reducible exact mix_call (Gauss.Pow_calls x n bn _))) | (go_at_call 25; (with_reducible exact mix_call (R_Pow x n bn _))) | (go_at_call 16; (with_reducible exact mix_call (Text_calls x _ (TW.out _)))) | (go_at_call 26; (with_reducible exact mix_call (RText_calls x _))) | (go_at_call 27; (with_reducible exact mix_call (G_May_at x _ hm _))) | (go_at_call 11; (with_reducible exact mix_call (R_May_at x _ hm _))) | (go_at_call 12; (with_reducible exact mix_call (Gauss.Of_calls x.1 y.2 _))) | (go_at_call 28; (with_reducible exact mix_call (Ref04.Of_calls x.1 y.2 _))) | (go_at_call 10; (with_reducible exact mix_call (HF.out _))))))
  refine wpQuiet_nil ?_
  intro _ hmix
  (try (with_reducible replace hmix := mix_flat hmix))
  obtain ⟨x1, hmix'⟩ := hmix
  have hz := mix_size' hmix'
  subst hmix'
  (try simp only [World.size_alloc, World.size_setCell, World.size_drew] at hz); (try have q0 : w.heap.size < _ := Nat.lt_of_lt_of_le (by omega) hz); (try have q1 : w.heap.size + 1 < _ := Nat.lt_of_lt_of_le (by omega) hz); (try have q2 : w.heap.size + 1 + 1 < _ := Nat.lt_of_lt_of_le (by omega) hz); (try have q3 : w.heap.size + 1 + 1 + 1 < _ := Nat.lt_of_lt_of_le (by omega) hz)
  go_wp2
  go_ret
  have HB := HW.out
  exact ⟨rfl, HB.trans (Below.mono (by (repeat (first | (with_reducible assumption) | (with_reducible exact Below.refl _ _) | (with_reducible refine grow_alloc ?_ _) | (with_reducible refine grow_mix ?_ _) | (with_reducible refine grow_drew ?_) | (with_reducible refine grow_drewN ?_ _) | (with_reducible refine grow_set ?_ (by first | (simp; done) | (simp; omega) | omega) _)))) (by omega))⟩

theorem tells_all (x : Int × Int) (y : Int × Int) (n : Int) (w : World) (ht : Tab w) (bn : n ≤ 9223372036854775807) :
    Calls Tryd.prog 5 #[vv x, vv y, .int .i64 n] w fun e w' => e = .returned (.bool true) ∧ Below w.heap.size w w' := by
  cases hz : isZ y with
  | true =>
    cases hm : mayR x with
    | true => exact tells_all_true_true x y n w ht bn hz hm
    | false => exact tells_all_true_false x y n w ht bn hz hm
  | false =>
    cases hm : mayR x with
    | true => exact tells_all_false_true x y n w ht bn hz hm
    | false => exact tells_all_false_false x y n w ht bn hz hm

theorem gaussTells_walk (x : Int × Int) (y : Int × Int) (n : Int) (_ : (Lit.int .i64 x.1).wf = true) (_ : (Lit.int .i64 x.2).wf = true) (_ : (Lit.int .i64 y.1).wf = true) (_ : (Lit.int .i64 y.2).wf = true) (an : (-9223372036854775808 : Int) ≤ n) (bn : n ≤ (9223372036854775807 : Int)) (w : World) (ht : Tab w)  :
    Calls Tryd.prog 5 #[vv x, vv y, .int .i64 n] w fun e w' => e = .returned (.bool true) ∧ Below w.heap.size w w' := by
  exact tells_all x y n w ht bn
end Go.Proofs.YtepagnaabncllaaDoor.Laws
