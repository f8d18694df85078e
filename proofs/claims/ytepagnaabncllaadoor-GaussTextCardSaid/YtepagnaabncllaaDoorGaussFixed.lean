/-
  The calls whose answers the document fixes come out as fixed (layer 4).
-/
import Derived.Test.YtepagnaabncllaaDoorRef04c
import Derived.Test.YtepagnaabncllaaDoorGaussPure
set_option linter.unusedSimpArgs false
set_option linter.unusedVariables false
namespace Go.Proofs.YtepagnaabncllaaDoor.Laws
open Go Go.RowKit Go.Proofs.YtepagnaabncllaaDoor Go.Proofs.YtepagnaabncllaaDoor.Gauss Go.Proofs.YtepagnaabncllaaDoor.Pure Go.Proofs.YtepagnaabncllaaDoor.Text

attribute [local go_sem high] eql_value neq_value equal_value

theorem f_mul : eqB (mulV (ofV 0 1) (ofV 0 1)) (250, 0) = true := by decide
theorem f_one : eqB (ofV 252 (-251)) (1, 0) = true := by decide
theorem f_is : isZ (ofV 3 4) = false := by decide
theorem f_no : isZ (251, 0) = true := by decide
theorem f_div : eqB (mulV (divV (ofV 252 (-251)) (ofV 3 4)) (ofV 3 4)) (ofV 252 (-251)) = true := by
  apply eqB_true
  refine Φ_inj (may_mul _ _) (may_of _ _) ?_
  have hz : Φ (ofV 3 4) ≠ kzero := by decide
  rw [Φ_mul, Φ_div _ _ hz, kmul_assoc, kinv_mul hz, kmul_one]
theorem f_conj : eqB (conjV (ofV 1 2)) (1, 249) = true := by decide
theorem f_sub : eqB (subV (ofV 0 1) (ofV 252 (-251))) (250, 1) = true := by decide
theorem f_pow3 : eqB (powV (ofV 0 1) 3) (0, 250) = true := by
  apply eqB_true
  refine Φ_inj (may_powV _ _) ⟨by decide, by decide⟩ ?_
  rw [Φ_powV _ _ (by decide)]; decide
theorem f_pow0 : eqB (powV (ofV 0 1) 0) (ofV 252 (-251)) = true := by
  apply eqB_true
  refine Φ_inj (may_powV _ _) (may_of _ _) ?_
  rw [Φ_powV _ _ (by decide)]; decide
theorem f_text : textV (ofV (-1) 5) = [50, 53, 48, 43, 53, 105] := by
  have d5 : Lib.decDigits 5 = [53] := by rw [digits_small 5 (by omega)]; decide
  have d2 : Lib.decDigits 2 = [50] := by rw [digits_small 2 (by omega)]; decide
  have d25 : Lib.decDigits 25 = [50, 53] := by rw [digits_big 25 (by omega), d2]; decide
  have d250 : Lib.decDigits 250 = [50, 53, 48] := by rw [digits_big 250 (by omega), d25]; decide
  unfold textV
  rw [show (rest (ofV (-1) 5).1).toNat = 250 by decide, show (rest (ofV (-1) 5).2).toNat = 5 by decide, d250, d5]; rfl
theorem f_may : eqB (ofV 252 (-251)) (red (ofV 252 (-251))) = true := by decide
theorem f_not : eqB (0, -1) (red (0, -1)) = false := by decide

theorem May_one (w : World) : Calls Tryd.prog 27 #[vv (ofV 252 (-251))] w fun e w' => e = .returned (.bool true) ∧ Below w.heap.size w w' := by
  have := May_calls (ofV 252 (-251)) w
  rw [f_may] at this; exact this
theorem May_not (w : World) : Calls Tryd.prog 27 #[vv (0, -1)] w fun e w' => e = .returned (.bool false) ∧ Below w.heap.size w w' := by
  have := May_calls (0, -1) w
  rw [f_not] at this; exact this

theorem R_May_true (x : Int × Int) (h : Ref04.mayR x = true) (w : World) : Calls Tryd.prog 11 #[vv x] w fun e w' => e = .returned (.bool true) ∧ Below w.heap.size w w' := by
  have := Ref04.May_calls x w
  rw [h] at this; exact this
theorem R_May_false (x : Int × Int) (h : Ref04.mayR x = false) (w : World) : Calls Tryd.prog 11 #[vv x] w fun e w' => e = .returned (.bool false) ∧ Below w.heap.size w w' := by
  have := Ref04.May_calls x w
  rw [h] at this; exact this

set_option maxRecDepth 100000 in
set_option maxHeartbeats 4000000 in
theorem fixed_calls (w : World) (ht : Tab w) :
    Calls Tryd.prog 10 #[] w fun e w' => e = .returned (.bool true) ∧ Below w.heap.size w w' := by
  have HT := Lib.hid ht
  clear ht
  have h1 := f_mul
  have h2 := f_one
  have h3 := f_is
  have h4 := f_no
  have h5 := f_div
  have h6 := f_conj
  have h7 := f_sub
  have h8 := f_pow3
  have h9 := f_pow0
  go_enter Tryd.func10, Tryd.ntmps10
  go_wp2_with fail
  (go_at_call 12; refine (Of_calls _ _ _).mono ?_; rintro e w1 ⟨rfl, hb⟩; obtain ⟨hc_w1, hf_w1⟩ := bcell hb; have hz_w1 := hb.size; (try simp only [World.size_alloc] at hz_w1); (try have hy0_w1 : w.heap.size < w1.heap.size := by omega); (try have hy1_w1 : w.heap.size + 1 < w1.heap.size := by omega); (try have hy2_w1 : w.heap.size + 1 + 1 < w1.heap.size := by omega); (try have hyA_w1 : w.heap.size < w1.heap.size + 1 := by omega); (try have hyB_w1 : w.heap.size + 1 < w1.heap.size + 1 := by omega); (try have hyC_w1 : w.heap.size + 1 + 1 < w1.heap.size + 1 := by omega); have hb_w1 := Lib.hid hb; clear hb)
  go_wp2_with fail
  (go_at_call 12; refine (Of_calls _ _ _).mono ?_; rintro e w2 ⟨rfl, hb⟩; obtain ⟨hc_w2, hf_w2⟩ := bcell hb; have hz_w2 := hb.size; (try simp only [World.size_alloc] at hz_w2); (try have hy0_w2 : w.heap.size < w2.heap.size := by omega); (try have hy1_w2 : w.heap.size + 1 < w2.heap.size := by omega); (try have hy2_w2 : w.heap.size + 1 + 1 < w2.heap.size := by omega); (try have hyA_w2 : w.heap.size < w2.heap.size + 1 := by omega); (try have hyB_w2 : w.heap.size + 1 < w2.heap.size + 1 := by omega); (try have hyC_w2 : w.heap.size + 1 + 1 < w2.heap.size + 1 := by omega); have hb_w2 := Lib.hid hb; clear hb)
  have hw : Below w.heap.size w w2 := hb_w1.out.trans (hb_w2.out.mono hz_w1)
  have HW := Lib.hid hw
  clear hw
  go_wp2_with fail
  refine wp_flow [true, true, true, true, true, true, false] [(6, New (w2.heap.size + 2) #[.int .i64 0, .int .i64 0] 23)] [5] (by kernel_rfl) (by kernel_rfl) (by kernel_rfl) (by kernel_rfl) (by kernel_rfl) (fun _ _ d _ _ h => by cases d <;> exact h) (by kernel_rfl) ⟨(by first | exact New.mono | assumption), trivial⟩ ?_
  apply Exists.intro
  refine ⟨fun yq => ?_, ⟨fun yq o ho => ?_, trivial⟩, ⟨fun o ho d hd W => ?_, trivial⟩, fun yq => ?_⟩
  · simp only [headQ]
    repeat (go_big_quiet_step ((first | (go_at_call 12; (with_reducible exact mix_call (Of_calls _ _ _))) | (go_at_call 15; (with_reducible exact mix_call (Div_calls _ _ _))))))
    exact wpQuiet_nil rfl
  ·
    have ho' := Option.some.inj ho
    subst ho'
    refine grow_new rfl ?_ (by simp)
    go_simp
  ·
    have ho' := Option.some.inj ho
    subst ho'
    have hd' := Option.some.inj hd
    subst hd'
    first | rfl | (go_simp; done) | (go_simp; rfl)
  ·
    simp only [FlowEnd, List.getElem?_toArray, List.getElem?_cons_succ, List.getElem?_cons_zero, Option.bind_some, Act.put, List.setIfInBounds_toArray, List.set_cons_succ, List.set_cons_zero, List.drop_succ_cons, List.drop_zero, List.length_cons, List.length_nil]
    intro v3 h_v3 n_v3
    obtain ⟨b3, rfl, H3, H3_b⟩ := h_v3
    clear n_v3
    have H3_c0 := H3.cell 0
    have H3_c1 := H3.cell 1
    have H3_f := H3.frozen
    have H3_l := H3.lt
    simp only [List.size_toArray, List.length_cons, List.length_nil, Nat.reduceAdd, Nat.zero_lt_succ, Nat.one_lt_succ_succ, Nat.reduceLT, getElem?_pos, List.getElem_toArray, List.getElem_cons_zero, List.getElem_cons_succ] at H3_c0 H3_c1
    have H3_n1 : b3 ≠ w2.heap.size := by omega
    have H3_n2 : b3 ≠ w2.heap.size + 1 := by omega
    have H3_m1 : w2.heap.size ≠ b3 := by omega
    have H3_m2 : w2.heap.size + 1 ≠ b3 := by omega
    go_wp2_with fail
    (go_at_call 15; refine (Div_calls _ (251, 0) _).mono ?_; rintro e w4 ⟨rfl, hb⟩; obtain ⟨hc_w4, hf_w4⟩ := bcell hb; have hz_w4 := hb.size; (try simp only [World.size_alloc] at hz_w4); (try have hy0_w4 : w.heap.size < w4.heap.size := by omega); (try have hy1_w4 : w.heap.size + 1 < w4.heap.size := by omega); (try have hy2_w4 : w.heap.size + 1 + 1 < w4.heap.size := by omega); (try have hyA_w4 : w.heap.size < w4.heap.size + 1 := by omega); (try have hyB_w4 : w.heap.size + 1 < w4.heap.size + 1 := by omega); (try have hyC_w4 : w.heap.size + 1 + 1 < w4.heap.size + 1 := by omega); have hb_w4 := Lib.hid hb; clear hb)
    go_wp2_with fail
    have X1 : Has w4 w2.heap.size #[.int .i64 (ofV 0 1).1, .int .i64 (ofV 0 1).2] 23 := by
      refine Has.below' ?_ hb_w4.out
      (repeat (first | (with_reducible assumption) | (with_reducible exact Has.new _ _ _) | (with_reducible exact Has.new' (by first | rfl | (simp; done) | (simp; omega)) _ _) | (with_reducible apply Has.alloc) | (with_reducible apply Has.mix) | (with_reducible apply Has.drew) | (with_reducible apply Has.drewN) | (with_reducible apply Has.set_same) | (with_reducible apply Has.set_other (hp := (by first | (simp; done) | (simp; omega) | omega))) | (with_reducible rfl) | rfl))
    have X2 : Has w4 (w2.heap.size + 1) #[.int .i64 (ofV 252 (-251)).1, .int .i64 (ofV 252 (-251)).2] 23 := by
      refine Has.below' ?_ hb_w4.out
      (repeat (first | (with_reducible assumption) | (with_reducible exact Has.new _ _ _) | (with_reducible exact Has.new' (by first | rfl | (simp; done) | (simp; omega)) _ _) | (with_reducible apply Has.alloc) | (with_reducible apply Has.mix) | (with_reducible apply Has.drew) | (with_reducible apply Has.drewN) | (with_reducible apply Has.set_same) | (with_reducible apply Has.set_other (hp := (by first | (simp; done) | (simp; omega) | omega))) | (with_reducible rfl) | rfl))
    have X3 : Has w4 b3 #[.int .i64 (divV (ofV 252 (-251)) (ofV 3 4)).1, .int .i64 (divV (ofV 252 (-251)) (ofV 3 4)).2] 23 := by
      refine Has.below' ?_ hb_w4.out
      (repeat (first | (with_reducible assumption) | (with_reducible exact Has.new _ _ _) | (with_reducible exact Has.new' (by first | rfl | (simp; done) | (simp; omega)) _ _) | (with_reducible apply Has.alloc) | (with_reducible apply Has.mix) | (with_reducible apply Has.drew) | (with_reducible apply Has.drewN) | (with_reducible apply Has.set_same) | (with_reducible apply Has.set_other (hp := (by first | (simp; done) | (simp; omega) | omega))) | (with_reducible rfl) | rfl))
    have HB : Below w.heap.size w w4 := by
      have hw := HW.out
      refine Below.trans ?_ (hb_w4.out.mono (by simp; omega))
      (repeat (first | (with_reducible assumption) | (with_reducible exact Below.refl _ _) | (with_reducible refine grow_alloc ?_ _) | (with_reducible refine grow_mix ?_ _) | (with_reducible refine grow_drew ?_) | (with_reducible refine grow_drewN ?_ _) | (with_reducible refine grow_set ?_ (by first | (simp; done) | (simp; omega) | omega) _)))
    have HBH := Lib.hid HB
    clear HB hc_w4 hf_w4 H3_c0 H3_c1 H3_f hc_w1 hf_w1 hc_w2 hf_w2
    have X1_c0 := X1.cell 0
    have X1_c1 := X1.cell 1
    have X1_f := X1.frozen
    have X1_l := X1.lt
    simp only [List.size_toArray, List.length_cons, List.length_nil, Nat.reduceAdd, Nat.zero_lt_succ, Nat.one_lt_succ_succ, Nat.reduceLT, getElem?_pos, List.getElem_toArray, List.getElem_cons_zero, List.getElem_cons_succ] at X1_c0 X1_c1
    have X2_c0 := X2.cell 0
    have X2_c1 := X2.cell 1
    have X2_f := X2.frozen
    have X2_l := X2.lt
    simp only [List.size_toArray, List.length_cons, List.length_nil, Nat.reduceAdd, Nat.zero_lt_succ, Nat.one_lt_succ_succ, Nat.reduceLT, getElem?_pos, List.getElem_toArray, List.getElem_cons_zero, List.getElem_cons_succ] at X2_c0 X2_c1
    have X3_c0 := X3.cell 0
    have X3_c1 := X3.cell 1
    have X3_f := X3.frozen
    have X3_l := X3.lt
    simp only [List.size_toArray, List.length_cons, List.length_nil, Nat.reduceAdd, Nat.zero_lt_succ, Nat.one_lt_succ_succ, Nat.reduceLT, getElem?_pos, List.getElem_toArray, List.getElem_cons_zero, List.getElem_cons_succ] at X3_c0 X3_c1
    have tx := f_text
    have TT := Lib.hid (fun (o : Obj) (x : World) => HT.out.below (show Below w.heap.size w (mix (w4.alloc o) x) from (by have := HBH.out; (repeat (first | (with_reducible assumption) | (with_reducible exact Below.refl _ _) | (with_reducible refine grow_alloc ?_ _) | (with_reducible refine grow_mix ?_ _) | (with_reducible refine grow_drew ?_) | (with_reducible refine grow_drewN ?_ _) | (with_reducible refine grow_set ?_ (by first | (simp; done) | (simp; omega) | omega) _))))))
    refine wp_region_mix 63 (by kernel_rfl) (by kernel_rfl) ?_
    simp only [List.take_succ_cons, List.take_zero, List.drop_succ_cons, List.drop_zero]
    repeat (go_big_quiet_step ((first
      | (go_at_call 14; (with_reducible exact mix_call (Mul_calls _ _ _)))
      | (go_at_call 12; (with_reducible exact mix_call (Of_calls _ _ _)))
      | (go_at_call 23; (with_reducible exact mix_call (Conj_calls _ _)))
      | (go_at_call 20; (with_reducible exact mix_call (Sub_calls _ _ _)))
      | (go_at_call 13; (with_reducible exact mix_call (Pow_calls _ _ (by omega) _)))
      | (go_at_call 27; (with_reducible exact mix_call (May_one _)))
      | (go_at_call 27; (with_reducible exact mix_call (May_not _)))
      | (go_at_call 16; (with_reducible exact mix_call (Text_calls _ _ (TT.out _ _)))))))
    refine wpQuiet_nil ?_
    intro _ hmix
    obtain ⟨x1, hmix'⟩ := hmix
    subst hmix'
    go_wp2
    go_ret
    have hb := HBH.out
    exact ⟨rfl, by (repeat (first | (with_reducible assumption) | (with_reducible exact Below.refl _ _) | (with_reducible refine grow_alloc ?_ _) | (with_reducible refine grow_mix ?_ _) | (with_reducible refine grow_drew ?_) | (with_reducible refine grow_drewN ?_ _) | (with_reducible refine grow_set ?_ (by first | (simp; done) | (simp; omega) | omega) _)))⟩
end Go.Proofs.YtepagnaabncllaaDoor.Laws
