/-
  Contracts of package gauss, second part: conjugates, powers, quotients, and whether a value may be.
-/
import Derived.Test.YtepagnaabncllaaDoorGaussA
import Derived.Test.YtepagnaabncllaaDoorEqs
namespace Go.Proofs.YtepagnaabncllaaDoor.Gauss
open Go Go.RowKit Go.Proofs.YtepagnaabncllaaDoor Go.Proofs.YtepagnaabncllaaDoor.Fl

attribute [local go_sem high] eql_value neq_value equal_value
set_option linter.unusedSimpArgs false
set_option linter.unusedVariables false

set_option maxHeartbeats 400000 in
theorem Conj_calls (x : Int × Int) (w : World) :
    Calls Tryd.prog 23 #[vv x] w fun e w' => e = .returned (vv (conjV x)) ∧ Below w.heap.size w w' := by
  have h1 := rest_bd x.1
  have h2 := rest_bd x.2
  have hc := value_calls (fl (rest x.1)) (Op.negFloat .f64 (fl (rest x.2))) (rest x.1) (-rest x.2) (int_fl _ (lt53 (m := 0) (by omega) (by omega) rfl)) (neg_is _ h2.1 h2.2)
  have HC := Lib.hid hc
  clear hc
  go_enter Tryd.func23, Tryd.ntmps23
  go_wp2_with (first
    | (go_at_call 31; refine (of_calls _ _ _).mono ?_; rintro e w' ⟨rfl, hb⟩; obtain ⟨x1, rfl⟩ := to_mix hb)
    | (go_at_call 30; refine (HC.out _).mono ?_; rintro e w' ⟨rfl, hb⟩; obtain ⟨x2, rfl⟩ := to_mix2 hb))
  refine bodyPost_ret (v := vv (conjV x)) (by simp [results, Tryd.results23, go_sem, ofV, conjV]) rfl ⟨rfl, ?_⟩
  (repeat (first | (with_reducible assumption) | (with_reducible exact Below.refl _ _) | (with_reducible refine grow_alloc ?_ _) | (with_reducible refine grow_mix ?_ _) | (with_reducible refine grow_drew ?_) | (with_reducible refine grow_drewN ?_ _) | (with_reducible refine grow_set ?_ (by first | (simp; done) | (simp; omega) | omega) _)))

set_option maxHeartbeats 400000 in
theorem May_calls (x : Int × Int) (w : World) :
    Calls Tryd.prog 27 #[vv x] w fun e w' => e = .returned (.bool (eqB x (red x))) ∧ Below w.heap.size w w' := by
  unfold red
  go_enter Tryd.func27, Tryd.ntmps27
  go_wp2
  refine wp_region_mix 9 (by kernel_rfl) (by kernel_rfl) ?_
  simp only [List.take_succ_cons, List.take_zero, List.drop_succ_cons, List.drop_zero]
  repeat (go_big_quiet_step ((go_at_call 29; exact mix_call_same (rest_calls _ _))))
  refine wpQuiet_nil ?_
  intro _ hmix
  (try (with_reducible replace hmix := mix_flat hmix))
  obtain ⟨x1, hmix'⟩ := hmix
  have hz := mix_size' hmix'
  subst hmix'
  (try simp only [World.size_alloc, World.size_setCell, World.size_drew] at hz); (try have q0 : w.heap.size < _ := Nat.lt_of_lt_of_le (by omega) hz); (try have q1 : w.heap.size + 1 < _ := Nat.lt_of_lt_of_le (by omega) hz); (try have q2 : w.heap.size + 1 + 1 < _ := Nat.lt_of_lt_of_le (by omega) hz); (try have q3 : w.heap.size + 1 + 1 + 1 < _ := Nat.lt_of_lt_of_le (by omega) hz)
  go_wp2
  go_ret
  exact ⟨rfl, by (repeat (first | (with_reducible assumption) | (with_reducible exact Below.refl _ _) | (with_reducible refine grow_alloc ?_ _) | (with_reducible refine grow_mix ?_ _) | (with_reducible refine grow_drew ?_) | (with_reducible refine grow_drewN ?_ _) | (with_reducible refine grow_set ?_ (by first | (simp; done) | (simp; omega) | omega) _)))⟩

/-- Powers by squares. -/
def powL (o a : Int × Int) (n : Nat) : Int × Int :=
  if h : n = 0 then o else powL (if n % 2 = 1 then mulV o a else o) (mulV a a) (n / 2)
termination_by n
decreasing_by omega
def powV (a : Int × Int) (n : Int) : Int × Int := if n < 0 then (0, 0) else powL (ofV 1 0) (ofV (rest a.1) (rest a.2)) n.toNat

theorem Pow_neg (x : Int × Int) (n : Int) (hn : n < 0) (w : World) :
    Calls Tryd.prog 13 #[vv x, .int .i64 n] w fun e w' => e = .returned (vv (powV x n)) ∧ Below w.heap.size w w' := by
  have e : powV x n = (0, 0) := by unfold powV; rw [if_pos hn]
  rw [e]
  clear e
  go_enter Tryd.func13, Tryd.ntmps13
  go_wp2
  refine bodyPost_ret (v := vv (0, 0)) (by simp [results, Tryd.results13, go_sem]) rfl ⟨rfl, ?_⟩
  (repeat (first | (with_reducible assumption) | (with_reducible exact Below.refl _ _) | (with_reducible refine grow_alloc ?_ _) | (with_reducible refine grow_mix ?_ _) | (with_reducible refine grow_drew ?_) | (with_reducible refine grow_drewN ?_ _) | (with_reducible refine grow_set ?_ (by first | (simp; done) | (simp; omega) | omega) _)))

theorem powL_zero (o a : Int × Int) : powL o a 0 = o := by unfold powL; simp
theorem powL_odd (o a : Int × Int) (n : Nat) (h : n % 2 = 1) : powL o a n = powL (mulV o a) (mulV a a) (n / 2) := by
  rw [powL]; rw [dif_neg (by omega), if_pos h]
theorem powL_even (o a : Int × Int) (n : Nat) (h : n % 2 = 0) (h0 : n ≠ 0) : powL o a n = powL o (mulV a a) (n / 2) := by
  rw [powL]; rw [dif_neg h0, if_neg (by omega)]

set_option maxHeartbeats 1000000 in
theorem Pow_nonneg (x : Int × Int) (n : Nat) (hn : n ≤ 9223372036854775807) (w : World) :
    Calls Tryd.prog 13 #[vv x, .int .i64 n] w fun e w' => e = .returned (vv (powV x n)) ∧ Below w.heap.size w w' := by
  have hlt : decide ((n : Int) < 0) = false := by simp
  have h1 := rest_bd x.1
  have h2 := rest_bd x.2
  have hc := value_calls (fl (rest x.1)) (fl (rest x.2)) (rest x.1) (rest x.2) (int_fl _ (lt53 (m := 0) (by omega) (by omega) rfl)) (int_fl _ (lt53 (m := 0) (by omega) (by omega) rfl))
  have HC := Lib.hid hc
  clear hc
  have hg : powL (ofV 1 0) (ofV (rest x.1) (rest x.2)) n = powV x n := by unfold powV; rw [if_neg (by omega)]; rfl
  have HG := Lib.hid hg
  clear hg
  go_enter Tryd.func13, Tryd.ntmps13
  go_wp2_with (first | (go_at_call 12; refine (Of_calls _ _ _).mono ?_; rintro e w1 ⟨rfl, hb⟩; obtain ⟨hc_w1, hf_w1⟩ := bcell hb; have hz_w1 := hb.size; (try simp only [World.size_alloc] at hz_w1); (try have hy0_w1 : w.heap.size < w1.heap.size := by omega); (try have hy1_w1 : w.heap.size + 1 < w1.heap.size := by omega); (try have hy2_w1 : w.heap.size + 1 + 1 < w1.heap.size := by omega); (try have hyA_w1 : w.heap.size < w1.heap.size + 1 := by omega); (try have hyB_w1 : w.heap.size + 1 < w1.heap.size + 1 := by omega); (try have hyC_w1 : w.heap.size + 1 + 1 < w1.heap.size + 1 := by omega); have hb_w1 := Lib.hid hb; clear hb) | (go_at_call 31; refine (of_calls _ _ _).mono ?_; rintro e w' ⟨rfl, hb⟩; have hz := hb.size; (first | (obtain ⟨x1, rfl⟩ := to_mix2 hb) | (obtain ⟨x1, rfl⟩ := to_mix hb)); clear hb; (try simp only [World.size_alloc, World.size_setCell, World.size_drew] at hz); (try have q0 : w.heap.size < _ := Nat.lt_of_lt_of_le (by omega) hz); (try have q1 : w.heap.size + 1 < _ := Nat.lt_of_lt_of_le (by omega) hz); (try have q2 : w.heap.size + 1 + 1 < _ := Nat.lt_of_lt_of_le (by omega) hz); (try have q3 : w.heap.size + 1 + 1 + 1 < _ := Nat.lt_of_lt_of_le (by omega) hz)) | (go_at_call 30; refine (HC.out _).mono ?_; rintro e w' ⟨rfl, hb⟩; have hz := hb.size; (first | (obtain ⟨x1, rfl⟩ := to_mix2 hb) | (obtain ⟨x1, rfl⟩ := to_mix hb)); clear hb; (try simp only [World.size_alloc, World.size_setCell, World.size_drew] at hz); (try have q0 : w.heap.size < _ := Nat.lt_of_lt_of_le (by omega) hz); (try have q1 : w.heap.size + 1 < _ := Nat.lt_of_lt_of_le (by omega) hz); (try have q2 : w.heap.size + 1 + 1 < _ := Nat.lt_of_lt_of_le (by omega) hz); (try have q3 : w.heap.size + 1 + 1 + 1 < _ := Nat.lt_of_lt_of_le (by omega) hz)))
  go_loopw [1] (fun v wr => ∃ (m : Nat) (o a : Int × Int), m ≤ 9223372036854775807 ∧ v = .int .i64 m ∧ Has wr w.heap.size #[.int .i64 a.1, .int .i64 a.2] 23 ∧
      Has wr w1.heap.size #[.int .i64 o.1, .int .i64 o.2] 23 ∧ Has wr (w.heap.size + 1) #[.int .i64 0, .int .i64 0] 23 ∧ Below w.heap.size w wr ∧ Hid (powL o a m = powV x n))
    (fun v _ => (intOf v).toNat)
  case atStart =>
    have hw1 : Below w.heap.size w w1 := (((Below.refl _ _).alloc (Nat.le_refl _) _).alloc (by simp) _).trans (hb_w1.out.mono (by simp))
    have hx1 : Has w1 w.heap.size #[.int .i64 x.1, .int .i64 x.2] 23 := Has.below ((Has.new _ _ _).alloc _) hb_w1.out (by simp)
    have hx2 : Has w1 (w.heap.size + 1) #[.int .i64 0, .int .i64 0] 23 := Has.below (Has.new' (by simp) _ _) hb_w1.out (by simp)
    refine ⟨n, ofV 1 0, ofV (rest x.1) (rest x.2), hn, rfl, ?_, ?_, ?_, ?_, HG⟩
    · (repeat (first | (with_reducible assumption) | (with_reducible exact Has.new _ _ _) | (with_reducible exact Has.new' (by first | rfl | (simp; done) | (simp; omega)) _ _) | (with_reducible apply Has.alloc) | (with_reducible apply Has.mix) | (with_reducible apply Has.drew) | (with_reducible apply Has.drewN) | (with_reducible apply Has.set_same) | (with_reducible apply Has.set_other (hp := (by first | (simp; done) | (simp; omega) | omega))) | (with_reducible rfl) | rfl))
    · (repeat (first | (with_reducible assumption) | (with_reducible exact Has.new _ _ _) | (with_reducible exact Has.new' (by first | rfl | (simp; done) | (simp; omega)) _ _) | (with_reducible apply Has.alloc) | (with_reducible apply Has.mix) | (with_reducible apply Has.drew) | (with_reducible apply Has.drewN) | (with_reducible apply Has.set_same) | (with_reducible apply Has.set_other (hp := (by first | (simp; done) | (simp; omega) | omega))) | (with_reducible rfl) | rfl))
    · (repeat (first | (with_reducible assumption) | (with_reducible exact Has.new _ _ _) | (with_reducible exact Has.new' (by first | rfl | (simp; done) | (simp; omega)) _ _) | (with_reducible apply Has.alloc) | (with_reducible apply Has.mix) | (with_reducible apply Has.drew) | (with_reducible apply Has.drewN) | (with_reducible apply Has.set_same) | (with_reducible apply Has.set_other (hp := (by first | (simp; done) | (simp; omega) | omega))) | (with_reducible rfl) | rfl))
    · (repeat (first | (with_reducible assumption) | (with_reducible exact Below.refl _ _) | (with_reducible refine grow_alloc ?_ _) | (with_reducible refine grow_mix ?_ _) | (with_reducible refine grow_drew ?_) | (with_reducible refine grow_drewN ?_ _) | (with_reducible refine grow_set ?_ (by first | (simp; done) | (simp; omega) | omega) _)))
  case round =>
    obtain ⟨m, o, a, hm, rfl, ha, ho, hr, hbl, HP⟩ := hrel
    have ha_c0 := ha.cell 0
    have ha_c1 := ha.cell 1
    have ha_f := ha.frozen
    have ha_l := ha.lt
    simp only [List.size_toArray, List.length_cons, List.length_nil, Nat.reduceAdd, Nat.zero_lt_succ, Nat.one_lt_succ_succ, Nat.reduceLT, getElem?_pos, List.getElem_toArray, List.getElem_cons_zero, List.getElem_cons_succ] at ha_c0 ha_c1
    have ho_c0 := ho.cell 0
    have ho_c1 := ho.cell 1
    have ho_f := ho.frozen
    have ho_l := ho.lt
    simp only [List.size_toArray, List.length_cons, List.length_nil, Nat.reduceAdd, Nat.zero_lt_succ, Nat.one_lt_succ_succ, Nat.reduceLT, getElem?_pos, List.getElem_toArray, List.getElem_cons_zero, List.getElem_cons_succ] at ho_c0 ho_c1
    have hr_c0 := hr.cell 0
    have hr_c1 := hr.cell 1
    have hr_f := hr.frozen
    have hr_l := hr.lt
    simp only [List.size_toArray, List.length_cons, List.length_nil, Nat.reduceAdd, Nat.zero_lt_succ, Nat.one_lt_succ_succ, Nat.reduceLT, getElem?_pos, List.getElem_toArray, List.getElem_cons_zero, List.getElem_cons_succ] at hr_c0 hr_c1
    by_cases h0 : m = 0
    · subst h0
      have e : o = powV x n := by rw [← HP.out, powL_zero]
      have E := Lib.hid e
      clear e HP HG
      go_wp2
      refine bodyPost_ret (v := vv o) (by simp [results, Tryd.results13, go_sem, hr_c0, hr_c1]) rfl ⟨by rw [E.out], ?_⟩
      (repeat (first | (with_reducible assumption) | (with_reducible exact Below.refl _ _) | (with_reducible refine grow_alloc ?_ _) | (with_reducible refine grow_mix ?_ _) | (with_reducible refine grow_drew ?_) | (with_reducible refine grow_drewN ?_ _) | (with_reducible refine grow_set ?_ (by first | (simp; done) | (simp; omega) | omega) _)))
    · have t1 : (0 : Int) < m := by omega
      have c1 : (m : Int) / 2 = ((m / 2 : Nat) : Int) := by omega
      have C1 := Lib.hid c1
      clear c1
      by_cases hodd : m % 2 = 1
      · have t2 : (((m : Int) % 2) == 1) = true := by simp; omega
        have E := Lib.hid ((powL_odd o a m hodd).symm.trans HP.out)
        go_wp2_with (first | (go_at_call 14; refine (Mul_calls _ _ _).mono ?_; rintro e w' ⟨rfl, hb⟩; have hz := hb.size; (first | (obtain ⟨x1, rfl⟩ := to_mix2 hb) | (obtain ⟨x1, rfl⟩ := to_mix hb)); clear hb; (try simp only [World.size_alloc, World.size_setCell, World.size_drew] at hz); (try have q0 : w.heap.size < _ := Nat.lt_of_lt_of_le (by omega) hz); (try have q1 : w.heap.size + 1 < _ := Nat.lt_of_lt_of_le (by omega) hz); (try have q2 : w.heap.size + 1 + 1 < _ := Nat.lt_of_lt_of_le (by omega) hz); (try have q3 : w.heap.size + 1 + 1 + 1 < _ := Nat.lt_of_lt_of_le (by omega) hz)))
        go_roundw
        case rel => exact ⟨m / 2, mulV o a, mulV a a, by omega, by rw [C1.out], by (repeat (first | (with_reducible assumption) | (with_reducible exact Has.new _ _ _) | (with_reducible exact Has.new' (by first | rfl | (simp; done) | (simp; omega)) _ _) | (with_reducible apply Has.alloc) | (with_reducible apply Has.mix) | (with_reducible apply Has.drew) | (with_reducible apply Has.drewN) | (with_reducible apply Has.set_same) | (with_reducible apply Has.set_other (hp := (by first | (simp; done) | (simp; omega) | omega))) | (with_reducible rfl) | rfl)), by (repeat (first | (with_reducible assumption) | (with_reducible exact Has.new _ _ _) | (with_reducible exact Has.new' (by first | rfl | (simp; done) | (simp; omega)) _ _) | (with_reducible apply Has.alloc) | (with_reducible apply Has.mix) | (with_reducible apply Has.drew) | (with_reducible apply Has.drewN) | (with_reducible apply Has.set_same) | (with_reducible apply Has.set_other (hp := (by first | (simp; done) | (simp; omega) | omega))) | (with_reducible rfl) | rfl)), by (repeat (first | (with_reducible assumption) | (with_reducible exact Has.new _ _ _) | (with_reducible exact Has.new' (by first | rfl | (simp; done) | (simp; omega)) _ _) | (with_reducible apply Has.alloc) | (with_reducible apply Has.mix) | (with_reducible apply Has.drew) | (with_reducible apply Has.drewN) | (with_reducible apply Has.set_same) | (with_reducible apply Has.set_other (hp := (by first | (simp; done) | (simp; omega) | omega))) | (with_reducible rfl) | rfl)), by (repeat (first | (with_reducible assumption) | (with_reducible exact Below.refl _ _) | (with_reducible refine grow_alloc ?_ _) | (with_reducible refine grow_mix ?_ _) | (with_reducible refine grow_drew ?_) | (with_reducible refine grow_drewN ?_ _) | (with_reducible refine grow_set ?_ (by first | (simp; done) | (simp; omega) | omega) _))), E⟩
        case measure => simp [intOf]; omega
      · have t2 : (((m : Int) % 2) == 1) = false := by simp; omega
        have E := Lib.hid ((powL_even o a m (by omega) h0).symm.trans HP.out)
        go_wp2_with (first | (go_at_call 14; refine (Mul_calls _ _ _).mono ?_; rintro e w' ⟨rfl, hb⟩; have hz := hb.size; (first | (obtain ⟨x1, rfl⟩ := to_mix2 hb) | (obtain ⟨x1, rfl⟩ := to_mix hb)); clear hb; (try simp only [World.size_alloc, World.size_setCell, World.size_drew] at hz); (try have q0 : w.heap.size < _ := Nat.lt_of_lt_of_le (by omega) hz); (try have q1 : w.heap.size + 1 < _ := Nat.lt_of_lt_of_le (by omega) hz); (try have q2 : w.heap.size + 1 + 1 < _ := Nat.lt_of_lt_of_le (by omega) hz); (try have q3 : w.heap.size + 1 + 1 + 1 < _ := Nat.lt_of_lt_of_le (by omega) hz)))
        go_roundw
        case rel => exact ⟨m / 2, o, mulV a a, by omega, by rw [C1.out], by (repeat (first | (with_reducible assumption) | (with_reducible exact Has.new _ _ _) | (with_reducible exact Has.new' (by first | rfl | (simp; done) | (simp; omega)) _ _) | (with_reducible apply Has.alloc) | (with_reducible apply Has.mix) | (with_reducible apply Has.drew) | (with_reducible apply Has.drewN) | (with_reducible apply Has.set_same) | (with_reducible apply Has.set_other (hp := (by first | (simp; done) | (simp; omega) | omega))) | (with_reducible rfl) | rfl)), by (repeat (first | (with_reducible assumption) | (with_reducible exact Has.new _ _ _) | (with_reducible exact Has.new' (by first | rfl | (simp; done) | (simp; omega)) _ _) | (with_reducible apply Has.alloc) | (with_reducible apply Has.mix) | (with_reducible apply Has.drew) | (with_reducible apply Has.drewN) | (with_reducible apply Has.set_same) | (with_reducible apply Has.set_other (hp := (by first | (simp; done) | (simp; omega) | omega))) | (with_reducible rfl) | rfl)), by (repeat (first | (with_reducible assumption) | (with_reducible exact Has.new _ _ _) | (with_reducible exact Has.new' (by first | rfl | (simp; done) | (simp; omega)) _ _) | (with_reducible apply Has.alloc) | (with_reducible apply Has.mix) | (with_reducible apply Has.drew) | (with_reducible apply Has.drewN) | (with_reducible apply Has.set_same) | (with_reducible apply Has.set_other (hp := (by first | (simp; done) | (simp; omega) | omega))) | (with_reducible rfl) | rfl)), by (repeat (first | (with_reducible assumption) | (with_reducible exact Below.refl _ _) | (with_reducible refine grow_alloc ?_ _) | (with_reducible refine grow_mix ?_ _) | (with_reducible refine grow_drew ?_) | (with_reducible refine grow_drewN ?_ _) | (with_reducible refine grow_set ?_ (by first | (simp; done) | (simp; omega) | omega) _))), E⟩
        case measure => simp [intOf]; omega

theorem Pow_calls (x : Int × Int) (n : Int) (hn : n ≤ 9223372036854775807) (w : World) :
    Calls Tryd.prog 13 #[vv x, .int .i64 n] w fun e w' => e = .returned (vv (powV x n)) ∧ Below w.heap.size w w' := by
  by_cases h : n < 0
  · exact Pow_neg x n h w
  · obtain ⟨k, rfl⟩ := Int.eq_ofNat_of_zero_le (by omega : 0 ≤ n)
    exact Pow_nonneg x k (by omega) w

def isZ (y : Int × Int) : Bool := decide (rest y.1 = 0 ∧ rest y.2 = 0)
def divV (x y : Int × Int) : Int × Int := if isZ y = true then (0, 0) else mulV x (powV y 62999)

set_option maxHeartbeats 400000 in
theorem Div_calls (x y : Int × Int) (w : World) :
    Calls Tryd.prog 15 #[vv x, vv y] w fun e w' => e = .returned (.tuple #[vv (divV x y), .bool (!isZ y)]) ∧ Below w.heap.size w w' := by
  have h1 := rest_bd y.1
  have h2 := rest_bd y.2
  have hz : ∀ W : World, (binOp .eql 39 (.complex .f64 (fl (rest y.1)) (fl (rest y.2))) (.complex .f64 0 0)).run Tryd.prog W = .ok (.bool (isZ y)) W := by
    intro W
    have e : isZ y = (decide (rest y.1 = 0) && decide (rest y.2 = 0)) := by unfold isZ; rw [Bool.decide_and]
    rw [e, ← zero_ord _ h1, ← zero_ord _ h2]
    simp [binOp, Op.complexOp, Op.Complex.cmp, Op.floatCmp, asBool]
  by_cases hb : isZ y = true
  · have e : divV x y = (0, 0) := by unfold divV; rw [if_pos hb]
    have E := Lib.hid e
    clear e
    go_enter Tryd.func15, Tryd.ntmps15
    go_wp2_with (first | (go_at_call 31; refine (of_calls _ _ _).mono ?_; rintro e w' ⟨rfl, hb⟩; have hz := hb.size; (first | (obtain ⟨x1, rfl⟩ := to_mix2 hb) | (obtain ⟨x1, rfl⟩ := to_mix hb)); clear hb; (try simp only [World.size_alloc, World.size_setCell, World.size_drew] at hz); (try have q0 : w.heap.size < _ := Nat.lt_of_lt_of_le (by omega) hz); (try have q1 : w.heap.size + 1 < _ := Nat.lt_of_lt_of_le (by omega) hz); (try have q2 : w.heap.size + 1 + 1 < _ := Nat.lt_of_lt_of_le (by omega) hz); (try have q3 : w.heap.size + 1 + 1 + 1 < _ := Nat.lt_of_lt_of_le (by omega) hz)))
    refine bodyPost_ret (v := .tuple #[vv (0, 0), .bool false]) (by simp [results, Tryd.results15, go_sem]) rfl ⟨by rw [E.out, hb]; rfl, ?_⟩
    (repeat (first | (with_reducible assumption) | (with_reducible exact Below.refl _ _) | (with_reducible refine grow_alloc ?_ _) | (with_reducible refine grow_mix ?_ _) | (with_reducible refine grow_drew ?_) | (with_reducible refine grow_drewN ?_ _) | (with_reducible refine grow_set ?_ (by first | (simp; done) | (simp; omega) | omega) _)))
  · have hb' : isZ y = false := by simpa using hb
    have e : divV x y = mulV x (powV y 62999) := by unfold divV; rw [if_neg hb]
    have E := Lib.hid e
    clear e
    go_enter Tryd.func15, Tryd.ntmps15
    go_wp2_with (first | (go_at_call 31; refine (of_calls _ _ _).mono ?_; rintro e w' ⟨rfl, hb⟩; have hz := hb.size; (first | (obtain ⟨x1, rfl⟩ := to_mix2 hb) | (obtain ⟨x1, rfl⟩ := to_mix hb)); clear hb; (try simp only [World.size_alloc, World.size_setCell, World.size_drew] at hz); (try have q0 : w.heap.size < _ := Nat.lt_of_lt_of_le (by omega) hz); (try have q1 : w.heap.size + 1 < _ := Nat.lt_of_lt_of_le (by omega) hz); (try have q2 : w.heap.size + 1 + 1 < _ := Nat.lt_of_lt_of_le (by omega) hz); (try have q3 : w.heap.size + 1 + 1 + 1 < _ := Nat.lt_of_lt_of_le (by omega) hz)))
    refine wp_region_mix 4 (by kernel_rfl) (by kernel_rfl) ?_
    simp only [List.take_succ_cons, List.take_zero, List.drop_succ_cons, List.drop_zero]
    repeat (go_big_quiet_step ((first | (go_at_call 13; exact mix_call (Pow_calls _ _ (by omega) _)) | (go_at_call 14; exact mix_call (Mul_calls _ _ _)))))
    refine wpQuiet_nil ?_
    intro _ hmix
    (try (with_reducible replace hmix := mix_flat hmix))
    obtain ⟨x1, hmix'⟩ := hmix
    have hz := mix_size' hmix'
    subst hmix'
    (try simp only [World.size_alloc, World.size_setCell, World.size_drew] at hz); (try have q0 : w.heap.size < _ := Nat.lt_of_lt_of_le (by omega) hz); (try have q1 : w.heap.size + 1 < _ := Nat.lt_of_lt_of_le (by omega) hz); (try have q2 : w.heap.size + 1 + 1 < _ := Nat.lt_of_lt_of_le (by omega) hz); (try have q3 : w.heap.size + 1 + 1 + 1 < _ := Nat.lt_of_lt_of_le (by omega) hz)
    go_wp2
    refine bodyPost_ret (v := .tuple #[vv (mulV x (powV y 62999)), .bool true]) (by simp [results, Tryd.results15, go_sem]) rfl ⟨by rw [E.out, hb']; rfl, ?_⟩
    (repeat (first | (with_reducible assumption) | (with_reducible exact Below.refl _ _) | (with_reducible refine grow_alloc ?_ _) | (with_reducible refine grow_mix ?_ _) | (with_reducible refine grow_drew ?_) | (with_reducible refine grow_drewN ?_ _) | (with_reducible refine grow_set ?_ (by first | (simp; done) | (simp; omega) | omega) _)))
end Go.Proofs.YtepagnaabncllaaDoor.Gauss
