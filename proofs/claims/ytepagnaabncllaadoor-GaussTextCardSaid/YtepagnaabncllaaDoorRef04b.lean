/-
  Contracts of the reference for values (layer 4), second part.
-/
import Derived.Test.YtepagnaabncllaaDoorRef04
set_option linter.unusedSimpArgs false
set_option linter.unusedVariables false
namespace Go.Proofs.YtepagnaabncllaaDoor.Ref04
open Go Go.RowKit Go.Proofs.YtepagnaabncllaaDoor Go.Proofs.YtepagnaabncllaaDoor.Gauss

attribute [local go_sem high] eql_value neq_value equal_value

/-- r is the least inverse of n, or 0: there is none. -/
def InvP (n r : Int) : Prop := (1 ≤ r ∧ r ≤ 250 ∧ n * r % 251 = 1) ∨ (r = 0 ∧ ∀ j : Int, 1 ≤ j → j < 251 → n * j % 251 ≠ 1)
def InvPost (n : Int) (w : World) (e : Ending) (w' : World) : Prop := ∃ r, InvP n r ∧ e = .returned (.int .i64 r) ∧ w = w'

set_option maxRecDepth 100000 in
set_option maxHeartbeats 400000 in
theorem inverse_calls (n : Int) (h0 : 0 ≤ n) (h1 : n < 251) (w : World) :
    Calls Tryd.prog 34 #[.int .i64 n] w (InvPost n w) := by
  go_enter Tryd.func34, Tryd.ntmps34
  go_wp2
  go_loop [3] (fun v => ∃ k : Nat, 1 ≤ k ∧ k ≤ 251 ∧ v = .int .i64 k ∧ Hid (∀ j : Int, 1 ≤ j → j < k → n * j % 251 ≠ 1)) (fun v => 251 - (intOf v).toNat)
  case atStart => exact ⟨1, by omega, by omega, rfl, fun j _ _ => by omega⟩
  case round =>
    obtain ⟨k, hk1, hk2, rfl, HJ⟩ := hrel
    by_cases hlt : k < 251
    · have hb := Fl.prod_bd h0 h1 (by omega : 0 ≤ (k : Int)) (by omega)
      obtain ⟨hb1, hb2⟩ := hb
      by_cases he : n * k % 251 = 1
      · have t : (n * (k : Int) % 251 == 1) = true := by simpa using he
        have HE := Lib.hid he
        clear he
        go_wp2
        go_ret
        exact ⟨k, .inl ⟨by omega, by omega, HE.out⟩, rfl, rfl⟩
      · have t : (n * (k : Int) % 251 == 1) = false := by simpa using he
        have HE := Lib.hid he
        clear he
        go_wp2
        go_round
        case rel =>
          refine ⟨k + 1, by omega, by omega, by go_num, ?_⟩
          intro j hj1 hj2
          by_cases ej : j = k
          · subst ej; exact HE.out
          · exact HJ.out j hj1 (by omega)
        case measure => simp [intOf]; omega
    · have : k = 251 := by omega
      subst this
      go_wp2
      go_ret
      exact ⟨0, .inr ⟨rfl, HJ.out⟩, rfl, rfl⟩

/-- What the reference's quotient may be. -/
def normR (y : Int × Int) : Int := rest (rest y.1 * rest y.1 + rest y.2 * rest y.2)
def DivPost (x y : Int × Int) (w : World) (e : Ending) (w' : World) : Prop :=
  ((normR y = 0 ∧ e = .returned (.tuple #[vv (0, 0), .bool false])) ∨
   (normR y ≠ 0 ∧ ∃ k, InvP (normR y) k ∧ e = .returned (.tuple #[vv (ofV ((mulV x (conjV (ofV y.1 y.2))).1 * k) ((mulV x (conjV (ofV y.1 y.2))).2 * k)), .bool true]))) ∧ Below w.heap.size w w'

theorem InvP.bd {n r : Int} (h : InvP n r) : 0 ≤ r ∧ r ≤ 250 := by rcases h with h | h <;> omega
theorem mulV_bd (x y : Int × Int) : (0 ≤ (mulV x y).1 ∧ (mulV x y).1 < 251) ∧ 0 ≤ (mulV x y).2 ∧ (mulV x y).2 < 251 := ⟨rest_bd _, rest_bd _⟩

set_option maxRecDepth 100000 in
set_option maxHeartbeats 4000000 in
theorem Div_calls (x y : Int × Int) (w : World) :
    Calls Tryd.prog 17 #[vv x, vv y] w (DivPost x y w) := by
  have h1 := rest_bd y.1
  have h2 := rest_bd y.2
  have hn := rest_bd (rest y.1 * rest y.1 + rest y.2 * rest y.2)
  have m1 := Fl.prod_bd h1.1 h1.2 h1.1 h1.2
  have m2 := Fl.prod_bd h2.1 h2.2 h2.1 h2.2
  change 0 ≤ (ofV y.1 y.2).1 * (ofV y.1 y.2).1 ∧ (ofV y.1 y.2).1 * (ofV y.1 y.2).1 ≤ 62500 at m1
  change 0 ≤ (ofV y.1 y.2).2 * (ofV y.1 y.2).2 ∧ (ofV y.1 y.2).2 * (ofV y.1 y.2).2 ≤ 62500 at m2
  obtain ⟨m1a, m1b⟩ := m1
  obtain ⟨m2a, m2b⟩ := m2
  have NR := Lib.hid (show normR y = rest ((ofV y.1 y.2).1 * (ofV y.1 y.2).1 + (ofV y.1 y.2).2 * (ofV y.1 y.2).2) from rfl)
  have hn' : 0 ≤ rest ((ofV y.1 y.2).1 * (ofV y.1 y.2).1 + (ofV y.1 y.2).2 * (ofV y.1 y.2).2) ∧ rest ((ofV y.1 y.2).1 * (ofV y.1 y.2).1 + (ofV y.1 y.2).2 * (ofV y.1 y.2).2) < 251 := hn
  clear hn h1 h2
  by_cases h0 : normR y = 0
  · have t : (rest ((ofV y.1 y.2).1 * (ofV y.1 y.2).1 + (ofV y.1 y.2).2 * (ofV y.1 y.2).2) == 0) = true := by rw [← NR.out]; simpa using h0
    have H0 := Lib.hid h0
    clear h0 hn'
    go_enter Tryd.func17, Tryd.ntmps17
    go_wp2_with (first | (go_at_call 28; refine (Of_calls _ _ _).mono ?_; rintro e w' ⟨rfl, hb⟩; have hz := hb.size; (first | (obtain ⟨x1, rfl⟩ := to_mix2 hb) | (obtain ⟨x1, rfl⟩ := to_mix hb)); clear hb; (try simp only [World.size_alloc, World.size_setCell, World.size_drew] at hz); (try have q0 : w.heap.size < _ := Nat.lt_of_lt_of_le (by omega) hz); (try have q1 : w.heap.size + 1 < _ := Nat.lt_of_lt_of_le (by omega) hz); (try have q2 : w.heap.size + 1 + 1 < _ := Nat.lt_of_lt_of_le (by omega) hz); (try have q3 : w.heap.size + 1 + 1 + 1 < _ := Nat.lt_of_lt_of_le (by omega) hz)) | (go_at_call 33; refine (Rest_calls _ _).mono ?_; rintro e w' ⟨rfl, rfl⟩))
    refine bodyPost_ret (v := .tuple #[vv (0, 0), .bool false]) (by simp [results, Tryd.results17, go_sem]) rfl ⟨.inl ⟨H0.out, rfl⟩, ?_⟩
    (repeat (first | (with_reducible assumption) | (with_reducible exact Below.refl _ _) | (with_reducible refine grow_alloc ?_ _) | (with_reducible refine grow_mix ?_ _) | (with_reducible refine grow_drew ?_) | (with_reducible refine grow_drewN ?_ _) | (with_reducible refine grow_set ?_ (by first | (simp; done) | (simp; omega) | omega) _)))
  · have t : (rest ((ofV y.1 y.2).1 * (ofV y.1 y.2).1 + (ofV y.1 y.2).2 * (ofV y.1 y.2).2) == 0) = false := by rw [← NR.out]; simpa using h0
    have H0 := Lib.hid h0
    have HN := Lib.hid hn'
    have hinv := fun W => inverse_calls _ hn'.1 hn'.2 W
    have HI := Lib.hid hinv
    clear h0 hn' hinv
    go_enter Tryd.func17, Tryd.ntmps17
    go_wp2_with (first | (go_at_call 28; refine (Of_calls _ _ _).mono ?_; rintro e w1 ⟨rfl, hb⟩; obtain ⟨hc_w1, hf_w1⟩ := bcell hb; have hz_w1 := hb.size; (try simp only [World.size_alloc] at hz_w1); (try have hy0_w1 : w.heap.size < w1.heap.size := by omega); (try have hy1_w1 : w.heap.size + 1 < w1.heap.size := by omega); (try have hy2_w1 : w.heap.size + 1 + 1 < w1.heap.size := by omega); (try have hyA_w1 : w.heap.size < w1.heap.size + 1 := by omega); (try have hyB_w1 : w.heap.size + 1 < w1.heap.size + 1 := by omega); (try have hyC_w1 : w.heap.size + 1 + 1 < w1.heap.size + 1 := by omega); have hb_w1 := Lib.hid hb; clear hb) | (go_at_call 33; refine (Rest_calls _ _).mono ?_; rintro e w' ⟨rfl, rfl⟩))
    have hw1 : Below w.heap.size w w1 := by
      refine Below.trans ?_ (hb_w1.out.mono (by simp))
      (repeat (first | (with_reducible assumption) | (with_reducible exact Below.refl _ _) | (with_reducible refine grow_alloc ?_ _) | (with_reducible refine grow_mix ?_ _) | (with_reducible refine grow_drew ?_) | (with_reducible refine grow_drewN ?_ _) | (with_reducible refine grow_set ?_ (by first | (simp; done) | (simp; omega) | omega) _)))
    have hx2 : Has w1 (w.heap.size + 1 + 1) #[.int .i64 0, .int .i64 0] 23 := Has.below (Has.new' (by simp) _ _) hb_w1.out (by simp)
    have hx2f := hx2.frozen
    refine wp_flow [true, true, true, true, false] [(4, New (w1.heap.size + 1) #[.int .i64 0, .int .i64 0] 23)] [] (by kernel_rfl) (by kernel_rfl) (by kernel_rfl) (by kernel_rfl) (by kernel_rfl) (fun _ _ d _ _ h => by cases d <;> exact h) (by kernel_rfl) ⟨(by first | exact New.mono | assumption), trivial⟩ ?_
    apply Exists.intro
    refine ⟨fun yq => ?_, ⟨fun yq o ho => ?_, trivial⟩, trivial, fun yq => ?_⟩
    · simp only [headQ]
      repeat (go_big_quiet_step ((first | (go_at_call 24; exact mix_call (Conj_calls (ofV y.1 y.2) _)) | (go_at_call 22; exact mix_call (Mul_calls _ _ _)))))
      exact wpQuiet_nil rfl
    ·
      have ho' := Option.some.inj ho
      subst ho'
      refine grow_new rfl ?_ (by simp)
      go_simp
    ·
      simp only [FlowEnd, List.getElem?_toArray, List.getElem?_cons_succ, List.getElem?_cons_zero, Option.bind_some, Act.put, List.setIfInBounds_toArray, List.set_cons_succ, List.set_cons_zero, List.drop_succ_cons, List.drop_zero, List.length_cons, List.length_nil]
      intro v8 h_v8 n_v8
      obtain ⟨b8, rfl, H8, H8_b⟩ := h_v8
      try have H8_n0 : b8 ≠ w.heap.size := by omega
      try have H8_m0 : w.heap.size ≠ b8 := by omega
      try have H8_n1 : b8 ≠ w.heap.size + 1 := by omega
      try have H8_m1 : w.heap.size + 1 ≠ b8 := by omega
      try have H8_n2 : b8 ≠ w.heap.size + 1 + 1 := by omega
      try have H8_m2 : w.heap.size + 1 + 1 ≠ b8 := by omega
      try have H8_n3 : b8 ≠ w.heap.size + 1 + 1 + 1 := by omega
      try have H8_m3 : w.heap.size + 1 + 1 + 1 ≠ b8 := by omega
      simp only [ownOf, Option.some.injEq, forall_eq', Option.toList_some, List.mem_append, List.mem_cons, List.not_mem_nil, or_false, not_false_eq_true] at n_v8
      have H8_c0 := H8.cell 0
      have H8_c1 := H8.cell 1
      have H8_f := H8.frozen
      have H8_l := H8.lt
      simp only [List.size_toArray, List.length_cons, List.length_nil, Nat.reduceAdd, Nat.zero_lt_succ, Nat.one_lt_succ_succ, Nat.reduceLT, getElem?_pos, List.getElem_toArray, List.getElem_cons_zero, List.getElem_cons_succ] at H8_c0 H8_c1
      go_wp2_with (first | (go_at_call 34; refine (HI.out _).mono ?_; rintro e w' ⟨r, hr, rfl, rfl⟩; have hrb := hr.bd; have hmb := mulV_bd x (conjV (ofV y.1 y.2)); obtain ⟨p1a, p1b⟩ := Fl.prod_bd hmb.1.1 hmb.1.2 hrb.1 (by omega : r < 251); obtain ⟨p2a, p2b⟩ := Fl.prod_bd hmb.2.1 hmb.2.2 hrb.1 (by omega : r < 251); clear hrb hmb; have HR := Lib.hid hr; clear hr) | (go_at_call 28; refine (Of_calls _ _ _).mono ?_; rintro e w' ⟨rfl, hb⟩; have hz := hb.size; (first | (obtain ⟨x1, rfl⟩ := to_mix2 hb) | (obtain ⟨x1, rfl⟩ := to_mix hb)); clear hb; (try simp only [World.size_alloc, World.size_setCell, World.size_drew] at hz); (try have q0 : w.heap.size < _ := Nat.lt_of_lt_of_le (by omega) hz); (try have q1 : w.heap.size + 1 < _ := Nat.lt_of_lt_of_le (by omega) hz); (try have q2 : w.heap.size + 1 + 1 < _ := Nat.lt_of_lt_of_le (by omega) hz); (try have q3 : w.heap.size + 1 + 1 + 1 < _ := Nat.lt_of_lt_of_le (by omega) hz)))
      refine ret_cell_tmp (cs := [.int .i64 (ofV ((mulV x (conjV (ofV y.1 y.2))).1 * r) ((mulV x (conjV (ofV y.1 y.2))).2 * r)).1, .int .i64 (ofV ((mulV x (conjV (ofV y.1 y.2))).1 * r) ((mulV x (conjV (ofV y.1 y.2))).2 * r)).2]) (t' := 23)
        Tryd.results17 rfl Tryd.isAgg23 Tryd.sizeOf23 rfl ?_ ⟨.inr ⟨H0.out, r, HR.out, rfl⟩, ?_⟩
      · (repeat (first | (with_reducible assumption) | (with_reducible exact Has.new _ _ _) | (with_reducible exact Has.new' (by first | rfl | (simp; done) | (simp; omega)) _ _) | (with_reducible apply Has.alloc) | (with_reducible apply Has.mix) | (with_reducible apply Has.drew) | (with_reducible apply Has.drewN) | (with_reducible apply Has.set_same) | (with_reducible apply Has.set_other (hp := (by first | (simp; done) | (simp; omega) | omega))) | (with_reducible rfl) | rfl))
      · (repeat (first | (with_reducible assumption) | (with_reducible exact Below.refl _ _) | (with_reducible refine grow_alloc ?_ _) | (with_reducible refine grow_mix ?_ _) | (with_reducible refine grow_drew ?_) | (with_reducible refine grow_drewN ?_ _) | (with_reducible refine grow_set ?_ (by first | (simp; done) | (simp; omega) | omega) _)))

/-- The reference's power. -/
def powR (x : Int × Int) (n : Nat) : Int × Int :=
  if h : n = 0 then (1, 0) else if n % 2 = 0 then mulV (powR x (n / 2)) (powR x (n / 2)) else mulV (mulV (powR x (n / 2)) (powR x (n / 2))) x
termination_by n
decreasing_by all_goals omega
theorem powR_zero (x : Int × Int) : powR x 0 = (1, 0) := by rw [powR]; simp
theorem powR_even (x : Int × Int) (n : Nat) (h : n ≠ 0) (h2 : n % 2 = 0) : powR x n = mulV (powR x (n / 2)) (powR x (n / 2)) := by
  rw [powR, dif_neg h, if_pos h2]
theorem powR_odd (x : Int × Int) (n : Nat) (h2 : n % 2 = 1) : powR x n = mulV (mulV (powR x (n / 2)) (powR x (n / 2))) x := by
  rw [powR, dif_neg (by omega), if_neg (by omega)]
def powRI (x : Int × Int) (n : Int) : Int × Int := if n < 0 then (0, 0) else powR x n.toNat

set_option maxHeartbeats 400000 in
theorem Pow_neg (x : Int × Int) (n : Int) (hn : n < 0) (w : World) :
    Calls Tryd.prog 25 #[vv x, .int .i64 n] w fun e w' => e = .returned (vv (powRI x n)) ∧ Below w.heap.size w w' := by
  have e : powRI x n = (0, 0) := by unfold powRI; rw [if_pos hn]
  rw [e]
  clear e
  go_enter Tryd.func25, Tryd.ntmps25
  go_wp2
  refine ret_cell (cs := [.int .i64 0, .int .i64 0]) (t' := 23) Tryd.results25 rfl Tryd.isAgg23 Tryd.sizeOf23 rfl ?_ ⟨rfl, ?_⟩
  · (repeat (first | (with_reducible assumption) | (with_reducible exact Has.new _ _ _) | (with_reducible exact Has.new' (by first | rfl | (simp; done) | (simp; omega)) _ _) | (with_reducible apply Has.alloc) | (with_reducible apply Has.mix) | (with_reducible apply Has.drew) | (with_reducible apply Has.drewN) | (with_reducible apply Has.set_same) | (with_reducible apply Has.set_other (hp := (by first | (simp; done) | (simp; omega) | omega))) | (with_reducible rfl) | rfl))
  · (repeat (first | (with_reducible assumption) | (with_reducible exact Below.refl _ _) | (with_reducible refine grow_alloc ?_ _) | (with_reducible refine grow_mix ?_ _) | (with_reducible refine grow_drew ?_) | (with_reducible refine grow_drewN ?_ _) | (with_reducible refine grow_set ?_ (by first | (simp; done) | (simp; omega) | omega) _)))

set_option maxRecDepth 100000 in
set_option maxHeartbeats 2000000 in
theorem Pow_nonneg : ∀ (n : Nat), n ≤ 9223372036854775807 → ∀ (x : Int × Int) (w : World),
    Calls Tryd.prog 25 #[vv x, .int .i64 n] w fun e w' => e = .returned (vv (powR x n)) ∧ Below w.heap.size w w' := by
  intro n
  induction n using Nat.strongRecOn with
  | _ n ih =>
  intro hn x w
  have hlt : decide ((n : Int) < 0) = false := by simp
  by_cases h0 : n = 0
  · subst h0
    clear ih
    rw [powR_zero]
    go_enter Tryd.func25, Tryd.ntmps25
    go_wp2
    refine ret_cell (cs := [.int .i64 1, .int .i64 0]) (t' := 23) Tryd.results25 rfl Tryd.isAgg23 Tryd.sizeOf23 rfl ?_ ⟨rfl, ?_⟩
    · (repeat (first | (with_reducible assumption) | (with_reducible exact Has.new _ _ _) | (with_reducible exact Has.new' (by first | rfl | (simp; done) | (simp; omega)) _ _) | (with_reducible apply Has.alloc) | (with_reducible apply Has.mix) | (with_reducible apply Has.drew) | (with_reducible apply Has.drewN) | (with_reducible apply Has.set_same) | (with_reducible apply Has.set_other (hp := (by first | (simp; done) | (simp; omega) | omega))) | (with_reducible rfl) | rfl))
    · (repeat (first | (with_reducible assumption) | (with_reducible exact Below.refl _ _) | (with_reducible refine grow_alloc ?_ _) | (with_reducible refine grow_mix ?_ _) | (with_reducible refine grow_drew ?_) | (with_reducible refine grow_drewN ?_ _) | (with_reducible refine grow_set ?_ (by first | (simp; done) | (simp; omega) | omega) _)))
  · have t0 : ((n : Int) == 0) = false := by simp; omega
    have hr : ∀ W, Calls Tryd.prog 25 #[vv x, .int .i64 ((n : Int) / 2)] W fun e w' => e = .returned (vv (powR x (n / 2))) ∧ Below W.heap.size W w' := fun W => by
      have c1 : (n : Int) / 2 = ((n / 2 : Nat) : Int) := by omega
      rw [c1]
      exact ih (n / 2) (by omega) (by omega) x W
    have HR := Lib.hid hr
    clear ih hr
    rcases Nat.mod_two_eq_zero_or_one n with h2 | h2
    · rw [powR_even x n h0 h2]
      have t2 : (((n : Int) % 2) == 0) = true := by simp; omega
      have H2 := Lib.hid h2
      clear h2
      go_enter Tryd.func25, Tryd.ntmps25
      go_wp2_with (first | (go_at_call 25; refine (HR.out _).mono ?_; rintro e w' ⟨rfl, hb⟩; have hz := hb.size; (first | (obtain ⟨x1, rfl⟩ := to_mix2 hb) | (obtain ⟨x1, rfl⟩ := to_mix hb)); clear hb; (try simp only [World.size_alloc, World.size_setCell, World.size_drew] at hz); (try have q0 : w.heap.size < _ := Nat.lt_of_lt_of_le (by omega) hz); (try have q1 : w.heap.size + 1 < _ := Nat.lt_of_lt_of_le (by omega) hz); (try have q2 : w.heap.size + 1 + 1 < _ := Nat.lt_of_lt_of_le (by omega) hz); (try have q3 : w.heap.size + 1 + 1 + 1 < _ := Nat.lt_of_lt_of_le (by omega) hz)) | (go_at_call 22; refine (Mul_calls _ _ _).mono ?_; rintro e w' ⟨rfl, hb⟩; have hz := hb.size; (first | (obtain ⟨x1, rfl⟩ := to_mix2 hb) | (obtain ⟨x1, rfl⟩ := to_mix hb)); clear hb; (try simp only [World.size_alloc, World.size_setCell, World.size_drew] at hz); (try have q0 : w.heap.size < _ := Nat.lt_of_lt_of_le (by omega) hz); (try have q1 : w.heap.size + 1 < _ := Nat.lt_of_lt_of_le (by omega) hz); (try have q2 : w.heap.size + 1 + 1 < _ := Nat.lt_of_lt_of_le (by omega) hz); (try have q3 : w.heap.size + 1 + 1 + 1 < _ := Nat.lt_of_lt_of_le (by omega) hz)))
      refine ret_cell (cs := [.int .i64 (mulV (powR x (n / 2)) (powR x (n / 2))).1, .int .i64 (mulV (powR x (n / 2)) (powR x (n / 2))).2]) (t' := 23) Tryd.results25 rfl Tryd.isAgg23 Tryd.sizeOf23 rfl ?_ ⟨rfl, ?_⟩
      · (repeat (first | (with_reducible assumption) | (with_reducible exact Has.new _ _ _) | (with_reducible exact Has.new' (by first | rfl | (simp; done) | (simp; omega)) _ _) | (with_reducible apply Has.alloc) | (with_reducible apply Has.mix) | (with_reducible apply Has.drew) | (with_reducible apply Has.drewN) | (with_reducible apply Has.set_same) | (with_reducible apply Has.set_other (hp := (by first | (simp; done) | (simp; omega) | omega))) | (with_reducible rfl) | rfl))
      · (repeat (first | (with_reducible assumption) | (with_reducible exact Below.refl _ _) | (with_reducible refine grow_alloc ?_ _) | (with_reducible refine grow_mix ?_ _) | (with_reducible refine grow_drew ?_) | (with_reducible refine grow_drewN ?_ _) | (with_reducible refine grow_set ?_ (by first | (simp; done) | (simp; omega) | omega) _)))
    · rw [powR_odd x n h2]
      have t2 : (((n : Int) % 2) == 0) = false := by simp; omega
      have H2 := Lib.hid h2
      clear h2
      go_enter Tryd.func25, Tryd.ntmps25
      go_wp2_with (first | (go_at_call 25; refine (HR.out _).mono ?_; rintro e w' ⟨rfl, hb⟩; have hz := hb.size; (first | (obtain ⟨x1, rfl⟩ := to_mix2 hb) | (obtain ⟨x1, rfl⟩ := to_mix hb)); clear hb; (try simp only [World.size_alloc, World.size_setCell, World.size_drew] at hz); (try have q0 : w.heap.size < _ := Nat.lt_of_lt_of_le (by omega) hz); (try have q1 : w.heap.size + 1 < _ := Nat.lt_of_lt_of_le (by omega) hz); (try have q2 : w.heap.size + 1 + 1 < _ := Nat.lt_of_lt_of_le (by omega) hz); (try have q3 : w.heap.size + 1 + 1 + 1 < _ := Nat.lt_of_lt_of_le (by omega) hz)) | (go_at_call 22; refine (Mul_calls _ _ _).mono ?_; rintro e w' ⟨rfl, hb⟩; have hz := hb.size; (first | (obtain ⟨x1, rfl⟩ := to_mix2 hb) | (obtain ⟨x1, rfl⟩ := to_mix hb)); clear hb; (try simp only [World.size_alloc, World.size_setCell, World.size_drew] at hz); (try have q0 : w.heap.size < _ := Nat.lt_of_lt_of_le (by omega) hz); (try have q1 : w.heap.size + 1 < _ := Nat.lt_of_lt_of_le (by omega) hz); (try have q2 : w.heap.size + 1 + 1 < _ := Nat.lt_of_lt_of_le (by omega) hz); (try have q3 : w.heap.size + 1 + 1 + 1 < _ := Nat.lt_of_lt_of_le (by omega) hz)))
      refine wp_region_mix 5 (by kernel_rfl) (by kernel_rfl) ?_
      simp only [List.take_succ_cons, List.take_zero, List.drop_succ_cons, List.drop_zero]
      repeat (go_big_quiet_step ((go_at_call 22; (with_reducible exact mix_call (Mul_calls _ _ _)))))
      refine wpQuiet_nil ?_
      intro _ hmix
      (try (with_reducible replace hmix := mix_flat hmix))
      obtain ⟨x1, hmix'⟩ := hmix
      have hz := mix_size' hmix'
      subst hmix'
      (try simp only [World.size_alloc, World.size_setCell, World.size_drew] at hz); (try have q0 : w.heap.size < _ := Nat.lt_of_lt_of_le (by omega) hz); (try have q1 : w.heap.size + 1 < _ := Nat.lt_of_lt_of_le (by omega) hz); (try have q2 : w.heap.size + 1 + 1 < _ := Nat.lt_of_lt_of_le (by omega) hz); (try have q3 : w.heap.size + 1 + 1 + 1 < _ := Nat.lt_of_lt_of_le (by omega) hz)
      go_wp2
      refine ret_cell (cs := [.int .i64 (mulV (mulV (powR x (n / 2)) (powR x (n / 2))) x).1, .int .i64 (mulV (mulV (powR x (n / 2)) (powR x (n / 2))) x).2]) (t' := 23) Tryd.results25 rfl Tryd.isAgg23 Tryd.sizeOf23 rfl ?_ ⟨rfl, ?_⟩
      · (repeat (first | (with_reducible assumption) | (with_reducible exact Has.new _ _ _) | (with_reducible exact Has.new' (by first | rfl | (simp; done) | (simp; omega)) _ _) | (with_reducible apply Has.alloc) | (with_reducible apply Has.mix) | (with_reducible apply Has.drew) | (with_reducible apply Has.drewN) | (with_reducible apply Has.set_same) | (with_reducible apply Has.set_other (hp := (by first | (simp; done) | (simp; omega) | omega))) | (with_reducible rfl) | rfl))
      · (repeat (first | (with_reducible assumption) | (with_reducible exact Below.refl _ _) | (with_reducible refine grow_alloc ?_ _) | (with_reducible refine grow_mix ?_ _) | (with_reducible refine grow_drew ?_) | (with_reducible refine grow_drewN ?_ _) | (with_reducible refine grow_set ?_ (by first | (simp; done) | (simp; omega) | omega) _)))
end Go.Proofs.YtepagnaabncllaaDoor.Ref04
