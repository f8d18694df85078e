/-
  Laws of the field, as the statements of layer 4 ask them.
-/
import Derived.Test.YtepagnaabncllaaDoorGaussFixed
set_option linter.unusedSimpArgs false
set_option linter.unusedVariables false
namespace Go.Proofs.YtepagnaabncllaaDoor.Laws
open Go Go.RowKit Go.Proofs.YtepagnaabncllaaDoor Go.Proofs.YtepagnaabncllaaDoor.Gauss Go.Proofs.YtepagnaabncllaaDoor.Pure Go.Proofs.YtepagnaabncllaaDoor.Text Go.Proofs.YtepagnaabncllaaDoor.Ref04

theorem eqB_iff {x y u v : Int × Int} (h : x = y ↔ u = v) : eqB x y = eqB u v := by
  unfold eqB
  by_cases e : x = y
  · rw [decide_eq_true e, decide_eq_true (h.1 e)]
  · rw [decide_eq_false e, decide_eq_false (fun k => e (h.2 k))]
theorem fst_zero {x : Int × Int} (hx : May x) (h : (Φ x).1 = 0) : x.1 = 0 := by
  have := φ_inj (show φ x.1 = φ 0 by rw [φ_zero]; exact h)
  obtain ⟨⟨a, b⟩, _⟩ := hx
  omega
theorem snd_zero {x : Int × Int} (hx : May x) (h : (Φ x).2 = 0) : x.2 = 0 := by
  have := φ_inj (show φ x.2 = φ 0 by rw [φ_zero]; exact h)
  obtain ⟨_, a, b⟩ := hx
  omega
theorem kadd_comm (x y : K) : kadd x y = kadd y x := by unfold kadd; ext1 <;> grind
theorem kadd_assoc (x y z : K) : kadd (kadd x y) z = kadd x (kadd y z) := by unfold kadd; ext1 <;> grind
theorem ksub_kadd (x y : K) : ksub (kadd x y) y = x := by unfold kadd ksub; ext1 <;> grind
theorem kadd_left {x y z : K} (h : kadd x z = kadd y z) : x = y := by rw [← ksub_kadd x z, h, ksub_kadd]
theorem ksub_left {x y z : K} (h : ksub z x = ksub z y) : x = y := by
  have e (u : K) : u = ksub z (ksub z u) := by unfold ksub; ext1 <;> grind
  rw [e x, e y, h]
theorem Φ_zero : Φ (0, 0) = kzero := by decide

section
variable {x y z : Int × Int} (hx : May x) (hy : May y) (hz : May z)
include hx in
theorem l_conj2 : eqB (conjV (conjV x)) x = true := eqB_true (Φ_inj (may_conj _) hx (by
  rw [Φ_conj, Φ_conj]; unfold kconj; ext1 <;> grind))
theorem l_conj_add (x y : Int × Int) : eqB (addV (conjV x) (conjV y)) (conjV (addV x y)) = true := eqB_true (Φ_inj (may_add _ _) (may_conj _) (by
  simp only [Φ_conj, Φ_add]; unfold kconj kadd; ext1 <;> grind))
theorem l_conj_mul (x y : Int × Int) : eqB (mulV (conjV x) (conjV y)) (conjV (mulV x y)) = true := eqB_true (Φ_inj (may_mul _ _) (may_conj _) (by
  simp only [Φ_conj, Φ_mul]; unfold kconj kmul; ext1 <;> grind))
theorem l_norm (x : Int × Int) : (mulV x (conjV x)).2 = 0 := snd_zero (may_mul _ _) (by
  simp only [Φ_conj, Φ_mul]; unfold kconj kmul; grind)
theorem l_frob (x : Int × Int) : eqB (powV x 251) (conjV x) = true := eqB_true (Φ_inj (may_powV _ _) (may_conj _) (by
  rw [Φ_powV _ _ (by omega), Φ_conj]; exact frob _))

theorem l_pow_add (x : Int × Int) (m n : Int) (hm : 0 ≤ m) (hn : 0 ≤ n) : eqB (powV x (m + n)) (mulV (powV x m) (powV x n)) = true := eqB_true (Φ_inj (may_powV _ _) (may_mul _ _) (by
  rw [Φ_mul, Φ_powV _ _ (by omega), Φ_powV _ _ hm, Φ_powV _ _ hn, ← kpow_add, Int.toNat_add hm hn]))
include hx in
theorem l_pow_one : eqB (powV x 1) x = true := eqB_true (Φ_inj (may_powV _ _) hx (by
  rw [Φ_powV _ _ (by omega)]; exact kpow_one _))
include hx in
theorem ne_of (h : x ≠ (0, 0)) : Φ x ≠ kzero := fun e => h ((zero_iff hx).2 e)
include hx in
theorem l_pow_63000 (h : x ≠ (0, 0)) : eqB (powV x 63000) (ofV 1 0) = true := eqB_true (Φ_inj (may_powV _ _) (may_of _ _) (by
  rw [Φ_powV _ _ (by omega), one_eq]; exact kpow_63000 (ne_of hx h)))
include hx in
theorem l_pow_62999 (h : x ≠ (0, 0)) : eqB (powV x 62999) (divV (ofV 1 0) x) = true := eqB_true (Φ_inj (may_powV _ _) (may_div _ _) (by
  rw [Φ_powV _ _ (by omega), Φ_div _ _ (ne_of hx h), one_eq, kone_mul]; rfl))
include hx in
theorem l_pow_mod (h : x ≠ (0, 0)) (n : Int) (hn : 0 ≤ n) : eqB (powV x n) (powV x (n.tmod 63000)) = true := eqB_true (Φ_inj (may_powV _ _) (may_powV _ _) (by
  have e : n.tmod 63000 = n % 63000 := by rw [Int.tmod_eq_emod_of_nonneg hn]
  rw [e, Φ_powV _ _ hn, Φ_powV _ _ (by omega)]
  have e2 : n.toNat = 63000 * (n.toNat / 63000) + (n % 63000).toNat := by omega
  conv => lhs; rw [e2]
  rw [kpow_add, kpow_mul, kpow_63000 (ne_of hx h), kpow_kone, kone_mul]))

theorem l_add_comm (x y : Int × Int) : eqB (addV x y) (addV y x) = true := eqB_true (Φ_inj (may_add _ _) (may_add _ _) (by simp only [Φ_add]; exact kadd_comm _ _))
theorem l_mul_comm (x y : Int × Int) : eqB (mulV x y) (mulV y x) = true := eqB_true (Φ_inj (may_mul _ _) (may_mul _ _) (by simp only [Φ_mul]; exact kmul_comm _ _))
theorem l_add_assoc (x y z : Int × Int) : eqB (addV (addV x y) z) (addV x (addV y z)) = true := eqB_true (Φ_inj (may_add _ _) (may_add _ _) (by simp only [Φ_add]; exact kadd_assoc _ _ _))
theorem l_mul_assoc (x y z : Int × Int) : eqB (mulV (mulV x y) z) (mulV x (mulV y z)) = true := eqB_true (Φ_inj (may_mul _ _) (may_mul _ _) (by simp only [Φ_mul]; exact kmul_assoc _ _ _))
theorem l_dist (x y z : Int × Int) : eqB (mulV x (addV y z)) (addV (mulV x y) (mulV x z)) = true := eqB_true (Φ_inj (may_mul _ _) (may_add _ _) (by simp only [Φ_mul, Φ_add]; exact kmul_add _ _ _))
include hx in
theorem l_sub_add (y : Int × Int) : eqB (subV (addV x y) y) x = true := eqB_true (Φ_inj (may_sub _ _) hx (by simp only [Φ_sub, Φ_add]; exact ksub_kadd _ _))
include hx hy in
theorem l_div_mul (h : y ≠ (0, 0)) : eqB (mulV (divV x y) y) x = true := eqB_true (Φ_inj (may_mul _ _) hx (by
  rw [Φ_mul, Φ_div _ _ (ne_of hy h), kmul_assoc, kinv_mul (ne_of hy h), kmul_one]))
include hx in
theorem l_isZ : isZ x = eqB x (0, 0) := by
  unfold eqB
  by_cases e : x = (0, 0)
  · rw [decide_eq_true e, (isZ_iff x).2 ((zero_iff hx).1 e)]
  · rw [decide_eq_false e, (isZ_false x).2 (ne_of hx e)]
include hx hy in
theorem l_mul_zero : mulV x y = (0, 0) ↔ (x = (0, 0) ∨ y = (0, 0)) := by
  rw [zero_iff (may_mul _ _), Φ_mul]
  constructor
  · intro h
    by_cases e : y = (0, 0)
    · exact .inr e
    · refine .inl ((zero_iff hx).2 (kcancel (ne_of hy e) (h.trans ?_)))
      rw [kmul_comm, kmul_zero]
  · rintro (rfl | rfl)
    · rw [Φ_zero, kmul_comm, kmul_zero]
    · rw [Φ_zero, kmul_zero]

include hx hy in
theorem l_add_apart (z : Int × Int) : eqB (addV x z) (addV y z) = eqB x y := eqB_iff ⟨fun h => Φ_inj hx hy (kadd_left (by have := congrArg Φ h; simpa only [Φ_add] using this)), fun h => by rw [h]⟩
include hx hy in
theorem l_sub_apart (z : Int × Int) : eqB (subV z x) (subV z y) = eqB x y := eqB_iff ⟨fun h => Φ_inj hx hy (ksub_left (by have := congrArg Φ h; simpa only [Φ_sub] using this)), fun h => by rw [h]⟩
theorem l_conj_real (x : Int × Int) : (subV x (conjV x)).1 = 0 := fst_zero (may_sub _ _) (by
  simp only [Φ_conj, Φ_sub]; unfold kconj ksub; grind)
include hx hy hz in
theorem l_mul_apart (h : z ≠ (0, 0)) : eqB (mulV x z) (mulV y z) = eqB x y := eqB_iff ⟨fun e => Φ_inj hx hy (kcancel (ne_of hz h) (by have := congrArg Φ e; simpa only [Φ_mul] using this)), fun e => by rw [e]⟩
include hx hy hz in
theorem l_div_apart (h : z ≠ (0, 0)) : eqB (divV x z) (divV y z) = eqB x y := eqB_iff ⟨fun e => Φ_inj hx hy (by
  have e1 := congrArg Φ e
  rw [Φ_div _ _ (ne_of hz h), Φ_div _ _ (ne_of hz h)] at e1
  have e2 := congrArg (fun u => kmul u (Φ z)) e1
  simpa only [kmul_assoc, kinv_mul (ne_of hz h), kmul_one] using e2), fun e => by rw [e]⟩
end

/-- A drawn region without a tail, at the class 'w, grown'. -/
theorem wp_region_mix_all {P : Program} {id : Nat} {Q : Exit → Act → World → Prop} {a : Act} {w : World} {l : List Oper} (hm : P.follows .mixedOrders = true) (hB : Region.lexB .any l.toArray = true)
    (h : wpQuiet P l.toArray (fun w' => ∃ x, w' = mix w x) (fun a' => ∀ w', (∃ x, w' = mix w x) → Q .normal a' w') l a) : (Code.region id l.toArray true).wp P Q a w :=
  wp_region_quiet (C := fun w' => ∃ x, w' = mix w x) hm hB (to_mix ⟨rfl, rfl, rfl, Nat.le_refl _, fun _ _ => rfl⟩) (by simpa using h)

/-- The world behind as a variable, of which this is known. -/
theorem wp_at {P : Program} {c : Code} {Q : Exit → Act → World → Prop} {a : Act} {w : World} (p : World → Prop) (h : p w) (k : ∀ w', p w' → c.wp P Q a w') : c.wp P Q a w := k w h

theorem field_re (a b : Int) (w : World) : (Instr.field 23 (.agg #[.int .i64 a, .int .i64 b]) 0).run Tryd.prog w = .ok (.int .i64 a) w := by
  unfold Instr.field
  go_simp
  rfl
theorem field_im (a b : Int) (w : World) : (Instr.field 23 (.agg #[.int .i64 a, .int .i64 b]) 1).run Tryd.prog w = .ok (.int .i64 b) w := by
  unfold Instr.field
  go_simp
  rfl

theorem red_red (x : Int × Int) : red (red x) = red x := by unfold red rest; exact Prod.ext (by simp only; omega) (by simp only; omega)
theorem may_eq {x : Int × Int} (hx : May x) : eqB x (red x) = true := eqB_true (may_red hx).symm

/-! ### Texts -/
def digs (n : Nat) : List UInt8 := Lib.decDigits n
theorem digs1 {n : Nat} (h : n < 10) : Lib.decDigits n = [UInt8.ofNat (48 + n)] := by rw [digits_small n h]; unfold dig; congr 2; omega
theorem digs2 {n : Nat} (h1 : ¬ n < 10) (h : n < 100) : Lib.decDigits n = [UInt8.ofNat (48 + n / 10), UInt8.ofNat (48 + n % 10)] := by
  rw [digits_big n h1, digs1 (by omega)]; rfl
theorem digs3 {n : Nat} (h1 : ¬ n < 100) (h : n < 1000) : Lib.decDigits n = [UInt8.ofNat (48 + n / 100), UInt8.ofNat (48 + n / 10 % 10), UInt8.ofNat (48 + n % 10)] := by
  rw [digits_big n (by omega), digs2 (by omega) (by omega), show n / 10 / 10 = n / 100 by omega]; rfl

theorem eql_text (a b : List UInt8) (w : World) : (binOp .eql 9 (str a) (str b)).run Tryd.prog w = .ok (.bool (decide (a = b))) w := by
  go_simp
  rw [Bool.eq_iff_iff]
  simp

theorem dig_val (n : Nat) : (dig n).toNat = 48 + n % 10 := by
  unfold dig
  rw [UInt8.toNat_ofNat']
  omega
theorem dec_ne (n : Nat) : ∀ c ∈ Lib.decDigits n, 48 ≤ c.toNat ∧ c.toNat ≤ 57 := by
  induction n using Nat.strongRecOn with
  | _ n ih =>
  by_cases h : n < 10
  · rw [digits_small n h]
    intro c hc
    rw [List.mem_singleton] at hc
    rw [hc, dig_val]; omega
  · rw [digits_big n h]
    intro c hc
    rw [List.mem_append, List.mem_singleton] at hc
    rcases hc with hc | hc
    · exact ih (n / 10) (by omega) c hc
    · rw [hc, dig_val]; omega
def deval (l : List UInt8) : Nat := l.foldl (fun a d => a * 10 + (d.toNat - 48)) 0
theorem deval_dec (n : Nat) : deval (Lib.decDigits n) = n := by
  induction n using Nat.strongRecOn with
  | _ n ih =>
  by_cases h : n < 10
  · rw [digits_small n h]
    show 0 * 10 + ((dig n).toNat - 48) = n
    rw [dig_val]; omega
  · rw [digits_big n h]
    have := ih (n / 10) (by omega)
    unfold deval at this ⊢
    rw [List.foldl_append, this]
    show n / 10 * 10 + ((dig n).toNat - 48) = n
    rw [dig_val]; omega
theorem split_at {a b c d : List UInt8} {x : UInt8} (ha : ∀ y ∈ a, y ≠ x) (hc : ∀ y ∈ c, y ≠ x) (h : a ++ [x] ++ b = c ++ [x] ++ d) : a = c ∧ b = d := by
  induction a generalizing c with
  | nil =>
    cases c with
    | nil => simpa using h
    | cons y c =>
      have : x = y := by simpa using congrArg List.head? h
      exact absurd this.symm (hc y (by simp))
  | cons y a ih =>
    cases c with
    | nil =>
      have : y = x := by simpa using congrArg List.head? h
      exact absurd this (ha y (by simp))
    | cons z c =>
      simp only [List.cons_append, List.cons.injEq] at h
      obtain ⟨h1, h2⟩ := ih (fun u hu => ha u (by simp [hu])) (fun u hu => hc u (by simp [hu])) h.2
      exact ⟨by rw [h.1, h1], h2⟩
theorem dec_inj {m n : Nat} (h : Lib.decDigits m = Lib.decDigits n) : m = n := by rw [← deval_dec m, h, deval_dec]
theorem textV_inj {x y : Int × Int} (hx : Pure.May x) (hy : Pure.May y) (h : textV x = textV y) : x = y := by
  unfold textV at h
  rw [List.append_assoc, List.append_assoc (Lib.decDigits (rest y.1).toNat ++ [43])] at h
  have ne (n : Nat) : ∀ c ∈ Lib.decDigits n, c ≠ 43 := fun c hc e => by
    have := dec_ne n c hc
    rw [e] at this
    exact absurd this.1 (by decide)
  have ne2 (n : Nat) : ∀ c ∈ Lib.decDigits n, c ≠ 105 := fun c hc e => by
    have := dec_ne n c hc
    rw [e] at this
    exact absurd this.2 (by decide)
  obtain ⟨h1, h2⟩ := split_at (ne _) (ne _) h
  have h3 := split_at (b := []) (d := []) (ne2 _) (ne2 _) (by simpa using h2)
  have e1 := dec_inj h1
  have e2 := dec_inj h3.1
  obtain ⟨⟨a, b⟩, c, d⟩ := hx
  obtain ⟨⟨a', b'⟩, c', d'⟩ := hy
  unfold rest at e1 e2
  exact Prod.ext (by omega) (by omega)
theorem text_eq {x y : Int × Int} (hx : Pure.May x) (hy : Pure.May y) : decide (textV x = textV y) = eqB x y := by
  unfold eqB
  by_cases e : x = y
  · rw [decide_eq_true e, decide_eq_true (by rw [e])]
  · rw [decide_eq_false e, decide_eq_false (fun k => e (textV_inj hx hy k))]

theorem G_May_true (x : Int × Int) (hx : Pure.May x) (w : World) : Calls Tryd.prog 27 #[vv x] w fun e w' => e = .returned (.bool true) ∧ Below w.heap.size w w' := by
  have := Gauss.May_calls x w
  rw [may_eq hx] at this; exact this
end Go.Proofs.YtepagnaabncllaaDoor.Laws
