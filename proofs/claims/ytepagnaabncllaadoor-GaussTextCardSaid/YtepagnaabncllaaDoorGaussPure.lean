/-
  The field of Gaussian integers modulo 251: what sums, products, powers and quotients as the program makes them answer.
-/
import Derived.Test.YtepagnaabncllaaDoorRef04b
set_option linter.unusedSimpArgs false
set_option linter.unusedVariables false
namespace Go.Proofs.YtepagnaabncllaaDoor.Pure
open Go Go.Proofs.YtepagnaabncllaaDoor Go.Proofs.YtepagnaabncllaaDoor.Gauss Go.Proofs.YtepagnaabncllaaDoor.Ref04

abbrev F := Fin 251
/-- A number modulo 251. -/
def φ (n : Int) : F := ⟨(n % 251).toNat, by omega⟩
theorem φ_val (n : Int) : ((φ n).val : Int) = n % 251 := by unfold φ; simp; omega
theorem φ_ext {a b : Int} (h : a % 251 = b % 251) : φ a = φ b := by apply Fin.ext; have := φ_val a; have := φ_val b; omega
theorem φ_inj {a b : Int} (h : φ a = φ b) : a % 251 = b % 251 := by have := φ_val a; have := φ_val b; rw [h] at *; omega
theorem φ_rest (n : Int) : φ (rest n) = φ n := φ_ext (by unfold rest; omega)
theorem val_add (x y : F) : (x + y).val = (x.val + y.val) % 251 := rfl
theorem val_mul (x y : F) : (x * y).val = (x.val * y.val) % 251 := rfl
theorem φ_add (a b : Int) : φ (a + b) = φ a + φ b := by
  apply Fin.ext
  have h1 := φ_val (a + b); have h2 := φ_val a; have h3 := φ_val b
  rw [val_add]; omega
theorem φ_mul (a b : Int) : φ (a * b) = φ a * φ b := by
  apply Fin.ext
  have h1 := φ_val (a * b); have h2 := φ_val a; have h3 := φ_val b
  rw [val_mul]
  have h4 : (((φ a).val * (φ b).val : Nat) : Int) % 251 = a * b % 251 := by
    push_cast
    rw [h2, h3, ← Int.mul_emod]
  omega
theorem φ_zero : φ 0 = 0 := by decide
theorem φ_one : φ 1 = 1 := by decide
theorem φ_neg (a : Int) : φ (-a) = - φ a := by
  have h := φ_add (-a) a
  rw [Int.add_left_neg, φ_zero] at h
  grind
theorem φ_sub (a b : Int) : φ (a - b) = φ a - φ b := by
  rw [Int.sub_eq_add_neg, φ_add, φ_neg]; grind

/-- Pairs modulo 251. -/
abbrev K := F × F
def kmul (x y : K) : K := (x.1 * y.1 - x.2 * y.2, x.1 * y.2 + x.2 * y.1)
def kadd (x y : K) : K := (x.1 + y.1, x.2 + y.2)
def ksub (x y : K) : K := (x.1 - y.1, x.2 - y.2)
def kconj (x : K) : K := (x.1, -x.2)
def kone : K := (1, 0)
def kzero : K := (0, 0)
def Φ (x : Int × Int) : K := (φ x.1, φ x.2)

theorem Φ_mul (x y : Int × Int) : Φ (mulV x y) = kmul (Φ x) (Φ y) := by
  unfold Φ mulV kmul; simp only [φ_rest, φ_sub, φ_add, φ_mul]
theorem Φ_add (x y : Int × Int) : Φ (addV x y) = kadd (Φ x) (Φ y) := by
  unfold Φ addV kadd; simp only [φ_rest, φ_sub, φ_add, φ_mul]
theorem Φ_sub (x y : Int × Int) : Φ (subV x y) = ksub (Φ x) (Φ y) := by
  unfold Φ subV ksub; simp only [φ_rest, φ_sub, φ_add, φ_mul]
theorem Φ_conj (x : Int × Int) : Φ (conjV x) = kconj (Φ x) := by
  unfold Φ conjV kconj; simp only [φ_rest, φ_neg]
theorem Φ_of (a b : Int) : Φ (ofV a b) = (φ a, φ b) := by unfold Φ ofV; simp only [φ_rest]

/-- A value that may be. -/
def May (x : Int × Int) : Prop := (0 ≤ x.1 ∧ x.1 < 251) ∧ 0 ≤ x.2 ∧ x.2 < 251
theorem Φ_inj {x y : Int × Int} (hx : May x) (hy : May y) (h : Φ x = Φ y) : x = y := by
  unfold Φ at h
  obtain ⟨⟨a, b⟩, c, d⟩ := hx
  obtain ⟨⟨a', b'⟩, c', d'⟩ := hy
  have h1 := φ_inj (congrArg Prod.fst h)
  have h2 := φ_inj (congrArg Prod.snd h)
  exact Prod.ext (by omega) (by omega)
theorem may_of (a b : Int) : May (ofV a b) := ⟨rest_bd a, rest_bd b⟩
theorem may_mul (x y : Int × Int) : May (mulV x y) := ⟨rest_bd _, rest_bd _⟩
theorem may_add (x y : Int × Int) : May (addV x y) := ⟨rest_bd _, rest_bd _⟩
theorem may_sub (x y : Int × Int) : May (subV x y) := ⟨rest_bd _, rest_bd _⟩
theorem may_conj (x : Int × Int) : May (conjV x) := ⟨rest_bd _, rest_bd _⟩
theorem may_zero : May (0, 0) := ⟨by decide, by decide⟩

theorem kmul_comm (x y : K) : kmul x y = kmul y x := by unfold kmul; ext1 <;> grind
theorem kmul_assoc (x y z : K) : kmul (kmul x y) z = kmul x (kmul y z) := by unfold kmul; ext1 <;> grind
theorem kmul_one (x : K) : kmul x kone = x := by unfold kmul kone; ext1 <;> grind
theorem kone_mul (x : K) : kmul kone x = x := by unfold kmul kone; ext1 <;> grind
theorem kmul_zero (x : K) : kmul x kzero = kzero := by unfold kmul kzero; ext1 <;> grind
theorem kmul_add (x y z : K) : kmul x (kadd y z) = kadd (kmul x y) (kmul x z) := by unfold kmul kadd; ext1 <;> grind

def kpow (x : K) : Nat → K
  | 0 => kone
  | n + 1 => kmul (kpow x n) x
theorem kpow_add (x : K) (m n : Nat) : kpow x (m + n) = kmul (kpow x m) (kpow x n) := by
  induction n with
  | zero => rw [Nat.add_zero, kpow, kmul_one]
  | succ n ih => rw [← Nat.add_assoc, kpow, kpow, ih, kmul_assoc]
theorem kpow_one (x : K) : kpow x 1 = x := by rw [kpow, kpow, kone_mul]
theorem kpow_mul (x : K) (m n : Nat) : kpow x (m * n) = kpow (kpow x m) n := by
  induction n with
  | zero => rfl
  | succ n ih => rw [Nat.mul_succ, kpow_add, ih, kpow]
theorem kpow_prod (x y : K) (n : Nat) : kpow (kmul x y) n = kmul (kpow x n) (kpow y n) := by
  induction n with
  | zero => rw [kpow, kpow, kpow, kmul_one]
  | succ n ih =>
    rw [kpow, kpow, kpow, ih, kmul_assoc, kmul_assoc]
    congr 1
    rw [← kmul_assoc, ← kmul_assoc, kmul_comm (kpow y n) x]
theorem kpow_kone (n : Nat) : kpow kone n = kone := by
  induction n with
  | zero => rfl
  | succ n ih => rw [kpow, ih, kmul_one]

theorem Φ_powL (o a : Int × Int) (n : Nat) : Φ (powL o a n) = kmul (Φ o) (kpow (Φ a) n) := by
  induction n using Nat.strongRecOn generalizing o a with
  | _ n ih =>
  by_cases h0 : n = 0
  · subst h0; rw [powL_zero, kpow, kmul_one]
  · have e2 : kpow (Φ (mulV a a)) (n / 2) = kpow (Φ a) (2 * (n / 2)) := by
      rw [Φ_mul, kpow_mul]
      congr 1
      rw [kpow, kpow_one]
    rcases Nat.mod_two_eq_zero_or_one n with h | h
    · rw [powL_even o a n h h0, ih (n / 2) (by omega), e2, show 2 * (n / 2) = n by omega]
    · rw [powL_odd o a n h, ih (n / 2) (by omega), e2, Φ_mul, kmul_assoc]
      congr 1
      rw [kmul_comm, ← kpow]
      show kpow (Φ a) (2 * (n / 2) + 1) = _
      rw [show 2 * (n / 2) + 1 = n by omega]
theorem may_powL (o a : Int × Int) (n : Nat) (ho : May o) : May (powL o a n) := by
  induction n using Nat.strongRecOn generalizing o a with
  | _ n ih =>
  by_cases h0 : n = 0
  · subst h0; rw [powL_zero]; exact ho
  · rcases Nat.mod_two_eq_zero_or_one n with h | h
    · rw [powL_even o a n h h0]; exact ih _ (by omega) _ _ ho
    · rw [powL_odd o a n h]; exact ih _ (by omega) _ _ (may_mul _ _)
theorem Φ_powV (x : Int × Int) (n : Int) (hn : 0 ≤ n) : Φ (powV x n) = kpow (Φ x) n.toNat := by
  unfold powV
  rw [if_neg (by omega), Φ_powL, Φ_of, Φ_of, φ_rest, φ_rest, φ_one, φ_zero]
  exact kone_mul _
theorem may_powV (x : Int × Int) (n : Int) : May (powV x n) := by
  unfold powV
  split
  · exact may_zero
  · exact may_powL _ _ _ (may_of _ _)
theorem Φ_powR (x : Int × Int) (n : Nat) : Φ (powR x n) = kpow (Φ x) n := by
  induction n using Nat.strongRecOn with
  | _ n ih =>
  by_cases h0 : n = 0
  · subst h0; rw [powR_zero, kpow]; decide
  · rcases Nat.mod_two_eq_zero_or_one n with h | h
    · rw [powR_even x n h0 h, Φ_mul, ih _ (by omega), ← kpow_add, show n / 2 + n / 2 = n by omega]
    · rw [powR_odd x n h, Φ_mul, Φ_mul, ih _ (by omega), ← kpow_add, ← kpow]
      show kpow (Φ x) (n / 2 + n / 2 + 1) = _
      rw [show n / 2 + n / 2 + 1 = n by omega]
theorem may_powR (x : Int × Int) (n : Nat) : May (powR x n) := by
  by_cases h0 : n = 0
  · subst h0; rw [powR_zero]; exact ⟨by decide, by decide⟩
  · rcases Nat.mod_two_eq_zero_or_one n with h | h
    · rw [powR_even x n h0 h]; exact may_mul _ _
    · rw [powR_odd x n h]; exact may_mul _ _

/-! ### Powers with 251 and 250 -/
def k2 (x : K) : K := kmul x x
theorem kpow_k2 (x : K) (n : Nat) : kpow (k2 x) n = kpow x (2 * n) := by
  rw [kpow_mul]; congr 1; rw [kpow, kpow_one]; rfl
def k251 (x : K) : K :=
  let a := k2 x; let b := k2 a; let c := k2 b; let d := k2 c; let e := k2 d; let f := k2 e; let g := k2 f
  kmul (kmul (kmul (kmul (kmul (kmul x a) c) d) e) f) g
theorem k251_eq (x : K) : kpow x 251 = k251 x := by
  unfold k251
  simp only
  have p (y : K) (m : Nat) (h : y = kpow x m) : k2 y = kpow x (m + m) := by rw [h, kpow_add]; rfl
  have h1 : x = kpow x 1 := (kpow_one x).symm
  have h2 := p x 1 h1
  have h4 := p _ _ h2
  have h8 := p _ _ h4
  have h16 := p _ _ h8
  have h32 := p _ _ h16
  have h64 := p _ _ h32
  have h128 := p _ _ h64
  rw [h128, h64, h32, h16, h8, h2]
  conv => rhs; rw [show kmul x (kpow x (1 + 1)) = kmul (kpow x 1) (kpow x (1 + 1)) by rw [kpow_one]]
  rw [← kpow_add, ← kpow_add, ← kpow_add, ← kpow_add, ← kpow_add, ← kpow_add]
def k250 (x : K) : K :=
  let a := k2 x; let b := k2 a; let c := k2 b; let d := k2 c; let e := k2 d; let f := k2 e; let g := k2 f
  kmul (kmul (kmul (kmul (kmul a c) d) e) f) g
theorem k250_eq (x : K) : kpow x 250 = k250 x := by
  unfold k250
  simp only
  have p (y : K) (m : Nat) (h : y = kpow x m) : k2 y = kpow x (m + m) := by rw [h, kpow_add]; rfl
  have h1 : x = kpow x 1 := (kpow_one x).symm
  have h2 := p x 1 h1
  have h4 := p _ _ h2
  have h8 := p _ _ h4
  have h16 := p _ _ h8
  have h32 := p _ _ h16
  have h64 := p _ _ h32
  have h128 := p _ _ h64
  rw [h128, h64, h32, h16, h8, h2, ← kpow_add, ← kpow_add, ← kpow_add, ← kpow_add, ← kpow_add]

theorem real_251 : ∀ a : F, k251 (a, 0) = (a, 0) := by decide +kernel
theorem unit_251 : ∀ t : F, k251 (1, t) = (1, -t) := by decide +kernel
theorem im_251 : k251 (0, 1) = (0, -1) := by decide +kernel
theorem real_250 : ∀ a : F, a = 0 ∨ k250 (a, 0) = (1, 0) := by decide +kernel
theorem norm_ne : ∀ t : F, 1 + t * t ≠ 0 := by decide +kernel

theorem inv_real (a : F) (h : a ≠ 0) : ∃ c : F, a * c = 1 := by
  have h0 := (real_250 a).resolve_left h
  have h1 : kpow (a, 0) 250 = kone := by rw [k250_eq]; exact h0
  have h2 : kmul (kpow (a, 0) 249) (a, 0) = kone := h1
  have h3 : (kpow (a, 0) 249).1 * a - (kpow (a, 0) 249).2 * 0 = 1 := congrArg Prod.fst h2
  exact ⟨(kpow (a, 0) 249).1, by grind⟩

/-- The 251st power is the conjugate. -/
theorem frob (x : K) : kpow x 251 = kconj x := by
  obtain ⟨a, b⟩ := x
  by_cases h : a = 0
  · subst h
    have e : ((0, b) : K) = kmul (b, 0) (0, 1) := by unfold kmul; ext1 <;> grind
    rw [e, kpow_prod, k251_eq, k251_eq, real_251, im_251]
    unfold kmul kconj; ext1 <;> grind
  · obtain ⟨c, hc⟩ := inv_real a h
    have e : ((a, b) : K) = kmul (a, 0) (1, b * c) := by unfold kmul; ext1 <;> grind
    rw [e, kpow_prod, k251_eq, k251_eq, real_251, unit_251]
    unfold kmul kconj; ext1 <;> grind

def knorm (x : K) : F := x.1 * x.1 + x.2 * x.2
theorem conj_mul (x : K) : kmul (kconj x) x = (knorm x, 0) := by unfold kmul kconj knorm; ext1 <;> grind
theorem knorm_ne {x : K} (h : x ≠ kzero) : knorm x ≠ 0 := by
  obtain ⟨a, b⟩ := x
  unfold knorm
  intro h0
  simp only at h0
  by_cases ha : a = 0
  · subst ha
    have hb : b ≠ 0 := fun hb => h (by subst hb; rfl)
    obtain ⟨c, hc⟩ := inv_real b hb
    have : (1 : F) = 0 := by
      have e : (b * c) * (b * c) = (b * b) * (c * c) := by grind
      have e2 : b * b = 0 := by grind
      rw [hc, e2] at e
      grind
    exact absurd this (by decide)
  · obtain ⟨c, hc⟩ := inv_real a ha
    apply norm_ne (b * c)
    have e : 1 + (b * c) * (b * c) = (a * a + b * b) * (c * c) := by
      have : (a * c) * (a * c) = 1 := by rw [hc]; grind
      grind
    rw [e, h0]; grind

theorem kpow_63000 {x : K} (h : x ≠ kzero) : kpow x 63000 = kone := by
  have h1 : kpow x 252 = (knorm x, 0) := by
    rw [show 252 = 251 + 1 from rfl, kpow, frob, conj_mul]
  rw [show 63000 = 252 * 250 from rfl, kpow_mul, h1, k250_eq]
  exact (real_250 _).resolve_left (knorm_ne h)
/-- The inverse. -/
def kinv (x : K) : K := kpow x 62999
theorem kinv_mul {x : K} (h : x ≠ kzero) : kmul (kinv x) x = kone := by
  show kpow x (62999 + 1) = kone
  exact kpow_63000 h
theorem kcancel {x y z : K} (hz : z ≠ kzero) (h : kmul x z = kmul y z) : x = y := by
  have e (u : K) : u = kmul (kmul u z) (kinv z) := by rw [kmul_assoc, kmul_comm z, kinv_mul hz, kmul_one]
  rw [e x, e y, h]

/-! ### What the statements ask -/
theorem zero_iff {x : Int × Int} (hx : May x) : x = (0, 0) ↔ Φ x = kzero := by
  constructor
  · rintro rfl; decide
  · intro h; exact Φ_inj hx may_zero (by rw [h]; decide)
theorem isZ_iff (y : Int × Int) : isZ y = true ↔ Φ y = kzero := by
  unfold isZ
  rw [decide_eq_true_iff]
  unfold Φ kzero
  constructor
  · rintro ⟨h1, h2⟩
    rw [← φ_rest, h1, ← φ_rest y.2, h2]; decide
  · intro h
    have h1 := φ_inj ((congrArg Prod.fst h).trans φ_zero.symm)
    have h2 := φ_inj ((congrArg Prod.snd h).trans φ_zero.symm)
    exact ⟨by unfold rest; omega, by unfold rest; omega⟩
theorem isZ_false (y : Int × Int) : isZ y = false ↔ Φ y ≠ kzero := by
  rw [← Bool.not_eq_true]; exact not_congr (isZ_iff y)
theorem may_div (x y : Int × Int) : May (divV x y) := by
  unfold divV; split
  · exact may_zero
  · exact may_mul _ _
theorem Φ_div (x y : Int × Int) (h : Φ y ≠ kzero) : Φ (divV x y) = kmul (Φ x) (kinv (Φ y)) := by
  unfold divV
  rw [if_neg (by rw [(isZ_false y).2 h]; exact Bool.false_ne_true), Φ_mul, Φ_powV _ _ (by omega)]; rfl
theorem div_zero (x y : Int × Int) (h : Φ y = kzero) : divV x y = (0, 0) := by
  unfold divV; rw [if_pos ((isZ_iff y).2 h)]
theorem may_red {x : Int × Int} (hx : May x) : red x = x := by
  obtain ⟨⟨a, b⟩, c, d⟩ := hx
  unfold red rest; exact Prod.ext (by simp only; omega) (by simp only; omega)
theorem mayR_iff (x : Int × Int) : mayR x = true ↔ May x := by
  unfold mayR May; rw [decide_eq_true_iff]; constructor <;> (intro h; omega)
theorem one_eq : Φ (ofV 1 0) = kone := by decide

theorem normR_zero (y : Int × Int) : normR y = 0 ↔ Φ y = kzero := by
  have e : φ (normR y) = knorm (Φ y) := by
    unfold normR knorm Φ; simp only [φ_rest, φ_add, φ_mul]
  constructor
  · intro h
    apply Classical.byContradiction
    intro hn
    apply knorm_ne hn
    rw [← e, h]; decide
  · intro h
    have : knorm (Φ y) = 0 := by rw [h]; decide
    rw [← e] at this
    have h1 := φ_inj (this.trans φ_zero.symm)
    have h2 := rest_bd (rest y.1 * rest y.1 + rest y.2 * rest y.2)
    have h3 : 0 ≤ normR y ∧ normR y < 251 := h2
    omega
theorem inv_exists {n r : Int} (h0 : 0 < n) (h1 : n < 251) (h : InvP n r) : φ n * φ r = 1 := by
  rcases h with ⟨_, _, h⟩ | ⟨_, h⟩
  · rw [← φ_mul, ← φ_one]; exact φ_ext h
  · exfalso
    obtain ⟨c, hc⟩ := inv_real (φ n) (fun e => by have := φ_inj (e.trans φ_zero.symm); omega)
    have hcv : φ (c.val : Int) = c := by
      apply Fin.ext
      have := φ_val (c.val : Int)
      have := c.isLt
      omega
    have hne : c.val ≠ 0 := fun e => by
      have : c = 0 := Fin.ext e
      subst this
      exact absurd hc (by rw [show φ n * 0 = 0 by grind]; decide)
    apply h c.val (by omega) (by have := c.isLt; omega)
    rw [← hcv, ← φ_mul, ← φ_one] at hc
    exact φ_inj hc
/-- Both quotients are the same. -/
theorem divs (x y : Int × Int) (k : Int) (hn : normR y ≠ 0) (hk : InvP (normR y) k) : ofV ((mulV x (conjV (ofV y.1 y.2))).1 * k) ((mulV x (conjV (ofV y.1 y.2))).2 * k) = divV x y := by
  have hz : Φ y ≠ kzero := fun e => hn ((normR_zero y).2 e)
  have hb : 0 ≤ normR y ∧ normR y < 251 := rest_bd _
  have hi := inv_exists (by omega) hb.2 hk
  have e : φ (normR y) = knorm (Φ y) := by
    unfold normR knorm Φ; simp only [φ_rest, φ_add, φ_mul]
  refine Φ_inj (may_of _ _) (may_div _ _) ?_
  rw [Φ_div _ _ hz]
  have h1 : Φ (ofV ((mulV x (conjV (ofV y.1 y.2))).1 * k) ((mulV x (conjV (ofV y.1 y.2))).2 * k)) = kmul (kmul (Φ x) (kconj (Φ y))) (φ k, 0) := by
    have h2 : kmul (Φ x) (kconj (Φ y)) = Φ (mulV x (conjV (ofV y.1 y.2))) := by
      rw [Φ_mul, Φ_conj, Φ_of]; rfl
    rw [h2]
    unfold Φ ofV kmul
    simp only [φ_rest, φ_mul]
    ext1 <;> grind
  rw [h1]
  refine kcancel hz ?_
  rw [kmul_assoc (Φ x) (kinv (Φ y)), kinv_mul hz, kmul_one, kmul_assoc, kmul_assoc, kmul_comm (φ k, 0), ← kmul_assoc (kconj (Φ y)), conj_mul]
  have h3 : kmul ((knorm (Φ y), 0) : K) (φ k, 0) = kone := by
    rw [← e]; unfold kmul kone; ext1 <;> grind
  rw [h3, kmul_one]
theorem pows (x : Int × Int) (n : Int) : powV x n = powRI x n := by
  unfold powRI
  split
  · unfold powV; rw [if_pos ‹_›]
  · refine Φ_inj (may_powV _ _) (may_powR _ _) ?_
    rw [Φ_powV _ _ (by omega), Φ_powR]
theorem text_inj {x y : Int × Int} (hx : May x) (hy : May y) (h : Φ x = Φ y) : x = y := Φ_inj hx hy h
end Go.Proofs.YtepagnaabncllaaDoor.Pure
