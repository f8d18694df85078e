/-
  Floats of small whole numbers: sums, differences and products of them are exact. Plain Lean: no program in sight.
-/
import Derived.Laws.ComplexArith
namespace Go.Proofs.YtepagnaabncllaaDoor.Fl
open Go Ieee

/-- The word x stands for the whole number n (a zero is the positive one). -/
def Is (x : Nat) (n : Int) : Prop := ∃ q : Nat, double.read x = .number (decide (n < 0)) (n.natAbs * 2 ^ q) (-(q : Int))

theorem shl_eq (a b : Nat) : a <<< b = a * 2 ^ b := Nat.shiftLeft_eq a b

theorem cut_none (neg : Bool) (n : Nat) : Toward.even.cut neg n 0 = n := by
  simp [Toward.cut, Nat.mod_one]

theorem cut_exact (way : Toward) (neg : Bool) (m k drop : Nat) (hd : drop ≤ k) (hm : 0 < m) : way.cut neg (m * 2 ^ k) drop = m * 2 ^ (k - drop) := by
  have h1 : k ≤ (m * 2 ^ k).log2 := by
    rw [Nat.le_log2 (by have := Nat.two_pow_pos k; exact Nat.ne_of_gt (Nat.mul_pos hm this))]
    exact Nat.le_mul_of_pos_left _ hm
  have h2 : min drop ((m * 2 ^ k).log2 + 2) = drop := by omega
  have h3 : m * 2 ^ k = (m * 2 ^ (k - drop)) * 2 ^ drop := by
    rw [Nat.mul_assoc, ← Nat.pow_add]; congr 2; omega
  have h4 : m * 2 ^ k / 2 ^ drop = m * 2 ^ (k - drop) := by
    rw [h3]; exact Nat.mul_div_cancel _ (Nat.two_pow_pos _)
  have h5 : m * 2 ^ k % 2 ^ drop = 0 := by
    rw [h3]; exact Nat.mul_mod_left _ _
  have h6 := Nat.two_pow_pos drop
  unfold Toward.cut
  simp only [h2, shl_eq, Nat.one_mul, h4, h5]
  cases way <;> simp <;> omega

theorem log2_mul_pow (m k : Nat) (hm : 0 < m) : (m * 2 ^ k).log2 = m.log2 + k := by
  have hp := Nat.two_pow_pos k
  have hne : m * 2 ^ k ≠ 0 := Nat.ne_of_gt (Nat.mul_pos hm hp)
  apply Nat.le_antisymm
  · have : (m * 2 ^ k).log2 < m.log2 + k + 1 := by
      rw [Nat.log2_lt hne]
      have h1 : m < 2 ^ (m.log2 + 1) := Nat.lt_log2_self
      calc m * 2 ^ k < 2 ^ (m.log2 + 1) * 2 ^ k := Nat.mul_lt_mul_of_pos_right h1 hp
        _ = 2 ^ (m.log2 + k + 1) := by rw [← Nat.pow_add]; congr 1; omega
    omega
  · rw [Nat.le_log2 hne]
    have h1 : 2 ^ m.log2 ≤ m := Nat.log2_self_le (Nat.ne_of_gt hm)
    calc 2 ^ (m.log2 + k) = 2 ^ m.log2 * 2 ^ k := Nat.pow_add _ _ _
      _ ≤ m * 2 ^ k := Nat.mul_le_mul_right _ h1

theorem log2_small (m : Nat) (hm : 0 < m) (h : m < 2 ^ 53) : m.log2 ≤ 52 := by
  have := (Nat.log2_lt (Nat.ne_of_gt hm)).2 h
  omega

theorem binade_eq : double.binade = 4503599627370496 := rfl
theorem least_eq : double.leastPlace = -1074 := by decide
theorem frac_eq : double.fractionBits = 52 := rfl
theorem inf_eq : double.infRung = 9218868437227405312 := by decide
theorem sign_eq : double.signWeight = 9223372036854775808 := by decide

/-- The word of m, however it is written. -/
def rung (m : Nat) : Nat := (m.log2 + 1022) * 4503599627370496 + m * 2 ^ (52 - m.log2)

theorem mant (m : Nat) (hm : 0 < m) (h : m < 2 ^ 53) : 4503599627370496 ≤ m * 2 ^ (52 - m.log2) ∧ m * 2 ^ (52 - m.log2) < 9007199254740992 := by
  have hl := log2_small m hm h
  have h1 : 2 ^ m.log2 ≤ m := Nat.log2_self_le (Nat.ne_of_gt hm)
  have h2 : m < 2 ^ (m.log2 + 1) := Nat.lt_log2_self
  have hp := Nat.two_pow_pos (52 - m.log2)
  constructor
  · calc 4503599627370496 = 2 ^ m.log2 * 2 ^ (52 - m.log2) := by rw [← Nat.pow_add, show m.log2 + (52 - m.log2) = 52 by omega]
      _ ≤ m * 2 ^ (52 - m.log2) := Nat.mul_le_mul_right _ h1
  · calc m * 2 ^ (52 - m.log2) < 2 ^ (m.log2 + 1) * 2 ^ (52 - m.log2) := Nat.mul_lt_mul_of_pos_right h2 hp
      _ = 9007199254740992 := by rw [← Nat.pow_add, show m.log2 + 1 + (52 - m.log2) = 53 by omega]

theorem nearest_eq (neg : Bool) (m q : Nat) (hm : 0 < m) (h : m < 2 ^ 53) : double.nearest neg (m * 2 ^ q) (-(q : Int)) = double.word neg (rung m) := by
  have hl := log2_small m hm h
  have hne : m * 2 ^ q ≠ 0 := Nat.ne_of_gt (Nat.mul_pos hm (Nat.two_pow_pos q))
  obtain ⟨hm1, hm2⟩ := mant m hm h
  unfold Format.nearest
  rw [if_neg hne, log2_mul_pow m q hm, frac_eq, least_eq, inf_eq, binade_eq]
  have hlast : max (-(q : Int) + ((m.log2 + q : Nat) : Int) - ((52 : Nat) : Int)) (-1074) = (m.log2 : Int) - 52 := by omega
  simp only [hlast]
  have hk : Toward.even.cut neg ((m * 2 ^ q) <<< (-(q : Int) - ((m.log2 : Int) - 52)).toNat) ((m.log2 : Int) - 52 - (-(q : Int))).toNat = m * 2 ^ (52 - m.log2) := by
    by_cases hq : q ≤ 52 - m.log2
    · rw [show ((m.log2 : Int) - 52 - (-(q : Int))).toNat = 0 by omega, cut_none, shl_eq, Nat.mul_assoc, ← Nat.pow_add]
      congr 2; omega
    · rw [show (-(q : Int) - ((m.log2 : Int) - 52)).toNat = 0 by omega, Nat.shiftLeft_zero, cut_exact _ _ _ _ _ (by omega) hm]
      congr 2; omega
  rw [hk]
  congr 1
  unfold rung
  rw [show ((m.log2 : Int) - 52 - -1074).toNat = m.log2 + 1022 by omega]
  exact Nat.min_eq_left (by omega)

theorem nearest_zero (neg : Bool) (p : Int) : double.nearest neg 0 p = double.word neg 0 := by
  unfold Format.nearest; simp

theorem read_word (neg : Bool) (m : Nat) (hm : 0 < m) (h : m < 2 ^ 53) : double.read (double.word neg (rung m)) = .number neg (m * 2 ^ (52 - m.log2)) ((m.log2 : Int) - 52) := by
  have hl := log2_small m hm h
  obtain ⟨hm1, hm2⟩ := mant m hm h
  have hr : rung m = (m.log2 + 1022) * 4503599627370496 + m * 2 ^ (52 - m.log2) := rfl
  generalize m * 2 ^ (52 - m.log2) = t at *
  generalize m.log2 = L at *
  generalize rung m = r at *
  have hw : double.word neg r = if neg then 9223372036854775808 + r else r := rfl
  have h1 : (double.word neg r / 9223372036854775808 % 2 == 1) = neg := by
    rw [hw]; cases neg
    · simp; omega
    · simp; omega
  have h2 : double.word neg r % 9223372036854775808 = r := by
    rw [hw]; cases neg
    · simp; omega
    · simp; omega
  unfold Format.read
  simp only [sign_eq, h1, h2, binade_eq, inf_eq, least_eq]
  rw [if_neg (by omega), if_pos (by omega)]
  congr 1
  · omega
  · omega

theorem read_zero : double.read 0 = .number false 0 (-1074) := by decide

/-- The word of a whole number. -/
def fl (n : Int) : Nat := double.nearest (decide (n < 0)) n.natAbs 0

theorem is_fl (n : Int) (h : n.natAbs < 2 ^ 53) : Is (fl n) n := by
  unfold Is fl
  by_cases h0 : n = 0
  · subst h0
    refine ⟨1074, ?_⟩
    simp only [Int.natAbs_zero, nearest_zero, Nat.zero_mul]
    exact read_zero
  · have hp : 0 < n.natAbs := by omega
    have hl := log2_small _ hp h
    have e := nearest_eq (decide (n < 0)) n.natAbs 0 hp h
    simp only [Nat.pow_zero, Nat.mul_one, Int.natCast_zero, Int.neg_zero] at e
    refine ⟨52 - n.natAbs.log2, ?_⟩
    rw [e, read_word _ _ hp h]
    congr 1
    omega

theorem write_is (n : Int) (q : Nat) (h : n.natAbs < 2 ^ 53) : double.write (.number (decide (n < 0)) (n.natAbs * 2 ^ q) (-(q : Int))) = fl n := by
  unfold fl Format.write
  by_cases h0 : n = 0
  · subst h0; simp [nearest_zero]
  · have hp : 0 < n.natAbs := by omega
    have e := nearest_eq (decide (n < 0)) n.natAbs 0 hp h
    simp only [Nat.pow_zero, Nat.mul_one, Int.natCast_zero, Int.neg_zero] at e
    simp only [nearest_eq _ _ q hp h, e]

theorem signed_eq (a : Int) (q D : Nat) (h : q ≤ D) : signed (decide (a < 0)) (a.natAbs * 2 ^ q) (D - q) = a * 2 ^ D := by
  unfold signed
  rw [shl_eq, Nat.mul_assoc, ← Nat.pow_add, show q + (D - q) = D by omega]
  by_cases ha : a < 0
  · simp only [ha, decide_true, if_true]
    have : (a.natAbs : Int) = -a := by omega
    push_cast
    rw [this, Int.neg_mul, Int.neg_neg]
  · simp only [ha, decide_false]
    have : (a.natAbs : Int) = a := by omega
    push_cast
    rw [this]

theorem signed_opp (a : Int) (q D : Nat) (h : q ≤ D) : signed (!decide (a < 0)) (a.natAbs * 2 ^ q) (D - q) = -(a * 2 ^ D) := by
  have := signed_eq a q D h
  rw [← this]
  unfold signed
  cases decide (a < 0) <;> simp

theorem total (n : Int) (D : Nat) (b : Bool) (hb : n = 0 → b = false) : Datum.number (if n * 2 ^ D = 0 then b else decide (n * 2 ^ D < 0)) (n * 2 ^ D).natAbs (-(D : Int)) = .number (decide (n < 0)) (n.natAbs * 2 ^ D) (-(D : Int)) := by
  have hp : (0 : Int) < 2 ^ D := by exact_mod_cast Nat.two_pow_pos D
  congr 1
  · by_cases h0 : n = 0
    · subst h0; simp [hb rfl]
    · have h1 : n * 2 ^ D ≠ 0 := Int.mul_ne_zero h0 (Int.ne_of_gt hp)
      rw [if_neg h1]
      by_cases h : n < 0
      · simp [h, Int.mul_neg_of_neg_of_pos h hp]
      · have : 0 ≤ n * 2 ^ D := Int.mul_nonneg (by omega) (by omega)
        simp only [h, decide_false, decide_eq_false_iff_not]; omega
  · rw [Int.natAbs_mul, Int.natAbs_pow]; rfl

theorem add_is {x y : Nat} {a b : Int} (hx : Is x a) (hy : Is y b) (h : (a + b).natAbs < 2 ^ 53) : double.add x y = some (fl (a + b)) := by
  obtain ⟨p, hp⟩ := hx
  obtain ⟨q, hq⟩ := hy
  unfold Format.add
  rw [hp, hq]
  simp only [Datum.sum, Option.map_some]
  have hb : min (-(p : Int)) (-(q : Int)) = -((max p q : Nat) : Int) := by omega
  simp only [hb]
  rw [show (-(p : Int) - -((max p q : Nat) : Int)).toNat = max p q - p by omega, show (-(q : Int) - -((max p q : Nat) : Int)).toNat = max p q - q by omega,
    signed_eq a p _ (by omega), signed_eq b q _ (by omega), ← Int.add_mul, total _ _ _ (by intro h0; simp; omega), write_is _ _ h]

theorem sub_is {x y : Nat} {a b : Int} (hx : Is x a) (hy : Is y b) (h : (a - b).natAbs < 2 ^ 53) : double.sub x y = some (fl (a - b)) := by
  obtain ⟨p, hp⟩ := hx
  obtain ⟨q, hq⟩ := hy
  unfold Format.sub
  rw [hp, hq]
  simp only [Datum.opposite, Datum.sum, Option.map_some]
  have hb : min (-(p : Int)) (-(q : Int)) = -((max p q : Nat) : Int) := by omega
  simp only [hb]
  rw [show (-(p : Int) - -((max p q : Nat) : Int)).toNat = max p q - p by omega, show (-(q : Int) - -((max p q : Nat) : Int)).toNat = max p q - q by omega,
    signed_eq a p _ (by omega), signed_opp b q _ (by omega), ← Int.sub_eq_add_neg, ← Int.sub_mul, total _ _ _ (by intro h0; simp; omega), write_is _ _ h]

theorem mul_is {x y : Nat} {a b : Int} (hx : Is x a) (hy : Is y b) (ha : 0 ≤ a) (hb : 0 ≤ b) (h : (a * b).natAbs < 2 ^ 53) : double.mul x y = some (fl (a * b)) := by
  obtain ⟨p, hp⟩ := hx
  obtain ⟨q, hq⟩ := hy
  unfold Format.mul
  rw [hp, hq]
  have hab : 0 ≤ a * b := Int.mul_nonneg ha hb
  rw [← write_is _ (p + q) h]
  simp only [Datum.product, Option.map_some]
  congr 2
  have e1 : decide (a < 0) = false := by simp; omega
  have e2 : decide (b < 0) = false := by simp; omega
  have e3 : decide (a * b < 0) = false := by simp; omega
  rw [e1, e2, e3, Int.natAbs_mul, Nat.pow_add, show -(p : Int) + -(q : Int) = -((p + q : Nat) : Int) by omega]
  congr 1
  ac_rfl

theorem int_is {x : Nat} {n : Int} (hx : ∃ (s : Bool) (q : Nat), (n ≠ 0 → s = decide (n < 0)) ∧ double.read x = .number s (n.natAbs * 2 ^ q) (-(q : Int))) (h : n.natAbs < 2 ^ 53) : floatToIntVal .f64 x .i64 = some n := by
  obtain ⟨s, q, hs, hq⟩ := hx
  have hd : FloatKind.f64.decode x = .number s (n.natAbs * 2 ^ q) (-(q : Int)) := hq
  have hi : (Datum.number s (n.natAbs * 2 ^ q) (-(q : Int))).toInt .zero = some n := by
    simp only [Datum.toInt, Datum.integral]
    rw [show (-(q : Int)).toNat = 0 by omega, show (-(-(q : Int))).toNat = q by omega, Nat.shiftLeft_zero]
    by_cases h0 : n = 0
    · subst h0
      simp [Toward.cut, signed]
    · rw [cut_exact _ _ _ _ _ (Nat.le_refl q) (by omega), Nat.sub_self, Nat.pow_zero, Nat.mul_one, hs h0]
      have := signed_eq n 0 0 (Nat.le_refl 0)
      simpa using this
  unfold floatToIntVal
  rw [hd, hi]
  have h1 : IntKind.i64.min = -9223372036854775808 := by decide
  have h2 : IntKind.i64.max = 9223372036854775807 := by decide
  simp only [h1, h2]
  rw [if_pos (by omega)]

theorem neg_all : (List.range 251).all (fun n => floatToIntVal .f64 (Op.negFloat .f64 (fl n)) .i64 == some (-(n : Int))) = true := by decide +kernel
theorem neg_is (n : Int) (h0 : 0 ≤ n) (h : n < 251) : floatToIntVal .f64 (Op.negFloat .f64 (fl n)) .i64 = some (-n) := by
  have := List.all_eq_true.1 neg_all n.toNat (List.mem_range.2 (by omega))
  rw [Int.toNat_of_nonneg h0] at this
  exact beq_iff_eq.1 this

theorem zero_all : (List.range 251).all (fun n => (double.order (fl n) 0 == some .eq) == decide (n = 0)) = true := by decide +kernel
theorem zero_ord (n : Int) (h : 0 ≤ n ∧ n < 251) : (FloatKind.f64.format.order (fl n) 0 == some .eq) = decide (n = 0) := by
  have := List.all_eq_true.1 zero_all n.toNat (List.mem_range.2 (by omega))
  rw [Int.toNat_of_nonneg h.1] at this
  rw [show FloatKind.f64.format = double from rfl, beq_iff_eq.1 this]
  have : n.toNat = 0 ↔ n = 0 := by omega
  simp [this]

theorem int_fl (n : Int) (h : n.natAbs < 2 ^ 53) : floatToIntVal .f64 (fl n) .i64 = some n := by
  obtain ⟨q, hq⟩ := is_fl n h
  exact int_is ⟨decide (n < 0), q, fun _ => rfl, hq⟩ h

theorem lt53 {n m : Int} (h1 : -1000000 ≤ n) (h2 : n ≤ 1000000) (_ : m = m) : n.natAbs < 2 ^ 53 := by
  have : (2 : Nat) ^ 53 = 9007199254740992 := by decide
  omega

theorem prod_bd {a b : Int} (ha : 0 ≤ a) (ha' : a < 251) (hb : 0 ≤ b) (hb' : b < 251) : 0 ≤ a * b ∧ a * b ≤ 62500 :=
  ⟨Int.mul_nonneg ha hb, Int.le_trans (Int.mul_le_mul_of_nonneg_left (by omega : b ≤ 250) ha) (by omega)⟩

theorem cAdd_fl {a b c d : Int} (ha : 0 ≤ a ∧ a < 251) (hb : 0 ≤ b ∧ b < 251) (hc : 0 ≤ c ∧ c < 251) (hd : 0 ≤ d ∧ d < 251) :
    cSumBits .add .f64 (fl a) (fl b) (fl c) (fl d) = some (fl (a + c), fl (b + d)) := by
  have e (n : Int) (h : 0 ≤ n ∧ n < 251) := is_fl n (lt53 (m := 0) (by omega) (by omega) rfl)
  unfold cSumBits floatBits
  simp only [FloatKind.format]
  rw [add_is (e a ha) (e c hc) (lt53 (m := 0) (by omega) (by omega) rfl), add_is (e b hb) (e d hd) (lt53 (m := 0) (by omega) (by omega) rfl)]
  rfl

theorem cSub_fl {a b c d : Int} (ha : 0 ≤ a ∧ a < 251) (hb : 0 ≤ b ∧ b < 251) (hc : 0 ≤ c ∧ c < 251) (hd : 0 ≤ d ∧ d < 251) :
    cSumBits .sub .f64 (fl a) (fl b) (fl c) (fl d) = some (fl (a - c), fl (b - d)) := by
  have e (n : Int) (h : 0 ≤ n ∧ n < 251) := is_fl n (lt53 (m := 0) (by omega) (by omega) rfl)
  unfold cSumBits floatBits
  simp only [FloatKind.format]
  rw [sub_is (e a ha) (e c hc) (lt53 (m := 0) (by omega) (by omega) rfl), sub_is (e b hb) (e d hd) (lt53 (m := 0) (by omega) (by omega) rfl)]
  rfl

theorem cMul_fl {a b c d : Int} (ha : 0 ≤ a ∧ a < 251) (hb : 0 ≤ b ∧ b < 251) (hc : 0 ≤ c ∧ c < 251) (hd : 0 ≤ d ∧ d < 251) :
    cMulBits (fl a) (fl b) (fl c) (fl d) = some (fl (a * c - b * d), fl (a * d + b * c)) := by
  have e (n : Int) (h : 0 ≤ n ∧ n ≤ 62500) := is_fl n (lt53 (m := 0) (by omega) (by omega) rfl)
  have ac := prod_bd ha.1 ha.2 hc.1 hc.2
  have bd := prod_bd hb.1 hb.2 hd.1 hd.2
  have ad := prod_bd ha.1 ha.2 hd.1 hd.2
  have bc := prod_bd hb.1 hb.2 hc.1 hc.2
  unfold cMulBits floatBits
  simp only [FloatKind.format]
  rw [mul_is (e a (by omega)) (e c (by omega)) ha.1 hc.1 (lt53 (m := 0) (by omega) (by omega) rfl), mul_is (e b (by omega)) (e d (by omega)) hb.1 hd.1 (lt53 (m := 0) (by omega) (by omega) rfl),
    mul_is (e a (by omega)) (e d (by omega)) ha.1 hd.1 (lt53 (m := 0) (by omega) (by omega) rfl), mul_is (e b (by omega)) (e c (by omega)) hb.1 hc.1 (lt53 (m := 0) (by omega) (by omega) rfl)]
  simp only [Option.bind_some]
  rw [sub_is (e _ ac) (e _ bd) (lt53 (m := 0) (by omega) (by omega) rfl), add_is (e _ ad) (e _ bc) (lt53 (m := 0) (by omega) (by omega) rfl)]
  rfl

theorem zero_iff (n : Int) (h : 0 ≤ n ∧ n < 251) : fl n = 0 ↔ n = 0 := by
  constructor
  · intro h0
    have h1 := int_fl n (lt53 (m := 0) (by omega) (by omega) rfl)
    have h2 := int_fl 0 (lt53 (m := 0) (by omega) (by omega) rfl)
    have e : fl 0 = 0 := nearest_zero false 0
    rw [h0] at h1
    rw [e, h1] at h2
    exact Option.some.inj h2
  · rintro rfl; exact nearest_zero false 0

theorem floatOfInt_eq (n : Int) : floatOfInt .f64 n = fl n := rfl
end Go.Proofs.YtepagnaabncllaaDoor.Fl
