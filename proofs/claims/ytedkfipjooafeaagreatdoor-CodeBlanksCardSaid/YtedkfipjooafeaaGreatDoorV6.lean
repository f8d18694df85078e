/-
  Bytes that a program's begin with are none, but all of them. Texts with a blank more, or without the last byte, are no program's.
-/
import Derived.Test.YtedkfipjooafeaaGreatDoorV3
import Derived.Test.YtedkfipjooafeaaGreatDoorV4
set_option linter.unusedSimpArgs false
set_option linter.unusedVariables false
set_option linter.unusedSimpArgs false
set_option linter.unusedVariables false
namespace Go.Proofs.YtedkfipjooafeaaGreatDoor.Code
open Go Go.RowKit Go.Proofs.YtedkfipjooafeaaGreatDoor Go.Proofs.YtedkfipjooafeaaGreatDoor.Op Go.Proofs.YtedkfipjooafeaaGreatDoor.Wire

theorem getA_pos {l : B} {k acc m j : Nat} (h : getA l k acc = .ok (m, j)) : k + 1 ≤ j := by
  cases l with
  | nil => simp [getA] at h
  | cons c r =>
    unfold getA at h
    split at h
    · cases h
    · split at h
      · split at h
        · cases h
        · injection h with h
          injection h with _ h
          omega
      · have := getA_len _ _ _ _ _ h
        omega
theorem getA_take : ∀ (l : B) (k acc m j : Nat), getA l k acc = .ok (m, j) → ∀ t, (j ≤ k + t → getA (l.take t) k acc = .ok (m, j)) ∧ (k + t < j → getA (l.take t) k acc = .error 10)
  | [], k, acc, m, j, h, t => by simp [getA] at h
  | c :: r, k, acc, m, j, h, 0 => by
    have := getA_pos h
    exact ⟨fun hj => by omega, fun _ => rfl⟩
  | c :: r, k, acc, m, j, h, t + 1 => by
    rw [List.take_succ_cons]
    unfold getA at h ⊢
    split
    · rename_i hw; rw [if_pos hw] at h; cases h
    · rename_i hw
      rw [if_neg hw] at h
      split
      · rename_i h128
        rw [if_pos h128] at h
        split
        · rename_i hz; rw [if_pos hz] at h; cases h
        · rename_i hz
          rw [if_neg hz] at h
          refine ⟨fun _ => h, fun hj => ?_⟩
          injection h with h
          injection h with _ h
          omega
      · rename_i h128
        rw [if_neg h128] at h
        have := getA_take r _ _ _ _ h t
        exact ⟨fun hj => this.1 (by omega), fun hj => this.2 (by omega)⟩
theorem numS_get {s : B} {lo hi n : Int} {i j : Nat} (h : numS s lo hi i 0 = (n, j, 0)) : ∃ m k, getA (s.drop i) 0 0 = .ok (m, k) ∧ n = (m : Int) ∧ j = i + k := by
  cases hg : getA (s.drop i) 0 0 with
  | error x =>
    exfalso
    obtain ⟨_, _, hd, _, h0⟩ := numS_back h
    unfold numS at h
    rw [if_neg (by simp), hg] at h
    simp only [Prod.mk.injEq] at h
    have hx := (mustE_zero h.2.2).1
    subst hx
    have kk : ∀ (l : B) (k acc : Nat) (x : Int), getA l k acc = .error x → x ≠ 0 := by
      intro l
      induction l with
      | nil => intro k acc x h; simp [getA] at h; omega
      | cons c r ih =>
        intro k acc x h
        unfold getA at h
        split at h
        · injection h with h; omega
        · split at h
          · split at h
            · injection h with h; omega
            · cases h
          · exact ih _ _ _ h
    exact kk _ _ _ _ hg rfl
  | ok r =>
    obtain ⟨m, k⟩ := r
    unfold numS at h
    rw [if_neg (by simp), hg] at h
    simp only [Prod.mk.injEq] at h
    exact ⟨m, k, rfl, h.1.symm, h.2.1.symm⟩
theorem numS_take {s : B} {lo hi n : Int} {i j : Nat} (K : Nat) (h : numS s lo hi i 0 = (n, j, 0)) : (j ≤ K → numS (s.take K) lo hi i 0 = (n, j, 0)) ∧ (i ≤ K → K < j → (numS (s.take K) lo hi i 0).2.2 = 10) := by
  obtain ⟨m, k, hg, hn, hj⟩ := numS_get h
  have ht := getA_take _ _ _ _ _ hg (K - i)
  have hd : (s.take K).drop i = (s.drop i).take (K - i) := List.drop_take
  have hb := (numS_back h).2.1
  have hp := getA_pos hg
  refine ⟨fun hK => ?_, fun hi' hK => ?_⟩
  · unfold numS
    rw [if_neg (by simp), hd, ht.1 (by omega)]
    simp only
    rw [← hn, hb, hj]
    rfl
  · unfold numS
    rw [if_neg (by simp), hd, ht.2 (by omega)]
    show mustE 10 (inB 0 lo hi) = 10
    exact mustE_ne (by decide)
theorem opS_take {s : B} {o : Int} {i j : Nat} (K : Nat) (h : opS s i 0 = (o, j, 0)) : (j ≤ K → opS (s.take K) i 0 = (o, j, 0)) ∧ (i ≤ K → K < j → (opS (s.take K) i 0).2.2 = 10) ∧ j = i + 1 := by
  unfold opS at h
  rw [if_neg (by simp)] at h
  cases hc : s[i]? with
  | none => rw [hc] at h; simp at h
  | some c =>
    rw [hc] at h
    simp only [Prod.mk.injEq] at h
    obtain ⟨h1, h2, h3⟩ := h
    refine ⟨fun hK => ?_, fun hi hK => ?_, h2.symm⟩
    · unfold opS
      rw [if_neg (by simp), List.getElem?_take, if_pos (by omega), hc]
      simp only [h1, h2, h3]
    · unfold opS
      rw [if_neg (by simp), List.getElem?_take, if_neg (by omega)]
theorem stepS_take {s : B} {k : Nat} {x y : Ins} {i j : Nat} (K : Nat) (h : stepS s k (x, i, 0) = (y, j, 0)) : (j ≤ K → stepS (s.take K) k (x, i, 0) = (y, j, 0)) ∧ (i ≤ K → K < j → (stepS (s.take K) k (x, i, 0)).2.2 = 10) ∧ i ≤ j := by
  obtain ⟨hy, _, hk⟩ := stepS_back h
  rcases hk with ⟨hk, n, hyn, hd, hj, h0⟩ | ⟨hk, rfl, rfl⟩
  · unfold stepS fieldS at h
    rw [if_pos hk] at h
    simp only [Prod.mk.injEq] at h
    obtain ⟨h1, h2, h3⟩ := h
    obtain ⟨n', j', f', hr⟩ : ∃ n j' f', numS s 0 281474976710655 i 0 = (n, j', f') := ⟨_, _, _, rfl⟩
    rw [hr] at h1 h2 h3
    simp only at h1 h2 h3
    have hz := mustE_zero h3
    rw [hz.1] at hr h3
    subst h2
    have ht := numS_take K hr
    refine ⟨fun hK => ?_, fun hi hK => ?_, by omega⟩
    · unfold stepS fieldS
      rw [if_pos hk]
      simp only [ht.1 hK, h1, h3]
      rw [hy]; rfl
    · unfold stepS fieldS
      rw [if_pos hk]
      simp only [ht.2 hi hK]
      exact mustE_ne (e := 10) (by decide)
  · refine ⟨fun hK => ?_, fun hi hK => by omega, Nat.le_refl _⟩
    unfold stepS fieldS
    rw [if_neg hk]
    simp only [hy]
    rfl
theorem insS_take {s : B} {x : Ins} {i j : Nat} (K : Nat) (h : insS s i 0 = (x, j, 0)) : (j ≤ K → insS (s.take K) i 0 = (x, j, 0)) ∧ (i ≤ K → K < j → (insS (s.take K) i 0).2.2 = 10) ∧ i ≤ j := by
  unfold insS at h
  obtain ⟨o, i1, e1, ho⟩ : ∃ o i' e', opS s i 0 = (o, i', e') := ⟨_, _, _, rfl⟩
  rw [ho] at h
  change stepS s 1 (stepS s 0 (⟨o, 0, 0⟩, i1, e1)) = (x, j, 0) at h
  obtain ⟨y, i2, e2, hy⟩ : ∃ y i' e', stepS s 0 (⟨o, 0, 0⟩, i1, e1) = (y, i', e') := ⟨_, _, _, rfl⟩
  rw [hy] at h
  obtain ⟨_, rfl, _⟩ := stepS_back h
  obtain ⟨_, rfl, _⟩ := stepS_back hy
  have t1 := opS_take K ho
  have t2 := stepS_take K hy
  have t3 := stepS_take K h
  refine ⟨fun hK => ?_, fun hi hK => ?_, by omega⟩
  · unfold insS
    rw [t1.1 (by omega)]
    show stepS _ 1 (stepS _ 0 (⟨o, 0, 0⟩, i1, 0)) = _
    rw [t2.1 (by omega), t3.1 hK]
  · unfold insS
    show (stepS _ 1 (stepS _ 0 (⟨(opS (s.take K) i 0).1, 0, 0⟩, (opS (s.take K) i 0).2.1, (opS (s.take K) i 0).2.2))).2.2 = 10
    by_cases c1 : i1 ≤ K
    · rw [t1.1 c1]
      by_cases c2 : i2 ≤ K
      · simp only
        rw [t2.1 c2]
        exact t3.2.1 c2 hK
      · simp only
        have := t2.2.1 c1 (by omega)
        rw [stepS_err (by rw [this]; decide), this]
    · have h0 := t1.2.1 hi (by omega)
      have h1 : (stepS (s.take K) 0 (⟨(opS (s.take K) i 0).1, 0, 0⟩, (opS (s.take K) i 0).2.1, (opS (s.take K) i 0).2.2)).2.2 = 10 := by
        rw [stepS_err (by show (opS (s.take K) i 0).2.2 ≠ 0; rw [h0]; decide)]
        exact h0
      rw [stepS_err (by rw [h1]; decide), h1]
theorem codeS_take {s : B} (K : Nat) : ∀ (m : Nat) (xs ys : List Ins) (i j : Nat), codeS s m (xs, i, 0) = (ys, j, 0) → (j ≤ K → codeS (s.take K) m (xs, i, 0) = (ys, j, 0)) ∧ (i ≤ K → K < j → (codeS (s.take K) m (xs, i, 0)).2.2 = 10) ∧ i ≤ j
  | 0, xs, ys, i, j, h => by
    unfold codeS at h ⊢
    simp only [Prod.mk.injEq] at h
    obtain ⟨rfl, rfl, _⟩ := h
    exact ⟨fun _ => rfl, fun h1 h2 => by omega, Nat.le_refl _⟩
  | m + 1, xs, ys, i, j, h => by
    obtain ⟨x, i1, f, hi⟩ : ∃ x j f, insS s i 0 = (x, j, f) := ⟨_, _, _, rfl⟩
    rw [codeS_step rfl hi] at h
    have hf : f = 0 := by
      have := (codeS_back m (xs ++ [x], i1, f) (by rw [h])).1
      exact this
    subst hf
    have t1 := insS_take K hi
    have t2 := codeS_take K m _ _ _ _ h
    refine ⟨fun hK => ?_, fun hi' hK => ?_, by omega⟩
    · rw [codeS_step rfl (t1.1 (by omega)), t2.1 hK]
    · by_cases c : i1 ≤ K
      · rw [codeS_step rfl (t1.1 c)]
        exact t2.2.1 c hK
      · have h10 := t1.2.1 hi' (by omega)
        obtain ⟨x', j', f', hx'⟩ : ∃ x j f, insS (s.take K) i 0 = (x, j, f) := ⟨_, _, _, rfl⟩
        rw [hx'] at h10
        simp only at h10
        subst h10
        rw [codeS_step rfl hx', codeS_err (show (10 : Int) ≠ 0 by decide)]
theorem funS_take {s : B} {f : Fn} {i j : Nat} (K : Nat) (h : funS s i 0 = (f, j, 0)) : (j ≤ K → funS (s.take K) i 0 = (f, j, 0)) ∧ (i ≤ K → K < j → (funS (s.take K) i 0).2.2 = 10) ∧ i ≤ j := by
  obtain ⟨a1, i1, e1, h1⟩ : ∃ a i' e', numS s 0 16 i 0 = (a, i', e') := ⟨_, _, _, rfl⟩
  obtain ⟨a2, i2, e2, h2⟩ : ∃ a i' e', numS s 0 16 i1 e1 = (a, i', e') := ⟨_, _, _, rfl⟩
  obtain ⟨a3, i3, e3, h3⟩ : ∃ a i' e', numS s 0 8 i2 e2 = (a, i', e') := ⟨_, _, _, rfl⟩
  obtain ⟨a4, i4, e4, h4⟩ : ∃ a i' e', numS s 1 200 i3 e3 = (a, i', e') := ⟨_, _, _, rfl⟩
  unfold funS at h
  simp only [h1, h2, h3, h4, Prod.mk.injEq] at h
  obtain ⟨hf, hj, he⟩ := h
  obtain ⟨z4, _⟩ := codeS_back _ _ he
  simp only at z4
  subst z4
  obtain ⟨rfl, _, _, p4, _⟩ := numS_back h4
  obtain ⟨rfl, _, _, p3, _⟩ := numS_back h3
  obtain ⟨rfl, _, _, p2, _⟩ := numS_back h2
  obtain ⟨_, _, _, p1, _⟩ := numS_back h1
  obtain ⟨ys, j5, e5, h5⟩ : ∃ ys j e, codeS s a4.toNat ([], i4, 0) = (ys, j, e) := ⟨_, _, _, rfl⟩
  rw [h5] at hf hj he
  simp only at hf hj he
  subst he
  subst hj
  have t1 := numS_take K h1
  have t2 := numS_take K h2
  have t3 := numS_take K h3
  have t4 := numS_take K h4
  have t5 := codeS_take K _ _ _ _ _ h5
  have fin : ∀ r1 r2 r3 r4, numS (s.take K) 0 16 i 0 = r1 → numS (s.take K) 0 16 r1.2.1 r1.2.2 = r2 → numS (s.take K) 0 8 r2.2.1 r2.2.2 = r3 → numS (s.take K) 1 200 r3.2.1 r3.2.2 = r4 →
      funS (s.take K) i 0 = (⟨r1.1, r2.1, r3.1, (codeS (s.take K) r4.1.toNat ([], r4.2.1, r4.2.2)).1⟩, (codeS (s.take K) r4.1.toNat ([], r4.2.1, r4.2.2)).2.1, (codeS (s.take K) r4.1.toNat ([], r4.2.1, r4.2.2)).2.2) := by
    rintro _ _ _ _ rfl rfl rfl rfl; rfl
  refine ⟨fun hK => ?_, fun hi hK => ?_, by omega⟩
  · rw [fin _ _ _ _ (t1.1 (by omega)) (t2.1 (by omega)) (t3.1 (by omega)) (t4.1 (by omega))]
    simp only [t5.1 hK, hf]
  · have bad : ∀ r, r.2.2 = 10 → ∀ lo hi, (numS (s.take K) lo hi (r : Int × Nat × Int).2.1 r.2.2).2.2 = 10 := fun r hr lo hi => by rw [numS_err (by rw [hr]; decide)]; exact hr
    have done : ∀ r4 : Int × Nat × Int, r4.2.2 = 10 → (codeS (s.take K) r4.1.toNat ([], r4.2.1, r4.2.2)).2.2 = 10 := fun r4 hr => by rw [codeS_err (by show r4.2.2 ≠ 0; rw [hr]; decide)]; exact hr
    by_cases c1 : i1 ≤ K
    · by_cases c2 : i2 ≤ K
      · by_cases c3 : i3 ≤ K
        · by_cases c4 : i4 ≤ K
          · rw [fin _ _ _ _ (t1.1 c1) (t2.1 c2) (t3.1 c3) (t4.1 c4)]
            exact t5.2.1 c4 hK
          · rw [fin _ _ _ _ (t1.1 c1) (t2.1 c2) (t3.1 c3) rfl]
            exact done _ (t4.2 c3 (by omega))
        · rw [fin _ _ _ _ (t1.1 c1) (t2.1 c2) rfl rfl]
          exact done _ (bad _ (t3.2 c2 (by omega)) 1 200)
      · rw [fin _ _ _ _ (t1.1 c1) rfl rfl rfl]
        exact done _ (bad _ (bad _ (t2.2 c1 (by omega)) 0 8) 1 200)
    · rw [fin _ _ _ _ rfl rfl rfl rfl]
      exact done _ (bad _ (bad _ (bad _ (t1.2 hi (by omega)) 0 16) 0 8) 1 200)
theorem funsS_take {s : B} (K : Nat) : ∀ (m : Nat) (xs ys : Pg) (i j : Nat), funsS s m (xs, i, 0) = (ys, j, 0) → (j ≤ K → funsS (s.take K) m (xs, i, 0) = (ys, j, 0)) ∧ (i ≤ K → K < j → (funsS (s.take K) m (xs, i, 0)).2.2 = 10) ∧ i ≤ j
  | 0, xs, ys, i, j, h => by
    unfold funsS at h ⊢
    simp only [Prod.mk.injEq] at h
    obtain ⟨rfl, rfl, _⟩ := h
    exact ⟨fun _ => rfl, fun h1 h2 => by omega, Nat.le_refl _⟩
  | m + 1, xs, ys, i, j, h => by
    obtain ⟨x, i1, f, hi⟩ : ∃ x j f, funS s i 0 = (x, j, f) := ⟨_, _, _, rfl⟩
    rw [funsS_step rfl hi] at h
    have hf : f = 0 := (funsS_back m (xs ++ [x], i1, f) (by rw [h])).1
    subst hf
    have t1 := funS_take K hi
    have t2 := funsS_take K m _ _ _ _ h
    refine ⟨fun hK => ?_, fun hi' hK => ?_, by omega⟩
    · rw [funsS_step rfl (t1.1 (by omega)), t2.1 hK]
    · by_cases c : i1 ≤ K
      · rw [funsS_step rfl (t1.1 c)]
        exact t2.2.1 c hK
      · have h10 := t1.2.1 hi' (by omega)
        obtain ⟨x', j', f', hx'⟩ : ∃ x j f, funS (s.take K) i 0 = (x, j, f) := ⟨_, _, _, rfl⟩
        rw [hx'] at h10
        simp only at h10
        subst h10
        rw [funsS_step rfl hx', funsS_err (show (10 : Int) ≠ 0 by decide)]
/-- WHAT IS CUT IS CUT. -/
theorem dec_cut {p : Pg} (hp : mayP p = true) {K : Nat} (hK : K < (encP p).length) : decS ((encP p).take K) = ([], 10) := by
  have hm := mayP_parts hp
  have he : encP p = putI p.length ++ p.flatMap encF := by unfold encP; rw [if_pos hp]
  have h0 : (encP p).drop 0 = putI p.length ++ (p.flatMap encF ++ []) := by rw [he]; simp
  have n1 := numS_put (lo := 1) (hi := 16) (by omega) (by omega) h0
  have m1 : mustE 0 (inB (p.length : Int) 1 16) = 0 := by rw [show inB (p.length : Int) 1 16 = true from decide_eq_true (by omega)]; rfl
  rw [m1, Nat.zero_add] at n1
  have hd := drop_next h0
  rw [Nat.zero_add] at hd
  have hf := funsS_enc (s := encP p) (r := []) p [] _ hm.1 hd
  have hl : (encP p).length = (putI p.length).length + (p.flatMap encF).length := by rw [he, List.length_append]
  rw [List.nil_append, ← hl] at hf
  have t1 := numS_take K n1
  have t2 := funsS_take K _ _ _ _ _ hf
  unfold decS
  by_cases c : (putI p.length).length ≤ K
  · simp only [t1.1 c, Int.toNat_natCast]
    rw [if_pos (by rw [t2.2.1 c hK]; decide), t2.2.1 c hK]
  · have h10 := t1.2 (Nat.zero_le _) (by omega)
    obtain ⟨n, j, f, hr⟩ : ∃ n j f, numS ((encP p).take K) 1 16 0 0 = (n, j, f) := ⟨_, _, _, rfl⟩
    rw [hr] at h10
    simp only at h10
    subst h10
    simp only [hr]
    rw [funsS_err (show (10 : Int) ≠ 0 by decide)]
    simp
end Go.Proofs.YtedkfipjooafeaaGreatDoor.Code
set_option linter.unusedSimpArgs false
set_option linter.unusedVariables false
namespace Go.Proofs.YtedkfipjooafeaaGreatDoor.Code
open Go Go.RowKit Go.Proofs.YtedkfipjooafeaaGreatDoor Go.Proofs.YtedkfipjooafeaaGreatDoor.Op

theorem count_clean (c : UInt8) (a : B) (h : ∀ y ∈ a, y ≠ c) : a.count c = 0 := List.count_eq_zero.2 (fun hc => h c hc rfl)
theorem line_count (w : B) (ks : List Int) (hw : ∀ y ∈ w, y ≠ 32) : (lineB w ks).count 32 = ks.length := by
  unfold lineB
  rw [List.count_append, count_clean 32 w hw, Nat.zero_add]
  induction ks with
  | nil => rfl
  | cons n ks ih =>
    rw [List.flatMap_cons, List.cons_append, List.count_cons_self, List.count_append, count_clean 32 _ (itoa_clean n 32 (by decide)), ih, List.length_cons]
    omega
theorem line_tail (w : B) (ks : List Int) (h : ks ≠ []) : ∃ z, lineB w ks = w ++ 32 :: z := by
  cases ks with
  | nil => exact absurd rfl h
  | cons n ks => exact ⟨Lib.itoa n ++ ks.flatMap (fun n => 32 :: Lib.itoa n), by unfold lineB; simp⟩
/-- A line's kind. -/
def LineK (l : B) : Prop := ∃ w ks, l = lineB w ks ∧ Kind w ks.length ∧ ∀ y ∈ w, y ≠ 32
theorem kind_head (f : Fn) : LineK (headedB f) := ⟨funcB, [f.ar, f.lo, f.sl], rfl, .inl ⟨rfl, rfl⟩, fun y hy => (func_clean y hy).1⟩
theorem kind_ins {x : Ins} (h : mayI x = true) : LineK (writtenB x) := by
  have hf : (fieldsB x).length = (opFields x.op).toNat ∧ opFields x.op = ((opFields x.op).toNat : Int) := by
    have hn : 0 ≤ opFields x.op ∧ opFields x.op ≤ 2 := by rcases fields_len x.op with h | h | h <;> rw [h] <;> decide
    refine ⟨?_, by omega⟩
    unfold fieldsB; simp; omega
  exact ⟨opName x.op, fieldsB x, rfl, .inr ⟨x.op, isOp_of_may h, rfl, by rw [hf.1]; exact hf.2.symm⟩, fun y hy => (name_clean _ y hy).1⟩
theorem kind_step {p q : Pg} {l : B} (h : Step p l q) : LineK l := by
  rcases h with ⟨f, _, _, hs, _, _⟩ | ⟨x, hx, hs, _, _⟩
  · rw [← hs]; exact kind_head f
  · rw [← hs]; exact kind_ins hx
theorem kind_blank {u v : B} (h : LineK (u ++ v)) (h' : LineK (u ++ 32 :: v)) : False := by
  obtain ⟨w, ks, e, hk, hw⟩ := h
  obtain ⟨w', ks', e', hk', hw'⟩ := h'
  have hc : ks'.length = ks.length + 1 := by
    rw [← line_count w' ks' hw', ← line_count w ks hw, ← e, ← e', List.count_append, List.count_cons_self, List.count_append]
    omega
  have hne : ks' ≠ [] := by intro h0; rw [h0] at hc; simp at hc
  have hs' := line_split w' ks' hw'
  rw [← e'] at hs'
  suffices hww : w = w' by
    subst hww
    have := kind_one hk hk'
    omega
  by_cases hlen : w.length ≤ u.length
  · -- the word is whole
    have hpre : w <+: u := by
      have h1 : w <+: u ++ v := by rw [e]; unfold lineB; exact List.prefix_append _ _
      exact List.prefix_of_prefix_length_le h1 (List.prefix_append _ _) hlen
    obtain ⟨u2, rfl⟩ := hpre
    have hz : ∃ z, u2 ++ 32 :: v = 32 :: z := by
      cases u2 with
      | nil => exact ⟨v, rfl⟩
      | cons y u2 =>
        have h1 : y :: u2 ++ v = ks.flatMap fun n => 32 :: Lib.itoa n := by
          have := e
          unfold lineB at this
          rw [List.append_assoc] at this
          exact List.append_cancel_left this
        cases ks with
        | nil => simp at h1
        | cons n ks =>
          rw [List.flatMap_cons, List.cons_append, List.cons_append] at h1
          injection h1 with h1 _
          exact ⟨u2 ++ 32 :: v, by rw [h1]; rfl⟩
    obtain ⟨z, hz⟩ := hz
    rw [List.append_assoc, hz, splitL_cut 32 w z hw] at hs'
    injection hs' with h1 _
  · have hpre : u <+: w := by
      have h1 : w <+: u ++ v := by rw [e]; unfold lineB; exact List.prefix_append _ _
      exact List.prefix_of_prefix_length_le (List.prefix_append _ _) h1 (by omega)
    have hu : ∀ y ∈ u, y ≠ 32 := fun y hy => hw y (hpre.subset hy)
    rw [splitL_cut 32 u v hu] at hs'
    injection hs' with h1 _
    rw [← h1] at hk'
    exact (kind_prefix hk hk' hpre).symm.trans h1
theorem kind_lines {p : Pg} (h : ∀ f ∈ p, mayF f = true) : ∀ l ∈ linesP p, LineK l := by
  intro l hl
  unfold linesP at hl
  rw [List.mem_flatMap] at hl
  obtain ⟨f, hf, hl⟩ := hl
  unfold linesF at hl
  rw [List.mem_cons, List.mem_map] at hl
  rcases hl with rfl | ⟨x, hx, rfl⟩
  · exact kind_head f
  · exact kind_ins (List.all_eq_true.1 (mayF_parts (h f hf)).2.2.2.2.2 x hx)
theorem kind_ne {l : B} (h : LineK l) : l ≠ [] := by
  obtain ⟨w, ks, rfl, hk, _⟩ := h
  intro e
  have hw : w = [] := by unfold lineB at e; simp at e; exact e.1
  rcases hk with ⟨h1, _⟩ | ⟨o, h1, h2, _⟩
  · rw [hw] at h1; exact absurd h1 (by decide)
  · have : opName o ≠ [] := by
      rw [nameN_op' h1]
      have h3 : 0 ≤ o ∧ o < 17 := by unfold isOp at h1; simpa using h1
      have key : ∀ a : Fin 17, names.getD a.1 [] ≠ [] := by decide
      exact key ⟨o.toNat, by omega⟩
    exact this (h2.symm.trans hw)
def flat (ls : List B) : B := ls.flatMap fun l => l ++ [10]
/-- Where a place of lines is. -/
theorem locate (ls : List B) (i : Nat) (hi : i ≤ (flat ls).length) :
    (∃ a u v c, ls = a ++ (u ++ v) :: c ∧ (flat ls).take i = flat a ++ u ∧ (flat ls).drop i = v ++ 10 :: flat c) ∨ ((flat ls).take i = flat ls ∧ (flat ls).drop i = []) := by
  induction ls generalizing i with
  | nil => right; simp [flat]
  | cons l ls ih =>
    have e : flat (l :: ls) = l ++ 10 :: flat ls := by unfold flat; simp
    by_cases h : i ≤ l.length
    · left
      refine ⟨[], l.take i, l.drop i, ls, by simp, ?_, ?_⟩
      · rw [e, List.take_append_of_le_length h]; rfl
      · rw [e, List.drop_append_of_le_length h]
    · have hi' : i - (l.length + 1) ≤ (flat ls).length := by rw [e, List.length_append, List.length_cons] at hi; omega
      have e2 : flat (l :: ls) = (l ++ [10]) ++ flat ls := by rw [e]; simp
      have hl : (l ++ [10]).length = l.length + 1 := by simp
      have ht : (flat (l :: ls)).take i = (l ++ [10]) ++ (flat ls).take (i - (l.length + 1)) := by
        rw [e2, List.take_append, hl, List.take_of_length_le (by omega)]
      have hd : (flat (l :: ls)).drop i = (flat ls).drop (i - (l.length + 1)) := by
        rw [e2, List.drop_append, hl, List.drop_of_length_le (by omega), List.nil_append]
      rcases ih _ hi' with ⟨a, u, v, c, h1, h2, h3⟩ | ⟨h2, h3⟩
      · left
        refine ⟨l :: a, u, v, c, by rw [h1]; rfl, ?_, by rw [hd, h3]⟩
        rw [ht, h2]
        unfold flat
        simp
      · right
        exact ⟨by rw [ht, h2, e2], by rw [hd, h3]⟩
theorem steps_split {p r : Pg} {a b : List B} (h : Steps p (a ++ b) r) : ∃ q, Steps p a q ∧ Steps q b r := by
  induction a generalizing p with
  | nil => exact ⟨p, .nil _, h⟩
  | cons l a ih =>
    rw [List.cons_append] at h
    cases h with
    | cons h t =>
      obtain ⟨q, h1, h2⟩ := ih t
      exact ⟨q, .cons h h1, h2⟩
theorem flat_count (a : List B) (h : ∀ l ∈ a, ∀ y ∈ l, y ≠ 10) : (flat a).count 10 = a.length := by
  induction a with
  | nil => rfl
  | cons l a ih =>
    have e : flat (l :: a) = l ++ 10 :: flat a := by unfold flat; simp
    rw [e, List.count_append, count_clean 10 l (h l (by simp)), List.count_cons_self, ih (fun m hm => h m (by simp [hm])), List.length_cons]
    omega
/-- A BLANK MORE ANYWHERE: no program; and the line is told. -/
theorem parse_blank {p : Pg} (hp : mayP p = true) (i : Nat) (hi : i ≤ (textP p).length) : parseP ((textP p).take i ++ 32 :: (textP p).drop i) = (none, ((textP p).take i).count 10) := by
  have hm := mayP_parts hp
  have et : textP p = flat (linesP p) := by unfold textP flat; rw [if_pos hp, joined_text]
  rw [et] at hi ⊢
  have hst : Steps [] (linesP p) p := by
    have := steps_prog [] p hm.1 (by simpa using hm.2.2) (.inl rfl)
    simpa using this
  have hcl := lines_clean p
  unfold parseP
  rcases locate (linesP p) i hi with ⟨a, u, v, c, h1, h2, h3⟩ | ⟨h2, h3⟩
  · rw [h2, h3]
    rw [h1] at hst hcl
    have hca : ∀ l ∈ a, ∀ y ∈ l, y ≠ 10 := fun l hl => hcl l (by simp [hl])
    have hcu : ∀ y ∈ u ++ v, y ≠ 10 := hcl (u ++ v) (by simp)
    obtain ⟨q, hs1, hs2⟩ := steps_split hst
    have hk : LineK (u ++ v) := kind_lines hm.1 _ (by rw [h1]; simp)
    have e : flat a ++ u ++ 32 :: (v ++ 10 :: flat c) = (a.flatMap fun l => l ++ [10]) ++ ((u ++ 32 :: v) ++ 10 :: flat c) := by unfold flat; simp
    have hcl' : ∀ y ∈ u ++ 32 :: v, y ≠ 10 := by
      intro y hy
      rw [List.mem_append, List.mem_cons] at hy
      rcases hy with hy | rfl | hy
      · exact hcu y (by simp [hy])
      · decide
      · exact hcu y (by simp [hy])
    rw [e, split_lines _ _ hca, runL_steps hs1 (splitL_ne _ _), splitL_cut 10 _ _ hcl']
    obtain ⟨m, r, hmr⟩ : ∃ m r, splitL 10 (flat c) = m :: r := by
      cases hs : splitL 10 (flat c) with
      | nil => exact absurd hs (splitL_ne 10 _)
      | cons m r => exact ⟨m, r, rfl⟩
    rw [hmr, runL, readP_none (fun q' hq => kind_blank hk (kind_step hq))]
    rw [List.count_append, flat_count a hca, count_clean 10 u (fun y hy => hcu y (by simp [hy]))]
    simp
  · rw [h2, h3]
    rw [show flat (linesP p) ++ 32 :: [] = ((linesP p).flatMap fun l => l ++ [10]) ++ [32] from rfl, split_lines _ _ hcl, runL_steps hst (splitL_ne _ _), flat_count _ hcl, Nat.zero_add]
    show runL [[32]] p _ = _
    rw [runL, if_neg (by simp)]
/-- WITHOUT ITS LAST BYTE: no program. -/
theorem parse_less {p : Pg} (hp : mayP p = true) : (parseP ((textP p).take ((textP p).length - 1))).1 = none := by
  have hm := mayP_parts hp
  have et : textP p = flat (linesP p) := by unfold textP flat; rw [if_pos hp, joined_text]
  have hst : Steps [] (linesP p) p := by
    have := steps_prog [] p hm.1 (by simpa using hm.2.2) (.inl rfl)
    simpa using this
  have hne : linesP p ≠ [] := by
    cases p with
    | nil => simp at hm
    | cons f p => unfold linesP linesF; simp
  obtain ⟨a, l, hal⟩ : ∃ a l, linesP p = a ++ [l] := ⟨_, _, (List.dropLast_concat_getLast hne).symm⟩
  have hcl := lines_clean p
  have hk : LineK l := kind_lines hm.1 l (by rw [hal]; simp)
  rw [hal] at hst hcl
  have e : (textP p).take ((textP p).length - 1) = (a.flatMap fun l => l ++ [10]) ++ l := by
    have e1 : textP p = ((a.flatMap fun l => l ++ [10]) ++ l) ++ [10] := by rw [et, hal]; unfold flat; simp
    rw [e1, List.length_append, List.length_singleton, Nat.add_sub_cancel, List.take_left]
  obtain ⟨q, hs1, _⟩ := steps_split hst
  unfold parseP
  rw [e, split_lines _ _ (fun m hm => hcl m (by simp [hm])), runL_steps hs1 (splitL_ne _ _), splitL_one 10 l (hcl l (by simp)), runL, if_neg (fun h => kind_ne hk h.1)]
end Go.Proofs.YtedkfipjooafeaaGreatDoor.Code
