/-
  Bytes read as programs, in plain words: a program is read of its bytes as it was. Bytes read as programs, in plain words: what is read has those bytes; what is cut is cut. Contract of what reads a line's word and numbers. Contract of what finds an operation by its name. What a line's numbers are read as, in plain words. Contract of what reads a line of a program. An instruction is added to the last function of what is read: in memory. A region that draws its order, its last operations in turn: the head is walked alone; loads are taken first in it under a condition on the world. Contract of what reads a line of a program: an instruction's line. Contract of code.Parse: what a text is read as, and how many lines were read. Contracts of the checksum, of the program and of the reference.
-/
import Derived.Lib.Varint
import Derived.OrdersHeld
import Derived.Deep.AppendLies
import Derived.WalkMore
import Derived.LoopTactic
import Derived.BigFrame
import Derived.IntWalk
import Derived.Laws.BitsAllLaws
import Derived.Lib.EndianBits
import Derived.Test.YtedkfipjooafeaaGreatDoorT1
import Derived.Test.YtedkfipjooafeaaGreatDoorT2
import Derived.Test.YtedkfipjooafeaaGreatDoorT3
set_option linter.unusedSimpArgs false
set_option linter.unusedVariables false
set_option linter.unusedSimpArgs false
set_option linter.unusedVariables false
namespace Go.Proofs.YtedkfipjooafeaaGreatDoor.Code
open Go Go.RowKit Go.Proofs.YtedkfipjooafeaaGreatDoor Go.Proofs.YtedkfipjooafeaaGreatDoor.Op Go.Proofs.YtedkfipjooafeaaGreatDoor.Wire

theorem putB_small' {n : Nat} (h : n ≤ 127) : Wire.bytes (putN n) = [UInt8.ofNat n] := by rw [putN_small h]; rfl
theorem putB_big' {n : Nat} (h : ¬ n ≤ 127) : Wire.bytes (putN n) = UInt8.ofNat (128 + n % 128) :: Wire.bytes (putN (n / 128)) := by
  rw [putN_big h]
  unfold Wire.bytes
  rw [List.map_cons]
  congr 2
  have := Lib.u8_or128_any ((n : Int) % 256) (by omega) (by omega)
  rw [this]
  omega
theorem get_put (r : B) : ∀ (n k acc : Nat), n * 128 ^ k ≤ 281474976710655 → (0 < k → 0 < n) → k ≤ 6 → getA (Wire.bytes (putN n) ++ r) k acc = .ok (acc + n * 128 ^ k, k + (Wire.bytes (putN n)).length) := by
  intro n
  induction n using Nat.strongRecOn with
  | _ n ih =>
  intro k acc hn hk h6
  by_cases h : n ≤ 127
  · rw [putB_small' h]
    have hv : (UInt8.ofNat n).toNat = n := by rw [UInt8.toNat_ofNat']; omega
    show getA (UInt8.ofNat n :: r) k acc = _
    unfold getA
    rw [hv]
    have hlast : ¬ (7 ≤ k ∨ (k = 6 ∧ n < 128 ∧ 63 < n)) := by
      rintro (h7 | ⟨rfl, _, h63⟩)
      · omega
      · have : 64 * 128 ^ 6 ≤ n * 128 ^ 6 := Nat.mul_le_mul_right _ (by omega)
        have e : 64 * 128 ^ 6 = 281474976710656 := by decide
        omega
    rw [if_neg hlast, if_pos (by omega), if_neg (by rintro ⟨h0, hkp⟩; have := hk hkp; omega)]
    rfl
  · rw [putB_big' h]
    have hv : (UInt8.ofNat (128 + n % 128)).toNat = 128 + n % 128 := by rw [UInt8.toNat_ofNat']; omega
    show getA (UInt8.ofNat (128 + n % 128) :: (Wire.bytes (putN (n / 128)) ++ r)) k acc = _
    have hk5 : k ≤ 5 := by
      rcases Nat.lt_or_ge k 6 with h' | h'
      · omega
      · have e6 : k = 6 := by omega
        subst e6
        have : 128 * 128 ^ 6 ≤ n * 128 ^ 6 := Nat.mul_le_mul_right _ (by omega)
        have e : 128 * 128 ^ 6 = 562949953421312 := by decide
        omega
    unfold getA
    rw [hv, if_neg (by omega), if_neg (by omega)]
    have h1 : n / 128 * 128 ^ (k + 1) ≤ n * 128 ^ k := by
      rw [Nat.pow_succ, Nat.mul_comm (128 ^ k) 128, ← Nat.mul_assoc]
      exact Nat.mul_le_mul_right _ (by omega)
    rw [ih (n / 128) (by omega) (k + 1) _ (by omega) (by omega) (by omega)]
    have e1 : (128 + n % 128) % 128 = n % 128 := by omega
    rw [e1, List.length_cons]
    have e2 : acc + n % 128 * 128 ^ k + n / 128 * 128 ^ (k + 1) = acc + n * 128 ^ k := by
      rw [Nat.pow_succ, Nat.mul_comm (128 ^ k) 128, ← Nat.mul_assoc, Nat.add_assoc, ← Nat.add_mul]
      congr 2
      omega
    rw [e2]
    congr 2
    omega
theorem numS_put {s r : B} {i : Nat} {n lo hi : Int} (h0 : 0 ≤ n) (hn : n ≤ 281474976710655) (h : s.drop i = putI n ++ r) : numS s lo hi i 0 = (n, i + (putI n).length, mustE 0 (inB n lo hi)) := by
  unfold numS
  rw [if_neg (by simp), h]
  unfold putI
  rw [get_put r n.toNat 0 0 (by simp; omega) (by omega) (by omega)]
  simp only [Nat.pow_zero, Nat.mul_one, Nat.zero_add]
  rw [show ((n.toNat : Nat) : Int) = n by omega]
theorem drop_next {s a r : B} {i : Nat} (h : s.drop i = a ++ r) : s.drop (i + a.length) = r := by
  rw [← List.drop_drop, h, List.drop_left]
theorem insS_enc {s r : B} {i : Nat} {x : Ins} (hx : mayI x = true) (h : s.drop i = encI x ++ r) : insS s i 0 = (x, i + (encI x).length, 0) := by
  have hb := mayI_bd hx
  have hz := may_zero hx
  have hv : (UInt8.ofNat x.op.toNat).toNat = x.op.toNat := by rw [UInt8.toNat_ofNat']; omega
  have hop : opS s i 0 = (x.op, i + 1, 0) := by
    unfold opS
    have hc : s[i]? = some (UInt8.ofNat x.op.toNat) := by
      have := congrArg List.head? h
      rw [List.head?_drop] at this
      rw [this]
      unfold encI; rfl
    rw [if_neg (by simp), hc]
    simp only [hv]
    rw [if_pos (by omega), show ((x.op.toNat : Nat) : Int) = x.op by omega]
  have h1 : s.drop (i + 1) = (fieldsB x).flatMap putI ++ r := by
    have : s.drop i = [UInt8.ofNat x.op.toNat] ++ ((fieldsB x).flatMap putI ++ r) := by rw [h]; unfold encI; simp
    exact drop_next this
  unfold insS
  rw [hop]
  show iterS s 2 (⟨x.op, 0, 0⟩, i + 1, 0) = _
  unfold iterS iterS iterS
  have hin : ∀ n : Int, 0 ≤ n → n ≤ 281474976710655 → mustE 0 (inB n 0 281474976710655) = 0 := fun n a b => by
    have : inB n 0 281474976710655 = true := decide_eq_true ⟨a, b⟩
    rw [this]; rfl
  have hm0 : ∀ y : Ins, mayI y = true → mustE 0 (mayI y) = 0 := fun y hy => by rw [hy]; rfl
  have hlen : (encI x).length = 1 + ((fieldsB x).flatMap putI).length := by unfold encI; rw [List.length_cons]; omega
  obtain ⟨o, a, b⟩ := x
  simp only at *
  rcases fields_len o with e | e | e
  · have ha := hz.1 (by omega)
    have hb0 := hz.2 (by omega)
    subst ha hb0
    have hf : fieldsB ⟨o, 0, 0⟩ = [] := by unfold fieldsB; rw [e]; rfl
    rw [hf] at hlen
    have s0 : stepS s 0 (⟨o, 0, 0⟩, i + 1, 0) = (⟨o, 0, 0⟩, i + 1, 0) := by
      unfold stepS fieldS
      rw [if_neg (by simp [e])]
      simp only [hm0 _ hx]
    have s1 : stepS s 1 (⟨o, 0, 0⟩, i + 1, 0) = (⟨o, 0, 0⟩, i + 1, 0) := by
      unfold stepS fieldS
      rw [if_neg (by simp [e])]
      simp only [hm0 _ hx]
    rw [s0, s1, hlen]
    rfl
  · have hb0 := hz.2 (by omega)
    subst hb0
    have hf : fieldsB ⟨o, a, 0⟩ = [a] := by unfold fieldsB; rw [e]; rfl
    rw [hf] at hlen h1
    have hn := numS_put (s := s) (r := r) (i := i + 1) (n := a) (lo := 0) (hi := 281474976710655) (by omega) (by omega) (by simpa using h1)
    rw [hin a (by omega) (by omega)] at hn
    have s0 : stepS s 0 (⟨o, 0, 0⟩, i + 1, 0) = (⟨o, a, 0⟩, i + 1 + (putI a).length, 0) := by
      unfold stepS fieldS
      rw [if_pos (by simp [e])]
      simp only [hn, putF, if_true]
      rw [hm0 _ hx]
    have s1 : stepS s 1 (⟨o, a, 0⟩, i + 1 + (putI a).length, 0) = (⟨o, a, 0⟩, i + 1 + (putI a).length, 0) := by
      unfold stepS fieldS
      rw [if_neg (by simp [e])]
      simp only [hm0 _ hx]
    rw [s0, s1, hlen]
    simp only [List.flatMap_cons, List.flatMap_nil, List.append_nil]
    rw [Nat.add_assoc]
  · have hf : fieldsB ⟨o, a, b⟩ = [a, b] := by unfold fieldsB; rw [e]; rfl
    rw [hf] at hlen h1
    have h1' : s.drop (i + 1) = putI a ++ (putI b ++ r) := by simpa using h1
    have hn := numS_put (s := s) (i := i + 1) (n := a) (lo := 0) (hi := 281474976710655) (by omega) (by omega) h1'
    rw [hin a (by omega) (by omega)] at hn
    have hn2 := numS_put (s := s) (i := i + 1 + (putI a).length) (n := b) (lo := 0) (hi := 281474976710655) (by omega) (by omega) (drop_next h1')
    rw [hin b (by omega) (by omega)] at hn2
    have hmid : mayI ⟨o, a, 0⟩ = true := by
      unfold mayI at hx ⊢
      simp only [Bool.and_eq_true] at hx ⊢
      refine ⟨hx.1, hx.2.1, ?_⟩
      unfold spanHas spanB
      have ho : o = 0 ∨ o = 13 := by
        have h17 : 0 ≤ o ∧ o < 17 := ⟨hb.1, hb.2.1⟩
        have hc : o = 0 ∨ o = 1 ∨ o = 2 ∨ o = 3 ∨ o = 4 ∨ o = 5 ∨ o = 6 ∨ o = 7 ∨ o = 8 ∨ o = 9 ∨ o = 10 ∨ o = 11 ∨ o = 12 ∨ o = 13 ∨ o = 14 ∨ o = 15 ∨ o = 16 := by omega
        rcases hc with rfl | rfl | rfl | rfl | rfl | rfl | rfl | rfl | rfl | rfl | rfl | rfl | rfl | rfl | rfl | rfl | rfl <;> first | (left; rfl) | (right; rfl) | (exact absurd e (by decide))
      rcases ho with rfl | rfl <;> decide
    have s0 : stepS s 0 (⟨o, 0, 0⟩, i + 1, 0) = (⟨o, a, 0⟩, i + 1 + (putI a).length, 0) := by
      unfold stepS fieldS
      rw [if_pos (by simp [e])]
      simp only [hn, putF, if_true]
      rw [hm0 _ hmid]
    have s1 : stepS s 1 (⟨o, a, 0⟩, i + 1 + (putI a).length, 0) = (⟨o, a, b⟩, i + 1 + (putI a).length + (putI b).length, 0) := by
      unfold stepS fieldS
      rw [if_pos (by simp [e])]
      simp only [hn2, putF]
      rw [if_neg (by decide), hm0 _ hx]
    rw [s0, s1, hlen]
    simp only [List.flatMap_cons, List.flatMap_nil, List.append_nil, List.length_append]
    congr 2
    omega
theorem codeS_enc {s r : B} (l : List Ins) : ∀ (xs : List Ins) (i : Nat), l.all mayI = true → s.drop i = encC l ++ r → codeS s l.length (xs, i, 0) = (xs ++ l, i + (encC l).length, 0) := by
  induction l with
  | nil => intro xs i _ _; simp [codeS, encC]
  | cons x l ih =>
    intro xs i hl h
    simp only [List.all_cons, Bool.and_eq_true] at hl
    have he : encC (x :: l) = encI x ++ encC l := by unfold encC; rw [List.flatMap_cons]
    rw [he, List.append_assoc] at h
    have hi := insS_enc hl.1 h
    rw [List.length_cons, codeS_step rfl hi, ih (xs ++ [x]) _ hl.2 (drop_next h), he, List.length_append]
    simp [Nat.add_assoc]
theorem funS_enc {s r : B} {i : Nat} {f : Fn} (hf : mayF f = true) (h : s.drop i = encF f ++ r) : funS s i 0 = (f, i + (encF f).length, 0) := by
  have hm := mayF_parts hf
  have h0 : s.drop i = putI f.ar ++ (putI f.lo ++ (putI f.sl ++ (putI (f.code.length : Int) ++ (encC f.code ++ r)))) := by
    rw [h]; unfold encF; simp
  have h1 := drop_next h0
  have h2 := drop_next h1
  have h3 := drop_next h2
  have h4 := drop_next h3
  have n1 := numS_put (lo := 0) (hi := 16) (by omega) (by omega) h0
  have n2 := numS_put (lo := 0) (hi := 16) (by omega) (by omega) h1
  have n3 := numS_put (lo := 0) (hi := 8) (by omega) (by omega) h2
  have n4 := numS_put (lo := 1) (hi := 200) (by omega) (by omega) h3
  have m1 : mustE 0 (inB f.ar 0 16) = 0 := by rw [show inB f.ar 0 16 = true from decide_eq_true hm.1]; rfl
  have m2 : mustE 0 (inB f.lo 0 16) = 0 := by rw [show inB f.lo 0 16 = true from decide_eq_true hm.2.1]; rfl
  have m3 : mustE 0 (inB f.sl 0 8) = 0 := by rw [show inB f.sl 0 8 = true from decide_eq_true hm.2.2.1]; rfl
  have m4 : mustE 0 (inB (f.code.length : Int) 1 200) = 0 := by rw [show inB (f.code.length : Int) 1 200 = true from decide_eq_true (by omega)]; rfl
  rw [m1] at n1
  rw [m2] at n2
  rw [m3] at n3
  rw [m4] at n4
  have hc := codeS_enc (s := s) (r := r) f.code [] _ hm.2.2.2.2.2 h4
  unfold funS
  simp only [n1, n2, n3, n4, Int.toNat_natCast]
  rw [hc]
  have hl : (encF f).length = (putI f.ar).length + (putI f.lo).length + (putI f.sl).length + (putI (f.code.length : Int)).length + (encC f.code).length := by
    unfold encF; simp; omega
  rw [hl]
  simp only [List.nil_append]
  congr 2
  omega
theorem funsS_enc {s r : B} (l : Pg) : ∀ (xs : Pg) (i : Nat), (∀ f ∈ l, mayF f = true) → s.drop i = l.flatMap encF ++ r → funsS s l.length (xs, i, 0) = (xs ++ l, i + (l.flatMap encF).length, 0) := by
  induction l with
  | nil => intro xs i _ _; simp [funsS]
  | cons x l ih =>
    intro xs i hl h
    rw [List.flatMap_cons, List.append_assoc] at h
    have hi := funS_enc (hl x (by simp)) h
    rw [List.length_cons, funsS_step rfl hi, ih (xs ++ [x]) _ (fun g hg => hl g (by simp [hg])) (drop_next h), List.flatMap_cons, List.length_append]
    simp [Nat.add_assoc]
theorem dec_enc {p : Pg} (hp : mayP p = true) (r : B) : decS (encP p ++ r) = if r = [] then (p, 0) else ([], 72) := by
  have hm := mayP_parts hp
  have he : encP p = putI p.length ++ p.flatMap encF := by unfold encP; rw [if_pos hp]
  have h0 : (encP p ++ r).drop 0 = putI p.length ++ (p.flatMap encF ++ r) := by rw [he]; simp
  have n1 := numS_put (lo := 1) (hi := 16) (by omega) (by omega) h0
  have m1 : mustE 0 (inB (p.length : Int) 1 16) = 0 := by rw [show inB (p.length : Int) 1 16 = true from decide_eq_true (by omega)]; rfl
  rw [m1] at n1
  have hf := funsS_enc (s := encP p ++ r) (r := r) p [] _ hm.1 (drop_next h0)
  unfold decS
  simp only [n1, Int.toNat_natCast]
  rw [hf]
  simp only [List.nil_append]
  rw [if_neg (by simp)]
  have hl : (encP p ++ r).length = 0 + (putI p.length).length + (p.flatMap encF).length + r.length := by rw [he]; simp; omega
  rw [hl]
  cases r with
  | nil => rw [if_neg (by simp), if_pos rfl]
  | cons c r => rw [if_pos (by simp), if_neg (by simp)]
end Go.Proofs.YtedkfipjooafeaaGreatDoor.Code
set_option linter.unusedSimpArgs false
set_option linter.unusedVariables false
namespace Go.Proofs.YtedkfipjooafeaaGreatDoor.Code
open Go Go.RowKit Go.Proofs.YtedkfipjooafeaaGreatDoor Go.Proofs.YtedkfipjooafeaaGreatDoor.Op Go.Proofs.YtedkfipjooafeaaGreatDoor.Wire

/-! ### Errors stay -/
theorem mustE_zero {e : Int} {b : Bool} (h : mustE e b = 0) : e = 0 ∧ b = true := by
  unfold mustE at h
  split at h
  · exact absurd h (by decide)
  · rename_i hc
    refine ⟨h, ?_⟩
    cases b
    · exact absurd ⟨h, rfl⟩ hc
    · rfl
theorem codeS_err {s : B} {m : Nat} {st : List Ins × Nat × Int} (h : st.2.2 ≠ 0) : codeS s m st = st := by
  cases m with
  | zero => rfl
  | succ m => unfold codeS; rw [if_neg h]
theorem funsS_err {s : B} {m : Nat} {st : Pg × Nat × Int} (h : st.2.2 ≠ 0) : funsS s m st = st := by
  cases m with
  | zero => rfl
  | succ m => unfold funsS; rw [if_neg h]

/-! ### What is read has those bytes -/
theorem get_back : ∀ (l : B) (k acc m j : Nat), getA l k acc = .ok (m, j) →
    ∃ n r, l = Wire.bytes (putN n) ++ r ∧ m = acc + n * 128 ^ k ∧ j = k + (Wire.bytes (putN n)).length ∧ (0 < k → 0 < n) ∧ (n + 1) * 128 ^ k ≤ 281474976710656
  | [], k, acc, m, j, h => by simp [getA] at h
  | c :: r, k, acc, m, j, h => by
    have hc : c.toNat < 256 := c.toNat_lt
    unfold getA at h
    split at h
    · cases h
    · rename_i hw
      split at h
      · rename_i h128
        split at h
        · cases h
        · rename_i hz
          injection h with h
          injection h with h1 h2
          have hv : UInt8.ofNat c.toNat = c := UInt8.ofNat_toNat
          refine ⟨c.toNat, r, by rw [putB_small' (by omega), hv]; rfl, h1.symm, by rw [putB_small' (by omega)]; simp; omega, fun hk => ?_, ?_⟩
          · rcases Nat.eq_zero_or_pos c.toNat with h0 | h0
            · exact absurd ⟨h0, hk⟩ hz
            · exact h0
          · have hk : k = 0 ∨ k = 1 ∨ k = 2 ∨ k = 3 ∨ k = 4 ∨ k = 5 ∨ k = 6 := by omega
            rcases hk with rfl | rfl | rfl | rfl | rfl | rfl | rfl <;> simp <;> omega
      · rename_i h128
        obtain ⟨n, r', e, e1, e2, e3, e4⟩ := get_back r _ _ _ _ h
        have hn := e3 (by omega)
        have hdiv : (c.toNat % 128 + 128 * n) / 128 = n := by omega
        have hmod : 128 + (c.toNat % 128 + 128 * n) % 128 = c.toNat := by omega
        have hb : Wire.bytes (putN (c.toNat % 128 + 128 * n)) = c :: Wire.bytes (putN n) := by
          rw [putB_big' (by omega), hdiv, hmod, UInt8.ofNat_toNat]
        refine ⟨c.toNat % 128 + 128 * n, r', by rw [hb, e]; rfl, ?_, by rw [hb, e2, List.length_cons]; omega, fun _ => by omega, ?_⟩
        · rw [e1, Nat.pow_succ, Nat.mul_comm (128 ^ k) 128, ← Nat.mul_assoc, Nat.add_mul, Nat.mul_comm n 128, Nat.add_assoc]
        · rw [Nat.pow_succ, Nat.mul_comm (128 ^ k) 128, ← Nat.mul_assoc] at e4
          exact Nat.le_trans (Nat.mul_le_mul_right _ (by omega)) e4
theorem numS_back {s : B} {lo hi : Int} {i j : Nat} {e n : Int} (h : numS s lo hi i e = (n, j, 0)) : e = 0 ∧ inB n lo hi = true ∧ s.drop i = putI n ++ s.drop j ∧ j = i + (putI n).length ∧ 0 ≤ n := by
  have he : e = 0 ∧ inB n lo hi = true := by
    have := numS_ok (s := s) (lo := lo) (hi := hi) (i := i) (e := e) (by rw [h])
    rw [h] at this; exact this
  refine ⟨he.1, he.2, ?_⟩
  unfold numS at h
  rw [if_neg (by simp [he.1])] at h
  split at h
  · rename_i x hx
    simp only [Prod.mk.injEq] at h
    have := mustE_zero h.2.2
    have key := numS_ok (s := s) (lo := lo) (hi := hi) (i := i) (e := 0) (by unfold numS; rw [if_neg (by simp), hx]; exact h.2.2)
    exfalso
    have h0 : x ≠ 0 := by
      have kk : ∀ (l : B) (k acc : Nat) (x : Int), getA l k acc = .error x → x ≠ 0 := by
        intro l
        induction l with
        | nil => intro k acc x h; simp [getA] at h; omega
        | cons c r ih =>
          intro k acc x h
          unfold getA at h
          split at h
          · injection h with h; omega
          · split at h
            · split at h
              · injection h with h; omega
              · cases h
            · exact ih _ _ _ h
      exact kk _ _ _ _ hx
    exact h0 this.1
  · rename_i m k hx
    simp only [Prod.mk.injEq] at h
    obtain ⟨h1, h2, _⟩ := h
    obtain ⟨n', r, e1, e2, e3, _, _⟩ := get_back _ _ _ _ _ hx
    simp only [Nat.pow_zero, Nat.mul_one, Nat.zero_add] at e2 e3
    have hp : putI n = Wire.bytes (putN n') := by unfold putI; rw [← h1, e2]; rfl
    have hj : j = i + (putI n).length := by rw [hp, ← h2, e3]
    rw [← hp] at e1
    refine ⟨?_, hj, by rw [← h1]; omega⟩
    rw [hj, drop_next e1]
    exact e1
theorem stepS_back {s : B} {k : Nat} {x y : Ins} {i j : Nat} {e : Int} (h : stepS s k (x, i, e) = (y, j, 0)) : mayI y = true ∧ e = 0 ∧
    (((k : Int) < opFields x.op ∧ ∃ n, y = putF x k n ∧ s.drop i = putI n ++ s.drop j ∧ j = i + (putI n).length ∧ 0 ≤ n) ∨ (¬ (k : Int) < opFields x.op ∧ y = x ∧ j = i)) := by
  unfold stepS at h
  simp only [Prod.mk.injEq] at h
  obtain ⟨h1, h2, h3⟩ := h
  have hz := mustE_zero h3
  rw [h1] at hz
  unfold fieldS at h1 h2 hz
  split at h1
  · rename_i hk
    rw [if_pos hk] at h2 hz
    simp only at h1 h2 hz
    obtain ⟨n, j', f', hr⟩ : ∃ n j' f', numS s 0 281474976710655 i e = (n, j', f') := ⟨_, _, _, rfl⟩
    rw [hr] at h1 h2 hz
    simp only at h1 h2 hz
    rw [hz.1] at hr
    have hb := numS_back hr
    subst h2
    exact ⟨hz.2, hb.1, .inl ⟨hk, n, h1.symm, hb.2.2.1, hb.2.2.2.1, hb.2.2.2.2⟩⟩
  · rename_i hk
    rw [if_neg hk] at h2 hz
    exact ⟨hz.2, hz.1, .inr ⟨hk, h1.symm, h2.symm⟩⟩
theorem insS_back {s : B} {i j : Nat} {e : Int} {x : Ins} (h : insS s i e = (x, j, 0)) : e = 0 ∧ mayI x = true ∧ s.drop i = encI x ++ s.drop j ∧ j = i + (encI x).length := by
  unfold insS at h
  obtain ⟨o, i1, e1, ho⟩ : ∃ o i' e', opS s i e = (o, i', e') := ⟨_, _, _, rfl⟩
  rw [ho] at h
  change stepS s 1 (stepS s 0 (⟨o, 0, 0⟩, i1, e1)) = (x, j, 0) at h
  obtain ⟨y, i2, e2, hy⟩ : ∃ y i' e', stepS s 0 (⟨o, 0, 0⟩, i1, e1) = (y, i', e') := ⟨_, _, _, rfl⟩
  rw [hy] at h
  obtain ⟨hx, rfl, hs1⟩ := stepS_back h
  obtain ⟨hmy, rfl, hs0⟩ := stepS_back hy
  have hop : e = 0 ∧ ∃ c, s[i]? = some c ∧ o = c.toNat ∧ i1 = i + 1 := by
    unfold opS at ho
    split at ho
    · rename_i he
      simp only [Prod.mk.injEq] at ho
      exact absurd ho.2.2 he
    · rename_i he
      split at ho
      · simp only [Prod.mk.injEq] at ho
        exact absurd ho.2.2 (by decide)
      · rename_i c hc
        simp only [Prod.mk.injEq] at ho
        exact ⟨by simpa using he, c, hc, ho.1.symm, ho.2.1.symm⟩
  obtain ⟨rfl, c, hc, rfl, rfl⟩ := hop
  have hd : s.drop i = c :: s.drop (i + 1) := by
    have hlt := (List.getElem?_eq_some_iff.1 hc).1
    rw [List.drop_eq_getElem_cons hlt, (List.getElem?_eq_some_iff.1 hc).2]
  have hcv : UInt8.ofNat ((c.toNat : Int)).toNat = c := by rw [Int.toNat_natCast]; exact UInt8.ofNat_toNat
  have fin : ∀ ks : List Int, x.op = (c.toNat : Int) → fieldsB x = ks → s.drop (i + 1) = ks.flatMap putI ++ s.drop j → j = i + 1 + (ks.flatMap putI).length → (0 : Int) = 0 ∧ mayI x = true ∧ s.drop i = encI x ++ s.drop j ∧ j = i + (encI x).length := by
    intro ks hxo hks h1 h2
    refine ⟨rfl, hx, ?_, ?_⟩
    · unfold encI
      rw [hxo, hks, hcv, hd, h1]
      rfl
    · unfold encI
      rw [hks, List.length_cons]
      omega
  rcases hs0 with ⟨k0, n, rfl, d0, j0, n0⟩ | ⟨k0, rfl, rfl⟩ <;> rcases hs1 with ⟨k1, m, rfl, d1, j1, m0⟩ | ⟨k1, rfl, rfl⟩
  · simp only [putF, if_true] at k1
    have e2 : opFields (c.toNat : Int) = 2 := by
      rcases fields_len (c.toNat : Int) with h | h | h
      · rw [h] at k1; omega
      · rw [h] at k1; omega
      · exact h
    refine fin [n, m] rfl ?_ ?_ ?_
    · simp only [putF, if_true]
      unfold fieldsB
      simp [e2]
    · rw [d0, d1]; simp
    · simp; omega
  · simp only [putF, if_true] at k1
    have e1 : opFields (c.toNat : Int) = 1 := by
      simp only at k0
      rcases fields_len (c.toNat : Int) with h | h | h
      · rw [h] at k0; omega
      · exact h
      · rw [h] at k1; omega
    refine fin [n] rfl ?_ ?_ ?_
    · simp only [putF, if_true]
      unfold fieldsB
      simp [e1]
    · rw [d0]; simp
    · simp; omega
  · simp only at k0 k1
    omega
  · have e0 : opFields (c.toNat : Int) = 0 := by
      simp only at k0
      rcases fields_len (c.toNat : Int) with h | h | h
      · exact h
      · rw [h] at k0; omega
      · rw [h] at k0; omega
    refine fin [] rfl ?_ rfl ?_
    · unfold fieldsB
      simp [e0]
    · simp
theorem codeS_back {s : B} : ∀ (m : Nat) (st : List Ins × Nat × Int), (codeS s m st).2.2 = 0 → st.2.2 = 0 ∧ ∃ l, l.length = m ∧ (codeS s m st).1 = st.1 ++ l ∧ l.all mayI = true ∧ s.drop st.2.1 = encC l ++ s.drop (codeS s m st).2.1 ∧ (codeS s m st).2.1 = st.2.1 + (encC l).length
  | 0, st, h => ⟨h, [], rfl, by simp [codeS], rfl, by simp [codeS, encC], by simp [codeS, encC]⟩
  | m + 1, (xs, i, e), h => by
    by_cases he : e = 0
    · obtain ⟨x, j, f, hi⟩ : ∃ x j f, insS s i e = (x, j, f) := ⟨_, _, _, rfl⟩
      rw [codeS_step he hi] at h ⊢
      obtain ⟨h1, l, h2, h3, h4, h5, h6⟩ := codeS_back m (xs ++ [x], j, f) h
      simp only at h1 h5 h6
      subst h1
      obtain ⟨_, hx, hd, hj⟩ := insS_back hi
      have hE : encC (x :: l) = encI x ++ encC l := by unfold encC; rw [List.flatMap_cons]
      refine ⟨he, x :: l, by simp [h2], by rw [h3]; simp, by simp [hx, h4], ?_, ?_⟩
      · show s.drop i = _
        rw [hd, h5, hE, List.append_assoc]
      · show _ = i + _
        rw [h6, hj, hE, List.length_append]; omega
    · rw [codeS_err he] at h
      exact absurd h he
theorem funS_back {s : B} {i j : Nat} {e : Int} {f : Fn} (h : funS s i e = (f, j, 0)) : e = 0 ∧ mayF f = true ∧ s.drop i = encF f ++ s.drop j ∧ j = i + (encF f).length := by
  obtain ⟨a1, i1, e1, h1⟩ : ∃ a i' e', numS s 0 16 i e = (a, i', e') := ⟨_, _, _, rfl⟩
  obtain ⟨a2, i2, e2, h2⟩ : ∃ a i' e', numS s 0 16 i1 e1 = (a, i', e') := ⟨_, _, _, rfl⟩
  obtain ⟨a3, i3, e3, h3⟩ : ∃ a i' e', numS s 0 8 i2 e2 = (a, i', e') := ⟨_, _, _, rfl⟩
  obtain ⟨a4, i4, e4, h4⟩ : ∃ a i' e', numS s 1 200 i3 e3 = (a, i', e') := ⟨_, _, _, rfl⟩
  unfold funS at h
  simp only [h1, h2, h3, h4, Prod.mk.injEq] at h
  obtain ⟨hf, hj, he⟩ := h
  obtain ⟨z4, l, hl, hc, hm, hd, hp⟩ := codeS_back _ _ he
  simp only at z4 hc hd hp
  subst z4
  obtain ⟨z3, b4, d4, p4, q4⟩ := numS_back h4
  subst z3
  obtain ⟨z2, b3, d3, p3, _⟩ := numS_back h3
  subst z2
  obtain ⟨z1, b2, d2, p2, _⟩ := numS_back h2
  subst z1
  obtain ⟨z0, b1, d1, p1, _⟩ := numS_back h1
  rw [List.nil_append] at hc
  rw [hc] at hf
  rw [hj] at hd hp
  subst hf
  have hal : (l.length : Int) = a4 := by rw [hl]; omega
  refine ⟨z0, ?_, ?_, ?_⟩
  · unfold mayF headB
    simp only [b1, b2, b3, hal, b4, hm]
    rfl
  · unfold encF
    simp only [hal]
    rw [d1, d2, d3, d4, hd]
    simp
  · unfold encF
    simp only [hal]
    rw [hp, p4, p3, p2, p1]
    simp
    omega
theorem funsS_back {s : B} : ∀ (m : Nat) (st : Pg × Nat × Int), (funsS s m st).2.2 = 0 → st.2.2 = 0 ∧ ∃ l, l.length = m ∧ (funsS s m st).1 = st.1 ++ l ∧ (∀ f ∈ l, mayF f = true) ∧ s.drop st.2.1 = l.flatMap encF ++ s.drop (funsS s m st).2.1 ∧ (funsS s m st).2.1 = st.2.1 + (l.flatMap encF).length
  | 0, st, h => ⟨h, [], rfl, by simp [funsS], by simp, by simp [funsS], by simp [funsS]⟩
  | m + 1, (xs, i, e), h => by
    by_cases he : e = 0
    · obtain ⟨x, j, f, hi⟩ : ∃ x j f, funS s i e = (x, j, f) := ⟨_, _, _, rfl⟩
      rw [funsS_step he hi] at h ⊢
      obtain ⟨h1, l, h2, h3, h4, h5, h6⟩ := funsS_back m (xs ++ [x], j, f) h
      simp only at h1 h5 h6
      subst h1
      obtain ⟨_, hx, hd, hj⟩ := funS_back hi
      refine ⟨he, x :: l, by simp [h2], by rw [h3]; simp, ?_, ?_, ?_⟩
      · intro g hg
        rw [List.mem_cons] at hg
        rcases hg with rfl | hg
        · exact hx
        · exact h4 g hg
      · show s.drop i = _
        rw [hd, h5, List.flatMap_cons, List.append_assoc]
      · show _ = i + _
        rw [h6, hj, List.flatMap_cons, List.length_append]; omega
    · rw [funsS_err he] at h
      exact absurd h he
theorem enc_dec {s : B} (h : (decS s).2 = 0) : mayP (decS s).1 = true ∧ encP (decS s).1 = s := by
  obtain ⟨a4, i4, e4, h4⟩ : ∃ a i' e', numS s 1 16 0 0 = (a, i', e') := ⟨_, _, _, rfl⟩
  unfold decS at h ⊢
  simp only [h4] at h ⊢
  split at h
  · rename_i hne; exact absurd h hne
  · rename_i hz
    rw [if_neg hz]
    split at h
    · exact absurd h (by decide)
    · rename_i hlen
      rw [if_neg hlen]
      have hz' : (funsS s a4.toNat ([], i4, e4)).2.2 = 0 := by simpa using hz
      obtain ⟨z4, l, hl, hc, hm, hd, hp⟩ := funsS_back _ _ hz'
      simp only at z4 hc hd hp
      subst z4
      obtain ⟨_, b4, d4, p4, q4⟩ := numS_back h4
      rw [List.nil_append] at hc
      simp only [hc]
      have hal : (l.length : Int) = a4 := by rw [hl]; omega
      have hmay : mayP l = true := by
        unfold mayP
        rw [hal, b4, List.all_eq_true.2 hm]
        rfl
      refine ⟨hmay, ?_⟩
      unfold encP
      rw [if_pos hmay, hal]
      have hend : s.drop (funsS s a4.toNat ([], i4, 0)).2.1 = [] := List.drop_of_length_le (by omega)
      rw [hend, List.append_nil] at hd
      rw [List.drop_zero] at d4
      rw [d4, hd]
end Go.Proofs.YtedkfipjooafeaaGreatDoor.Code
set_option linter.unusedSimpArgs false
set_option linter.unusedVariables false
namespace Go.Proofs.YtedkfipjooafeaaGreatDoor.Code
open Go Go.RowKit Go.Proofs.YtedkfipjooafeaaGreatDoor Go.Proofs.YtedkfipjooafeaaGreatDoor.Op

def numAt (l : List B) (k : Nat) : Int := ((l[k + 1]?).map atoiV).getD 0
def numTo (l : List B) (k j : Nat) : Int := if j < k then numAt l j else 0
theorem numTo_zero (l : List B) (j : Nat) : numTo l 0 j = 0 := by unfold numTo; rw [if_neg (by omega)]
theorem numTo_all (l : List B) (k j : Nat) (h : l.length ≤ k + 1) : numTo l k j = numAt l j := by
  unfold numTo
  split
  · rfl
  · unfold numAt
    rw [List.getElem?_eq_none (by omega)]; rfl
theorem numTo_same (l : List B) (k j : Nat) (h : j ≠ k) : numTo l (k + 1) j = numTo l k j := by
  unfold numTo
  by_cases h1 : j < k
  · rw [if_pos h1, if_pos (by omega)]
  · rw [if_neg h1, if_neg (by omega)]
theorem numTo_next (l : List B) (k : Nat) (w : B) (h : l[k + 1]? = some w) : numTo l (k + 1) k = atoiV w := by
  unfold numTo numAt
  rw [if_pos (by omega), h]; rfl

theorem split_len (c : UInt8) (s : B) : (splitL c s).length ≤ s.length + 1 := by
  induction hn : s.length using Nat.strongRecOn generalizing s with
  | _ n ih =>
  rcases cut_cases c s with h | ⟨a, b, rfl, ha⟩
  · rw [splitL_one c s h]; simp
  · rw [splitL_cut c a b ha, List.length_cons]
    have := ih b.length (by rw [← hn]; simp; omega) b rfl
    rw [← hn, List.length_append, List.length_cons]
    omega
theorem split_small (s : B) : ∀ a ∈ splitL 32 s, a.length ≤ s.length := by
  induction hn : s.length using Nat.strongRecOn generalizing s with
  | _ n ih =>
  rcases cut_cases 32 s with h | ⟨a, b, rfl, ha⟩
  · rw [splitL_one 32 s h]
    intro a ha
    rw [List.mem_singleton] at ha
    subst ha; omega
  · rw [splitL_cut 32 a b ha]
    intro x hx
    rw [List.mem_cons] at hx
    rw [← hn, List.length_append, List.length_cons]
    rcases hx with rfl | hx
    · omega
    · have := ih b.length (by rw [← hn]; simp; omega) b rfl x hx
      omega
theorem ret_tmp_cell {P : Program} {ty t' : TypeId} {b : Nat} {w : World} {fn : Func} {R : Ending → World → Prop} {a : Act} {cs : List Value} {k u : Tmp} (hres : fn.results = #[.tmp u, .cell k ty]) (hk : a.tmps.getD k undef = .pointer (some ⟨b, 0, none⟩)) (ha : ∀ w, (isAgg ty).run P w = .ok true w) (hs : ∀ w, (sizeOf ty).run P w = .ok cs.length w)
    (hd : a.defers = []) (h : Has w b cs.toArray t') (hR : R (.returned (.tuple #[a.tmps.getD u undef, .agg cs.toArray])) w) : bodyPost P fn R .ret a w := by
  refine bodyPost_ret (v := .tuple #[a.tmps.getD u undef, .agg cs.toArray]) ?_ hd hR
  have := run_loadVar_has h ha hs
  have e : a.tmps[k]?.getD undef = .pointer (some ⟨b, 0, none⟩) := by rw [← Array.getD_eq_getD_getElem?]; exact hk
  simp [results, hres, hk, e, asAddr, this]
theorem word_cell (s : B) : ((splitL 32 s).map str).toArray[0]? = some (str (wordOf s)) := by
  rw [List.getElem?_toArray, List.getElem?_map]
  unfold wordOf
  have := splitL_ne 32 s
  cases h : splitL 32 s with
  | nil => exact absurd h this
  | cons a l => rfl
section
variable {w' : World} {g : Nat} {l : List B} {k : Nat} {wd : B}
theorem num_step0 (hw : l[0 + 1]? = some wd) (h : Has w' g #[.int .i64 (numTo l 0 0), .int .i64 (numTo l 0 1), .int .i64 (numTo l 0 2)] 88) : Has (w'.setCell ⟨g, 0, none⟩ (.int .i64 (atoiV wd))) g #[.int .i64 (numTo l (0 + 1) 0), .int .i64 (numTo l (0 + 1) 1), .int .i64 (numTo l (0 + 1) 2)] 88 := by
  rw [numTo_next l 0 wd hw, numTo_same l 0 1 (by decide), numTo_same l 0 2 (by decide)]
  exact h.set_same rfl
theorem num_step1 (hw : l[1 + 1]? = some wd) (h : Has w' g #[.int .i64 (numTo l 1 0), .int .i64 (numTo l 1 1), .int .i64 (numTo l 1 2)] 88) : Has (w'.setCell ⟨g, 1, none⟩ (.int .i64 (atoiV wd))) g #[.int .i64 (numTo l (1 + 1) 0), .int .i64 (numTo l (1 + 1) 1), .int .i64 (numTo l (1 + 1) 2)] 88 := by
  rw [numTo_next l 1 wd hw, numTo_same l 1 0 (by decide), numTo_same l 1 2 (by decide)]
  exact h.set_same rfl
theorem num_step2 (hw : l[2 + 1]? = some wd) (h : Has w' g #[.int .i64 (numTo l 2 0), .int .i64 (numTo l 2 1), .int .i64 (numTo l 2 2)] 88) : Has (w'.setCell ⟨g, 2, none⟩ (.int .i64 (atoiV wd))) g #[.int .i64 (numTo l (2 + 1) 0), .int .i64 (numTo l (2 + 1) 1), .int .i64 (numTo l (2 + 1) 2)] 88 := by
  rw [numTo_next l 2 wd hw, numTo_same l 2 0 (by decide), numTo_same l 2 1 (by decide)]
  exact h.set_same rfl
end
set_option maxRecDepth 20000 in
set_option maxHeartbeats 8000000 in
theorem numbers_calls (s : B) (hs : s.length < 4294967281) (w : World) (hg : Glob w) :
    Calls Tryz.prog 58 #[str s] w fun e w' => e = .returned (.tuple #[str (wordOf s), .agg #[.int .i64 (numAt (splitL 32 s) 0), .int .i64 (numAt (splitL 32 s) 1), .int .i64 (numAt (splitL 32 s) 2)]]) ∧ Below w.heap.size w w' := by
  have S := Lib.hid (fun (W : World) (hW : Below w.heap.size w W) => Split_calls s 32 hs W (hg.below hW))
  have HG := Lib.hid hg
  have hL0 : 1 ≤ (splitL 32 s).length := List.length_pos_iff.2 (splitL_ne 32 s)
  have hLs := Lib.hid (split_small s)
  have hLn : (splitL 32 s).length ≤ 4294967281 := by have := split_len 32 s; omega
  clear hg
  have hstart : Has (((w.alloc (.cells #[.int .i64 0, .int .i64 0, .int .i64 0] 88)).alloc (.cells #[.int .i64 0, .int .i64 0, .int .i64 0] 88)).alloc (.cells ((splitL 32 s).map str).toArray 9)) (w.heap.size + 1) #[.int .i64 (numTo (splitL 32 s) 0 0), .int .i64 (numTo (splitL 32 s) 0 1), .int .i64 (numTo (splitL 32 s) 0 2)] 88 := by
    rw [numTo_zero, numTo_zero, numTo_zero]
    exact (Has.new' (by simp) _ _).alloc _
  have hstart := Lib.hid hstart
  by_cases hL1 : (splitL 32 s).length = 1
  · have hle : (splitL 32 s).length ≤ 1 := by omega
    have hL1' : ((splitL 32 s).length = 1) = True := eq_true hL1
    clear hL1
    go_enter Tryz.func58, Tryz.ntmps58
    go_wp2_with (first | (go_at_call 80; (with_reducible refine (S.out _ (by (repeat (first | (with_reducible assumption) | (with_reducible exact Below.refl _ _) | (with_reducible refine grow_alloc ?_ _) | (with_reducible refine grow_mix ?_ _) | (with_reducible refine grow_drew ?_) | (with_reducible refine grow_drewN ?_ _) | (with_reducible refine grow_set ?_ (by first | (simp; done) | (simp; omega) | omega) _))))).mono ?_); rintro e w' ⟨rfl, rfl⟩))
    go_loopw [13] (fun i wr => ∃ k : Nat, k + 1 ≤ (splitL 32 s).length ∧ i = .int .i64 k ∧ Below w.heap.size w wr ∧ Hid (Has wr (w.heap.size + 1) #[.int .i64 (numTo (splitL 32 s) k 0), .int .i64 (numTo (splitL 32 s) k 1), .int .i64 (numTo (splitL 32 s) k 2)] 88 ∧ Has wr w.heap.size #[.int .i64 0, .int .i64 0, .int .i64 0] 88 ∧ Has wr (w.heap.size + 1 + 1) ((splitL 32 s).map str).toArray 9)) (fun i _ => (splitL 32 s).length - (intOf i).toNat)
    case atStart => exact ⟨0, by omega, rfl, by (repeat (first | (with_reducible assumption) | (with_reducible exact Below.refl _ _) | (with_reducible refine grow_alloc ?_ _) | (with_reducible refine grow_mix ?_ _) | (with_reducible refine grow_drew ?_) | (with_reducible refine grow_drewN ?_ _) | (with_reducible refine grow_set ?_ (by first | (simp; done) | (simp; omega) | omega) _))), Lib.hid ⟨hstart.out, ((Has.new _ _ _).alloc _).alloc _, Has.new' (by simp) _ _⟩⟩
    case round =>
      obtain ⟨k, hk, rfl, hb, HR⟩ := hrel
      have hk0 : k ≤ 0 := by omega
      have hN := HR.out.1
      have hZ := HR.out.2.1
      have hW := HR.out.2.2
      have hN_c0 := hN.cell 0
      have hN_c1 := hN.cell 1
      have hN_c2 := hN.cell 2
      have hN_l := hN.lt
      have hZ_c0 := hZ.cell 0
      have hZ_c1 := hZ.cell 1
      have hZ_c2 := hZ.cell 2
      have hZ_f := hZ.frozen
      have hZ_l := hZ.lt
      have hW_c0 := (hW.cell 0).trans (word_cell s)
      have hW_l := hW.lt
      have HNN := Lib.hid (And.intro (numTo_all (splitL 32 s) k 0 (by omega)) (And.intro (numTo_all (splitL 32 s) k 1 (by omega)) (numTo_all (splitL 32 s) k 2 (by omega))))
      go_wp2
      refine wp_region_mix 5 (by kernel_rfl) (by kernel_rfl) ?_
      simp only [List.take_succ_cons, List.take_zero, List.drop_succ_cons, List.drop_zero]
      repeat (go_big_quiet_step ((fail)))
      refine wpQuiet_nil ?_
      intro _ hmix
      (try (with_reducible replace hmix := mix_flat hmix))
      obtain ⟨x1, hmix'⟩ := hmix
      have hz := mix_size' hmix'
      subst hmix'
      (try simp only [World.size_alloc, World.size_setCell, World.size_drew] at hz); (try have q0 : w.heap.size < _ := Nat.lt_of_lt_of_le (by omega) hz); (try have q1 : w.heap.size + 1 < _ := Nat.lt_of_lt_of_le (by omega) hz); (try have q2 : w.heap.size + 1 + 1 < _ := Nat.lt_of_lt_of_le (by omega) hz); (try have q3 : w.heap.size + 1 + 1 + 1 < _ := Nat.lt_of_lt_of_le (by omega) hz)
      go_wp2
      refine ret_tmp_cell (b := w.heap.size) (cs := [.int .i64 (numTo (splitL 32 s) k 0), .int .i64 (numTo (splitL 32 s) k 1), .int .i64 (numTo (splitL 32 s) k 2)]) (t' := 88) Tryz.results58 rfl Tryz.isAgg88 Tryz.sizeOf88 rfl ?_ ⟨by rw [HNN.out.1, HNN.out.2.1, HNN.out.2.2]; rfl, by (repeat (first | (with_reducible assumption) | (with_reducible exact Below.refl _ _) | (with_reducible refine grow_alloc ?_ _) | (with_reducible refine grow_mix ?_ _) | (with_reducible refine grow_drew ?_) | (with_reducible refine grow_drewN ?_ _) | (with_reducible refine grow_set ?_ (by first | (simp; done) | (simp; omega) | omega) _)))⟩
      exact ((((hZ.mix _).set_same (i := 0) (v := .int .i64 (numTo (splitL 32 s) k 0)) rfl).set_same (i := 1) (v := .int .i64 (numTo (splitL 32 s) k 1)) rfl).set_same (i := 2) (v := .int .i64 (numTo (splitL 32 s) k 2)) rfl)
  · have hL2 : 2 ≤ (splitL 32 s).length := by omega
    have hL1' : ((splitL 32 s).length == 1) = false := by simpa using hL1
    go_enter Tryz.func58, Tryz.ntmps58
    go_wp2_with (first | (go_at_call 80; (with_reducible refine (S.out _ (by (repeat (first | (with_reducible assumption) | (with_reducible exact Below.refl _ _) | (with_reducible refine grow_alloc ?_ _) | (with_reducible refine grow_mix ?_ _) | (with_reducible refine grow_drew ?_) | (with_reducible refine grow_drewN ?_ _) | (with_reducible refine grow_set ?_ (by first | (simp; done) | (simp; omega) | omega) _))))).mono ?_); rintro e w' ⟨rfl, rfl⟩))
    go_loopw [13] (fun i wr => ∃ k : Nat, k + 1 ≤ (splitL 32 s).length ∧ i = .int .i64 k ∧ Below w.heap.size w wr ∧ Hid (Has wr (w.heap.size + 1) #[.int .i64 (numTo (splitL 32 s) k 0), .int .i64 (numTo (splitL 32 s) k 1), .int .i64 (numTo (splitL 32 s) k 2)] 88 ∧ Has wr w.heap.size #[.int .i64 0, .int .i64 0, .int .i64 0] 88 ∧ Has wr (w.heap.size + 1 + 1) ((splitL 32 s).map str).toArray 9)) (fun i _ => (splitL 32 s).length - (intOf i).toNat)
    case atStart => exact ⟨0, by omega, rfl, by (repeat (first | (with_reducible assumption) | (with_reducible exact Below.refl _ _) | (with_reducible refine grow_alloc ?_ _) | (with_reducible refine grow_mix ?_ _) | (with_reducible refine grow_drew ?_) | (with_reducible refine grow_drewN ?_ _) | (with_reducible refine grow_set ?_ (by first | (simp; done) | (simp; omega) | omega) _))), Lib.hid ⟨hstart.out, ((Has.new _ _ _).alloc _).alloc _, Has.new' (by simp) _ _⟩⟩
    case round =>
      obtain ⟨k, hk, rfl, hb, HR⟩ := hrel
      by_cases hlt : k + 1 < (splitL 32 s).length
      · obtain ⟨wd, hwd⟩ : ∃ wd, (splitL 32 s)[k + 1]? = some wd := ⟨_, List.getElem?_eq_getElem hlt⟩
        have HW1 := Lib.hid hwd
        have hwc : wr.cell? ⟨w.heap.size + 1 + 1, 1 + k, none⟩ = some (str wd) := by
          rw [HR.out.2.2.cell, List.getElem?_toArray, List.getElem?_map, Nat.add_comm, hwd]; rfl
        have hwl : wd.length ≤ 281474976710656 := by have := hLs.out wd (List.mem_of_getElem? hwd); omega
        have A0 := Lib.hid (fun (W : World) (hW : Below w.heap.size w W) => Atoi_calls wd hwl W (HG.out.below hW))
        clear hwd
        by_cases h3 : k < 3
        · have hcases : k = 0 ∨ k = 1 ∨ k = 2 := by omega
          rcases hcases with rfl | rfl | rfl
          ·
            have hN := HR.out.1
            have hN_c := hN.cell 0
            have hN_f := hN.frozen
            have hN_l := hN.lt
            have T0 := Lib.hid (And.intro HW1.out HR.out)
            go_wp2_with (first | (go_at_call 81; (with_reducible refine (A0.out _ (by (repeat (first | (with_reducible assumption) | (with_reducible exact Below.refl _ _) | (with_reducible refine grow_alloc ?_ _) | (with_reducible refine grow_mix ?_ _) | (with_reducible refine grow_drew ?_) | (with_reducible refine grow_drewN ?_ _) | (with_reducible refine grow_set ?_ (by first | (simp; done) | (simp; omega) | omega) _))))).mono ?_); rintro e w' ⟨rfl, hb⟩; have hz := hb.size; (first | (obtain ⟨x1, rfl⟩ := to_mix2 hb) | (obtain ⟨x1, rfl⟩ := to_mix hb)); clear hb; (try simp only [World.size_alloc, World.size_setCell, World.size_drew] at hz); (try have q0 : w.heap.size < _ := Nat.lt_of_lt_of_le (by omega) hz); (try have q1 : w.heap.size + 1 < _ := Nat.lt_of_lt_of_le (by omega) hz); (try have q2 : w.heap.size + 1 + 1 < _ := Nat.lt_of_lt_of_le (by omega) hz); (try have q3 : w.heap.size + 1 + 1 + 1 < _ := Nat.lt_of_lt_of_le (by omega) hz)) | (go_at_call 81; (with_reducible refine (A0.out _ (by (repeat (first | (with_reducible assumption) | (with_reducible exact Below.refl _ _) | (with_reducible refine grow_alloc ?_ _) | (with_reducible refine grow_mix ?_ _) | (with_reducible refine grow_drew ?_) | (with_reducible refine grow_drewN ?_ _) | (with_reducible refine grow_set ?_ (by first | (simp; done) | (simp; omega) | omega) _))))).mono ?_); rintro e w' ⟨⟨v, rfl, hv⟩, hb⟩; have hz := hb.size; (obtain ⟨x1, rfl⟩ := to_mix hb); clear hb))
            go_roundw
            case rel => exact ⟨0 + 1, by omega, by go_num, by (repeat (first | (with_reducible assumption) | (with_reducible exact Below.refl _ _) | (with_reducible refine grow_alloc ?_ _) | (with_reducible refine grow_mix ?_ _) | (with_reducible refine grow_drew ?_) | (with_reducible refine grow_drewN ?_ _) | (with_reducible refine grow_set ?_ (by first | (simp; done) | (simp; omega) | omega) _))), Lib.hid ⟨num_step0 HW1.out (HR.out.1.mix _), ((HR.out.2.1.mix _).set_other (p := ⟨w.heap.size + 1, 0, none⟩) (by simp)), ((HR.out.2.2.mix _).set_other (p := ⟨w.heap.size + 1, 0, none⟩) (by simp))⟩⟩
            case measure => simp [intOf]; omega
          ·
            have hN := HR.out.1
            have hN_c := hN.cell 1
            have hN_f := hN.frozen
            have hN_l := hN.lt
            have T0 := Lib.hid (And.intro HW1.out HR.out)
            go_wp2_with (first | (go_at_call 81; (with_reducible refine (A0.out _ (by (repeat (first | (with_reducible assumption) | (with_reducible exact Below.refl _ _) | (with_reducible refine grow_alloc ?_ _) | (with_reducible refine grow_mix ?_ _) | (with_reducible refine grow_drew ?_) | (with_reducible refine grow_drewN ?_ _) | (with_reducible refine grow_set ?_ (by first | (simp; done) | (simp; omega) | omega) _))))).mono ?_); rintro e w' ⟨rfl, hb⟩; have hz := hb.size; (first | (obtain ⟨x1, rfl⟩ := to_mix2 hb) | (obtain ⟨x1, rfl⟩ := to_mix hb)); clear hb; (try simp only [World.size_alloc, World.size_setCell, World.size_drew] at hz); (try have q0 : w.heap.size < _ := Nat.lt_of_lt_of_le (by omega) hz); (try have q1 : w.heap.size + 1 < _ := Nat.lt_of_lt_of_le (by omega) hz); (try have q2 : w.heap.size + 1 + 1 < _ := Nat.lt_of_lt_of_le (by omega) hz); (try have q3 : w.heap.size + 1 + 1 + 1 < _ := Nat.lt_of_lt_of_le (by omega) hz)) | (go_at_call 81; (with_reducible refine (A0.out _ (by (repeat (first | (with_reducible assumption) | (with_reducible exact Below.refl _ _) | (with_reducible refine grow_alloc ?_ _) | (with_reducible refine grow_mix ?_ _) | (with_reducible refine grow_drew ?_) | (with_reducible refine grow_drewN ?_ _) | (with_reducible refine grow_set ?_ (by first | (simp; done) | (simp; omega) | omega) _))))).mono ?_); rintro e w' ⟨⟨v, rfl, hv⟩, hb⟩; have hz := hb.size; (obtain ⟨x1, rfl⟩ := to_mix hb); clear hb))
            go_roundw
            case rel => exact ⟨1 + 1, by omega, by go_num, by (repeat (first | (with_reducible assumption) | (with_reducible exact Below.refl _ _) | (with_reducible refine grow_alloc ?_ _) | (with_reducible refine grow_mix ?_ _) | (with_reducible refine grow_drew ?_) | (with_reducible refine grow_drewN ?_ _) | (with_reducible refine grow_set ?_ (by first | (simp; done) | (simp; omega) | omega) _))), Lib.hid ⟨num_step1 HW1.out (HR.out.1.mix _), ((HR.out.2.1.mix _).set_other (p := ⟨w.heap.size + 1, 1, none⟩) (by simp)), ((HR.out.2.2.mix _).set_other (p := ⟨w.heap.size + 1, 1, none⟩) (by simp))⟩⟩
            case measure => simp [intOf]; omega
          ·
            have hN := HR.out.1
            have hN_c := hN.cell 2
            have hN_f := hN.frozen
            have hN_l := hN.lt
            have T0 := Lib.hid (And.intro HW1.out HR.out)
            go_wp2_with (first | (go_at_call 81; (with_reducible refine (A0.out _ (by (repeat (first | (with_reducible assumption) | (with_reducible exact Below.refl _ _) | (with_reducible refine grow_alloc ?_ _) | (with_reducible refine grow_mix ?_ _) | (with_reducible refine grow_drew ?_) | (with_reducible refine grow_drewN ?_ _) | (with_reducible refine grow_set ?_ (by first | (simp; done) | (simp; omega) | omega) _))))).mono ?_); rintro e w' ⟨rfl, hb⟩; have hz := hb.size; (first | (obtain ⟨x1, rfl⟩ := to_mix2 hb) | (obtain ⟨x1, rfl⟩ := to_mix hb)); clear hb; (try simp only [World.size_alloc, World.size_setCell, World.size_drew] at hz); (try have q0 : w.heap.size < _ := Nat.lt_of_lt_of_le (by omega) hz); (try have q1 : w.heap.size + 1 < _ := Nat.lt_of_lt_of_le (by omega) hz); (try have q2 : w.heap.size + 1 + 1 < _ := Nat.lt_of_lt_of_le (by omega) hz); (try have q3 : w.heap.size + 1 + 1 + 1 < _ := Nat.lt_of_lt_of_le (by omega) hz)) | (go_at_call 81; (with_reducible refine (A0.out _ (by (repeat (first | (with_reducible assumption) | (with_reducible exact Below.refl _ _) | (with_reducible refine grow_alloc ?_ _) | (with_reducible refine grow_mix ?_ _) | (with_reducible refine grow_drew ?_) | (with_reducible refine grow_drewN ?_ _) | (with_reducible refine grow_set ?_ (by first | (simp; done) | (simp; omega) | omega) _))))).mono ?_); rintro e w' ⟨⟨v, rfl, hv⟩, hb⟩; have hz := hb.size; (obtain ⟨x1, rfl⟩ := to_mix hb); clear hb))
            go_roundw
            case rel => exact ⟨2 + 1, by omega, by go_num, by (repeat (first | (with_reducible assumption) | (with_reducible exact Below.refl _ _) | (with_reducible refine grow_alloc ?_ _) | (with_reducible refine grow_mix ?_ _) | (with_reducible refine grow_drew ?_) | (with_reducible refine grow_drewN ?_ _) | (with_reducible refine grow_set ?_ (by first | (simp; done) | (simp; omega) | omega) _))), Lib.hid ⟨num_step2 HW1.out (HR.out.1.mix _), ((HR.out.2.1.mix _).set_other (p := ⟨w.heap.size + 1, 2, none⟩) (by simp)), ((HR.out.2.2.mix _).set_other (p := ⟨w.heap.size + 1, 2, none⟩) (by simp))⟩⟩
            case measure => simp [intOf]; omega
        · go_wp2
          go_roundw
          case rel => exact ⟨k + 1, by omega, by go_num, hb, Lib.hid ⟨by rw [numTo_same _ k 0 (by omega), numTo_same _ k 1 (by omega), numTo_same _ k 2 (by omega)]; exact HR.out.1, HR.out.2.1, HR.out.2.2⟩⟩
          case measure => simp [intOf]; omega
      · have hk' : (splitL 32 s).length ≤ k + 1 := by omega
        have hN := HR.out.1
        have hZ := HR.out.2.1
        have hW := HR.out.2.2
        have hN_c0 := hN.cell 0
        have hN_c1 := hN.cell 1
        have hN_c2 := hN.cell 2
        have hN_l := hN.lt
        have hZ_c0 := hZ.cell 0
        have hZ_c1 := hZ.cell 1
        have hZ_c2 := hZ.cell 2
        have hZ_f := hZ.frozen
        have hZ_l := hZ.lt
        have hW_c0 := (hW.cell 0).trans (word_cell s)
        have hW_l := hW.lt
        have HNN := Lib.hid (And.intro (numTo_all (splitL 32 s) k 0 (by omega)) (And.intro (numTo_all (splitL 32 s) k 1 (by omega)) (numTo_all (splitL 32 s) k 2 (by omega))))
        go_wp2
        refine wp_region_mix 5 (by kernel_rfl) (by kernel_rfl) ?_
        simp only [List.take_succ_cons, List.take_zero, List.drop_succ_cons, List.drop_zero]
        repeat (go_big_quiet_step ((fail)))
        refine wpQuiet_nil ?_
        intro _ hmix
        (try (with_reducible replace hmix := mix_flat hmix))
        obtain ⟨x1, hmix'⟩ := hmix
        have hz := mix_size' hmix'
        subst hmix'
        (try simp only [World.size_alloc, World.size_setCell, World.size_drew] at hz); (try have q0 : w.heap.size < _ := Nat.lt_of_lt_of_le (by omega) hz); (try have q1 : w.heap.size + 1 < _ := Nat.lt_of_lt_of_le (by omega) hz); (try have q2 : w.heap.size + 1 + 1 < _ := Nat.lt_of_lt_of_le (by omega) hz); (try have q3 : w.heap.size + 1 + 1 + 1 < _ := Nat.lt_of_lt_of_le (by omega) hz)
        go_wp2
        refine ret_tmp_cell (b := w.heap.size) (cs := [.int .i64 (numTo (splitL 32 s) k 0), .int .i64 (numTo (splitL 32 s) k 1), .int .i64 (numTo (splitL 32 s) k 2)]) (t' := 88) Tryz.results58 rfl Tryz.isAgg88 Tryz.sizeOf88 rfl ?_ ⟨by rw [HNN.out.1, HNN.out.2.1, HNN.out.2.2]; rfl, by (repeat (first | (with_reducible assumption) | (with_reducible exact Below.refl _ _) | (with_reducible refine grow_alloc ?_ _) | (with_reducible refine grow_mix ?_ _) | (with_reducible refine grow_drew ?_) | (with_reducible refine grow_drewN ?_ _) | (with_reducible refine grow_set ?_ (by first | (simp; done) | (simp; omega) | omega) _)))⟩
        exact ((((hZ.mix _).set_same (i := 0) (v := .int .i64 (numTo (splitL 32 s) k 0)) rfl).set_same (i := 1) (v := .int .i64 (numTo (splitL 32 s) k 1)) rfl).set_same (i := 2) (v := .int .i64 (numTo (splitL 32 s) k 2)) rfl)
end Go.Proofs.YtedkfipjooafeaaGreatDoor.Code
set_option linter.unusedSimpArgs false
set_option linter.unusedVariables false
namespace Go.Proofs.YtedkfipjooafeaaGreatDoor.Code
open Go Go.RowKit Go.Proofs.YtedkfipjooafeaaGreatDoor Go.Proofs.YtedkfipjooafeaaGreatDoor.Op

theorem eql_str (a b : List UInt8) (w : World) : (binOp .eql 9 (str a) (str b)).run Tryz.prog w = .ok (.bool (decide (a = b))) w := by
  go_simp
  rw [Bool.eq_iff_iff]
  simp
theorem neq_str (a b : List UInt8) (w : World) : (binOp .neq 9 (str a) (str b)).run Tryz.prog w = .ok (.bool (!decide (a = b))) w := by
  go_simp
  rw [Bool.eq_iff_iff]
  simp
attribute [local go_sem high] eql_str neq_str
abbrev kindA (n : B) (x y z : Int) : Value := .agg #[str n, .int .i64 x, .int .i64 y, .int .i64 z]
theorem find1_calls (n : B) (x y z : Int) (s : B) (b : Nat) (r : Bool) (hr : decide (n = s) = r) (w : World) (h : Has w b #[str s] 9) :
    Calls Tryz.prog 84 #[kindA n x y z, .pointer (some ⟨b, 0, none⟩)] w fun e w' => e = .returned (.bool r) ∧ Below w.heap.size w w' := by
  have hc := h.cell 0
  have hl := h.lt
  have hr' : (n == s) = r := by rw [← hr, Bool.eq_iff_iff]; simp
  go_enter Tryz.func84, Tryz.ntmps84
  go_wp2
  go_ret
  exact ⟨rfl, by (repeat (first | (with_reducible assumption) | (with_reducible exact Below.refl _ _) | (with_reducible refine grow_alloc ?_ _) | (with_reducible refine grow_mix ?_ _) | (with_reducible refine grow_drew ?_) | (with_reducible refine grow_drewN ?_ _) | (with_reducible refine grow_set ?_ (by first | (simp; done) | (simp; omega) | omega) _)))⟩
theorem kind_cell {w : World} {b k j : Nat} (h : Has w b kindsL.toArray 113) (hk : k < 17) (hj : j < 4) : w.cell? ⟨b, k * 4 + j, none⟩ = (kindL k)[j]? := by
  rw [h.cell, List.getElem?_toArray]
  exact flat_get kindL 4 (fun _ => rfl) (List.range 17) k j k (List.getElem?_range hk) hj
set_option maxHeartbeats 1000000 in
theorem indexKind_calls (s : B) (b q : Nat) (w : World) (h : Has w b kindsL.toArray 113) (hq : Has w q #[str s] 9) :
    Calls Tryz.prog 83 #[.slice (some ⟨b, 0, none⟩) 17 17, .func (.func 84) #[] #[.pointer (some ⟨q, 0, none⟩)]] w fun e w' =>
      (∃ n : Int, e = .returned (.int .i64 n) ∧ ((n = -1 ∧ ∀ k, k < 17 → nameN k ≠ s) ∨ ∃ k : Nat, k < 17 ∧ n = k ∧ nameN k = s)) ∧ Below w.heap.size w w' := by
  have HK := Lib.hid h
  have HQ := Lib.hid hq
  have hbl := h.lt
  clear h hq
  go_enter Tryz.func83, Tryz.ntmps83
  go_wp2
  go_loopw [8] (fun i wr => ∃ k : Nat, k ≤ 17 ∧ i = .int .i64 k ∧ Below w.heap.size w wr ∧ Hid (∀ j, j < k → nameN j ≠ s)) (fun i _ => 17 - (intOf i).toNat)
  case atStart => exact ⟨0, Nat.zero_le _, rfl, Below.refl _ _, Lib.hid (fun j hj => by omega)⟩
  case round =>
    obtain ⟨k, hk, rfl, hb, HA⟩ := hrel
    by_cases hlt : k < 17
    · have hK := HK.out.below' hb
      have c0 : wr.cell? ⟨b, k * 4, none⟩ = some (str (nameN k)) := kind_cell hK hlt (j := 0) (by omega)
      have c1 : wr.cell? ⟨b, k * 4 + 1, none⟩ = some (.int .i64 (fieldsL.getD k 0)) := kind_cell hK hlt (j := 1) (by omega)
      have c2 : wr.cell? ⟨b, k * 4 + 2, none⟩ = some (.int .i64 (offL.getD k 0)) := kind_cell hK hlt (j := 2) (by omega)
      have c3 : wr.cell? ⟨b, k * 4 + 3, none⟩ = some (.int .i64 (onL.getD k 0)) := kind_cell hK hlt (j := 3) (by omega)
      have hK := Lib.hid hK
      obtain ⟨nm, hnm⟩ : ∃ x, nameN k = x := ⟨_, rfl⟩
      obtain ⟨fa, hfa⟩ : ∃ x, fieldsL.getD k 0 = x := ⟨_, rfl⟩
      obtain ⟨fb, hfb⟩ : ∃ x, offL.getD k 0 = x := ⟨_, rfl⟩
      obtain ⟨fc, hfc⟩ : ∃ x, onL.getD k 0 = x := ⟨_, rfl⟩
      rw [hnm] at c0
      rw [hfa] at c1
      rw [hfb] at c2
      rw [hfc] at c3
      have HNM := Lib.hid hnm
      clear hnm hfa hfb hfc
      by_cases hn : nm = s
      · have F := Lib.hid (fun (W : World) (hW : Below w.heap.size w W) => find1_calls nm fa fb fc s q true (decide_eq_true hn) W (HQ.out.below' hW))
        have HN := Lib.hid hn
        clear hn
        go_wp2_with (first | (go_at_call 84; (with_reducible refine (F.out _ (by (repeat (first | (with_reducible assumption) | (with_reducible exact Below.refl _ _) | (with_reducible refine grow_alloc ?_ _) | (with_reducible refine grow_mix ?_ _) | (with_reducible refine grow_drew ?_) | (with_reducible refine grow_drewN ?_ _) | (with_reducible refine grow_set ?_ (by first | (simp; done) | (simp; omega) | omega) _))))).mono ?_); rintro e w' ⟨rfl, hb⟩; have hz := hb.size; (first | (obtain ⟨x1, rfl⟩ := to_mix2 hb) | (obtain ⟨x1, rfl⟩ := to_mix hb)); clear hb; (try simp only [World.size_alloc, World.size_setCell, World.size_drew] at hz); (try have q0 : w.heap.size < _ := Nat.lt_of_lt_of_le (by omega) hz); (try have q1 : w.heap.size + 1 < _ := Nat.lt_of_lt_of_le (by omega) hz); (try have q2 : w.heap.size + 1 + 1 < _ := Nat.lt_of_lt_of_le (by omega) hz); (try have q3 : w.heap.size + 1 + 1 + 1 < _ := Nat.lt_of_lt_of_le (by omega) hz)))
        go_ret
        exact ⟨⟨k, rfl, .inr ⟨k, hlt, rfl, HNM.out.trans HN.out⟩⟩, by (repeat (first | (with_reducible assumption) | (with_reducible exact Below.refl _ _) | (with_reducible refine grow_alloc ?_ _) | (with_reducible refine grow_mix ?_ _) | (with_reducible refine grow_drew ?_) | (with_reducible refine grow_drewN ?_ _) | (with_reducible refine grow_set ?_ (by first | (simp; done) | (simp; omega) | omega) _)))⟩
      · have F := Lib.hid (fun (W : World) (hW : Below w.heap.size w W) => find1_calls nm fa fb fc s q false (decide_eq_false hn) W (HQ.out.below' hW))
        have HN := Lib.hid hn
        clear hn
        go_wp2_with (first | (go_at_call 84; (with_reducible refine (F.out _ (by (repeat (first | (with_reducible assumption) | (with_reducible exact Below.refl _ _) | (with_reducible refine grow_alloc ?_ _) | (with_reducible refine grow_mix ?_ _) | (with_reducible refine grow_drew ?_) | (with_reducible refine grow_drewN ?_ _) | (with_reducible refine grow_set ?_ (by first | (simp; done) | (simp; omega) | omega) _))))).mono ?_); rintro e w' ⟨rfl, hb⟩; have hz := hb.size; (first | (obtain ⟨x1, rfl⟩ := to_mix2 hb) | (obtain ⟨x1, rfl⟩ := to_mix hb)); clear hb; (try simp only [World.size_alloc, World.size_setCell, World.size_drew] at hz); (try have q0 : w.heap.size < _ := Nat.lt_of_lt_of_le (by omega) hz); (try have q1 : w.heap.size + 1 < _ := Nat.lt_of_lt_of_le (by omega) hz); (try have q2 : w.heap.size + 1 + 1 < _ := Nat.lt_of_lt_of_le (by omega) hz); (try have q3 : w.heap.size + 1 + 1 + 1 < _ := Nat.lt_of_lt_of_le (by omega) hz)))
        go_roundw
        case rel => exact ⟨k + 1, by omega, by go_num, by (repeat (first | (with_reducible assumption) | (with_reducible exact Below.refl _ _) | (with_reducible refine grow_alloc ?_ _) | (with_reducible refine grow_mix ?_ _) | (with_reducible refine grow_drew ?_) | (with_reducible refine grow_drewN ?_ _) | (with_reducible refine grow_set ?_ (by first | (simp; done) | (simp; omega) | omega) _))), Lib.hid (fun j hj => by
          by_cases e : j = k
          · subst e; rw [HNM.out]; exact HN.out
          · exact HA.out j (by omega))⟩
        case measure => simp [intOf]; omega
    · have hk' : k = 17 := by omega
      subst hk'
      go_wp2
      go_ret
      exact ⟨⟨-1, rfl, .inl ⟨rfl, HA.out⟩⟩, by (repeat (first | (with_reducible assumption) | (with_reducible exact Below.refl _ _) | (with_reducible refine grow_alloc ?_ _) | (with_reducible refine grow_mix ?_ _) | (with_reducible refine grow_drew ?_) | (with_reducible refine grow_drewN ?_ _) | (with_reducible refine grow_set ?_ (by first | (simp; done) | (simp; omega) | omega) _)))⟩
def Found (s : B) (n : Int) (is : Bool) : Prop := (is = true ∧ isOp n = true ∧ opName n = s) ∨ (is = false ∧ n = 0 ∧ ∀ k, isOp k = true → opName k ≠ s)
theorem nameN_op {n : Int} (h : isOp n = true) : opName n = nameN n.toNat := by unfold opName nameN; rw [if_pos h]
set_option maxRecDepth 20000 in
set_option maxHeartbeats 1000000 in
theorem Find_calls (s : B) (w : World) :
    Calls Tryz.prog 59 #[str s] w fun e w' => (∃ (n : Int) (is : Bool), e = .returned (.tuple #[.int .i64 n, .bool is]) ∧ Found s n is) ∧ Below w.heap.size w w' := by
  go_enter Tryz.func59, Tryz.ntmps59
  go_wp2_with (first | (go_at_call 82; refine (kinds_calls _).mono ?_; rintro e w' ⟨rfl, hb⟩; have hz := hb.size; (first | (obtain ⟨x1, rfl⟩ := to_mix2 hb) | (obtain ⟨x1, rfl⟩ := to_mix hb)); clear hb; (try simp only [World.size_alloc, World.size_setCell, World.size_drew] at hz); (try have q0 : w.heap.size < _ := Nat.lt_of_lt_of_le (by omega) hz); (try have q1 : w.heap.size + 1 < _ := Nat.lt_of_lt_of_le (by omega) hz); (try have q2 : w.heap.size + 1 + 1 < _ := Nat.lt_of_lt_of_le (by omega) hz); (try have q3 : w.heap.size + 1 + 1 + 1 < _ := Nat.lt_of_lt_of_le (by omega) hz)) | (refine list_store (t := 113) (x := .tmp 4) (y := .tmp 6) rfl rfl rfl rfl (run_storeAt_new (P := Tryz.prog) _ 113 Tryz.zeroCells113 kindsL.toArray (by kernel_rfl) (by kernel_rfl) (by kernel_rfl)) ?_))
  have hB : Below w.heap.size w ((mix (w.alloc (.cells #[str s] 9)) x1).alloc (.cells kindsL.toArray 113)) := by (repeat (first | (with_reducible assumption) | (with_reducible exact Below.refl _ _) | (with_reducible refine grow_alloc ?_ _) | (with_reducible refine grow_mix ?_ _) | (with_reducible refine grow_drew ?_) | (with_reducible refine grow_drewN ?_ _) | (with_reducible refine grow_set ?_ (by first | (simp; done) | (simp; omega) | omega) _)))
  refine (indexKind_calls s _ w.heap.size _ (Has.new _ _ _) (((Has.new w _ _).mix x1).alloc _)).mono ?_
  rintro e w' ⟨⟨n, rfl, hn⟩, hb⟩
  have hB2 := Lib.hid (hB.trans (hb.mono hB.size))
  clear hb hB
  rcases hn with ⟨rfl, hn⟩ | ⟨k, hk, rfl, hn⟩
  · have HN := Lib.hid hn
    clear hn
    go_wp2
    go_ret2
    refine ⟨⟨0, false, rfl, .inr ⟨rfl, rfl, fun k hk e => ?_⟩⟩, hB2.out⟩
    have h1 : 0 ≤ k ∧ k < 17 := by unfold isOp at hk; simpa using hk
    rw [nameN_op hk] at e
    exact HN.out k.toNat (by omega) e
  · have HN := Lib.hid hn
    clear hn
    go_wp2
    go_ret2
    have h1 : isOp (k : Int) = true := by unfold isOp; exact decide_eq_true (by omega)
    exact ⟨⟨k, true, rfl, .inl ⟨rfl, h1, by rw [nameN_op h1]; exact HN.out⟩⟩, hB2.out⟩
end Go.Proofs.YtedkfipjooafeaaGreatDoor.Code
set_option linter.unusedSimpArgs false
set_option linter.unusedVariables false
namespace Go.Proofs.YtedkfipjooafeaaGreatDoor.Code
open Go Go.RowKit Go.Proofs.YtedkfipjooafeaaGreatDoor Go.Proofs.YtedkfipjooafeaaGreatDoor.Op Go.Proofs.YtedkfipjooafeaaGreatDoor.Wire

theorem atoiV_bd (l : B) : -9223372036854775808 ≤ atoiV l ∧ atoiV l ≤ 9223372036854775807 := by
  unfold atoiV
  cases h : Lib.atoiAll l with
  | «syntax» => simp
  | range =>
    simp only
    unfold Lib.atoiSat
    split <;> omega
  | ok v =>
    simp only
    unfold Lib.atoiAll at h
    split at h
    · cases h
    · simp only at h
      split at h
      · cases h
      · cases h
      · split at h
        · cases h
        · split at h
          · cases h
          · injection h with h
            rw [← h]
            split <;> omega
theorem numAt_bd (l : List B) (k : Nat) : -9223372036854775808 ≤ numAt l k ∧ numAt l k ≤ 9223372036854775807 := by
  unfold numAt
  cases l[k + 1]? with
  | none => simp
  | some w => exact atoiV_bd w
theorem parse_one (c : UInt8) (r : List UInt8) (acc d : Nat) (hc : c.toNat = 48 + d) (hd : d < 10) (ha : acc < 1000) : Lib.parseUint10 acc (c :: r) = Lib.parseUint10 (acc * 10 + d) r := by
  rw [Lib.parseUint10, if_pos (by omega), if_neg (by omega), if_neg (by omega), show c.toNat - 48 = d by omega]
theorem parse_dec (n : Nat) (h : n < 1000) : Lib.parseUint10 0 (Lib.decDigits n) = .ok n := by
  by_cases h1 : n < 10
  · rw [digits_small n h1, parse_one _ _ 0 (n % 10) (dig_val n) (by omega) (by omega)]
    show Lib.NumEnd.ok _ = _
    congr 1; omega
  · by_cases h2 : n < 100
    · rw [digits_big n h1, digits_small _ (by omega), List.singleton_append, parse_one _ _ 0 _ (dig_val _) (by omega) (by omega), parse_one _ _ _ _ (dig_val _) (by omega) (by omega)]
      show Lib.NumEnd.ok _ = _
      congr 1; omega
    · rw [digits_big n h1, digits_big (n / 10) (by omega), digits_small _ (by omega), List.append_assoc, List.singleton_append, List.singleton_append,
        parse_one _ _ 0 _ (dig_val _) (by omega) (by omega), parse_one _ _ _ _ (dig_val _) (by omega) (by omega), parse_one _ _ _ _ (dig_val _) (by omega) (by omega)]
      show Lib.NumEnd.ok _ = _
      congr 1; omega
theorem atoi_itoa (n : Int) (h0 : 0 ≤ n) (h1 : n < 1000) : atoiV (Lib.itoa n) = n := by
  have e : Lib.itoa n = Lib.decDigits n.toNat := by unfold Lib.itoa; rw [if_neg (by omega)]
  rw [e]
  have hp := parse_dec n.toNat (by omega)
  have hne := dec_nil n.toNat
  have hd := dec_ne n.toNat
  have hA : Lib.atoiAll (Lib.decDigits n.toNat) = .ok n := by
    cases hl : Lib.decDigits n.toNat with
    | nil => exact absurd hl hne
    | cons c r =>
      have hc := hd c (by rw [hl]; simp)
      rw [hl] at hp
      unfold Lib.atoiAll
      simp only
      rw [if_neg (by omega), show Lib.parseMag (c :: r) = .ok n.toNat by unfold Lib.parseMag; rw [if_neg (by simp)]; exact hp]
      simp only
      rw [if_neg (by omega), if_neg (by omega), if_neg (by omega)]
      congr 1; omega
  unfold atoiV
  rw [hA]
theorem head_back {g : Fn} {s : B} (hc : g.code = []) (hh : headB g = true) (hs : headedB g = s) :
    wordOf s = funcB ∧ g = ⟨numAt (splitL 32 s) 0, numAt (splitL 32 s) 1, numAt (splitL 32 s) 2, []⟩ := by
  have hsp : splitL 32 s = funcB :: [g.ar, g.lo, g.sl].map Lib.itoa := by
    rw [← hs]
    exact line_split _ _ fun y hy => (func_clean y hy).1
  unfold headB inB at hh
  simp only [Bool.and_eq_true, decide_eq_true_eq] at hh
  refine ⟨by unfold wordOf; rw [hsp]; rfl, ?_⟩
  obtain ⟨a, b, c, d⟩ := g
  simp only at hc hh hsp
  subst hc
  rw [hsp]
  show _ = Fn.mk (atoiV (Lib.itoa a)) (atoiV (Lib.itoa b)) (atoiV (Lib.itoa c)) []
  rw [atoi_itoa a (by omega) (by omega), atoi_itoa b (by omega) (by omega), atoi_itoa c (by omega) (by omega)]
theorem ins_back {x : Ins} {s : B} (hm : mayI x = true) (hs : writtenB x = s) :
    wordOf s = opName x.op ∧ x.a = numAt (splitL 32 s) 0 ∧ x.b = numAt (splitL 32 s) 1 := by
  have hsp : splitL 32 s = opName x.op :: (fieldsB x).map Lib.itoa := by
    rw [← hs]
    exact line_split _ _ fun y hy => (name_clean _ y hy).1
  have hb := mayI_bd hm
  have hz := may_zero hm
  refine ⟨by unfold wordOf; rw [hsp]; rfl, ?_⟩
  rw [hsp]
  unfold fieldsB
  obtain ⟨o, a, b⟩ := x
  simp only at hb hz ⊢
  rcases fields_len o with e | e | e <;> rw [e] at hz ⊢
  · rw [hz.1 (by omega), hz.2 (by omega)]
    exact ⟨rfl, rfl⟩
  · rw [hz.2 (by omega)]
    refine ⟨?_, rfl⟩
    show a = atoiV (Lib.itoa a)
    rw [atoi_itoa a (by omega) (by omega)]
  · show a = atoiV (Lib.itoa a) ∧ b = atoiV (Lib.itoa b)
    rw [atoi_itoa a (by omega) (by omega), atoi_itoa b (by omega) (by omega)]
    exact ⟨rfl, rfl⟩
theorem step_head {ps : Pg} {s : B} (hw : wordOf s = funcB) : let f : Fn := ⟨numAt (splitL 32 s) 0, numAt (splitL 32 s) 1, numAt (splitL 32 s) 2, []⟩
    (headedB f = s ∧ headB f = true ∧ ps.length < 16 ∧ (ps = [] ∨ lastN ps ≠ 0) → Step ps s (ps ++ [f])) ∧
    (¬ (headedB f = s ∧ headB f = true ∧ ps.length < 16 ∧ (ps = [] ∨ lastN ps ≠ 0)) → ∀ q, ¬ Step ps s q) := by
  intro f
  refine ⟨fun ⟨h1, h2, h3, h4⟩ => .head f h2 rfl h1 h3 h4, fun hn q hq => ?_⟩
  rcases hq with ⟨g, h1, h2, h3, h4, h5⟩ | ⟨x, h1, h3, _, _⟩
  · have := (head_back h2 h1 h3).2
    have e : g = f := this
    rw [e] at h1 h3
    exact hn ⟨h3, h1, h4, h5⟩
  · have := (ins_back h1 h3).1
    rw [hw] at this
    exact func_none x.op this.symm
theorem step_ins {ps : Pg} {s : B} {n : Int} {is : Bool} (hw : wordOf s ≠ funcB) (hf : Found (wordOf s) n is) : let x : Ins := ⟨n, numAt (splitL 32 s) 0, numAt (splitL 32 s) 1⟩
    (mayI x = true ∧ writtenB x = s ∧ ps ≠ [] ∧ lastN ps ≠ 200 → Step ps s (addI ps x)) ∧
    (¬ (is = true ∧ mayI x = true ∧ writtenB x = s ∧ ps ≠ [] ∧ lastN ps ≠ 200) → ∀ q, ¬ Step ps s q) := by
  intro x
  refine ⟨fun ⟨h1, h2, h3, h4⟩ => .ins x h1 h2 h3 h4, fun hn q hq => ?_⟩
  rcases hq with ⟨g, h1, h2, h3, _, _⟩ | ⟨y, h1, h3, h4, h5⟩
  · exact hw (head_back h2 h1 h3).1
  · obtain ⟨e1, e2, e3⟩ := ins_back h1 h3
    rcases hf with ⟨hi, ho, hnm⟩ | ⟨hi, _, hno⟩
    · have e4 : y.op = n := name_inj (isOp_of_may h1) (by rw [hnm, e1])
      have e : y = x := by
        obtain ⟨o, a, b⟩ := y
        simp only at e2 e3 e4
        rw [e2, e3, e4]
      rw [e] at h1 h3
      exact hn ⟨hi, h1, h3, h4, h5⟩
    · exact hno y.op (isOp_of_may h1) e1.symm
end Go.Proofs.YtedkfipjooafeaaGreatDoor.Code
set_option linter.unusedSimpArgs false
set_option linter.unusedVariables false
namespace Go.Proofs.YtedkfipjooafeaaGreatDoor.Code
open Go Go.RowKit Go.Proofs.YtedkfipjooafeaaGreatDoor Go.Proofs.YtedkfipjooafeaaGreatDoor.Op Go.Proofs.YtedkfipjooafeaaGreatDoor.Wire

theorem Glob.base {base : Nat} {w w' : World} (h : Glob w) (hb : Below base w w') (h8 : 8 ≤ base) : Glob w' := by
  obtain ⟨h1, ⟨m, h2⟩, ⟨e3, h3, h3'⟩, ⟨e4, h4, h4'⟩⟩ := h
  refine ⟨?_, ⟨m, (hb.cell (by show 0 < base; omega)).trans h2⟩, ⟨e3, (hb.cell (by show 1 < base; omega)).trans h3, h3'⟩, ⟨e4, (hb.cell (by show 2 < base; omega)).trans h4, h4'⟩⟩
  have hg : Tryz.prog.globalNamed "internal/strconv.uint64pow10" = some 3 := by kernel_rfl
  unfold Lib.TabIs World.var? at h1 ⊢
  rw [hg] at h1 ⊢
  simp only [Option.bind_some] at h1 ⊢
  rw [hb.block _ (by omega)]
  exact h1
def Apart (vs : List Value) : Prop := vs.Pairwise fun a b => a.ownBlock = none ∨ a.ownBlock ≠ b.ownBlock
theorem Apart.nil_more {vs : List Value} (h : Apart vs) : Apart (vs ++ [.slice none 0 0]) := by
  unfold Apart at *
  rw [List.pairwise_append]
  refine ⟨h, List.pairwise_singleton _ _, fun a ha b hb => ?_⟩
  rw [List.mem_singleton] at hb
  subst hb
  cases ho : a.ownBlock
  · exact .inl rfl
  · exact .inr (by simp [Value.ownBlock])
structure RB (w : World) (base rb : Nat) (v : Value) (ps : Pg) (vs : List Value) : Prop where
  has : Has w rb #[v] 41
  built : Built w base v ps vs
  apart : Apart vs
  le : base ≤ rb

def RowN (B0 : Nat) (cs : List Value) (t : TypeId) (v : Value) (W : World) : Prop := ∃ g, v = .slice (some ⟨g, 0, none⟩) 1 1 ∧ Has W g cs.toArray t ∧ B0 ≤ g
theorem RowN.mono {B0 : Nat} {cs : List Value} {t : TypeId} : Mono (RowN B0 cs t) := fun _ _ _ hb ⟨g, h1, h2, h3⟩ => ⟨g, h1, h2.below hb h2.lt, h3⟩
theorem has_news {W : World} {g : Nat} {cs : List Value} {t : TypeId} (h : Has W g cs.toArray t) : ∀ (j : Nat) u, cs[j]? = some u → W.cell? ((⟨g, 0, none⟩ : Addr).add j) = some u := by
  intro j u hu
  have : (⟨g, 0, none⟩ : Addr).add j = ⟨g, j, none⟩ := by unfold Addr.add; by_cases e : j = 0 <;> simp [e]
  rw [this, h.cell]
  simpa using hu
theorem Built.below {w w' : World} {base : Nat} {v : Value} {ps : Pg} {vs : List Value} (h : Built w base v ps vs) (hb : Below w.heap.size w w') : Built w' base v ps vs :=
  ⟨h.1, own_below h.2.1 hb, fun i f u hi hu => own_below (h.2.2 i f u hi hu) hb⟩
theorem Built.more0 {w w' : World} {base : Nat} {v v' : Value} {ps : Pg} {vs : List Value} {f : Fn} (hf : f.code = []) (h : Built w base v ps vs)
    (hg : w.grownBy w' v.ownBlock) (ho : w'.ownsRow base 39 4 v' (ps.length + 1) (((ps.zip vs).flatMap fun x => fnL x.1 x.2) ++ fnL f (.slice none 0 0))) : Built w' base v' (ps ++ [f]) (vs ++ [.slice none 0 0]) := by
  refine ⟨by simp [h.1], ?_, fun i g y hi hy => ?_⟩
  · rw [List.length_append, List.length_singleton, List.zip_append h.1.symm, List.flatMap_append]
    simpa using ho
  · by_cases hlt : i < ps.length
    · rw [List.getElem?_append_left hlt] at hi
      rw [List.getElem?_append_left (by rw [h.1]; exact hlt)] at hy
      have h1 := h.2.2 i g y hi hy
      exact h1.kept hg (own_own_ne h1 h.2.1 (by decide))
    · rw [List.getElem?_append_right (by omega)] at hi
      rw [List.getElem?_append_right (by rw [h.1]; omega)] at hy
      rw [h.1] at hy
      have hi0 : i - ps.length = 0 := by
        have := (List.getElem?_eq_some_iff.1 hi).1
        simp at this; omega
      rw [hi0] at hi hy
      simp only [List.getElem?_cons_zero, Option.some.injEq] at hi hy
      subst hi hy
      rw [hf]
      exact ⟨by simp, .inl ⟨rfl, rfl⟩⟩
theorem Built.set {w : World} {base g : Nat} {v : Value} {ps : Pg} {vs : List Value} {cs : Array Value} {t : TypeId} (h : Built w base v ps vs) (hh : Has w g cs t) (h1 : 39 ≠ t) (h2 : 64 ≠ t) (i : Nat) (u : Value) : Built (w.setCell ⟨g, i, none⟩ u) base v ps vs :=
  ⟨h.1, own_set h.2.1 (own_ne h.2.1 hh h1) i u, fun j f y hi hy => own_set (h.2.2 j f y hi hy) (own_ne (h.2.2 j f y hi hy) hh h2) i u⟩
theorem Built.at_ {w : World} {base : Nat} {v : Value} {ps : Pg} {vs : List Value} (h : Built w base v ps vs) {k : Nat} (hk : k < ps.length) :
    ∃ (g c : Nat) (A : Option Addr) (n' : Nat), v = .slice (some ⟨g, 0, none⟩) ps.length c ∧ w.cell? ⟨g, k * 4 + 3, none⟩ = some (.slice A (ps[k]).code.length n') ∧ vs[k]? = some (.slice A (ps[k]).code.length n') ∧ w.frozen? ⟨g, k * 4 + 3, none⟩ = false ∧ base ≤ g ∧ g < w.heap.size := by
  obtain ⟨g, c, hv, hb, hlt⟩ := h.2.1.form (by omega)
  have hkv : k < vs.length := by rw [h.1]; exact hk
  have hp : ps[k]? = some ps[k] := List.getElem?_eq_getElem hk
  have hu : vs[k]? = some vs[k] := List.getElem?_eq_getElem hkv
  obtain ⟨A, c', hvk⟩ := own_form (h.2.2 k _ _ hp hu)
  have hx : (ps.zip vs)[k]? = some (ps[k], vs[k]) := by rw [List.getElem?_eq_getElem (by simp; omega), List.getElem_zip]
  have hc := h.2.1.cells (g := g) (by rw [hv]; rfl) (k * 4 + 3) _ (flat_get (fun x => fnL x.1 x.2) 4 (fun _ => rfl) (ps.zip vs) k 3 _ hx (by omega))
  have e : (⟨g, 0, none⟩ : Addr).add (k * 4 + 3) = ⟨g, k * 4 + 3, none⟩ := by unfold Addr.add; simp
  rw [e] at hc
  refine ⟨g, c, A, c', hv, by rw [hc]; exact congrArg some hvk, by rw [hu, hvk], ?_, hb, hlt⟩
  rcases h.2.1.2 with ⟨hv', _⟩ | ⟨g', cap, cur, hv', _, hh, _⟩
  · rw [hv] at hv'; cases hv'
  · rw [hv] at hv'
    injection hv' with hA
    injection hA with hA
    injection hA with hA _
    subst hA
    simp [World.frozen?, hh]

theorem wp_at' {P : Program} {c : Code} {Q : Exit → Act → World → Prop} {a : Act} {w : World} (p : World → Prop) (h : p w) (k : ∀ w', p w' → c.wp P Q a w') : c.wp P Q a w := k w h

theorem list_stop {P : Program} {ops : Array Oper} {Q : Exit → Act → World → Prop} {a : Act} {w : World} {o : Oper} {rest : List Oper} (op : Op) (ho : o.op = op) (h : Hid (wpList P ops Q (o :: rest) a w)) : wpList P ops Q (o :: rest) a w := h.out
theorem list_at {P : Program} {ops : Array Oper} {Q : Exit → Act → World → Prop} {a : Act} {w : World} {l : List Oper} (p : World → Prop) (h : p w) (k : ∀ w', p w' → wpList P ops Q l a w') : wpList P ops Q l a w := k w h
theorem head_rel {base rb b : Nat} {w V w6 : World} {v v' : Value} {ps : Pg} {vs : List Value} {f : Fn} {cs : Array Value} (hf : f.code = []) (hcs : cs = (fnL f (.slice none 0 0)).toArray) (HR : RB w base rb v ps vs) (hbl : w.heap.size < b)
    (hO : V.ownsRow base 39 4 v ps.length ((ps.zip vs).flatMap fun x => fnL x.1 x.2)) (hT : Has V b cs 39) (hR : Has V rb #[v] 41) (hB : Built V base v ps vs) (hY : Below w.heap.size w V)
    (hX : w6.ownsRow base 39 4 v' (ps.length + 1) (((ps.zip vs).flatMap fun x => fnL x.1 x.2) ++ fnL f (.slice none 0 0)) ∧ V.grownBy w6 v.ownBlock) :
    RB (w6.setCell ⟨rb, 0, none⟩ v') base rb v' (ps ++ [f]) (vs ++ [.slice none 0 0]) ∧ Has (w6.setCell ⟨rb, 0, none⟩ v') b cs 39 ∧ Below base w (w6.setCell ⟨rb, 0, none⟩ v') ∧ w.heap.size ≤ (w6.setCell ⟨rb, 0, none⟩ v').heap.size := by
  have hR6 : Has w6 rb #[v] 41 := Has.grown hR hX.2 (own_ne hO hR (by decide))
  have hvb : v.ownBlock ≠ some b := by
    intro e
    have := (HR.built.2.1.lt b e).1
    have := HR.built.2.1.lt b e
    omega
  have hT6 : Has w6 b cs 39 := Has.grown hT hX.2 hvb
  have hne : b ≠ rb := has_ne hT hR (by decide)
  have hbase : base ≤ w.heap.size := by have h1 := HR.le; have h2 := HR.has.lt; omega
  have hbelow : Below base w w6 := (hY.mono hbase).grown hX.2 (by have := hY.size; omega) (fun k hk => (hO.lt k hk).1)
  refine ⟨⟨Has.set_same hR6 rfl, ?_, HR.apart.nil_more, HR.le⟩, Has.set_other hT6 (by simpa using hne), hbelow.setCell HR.le _, ?_⟩
  · exact (hB.more0 hf hX.2 hX.1).set hR6 (by decide) (by decide) 0 v'
  · have h1 := hY.size
    have h2 := hX.2
    simp
    have : V.heap.size ≤ w6.heap.size := hX.2.size
    omega
theorem RB.below {base rb : Nat} {w w' : World} {v : Value} {ps : Pg} {vs : List Value} (h : RB w base rb v ps vs) (hb : Below w.heap.size w w') : RB w' base rb v ps vs := ⟨h.has.below hb h.has.lt, h.built.below hb, h.apart, h.le⟩
theorem last_at {ps : Pg} {m : Nat} (hm : ps.length = m + 1) : (ps[m]'(by omega)).code.length = lastN ps := by
  have : ps.getLast? = some (ps[m]'(by omega)) := by
    rw [List.getLast?_eq_getElem?, show ps.length - 1 = m by omega]
    exact List.getElem?_eq_getElem _
  unfold lastN
  rw [this]
  rfl
set_option maxRecDepth 20000 in
set_option maxHeartbeats 8000000 in
theorem read_head (base rb : Nat) (s : B) (hs : s.length < 4294967281) (ps : Pg) (vs : List Value) (v : Value) (w : World) (hg : Glob w) (h8 : 8 ≤ base) (h : RB w base rb v ps vs) (hn : ps.length ≤ 16) (hw : wordOf s = funcB) :
    Calls Tryz.prog 26 #[.pointer (some ⟨rb, 0, none⟩), str s] w fun e w' => Below base w w' ∧ ∃ ok : Bool, e = .returned (.bool ok) ∧
      ((ok = true ∧ ∃ q v' vs', Step ps s q ∧ RB w' base rb v' q vs') ∨ (ok = false ∧ ∀ q, ¬ Step ps s q)) := by
  obtain ⟨vA, vc, hv⟩ := own_form h.built.2.1
  subst hv
  have HR := Lib.hid h
  have HG := Lib.hid hg
  have hR := h.has
  have hR_c := hR.cell 0
  have hR_l := hR.lt
  have hR_f := hR.frozen
  obtain ⟨n0, hn0⟩ : ∃ n, numAt (splitL 32 s) 0 = n := ⟨_, rfl⟩
  obtain ⟨n1, hn1⟩ : ∃ n, numAt (splitL 32 s) 1 = n := ⟨_, rfl⟩
  obtain ⟨n2, hn2⟩ : ∃ n, numAt (splitL 32 s) 2 = n := ⟨_, rfl⟩
  have N := Lib.hid (by have := numbers_calls s hs w hg; rw [hw, hn0, hn1, hn2] at this; exact this)
  have HW := Lib.hid (And.intro hw (And.intro hn0 (And.intro hn1 hn2)))
  have hbw := Lib.hid h.built.2.1
  have hN : ∀ n ∈ [n0, n1, n2], -9223372036854775808 ≤ n ∧ n ≤ 9223372036854775807 := by
    intro n hn
    simp only [List.mem_cons, List.not_mem_nil, or_false] at hn
    rcases hn with rfl | rfl | rfl
    · rw [← hn0]; exact numAt_bd _ _
    · rw [← hn1]; exact numAt_bd _ _
    · rw [← hn2]; exact numAt_bd _ _
  have hN := Lib.hid hN
  clear hw hn0 hn1 hn2 h hg
  have hfe : ((funcB == [102, 117, 110, 99]) = true) := rfl
  go_enter Tryz.func26, Tryz.ntmps26
  go_wp2_with (first | (go_at_call 58; (with_reducible refine (N.out).mono ?_); rintro e w' ⟨rfl, hb⟩; have hz := hb.size; (first | (obtain ⟨x1, rfl⟩ := to_mix2 hb) | (obtain ⟨x1, rfl⟩ := to_mix hb)); clear hb; (try simp only [World.size_alloc, World.size_setCell, World.size_drew] at hz); (try have q0 : w.heap.size < _ := Nat.lt_of_lt_of_le (by omega) hz); (try have q1 : w.heap.size + 1 < _ := Nat.lt_of_lt_of_le (by omega) hz); (try have q2 : w.heap.size + 1 + 1 < _ := Nat.lt_of_lt_of_le (by omega) hz); (try have q3 : w.heap.size + 1 + 1 + 1 < _ := Nat.lt_of_lt_of_le (by omega) hz)))
  obtain ⟨b, hb⟩ : ∃ b, (mix w x1).heap.size + 1 = b := ⟨_, rfl⟩
  refine wp_at' (fun W => Has W b #[.int .i64 n0, .int .i64 n1, .int .i64 n2, .slice none 0 0] 39 ∧ Below w.heap.size w W) ⟨?_, by (repeat (first | (with_reducible assumption) | (with_reducible exact Below.refl _ _) | (with_reducible refine grow_alloc ?_ _) | (with_reducible refine grow_mix ?_ _) | (with_reducible refine grow_drew ?_) | (with_reducible refine grow_drewN ?_ _) | (with_reducible refine grow_set ?_ (by first | (simp; done) | (simp; omega) | omega) _)))⟩ ?_
  · rw [← hb]
    exact Has.new' (by simp) _ _
  simp only [hb]
  rintro W ⟨hT, hBW⟩
  have hTR := hR.below hBW hR.lt
  have hW := Lib.hid hBW
  have hzW := hBW.size
  clear hR_c hR_l hR_f hBW
  have hT_c0 := hT.cell 0
  have hT_c1 := hT.cell 1
  have hT_c2 := hT.cell 2
  have hT_c3 := hT.cell 3
  have hT_f := hT.frozen
  have hT_l := hT.lt
  simp only [List.size_toArray, List.length_cons, List.length_nil, Nat.reduceAdd, Nat.zero_lt_succ, Nat.one_lt_succ_succ, Nat.reduceLT, getElem?_pos, List.getElem_toArray, List.getElem_cons_zero, List.getElem_cons_succ] at hT_c0 hT_c1 hT_c2 hT_c3
  have hTR_c0 := hTR.cell 0
  have hTR_f := hTR.frozen
  have hTR_l := hTR.lt
  simp only [List.size_toArray, List.length_cons, List.length_nil, Nat.reduceAdd, Nat.zero_lt_succ, Nat.one_lt_succ_succ, Nat.reduceLT, getElem?_pos, List.getElem_toArray, List.getElem_cons_zero, List.getElem_cons_succ] at hTR_c0
  refine wp_flow [true, true, true, true, true, true, false] [(6, RowN base (fnL ⟨n0, n1, n2, []⟩ (.slice none 0 0)) 39)] [0] (by kernel_rfl) (by kernel_rfl) (by kernel_rfl) (by kernel_rfl) (by kernel_rfl) (fun _ _ d _ _ h => by cases d <;> exact h) (by kernel_rfl) ⟨(by first | exact New.mono | exact Two.mono | exact nums_mono _ | exact RowN.mono | assumption), trivial⟩ ?_
  apply Exists.intro
  refine ⟨fun yq => ?_, ⟨fun yq o ho => ?_, trivial⟩, ⟨fun o ho d hd W => ?_, trivial⟩, fun yq => ?_⟩
  · simp only [headQ]
    repeat (go_big_quiet_step ((fail)))
    exact wpQuiet_nil rfl
  ·
    have ho' := Option.some.inj ho
    subst ho'
    have hTY := hT.mix yq
    have hWs : base ≤ (mix W yq).heap.size := by have h1 := HR.out.le; have h2 := HR.out.has.lt; have h3 : Below w.heap.size w (mix W yq) := (by have := hW.out; (repeat (first | (with_reducible assumption) | (with_reducible exact Below.refl _ _) | (with_reducible refine grow_alloc ?_ _) | (with_reducible refine grow_mix ?_ _) | (with_reducible refine grow_drew ?_) | (with_reducible refine grow_drewN ?_ _) | (with_reducible refine grow_set ?_ (by first | (simp; done) | (simp; omega) | omega) _)))); have := h3.size; omega
    revert hWs hTY
    generalize mix W yq = V
    intro hTY hWs
    refine grow_val (v := .slice (some ⟨V.heap.size, 0, none⟩) 1 1) (w' := V.alloc (.cells #[.int .i64 n0, .int .i64 n1, .int .i64 n2, .slice none 0 0] 39)) ?_ ?_ ?_ ?_
    · go_simp
    · exact (Below.refl _ _).alloc (Nat.le_refl _) _
    · exact ⟨_, rfl, Has.new _ _ _, hWs⟩
    · exact fun _ => rfl
  ·
    have ho' := Option.some.inj ho
    subst ho'
    have hd' := Option.some.inj hd
    subst hd'
    first | rfl | (go_simp; done) | (go_simp; rfl)
  ·
    simp only [FlowEnd, List.getElem?_toArray, List.getElem?_cons_succ, List.getElem?_cons_zero, Option.bind_some, Act.put, List.setIfInBounds_toArray, List.set_cons_succ, List.set_cons_zero, List.drop_succ_cons, List.drop_zero, List.length_cons, List.length_nil]
    intro v6 h_v6 n_v6
    obtain ⟨g, rfl, H6, hb6⟩ := h_v6
    have hY : Below w.heap.size w (mix W yq) := by have := hW.out; (repeat (first | (with_reducible assumption) | (with_reducible exact Below.refl _ _) | (with_reducible refine grow_alloc ?_ _) | (with_reducible refine grow_mix ?_ _) | (with_reducible refine grow_drew ?_) | (with_reducible refine grow_drewN ?_ _) | (with_reducible refine grow_set ?_ (by first | (simp; done) | (simp; omega) | omega) _)))
    have hO := Lib.hid (own_below hbw.out hY)
    have hTY := Lib.hid (hT.mix yq)
    have hRY := Lib.hid (hTR.mix yq)
    have hBY := Lib.hid (HR.out.built.below hY)
    have hzY := hY.size
    have hY := Lib.hid hY
    have hbl : w.heap.size < b := by omega
    revert hO hTY hRY hBY hY H6 hzY
    generalize mix W yq = V
    intro H6 hO hTY hRY hBY hzY hY
    have hbV : base ≤ V.heap.size := by have h1 := HR.out.le; have h2 := HR.out.has.lt; omega
    clear hTR_f hTR_l hTR_c0 hT_f hT_l hT_c0 hT_c1 hT_c2 hT_c3
    (refine wpList_app rfl (.tmp 36) (.tmp 38) 23 rfl base 39 4 48 _ Tryz.underlying23 fnRow rfl (by decide) _ ps.length _ rfl hO.out ⟨g, 0, none⟩ 1 1 (fnL ⟨n0, n1, n2, []⟩ (.slice none 0 0)) rfl rfl (has_news H6) (fn_one ⟨n0, n1, n2, []⟩ rfl) (by unfold maxLen; omega) (by omega) (by omega) ?_; intro v' w6 hown' hgrow hblk; obtain ⟨A6, c6, hv6⟩ := own_form hown'; subst hv6; have hR6 := Lib.hid (Has.grown hRY.out hgrow (own_ne hO.out hRY.out (by decide))); have hX := Lib.hid (And.intro hown' hgrow); clear hown' hgrow hblk; have hR6_c := hR6.out.cell 0; have hR6_f := hR6.out.frozen; have hR6_l := hR6.out.lt)
    go_wp2_with (with_reducible (refine list_stop (.load 39 (.tmp 8)) rfl ?_))
    refine Lib.hid (list_at (fun X => RB X base rb (.slice A6 (ps.length + 1) c6) (ps ++ [⟨n0, n1, n2, []⟩]) (vs ++ [.slice none 0 0]) ∧ Has X b #[.int .i64 n0, .int .i64 n1, .int .i64 n2, .slice none 0 0] 39 ∧ Below base w X ∧ w.heap.size ≤ X.heap.size) (head_rel (f := ⟨n0, n1, n2, []⟩) (cs := #[.int .i64 n0, .int .i64 n1, .int .i64 n2, .slice none 0 0]) rfl rfl HR.out hbl hO.out hTY.out hRY.out hBY.out hY.out hX.out) ?_)
    clear hR6_c hR6_f hR6_l hX hR6 hO hTY hRY hBY hY H6 hzY
    rintro X ⟨h1, hT, hBX, hzX⟩
    have HRX := Lib.hid h1
    have HBX := Lib.hid hBX
    have hRX := h1.has
    clear h1 hBX
    have hT_c0 := hT.cell 0
    have hT_c1 := hT.cell 1
    have hT_c2 := hT.cell 2
    have hT_c3 := hT.cell 3
    have hT_f := hT.frozen
    have hT_l := hT.lt
    simp only [List.size_toArray, List.length_cons, List.length_nil, Nat.reduceAdd, Nat.zero_lt_succ, Nat.one_lt_succ_succ, Nat.reduceLT, getElem?_pos, List.getElem_toArray, List.getElem_cons_zero, List.getElem_cons_succ] at hT_c0 hT_c1 hT_c2 hT_c3
    have hRX_c0 := hRX.cell 0
    have hRX_f := hRX.frozen
    have hRX_l := hRX.lt
    simp only [List.size_toArray, List.length_cons, List.length_nil, Nat.reduceAdd, Nat.zero_lt_succ, Nat.one_lt_succ_succ, Nat.reduceLT, getElem?_pos, List.getElem_toArray, List.getElem_cons_zero, List.getElem_cons_succ] at hRX_c0
    obtain ⟨hd, hdE⟩ : ∃ hd, headedB ⟨n0, n1, n2, []⟩ = hd := ⟨_, rfl⟩
    obtain ⟨hb, hbE⟩ : ∃ hb, headB ⟨n0, n1, n2, []⟩ = hb := ⟨_, rfl⟩
    have HH := Lib.hid (fun (W : World) (hW : Below base w W) => headed_calls ⟨n0, n1, n2, []⟩ (.slice none 0 0) W hN.out (HG.out.base hW h8))
    have HD := Lib.hid (fun (W : World) => head_calls ⟨n0, n1, n2, []⟩ none 0 0 W)
    rw [hdE] at HH
    rw [hbE] at HD
    have HS : Hid ((hd = s ∧ hb = true ∧ ps.length < 16 ∧ (ps = [] ∨ lastN ps ≠ 0) → Step ps s (ps ++ [⟨n0, n1, n2, []⟩])) ∧ (¬ (hd = s ∧ hb = true ∧ ps.length < 16 ∧ (ps = [] ∨ lastN ps ≠ 0)) → ∀ q, ¬ Step ps s q)) := by
      have := step_head (ps := ps) HW.out.1
      simp only [HW.out.2.1, HW.out.2.2.1, HW.out.2.2.2, hdE, hbE] at this
      exact Lib.hid this
    clear hdE hbE hN
    have hBXX : Hid (∀ W, Below X.heap.size X W → Below base w W) := Lib.hid fun W hW => HBX.out.trans (hW.mono (by have h1 := HR.out.le; have h2 := HR.out.has.lt; omega))
    rcases Nat.eq_zero_or_pos ps.length with h0 | h0
    · have e1 : ((ps.length : Int) - 1) = -1 := by omega
      simp only [e1]
      cases hE : hd == s
      · have HE := Lib.hid hE
        have HF := Lib.hid (HS.out.2 fun h => by rw [beq_eq_false_iff_ne] at hE; exact hE h.1)
        clear HS
        go_wp2_with (first | (go_at_call 41; (with_reducible refine (HH.out _ (hBXX.out _ (by (repeat (first | (with_reducible assumption) | (with_reducible exact Below.refl _ _) | (with_reducible refine grow_alloc ?_ _) | (with_reducible refine grow_mix ?_ _) | (with_reducible refine grow_drew ?_) | (with_reducible refine grow_drewN ?_ _) | (with_reducible refine grow_set ?_ (by first | (simp; done) | (simp; omega) | omega) _)))))).mono ?_); rintro e w' ⟨rfl, hb⟩; have hz := hb.size; (first | (obtain ⟨x1, rfl⟩ := to_mix2 hb) | (obtain ⟨x1, rfl⟩ := to_mix hb)); clear hb; (try simp only [World.size_alloc, World.size_setCell, World.size_drew] at hz); (try have q0 : w.heap.size < _ := Nat.lt_of_lt_of_le (by omega) hz); (try have q1 : w.heap.size + 1 < _ := Nat.lt_of_lt_of_le (by omega) hz); (try have q2 : w.heap.size + 1 + 1 < _ := Nat.lt_of_lt_of_le (by omega) hz); (try have q3 : w.heap.size + 1 + 1 + 1 < _ := Nat.lt_of_lt_of_le (by omega) hz)) | (go_at_call 33; (with_reducible refine (HD.out _).mono ?_); rintro e w' ⟨rfl, hb⟩; have hz := hb.size; (first | (obtain ⟨x1, rfl⟩ := to_mix2 hb) | (obtain ⟨x1, rfl⟩ := to_mix hb)); clear hb; (try simp only [World.size_alloc, World.size_setCell, World.size_drew] at hz); (try have q0 : w.heap.size < _ := Nat.lt_of_lt_of_le (by omega) hz); (try have q1 : w.heap.size + 1 < _ := Nat.lt_of_lt_of_le (by omega) hz); (try have q2 : w.heap.size + 1 + 1 < _ := Nat.lt_of_lt_of_le (by omega) hz); (try have q3 : w.heap.size + 1 + 1 + 1 < _ := Nat.lt_of_lt_of_le (by omega) hz)))
        go_ret
        exact ⟨hBXX.out _ (by (repeat (first | (with_reducible assumption) | (with_reducible exact Below.refl _ _) | (with_reducible refine grow_alloc ?_ _) | (with_reducible refine grow_mix ?_ _) | (with_reducible refine grow_drew ?_) | (with_reducible refine grow_drewN ?_ _) | (with_reducible refine grow_set ?_ (by first | (simp; done) | (simp; omega) | omega) _)))), false, rfl, .inr ⟨rfl, HF.out⟩⟩
      · cases hb
        · have HF := Lib.hid (HS.out.2 fun h => by cases h.2.1)
          clear HS
          go_wp2_with (first | (go_at_call 41; (with_reducible refine (HH.out _ (hBXX.out _ (by (repeat (first | (with_reducible assumption) | (with_reducible exact Below.refl _ _) | (with_reducible refine grow_alloc ?_ _) | (with_reducible refine grow_mix ?_ _) | (with_reducible refine grow_drew ?_) | (with_reducible refine grow_drewN ?_ _) | (with_reducible refine grow_set ?_ (by first | (simp; done) | (simp; omega) | omega) _)))))).mono ?_); rintro e w' ⟨rfl, hb⟩; have hz := hb.size; (first | (obtain ⟨x1, rfl⟩ := to_mix2 hb) | (obtain ⟨x1, rfl⟩ := to_mix hb)); clear hb; (try simp only [World.size_alloc, World.size_setCell, World.size_drew] at hz); (try have q0 : w.heap.size < _ := Nat.lt_of_lt_of_le (by omega) hz); (try have q1 : w.heap.size + 1 < _ := Nat.lt_of_lt_of_le (by omega) hz); (try have q2 : w.heap.size + 1 + 1 < _ := Nat.lt_of_lt_of_le (by omega) hz); (try have q3 : w.heap.size + 1 + 1 + 1 < _ := Nat.lt_of_lt_of_le (by omega) hz)) | (go_at_call 33; (with_reducible refine (HD.out _).mono ?_); rintro e w' ⟨rfl, hb⟩; have hz := hb.size; (first | (obtain ⟨x1, rfl⟩ := to_mix2 hb) | (obtain ⟨x1, rfl⟩ := to_mix hb)); clear hb; (try simp only [World.size_alloc, World.size_setCell, World.size_drew] at hz); (try have q0 : w.heap.size < _ := Nat.lt_of_lt_of_le (by omega) hz); (try have q1 : w.heap.size + 1 < _ := Nat.lt_of_lt_of_le (by omega) hz); (try have q2 : w.heap.size + 1 + 1 < _ := Nat.lt_of_lt_of_le (by omega) hz); (try have q3 : w.heap.size + 1 + 1 + 1 < _ := Nat.lt_of_lt_of_le (by omega) hz)))
          go_ret
          exact ⟨hBXX.out _ (by (repeat (first | (with_reducible assumption) | (with_reducible exact Below.refl _ _) | (with_reducible refine grow_alloc ?_ _) | (with_reducible refine grow_mix ?_ _) | (with_reducible refine grow_drew ?_) | (with_reducible refine grow_drewN ?_ _) | (with_reducible refine grow_set ?_ (by first | (simp; done) | (simp; omega) | omega) _)))), false, rfl, .inr ⟨rfl, HF.out⟩⟩
        · have HF := Lib.hid (HS.out.1 ⟨eq_of_beq hE, rfl, by omega, .inl (List.length_eq_zero_iff.1 h0)⟩)
          clear HS
          go_wp2_with (first | (go_at_call 41; (with_reducible refine (HH.out _ (hBXX.out _ (by (repeat (first | (with_reducible assumption) | (with_reducible exact Below.refl _ _) | (with_reducible refine grow_alloc ?_ _) | (with_reducible refine grow_mix ?_ _) | (with_reducible refine grow_drew ?_) | (with_reducible refine grow_drewN ?_ _) | (with_reducible refine grow_set ?_ (by first | (simp; done) | (simp; omega) | omega) _)))))).mono ?_); rintro e w' ⟨rfl, hb⟩; have hz := hb.size; (first | (obtain ⟨x1, rfl⟩ := to_mix2 hb) | (obtain ⟨x1, rfl⟩ := to_mix hb)); clear hb; (try simp only [World.size_alloc, World.size_setCell, World.size_drew] at hz); (try have q0 : w.heap.size < _ := Nat.lt_of_lt_of_le (by omega) hz); (try have q1 : w.heap.size + 1 < _ := Nat.lt_of_lt_of_le (by omega) hz); (try have q2 : w.heap.size + 1 + 1 < _ := Nat.lt_of_lt_of_le (by omega) hz); (try have q3 : w.heap.size + 1 + 1 + 1 < _ := Nat.lt_of_lt_of_le (by omega) hz)) | (go_at_call 33; (with_reducible refine (HD.out _).mono ?_); rintro e w' ⟨rfl, hb⟩; have hz := hb.size; (first | (obtain ⟨x1, rfl⟩ := to_mix2 hb) | (obtain ⟨x1, rfl⟩ := to_mix hb)); clear hb; (try simp only [World.size_alloc, World.size_setCell, World.size_drew] at hz); (try have q0 : w.heap.size < _ := Nat.lt_of_lt_of_le (by omega) hz); (try have q1 : w.heap.size + 1 < _ := Nat.lt_of_lt_of_le (by omega) hz); (try have q2 : w.heap.size + 1 + 1 < _ := Nat.lt_of_lt_of_le (by omega) hz); (try have q3 : w.heap.size + 1 + 1 + 1 < _ := Nat.lt_of_lt_of_le (by omega) hz)))
          go_ret
          exact ⟨hBXX.out _ (by (repeat (first | (with_reducible assumption) | (with_reducible exact Below.refl _ _) | (with_reducible refine grow_alloc ?_ _) | (with_reducible refine grow_mix ?_ _) | (with_reducible refine grow_drew ?_) | (with_reducible refine grow_drewN ?_ _) | (with_reducible refine grow_set ?_ (by first | (simp; done) | (simp; omega) | omega) _)))), true, rfl, .inl ⟨rfl, _, _, _, HF.out, HRX.out.below (by (repeat (first | (with_reducible assumption) | (with_reducible exact Below.refl _ _) | (with_reducible refine grow_alloc ?_ _) | (with_reducible refine grow_mix ?_ _) | (with_reducible refine grow_drew ?_) | (with_reducible refine grow_drewN ?_ _) | (with_reducible refine grow_set ?_ (by first | (simp; done) | (simp; omega) | omega) _))))⟩⟩
    · obtain ⟨m, hm⟩ : ∃ m, ps.length = m + 1 := ⟨ps.length - 1, by omega⟩
      have e1 : ((ps.length : Int) - 1) = m := by omega
      obtain ⟨g', c', A', n', hv', hc', _, hf', hb', hl'⟩ := HRX.out.built.at_ (k := m) (by simp; omega)
      have hln : ((ps ++ [⟨n0, n1, n2, []⟩])[m]'(by simp; omega)).code.length = lastN ps := by
        rw [List.getElem_append_left (by omega)]
        exact last_at hm
      rw [hln] at hc'
      obtain ⟨ln, hlnE⟩ : ∃ ln, lastN ps = ln := ⟨_, rfl⟩
      rw [hlnE] at hc' HS
      injection hv' with hv'
      subst hv'
      simp only [e1]
      clear hlnE hln
      cases hE : hd == s
      · have HE := Lib.hid hE
        have HF := Lib.hid (HS.out.2 fun h => by rw [beq_eq_false_iff_ne] at hE; exact hE h.1)
        clear HS
        go_wp2_with (first | (go_at_call 41; (with_reducible refine (HH.out _ (hBXX.out _ (by (repeat (first | (with_reducible assumption) | (with_reducible exact Below.refl _ _) | (with_reducible refine grow_alloc ?_ _) | (with_reducible refine grow_mix ?_ _) | (with_reducible refine grow_drew ?_) | (with_reducible refine grow_drewN ?_ _) | (with_reducible refine grow_set ?_ (by first | (simp; done) | (simp; omega) | omega) _)))))).mono ?_); rintro e w' ⟨rfl, hb⟩; have hz := hb.size; (first | (obtain ⟨x1, rfl⟩ := to_mix2 hb) | (obtain ⟨x1, rfl⟩ := to_mix hb)); clear hb; (try simp only [World.size_alloc, World.size_setCell, World.size_drew] at hz); (try have q0 : w.heap.size < _ := Nat.lt_of_lt_of_le (by omega) hz); (try have q1 : w.heap.size + 1 < _ := Nat.lt_of_lt_of_le (by omega) hz); (try have q2 : w.heap.size + 1 + 1 < _ := Nat.lt_of_lt_of_le (by omega) hz); (try have q3 : w.heap.size + 1 + 1 + 1 < _ := Nat.lt_of_lt_of_le (by omega) hz)) | (go_at_call 33; (with_reducible refine (HD.out _).mono ?_); rintro e w' ⟨rfl, hb⟩; have hz := hb.size; (first | (obtain ⟨x1, rfl⟩ := to_mix2 hb) | (obtain ⟨x1, rfl⟩ := to_mix hb)); clear hb; (try simp only [World.size_alloc, World.size_setCell, World.size_drew] at hz); (try have q0 : w.heap.size < _ := Nat.lt_of_lt_of_le (by omega) hz); (try have q1 : w.heap.size + 1 < _ := Nat.lt_of_lt_of_le (by omega) hz); (try have q2 : w.heap.size + 1 + 1 < _ := Nat.lt_of_lt_of_le (by omega) hz); (try have q3 : w.heap.size + 1 + 1 + 1 < _ := Nat.lt_of_lt_of_le (by omega) hz)))
        go_ret
        exact ⟨hBXX.out _ (by (repeat (first | (with_reducible assumption) | (with_reducible exact Below.refl _ _) | (with_reducible refine grow_alloc ?_ _) | (with_reducible refine grow_mix ?_ _) | (with_reducible refine grow_drew ?_) | (with_reducible refine grow_drewN ?_ _) | (with_reducible refine grow_set ?_ (by first | (simp; done) | (simp; omega) | omega) _)))), false, rfl, .inr ⟨rfl, HF.out⟩⟩
      · cases hb
        · have HF := Lib.hid (HS.out.2 fun h => by cases h.2.1)
          clear HS
          go_wp2_with (first | (go_at_call 41; (with_reducible refine (HH.out _ (hBXX.out _ (by (repeat (first | (with_reducible assumption) | (with_reducible exact Below.refl _ _) | (with_reducible refine grow_alloc ?_ _) | (with_reducible refine grow_mix ?_ _) | (with_reducible refine grow_drew ?_) | (with_reducible refine grow_drewN ?_ _) | (with_reducible refine grow_set ?_ (by first | (simp; done) | (simp; omega) | omega) _)))))).mono ?_); rintro e w' ⟨rfl, hb⟩; have hz := hb.size; (first | (obtain ⟨x1, rfl⟩ := to_mix2 hb) | (obtain ⟨x1, rfl⟩ := to_mix hb)); clear hb; (try simp only [World.size_alloc, World.size_setCell, World.size_drew] at hz); (try have q0 : w.heap.size < _ := Nat.lt_of_lt_of_le (by omega) hz); (try have q1 : w.heap.size + 1 < _ := Nat.lt_of_lt_of_le (by omega) hz); (try have q2 : w.heap.size + 1 + 1 < _ := Nat.lt_of_lt_of_le (by omega) hz); (try have q3 : w.heap.size + 1 + 1 + 1 < _ := Nat.lt_of_lt_of_le (by omega) hz)) | (go_at_call 33; (with_reducible refine (HD.out _).mono ?_); rintro e w' ⟨rfl, hb⟩; have hz := hb.size; (first | (obtain ⟨x1, rfl⟩ := to_mix2 hb) | (obtain ⟨x1, rfl⟩ := to_mix hb)); clear hb; (try simp only [World.size_alloc, World.size_setCell, World.size_drew] at hz); (try have q0 : w.heap.size < _ := Nat.lt_of_lt_of_le (by omega) hz); (try have q1 : w.heap.size + 1 < _ := Nat.lt_of_lt_of_le (by omega) hz); (try have q2 : w.heap.size + 1 + 1 < _ := Nat.lt_of_lt_of_le (by omega) hz); (try have q3 : w.heap.size + 1 + 1 + 1 < _ := Nat.lt_of_lt_of_le (by omega) hz)))
          go_ret
          exact ⟨hBXX.out _ (by (repeat (first | (with_reducible assumption) | (with_reducible exact Below.refl _ _) | (with_reducible refine grow_alloc ?_ _) | (with_reducible refine grow_mix ?_ _) | (with_reducible refine grow_drew ?_) | (with_reducible refine grow_drewN ?_ _) | (with_reducible refine grow_set ?_ (by first | (simp; done) | (simp; omega) | omega) _)))), false, rfl, .inr ⟨rfl, HF.out⟩⟩
        · by_cases h16 : ps.length < 16
          · by_cases hz : ln = 0
            · subst hz
              have HF := Lib.hid (HS.out.2 fun h => by rcases h.2.2.2 with h | h; (rw [h] at h0; cases h0); exact h rfl)
              clear HS
              go_wp2_with (first | (go_at_call 41; (with_reducible refine (HH.out _ (hBXX.out _ (by (repeat (first | (with_reducible assumption) | (with_reducible exact Below.refl _ _) | (with_reducible refine grow_alloc ?_ _) | (with_reducible refine grow_mix ?_ _) | (with_reducible refine grow_drew ?_) | (with_reducible refine grow_drewN ?_ _) | (with_reducible refine grow_set ?_ (by first | (simp; done) | (simp; omega) | omega) _)))))).mono ?_); rintro e w' ⟨rfl, hb⟩; have hz := hb.size; (first | (obtain ⟨x1, rfl⟩ := to_mix2 hb) | (obtain ⟨x1, rfl⟩ := to_mix hb)); clear hb; (try simp only [World.size_alloc, World.size_setCell, World.size_drew] at hz); (try have q0 : w.heap.size < _ := Nat.lt_of_lt_of_le (by omega) hz); (try have q1 : w.heap.size + 1 < _ := Nat.lt_of_lt_of_le (by omega) hz); (try have q2 : w.heap.size + 1 + 1 < _ := Nat.lt_of_lt_of_le (by omega) hz); (try have q3 : w.heap.size + 1 + 1 + 1 < _ := Nat.lt_of_lt_of_le (by omega) hz)) | (go_at_call 33; (with_reducible refine (HD.out _).mono ?_); rintro e w' ⟨rfl, hb⟩; have hz := hb.size; (first | (obtain ⟨x1, rfl⟩ := to_mix2 hb) | (obtain ⟨x1, rfl⟩ := to_mix hb)); clear hb; (try simp only [World.size_alloc, World.size_setCell, World.size_drew] at hz); (try have q0 : w.heap.size < _ := Nat.lt_of_lt_of_le (by omega) hz); (try have q1 : w.heap.size + 1 < _ := Nat.lt_of_lt_of_le (by omega) hz); (try have q2 : w.heap.size + 1 + 1 < _ := Nat.lt_of_lt_of_le (by omega) hz); (try have q3 : w.heap.size + 1 + 1 + 1 < _ := Nat.lt_of_lt_of_le (by omega) hz)))
              go_ret
              exact ⟨hBXX.out _ (by (repeat (first | (with_reducible assumption) | (with_reducible exact Below.refl _ _) | (with_reducible refine grow_alloc ?_ _) | (with_reducible refine grow_mix ?_ _) | (with_reducible refine grow_drew ?_) | (with_reducible refine grow_drewN ?_ _) | (with_reducible refine grow_set ?_ (by first | (simp; done) | (simp; omega) | omega) _)))), false, rfl, .inr ⟨rfl, HF.out⟩⟩
            · have HF := Lib.hid (HS.out.1 ⟨eq_of_beq hE, rfl, h16, .inr hz⟩)
              clear HS
              go_wp2_with (first | (go_at_call 41; (with_reducible refine (HH.out _ (hBXX.out _ (by (repeat (first | (with_reducible assumption) | (with_reducible exact Below.refl _ _) | (with_reducible refine grow_alloc ?_ _) | (with_reducible refine grow_mix ?_ _) | (with_reducible refine grow_drew ?_) | (with_reducible refine grow_drewN ?_ _) | (with_reducible refine grow_set ?_ (by first | (simp; done) | (simp; omega) | omega) _)))))).mono ?_); rintro e w' ⟨rfl, hb⟩; have hz := hb.size; (first | (obtain ⟨x1, rfl⟩ := to_mix2 hb) | (obtain ⟨x1, rfl⟩ := to_mix hb)); clear hb; (try simp only [World.size_alloc, World.size_setCell, World.size_drew] at hz); (try have q0 : w.heap.size < _ := Nat.lt_of_lt_of_le (by omega) hz); (try have q1 : w.heap.size + 1 < _ := Nat.lt_of_lt_of_le (by omega) hz); (try have q2 : w.heap.size + 1 + 1 < _ := Nat.lt_of_lt_of_le (by omega) hz); (try have q3 : w.heap.size + 1 + 1 + 1 < _ := Nat.lt_of_lt_of_le (by omega) hz)) | (go_at_call 33; (with_reducible refine (HD.out _).mono ?_); rintro e w' ⟨rfl, hb⟩; have hz := hb.size; (first | (obtain ⟨x1, rfl⟩ := to_mix2 hb) | (obtain ⟨x1, rfl⟩ := to_mix hb)); clear hb; (try simp only [World.size_alloc, World.size_setCell, World.size_drew] at hz); (try have q0 : w.heap.size < _ := Nat.lt_of_lt_of_le (by omega) hz); (try have q1 : w.heap.size + 1 < _ := Nat.lt_of_lt_of_le (by omega) hz); (try have q2 : w.heap.size + 1 + 1 < _ := Nat.lt_of_lt_of_le (by omega) hz); (try have q3 : w.heap.size + 1 + 1 + 1 < _ := Nat.lt_of_lt_of_le (by omega) hz)))
              go_ret
              exact ⟨hBXX.out _ (by (repeat (first | (with_reducible assumption) | (with_reducible exact Below.refl _ _) | (with_reducible refine grow_alloc ?_ _) | (with_reducible refine grow_mix ?_ _) | (with_reducible refine grow_drew ?_) | (with_reducible refine grow_drewN ?_ _) | (with_reducible refine grow_set ?_ (by first | (simp; done) | (simp; omega) | omega) _)))), true, (by have ht : (decide ((m : Int) < 0) || decide (0 < ln)) = true := (by simp; omega); show _ = Ending.returned (Value.bool true); rw [← ht]; rfl), .inl ⟨rfl, _, _, _, HF.out, HRX.out.below (by (repeat (first | (with_reducible assumption) | (with_reducible exact Below.refl _ _) | (with_reducible refine grow_alloc ?_ _) | (with_reducible refine grow_mix ?_ _) | (with_reducible refine grow_drew ?_) | (with_reducible refine grow_drewN ?_ _) | (with_reducible refine grow_set ?_ (by first | (simp; done) | (simp; omega) | omega) _))))⟩⟩
          · have HF := Lib.hid (HS.out.2 fun h => h16 h.2.2.1)
            clear HS
            go_wp2_with (first | (go_at_call 41; (with_reducible refine (HH.out _ (hBXX.out _ (by (repeat (first | (with_reducible assumption) | (with_reducible exact Below.refl _ _) | (with_reducible refine grow_alloc ?_ _) | (with_reducible refine grow_mix ?_ _) | (with_reducible refine grow_drew ?_) | (with_reducible refine grow_drewN ?_ _) | (with_reducible refine grow_set ?_ (by first | (simp; done) | (simp; omega) | omega) _)))))).mono ?_); rintro e w' ⟨rfl, hb⟩; have hz := hb.size; (first | (obtain ⟨x1, rfl⟩ := to_mix2 hb) | (obtain ⟨x1, rfl⟩ := to_mix hb)); clear hb; (try simp only [World.size_alloc, World.size_setCell, World.size_drew] at hz); (try have q0 : w.heap.size < _ := Nat.lt_of_lt_of_le (by omega) hz); (try have q1 : w.heap.size + 1 < _ := Nat.lt_of_lt_of_le (by omega) hz); (try have q2 : w.heap.size + 1 + 1 < _ := Nat.lt_of_lt_of_le (by omega) hz); (try have q3 : w.heap.size + 1 + 1 + 1 < _ := Nat.lt_of_lt_of_le (by omega) hz)) | (go_at_call 33; (with_reducible refine (HD.out _).mono ?_); rintro e w' ⟨rfl, hb⟩; have hz := hb.size; (first | (obtain ⟨x1, rfl⟩ := to_mix2 hb) | (obtain ⟨x1, rfl⟩ := to_mix hb)); clear hb; (try simp only [World.size_alloc, World.size_setCell, World.size_drew] at hz); (try have q0 : w.heap.size < _ := Nat.lt_of_lt_of_le (by omega) hz); (try have q1 : w.heap.size + 1 < _ := Nat.lt_of_lt_of_le (by omega) hz); (try have q2 : w.heap.size + 1 + 1 < _ := Nat.lt_of_lt_of_le (by omega) hz); (try have q3 : w.heap.size + 1 + 1 + 1 < _ := Nat.lt_of_lt_of_le (by omega) hz)))
            go_ret
            exact ⟨hBXX.out _ (by (repeat (first | (with_reducible assumption) | (with_reducible exact Below.refl _ _) | (with_reducible refine grow_alloc ?_ _) | (with_reducible refine grow_mix ?_ _) | (with_reducible refine grow_drew ?_) | (with_reducible refine grow_drewN ?_ _) | (with_reducible refine grow_set ?_ (by first | (simp; done) | (simp; omega) | omega) _)))), .inl ⟨rfl, HF.out⟩⟩
end Go.Proofs.YtedkfipjooafeaaGreatDoor.Code
set_option linter.unusedSimpArgs false
set_option linter.unusedVariables false
namespace Go.Proofs.YtedkfipjooafeaaGreatDoor.Code
open Go Go.RowKit Go.Proofs.YtedkfipjooafeaaGreatDoor Go.Proofs.YtedkfipjooafeaaGreatDoor.Op Go.Proofs.YtedkfipjooafeaaGreatDoor.Wire

theorem zip_set (ps : Pg) (vs : List Value) (f : Fn) (u v2 : Value) (x : Ins) (hl : vs.length = ps.length) :
    (((ps ++ [f]).zip (vs ++ [u])).flatMap fun (y : Fn × Value) => fnL y.1 y.2).set (ps.length * 4 + 3) v2 = ((ps ++ [{ f with code := f.code ++ [x] }]).zip (vs ++ [v2])).flatMap fun (y : Fn × Value) => fnL y.1 y.2 := by
  have hk : ∀ (ps : Pg) (vs : List Value), vs.length = ps.length → ((ps.zip vs).flatMap fun (y : Fn × Value) => fnL y.1 y.2).length = ps.length * 4 := by
    intro ps
    induction ps with
    | nil => intro vs _; rfl
    | cons f ps ih =>
      intro vs hvs
      cases vs with
      | nil => cases hvs
      | cons u vs =>
        rw [List.zip_cons_cons, List.flatMap_cons, List.length_append, ih vs (by simpa using hvs)]
        show 4 + _ = _
        rw [List.length_cons]; omega
  rw [List.zip_append hl.symm, List.zip_append hl.symm, List.flatMap_append, List.flatMap_append, List.set_append_right _ _ (by rw [hk ps vs hl]; omega), hk ps vs hl]
  rw [show ps.length * 4 + 3 - ps.length * 4 = 3 by omega]
  rfl
theorem own_kept_lt {w : World} {base : Nat} {e : TypeId} {size n : Nat} {v : Value} {xs : List Value} (h : w.ownsRow base e size v n xs) : v.ownBlock = none ∨ v.ownBlock ≠ some w.heap.size := by
  cases ho : v.ownBlock with
  | none => exact .inl rfl
  | some k =>
    right
    intro e
    have := (h.lt k ho).1
    have := h.lt k ho
    injection e with e
    omega
theorem Built.ins {W w6 : World} {base g n c m : Nat} {v v2 u : Value} {ps : Pg} {vs : List Value} {x : Ins} (HB : Built W base v ps vs) (hap : Apart vs) (hm : ps.length = m + 1) (hv : v = .slice (some ⟨g, 0, none⟩) n c)
    (hu : vs[m]? = some u) (hown : w6.ownsRow base 64 3 v2 ((ps[m]'(by omega)).code.length + 1) ((ps[m]'(by omega)).code.flatMap insL ++ insL x)) (hgrow : W.grownBy w6 u.ownBlock) (hblk : v2.ownBlock = u.ownBlock ∨ v2.ownBlock = some W.heap.size) :
    Built (w6.setCell ⟨g, m * 4 + 3, none⟩ v2) base v (addI ps x) (vs.set m v2) ∧ Apart (vs.set m v2) := by
  obtain ⟨hl, hrow, hcodes⟩ := HB
  obtain ⟨f, hf⟩ : ∃ f, ps[m]'(by omega) = f := ⟨_, rfl⟩
  rw [hf] at hown
  have hps : ps = ps.take m ++ [f] := by
    have := List.take_append_drop m ps
    rw [List.drop_eq_getElem_cons (by omega), hf, List.drop_eq_nil_of_le (by omega)] at this
    exact this.symm
  have hvs : vs = vs.take m ++ [u] := by
    have this := List.take_append_drop m vs
    have hmv : m < vs.length := by omega
    rw [List.getElem?_eq_getElem hmv] at hu
    injection hu with hu
    rw [List.drop_eq_getElem_cons hmv, List.drop_eq_nil_of_le (by omega), hu] at this
    exact this.symm
  have hl1 : (ps.take m).length = m := by rw [List.length_take]; omega
  have hl2 : (vs.take m).length = m := by rw [List.length_take]; omega
  generalize ps.take m = p0 at hps hl1
  generalize vs.take m = v0 at hvs hl2
  subst hps hvs
  have hset : (v0 ++ [u]).set m v2 = v0 ++ [v2] := by
    rw [List.set_append_right _ _ (by omega), hl2, Nat.sub_self]; rfl
  rw [hset, addI_last]
  have hrow6 : w6.ownsRow base 39 4 v (p0 ++ [f]).length (((p0 ++ [f]).zip (v0 ++ [u])).flatMap fun (y : Fn × Value) => fnL y.1 y.2) := by
    refine hrow.kept hgrow ?_
    exact own_own_ne hrow (hcodes m f u (by rw [List.getElem?_append_right (by omega), hl1, Nat.sub_self]; rfl) hu) (by decide)
  subst hv
  have hn : n = (p0 ++ [f]).length := by
    rcases hrow.2 with ⟨h', _⟩ | ⟨_, _, _, h', _⟩
    · cases h'
    · injection h'
  subst hn
  have hst := (hrow6.stored (m * 4 + 3) v2)
  rw [show m * 4 + 3 = p0.length * 4 + 3 by rw [hl1], zip_set p0 v0 f u v2 x (by omega)] at hst
  rw [show m * 4 + 3 = p0.length * 4 + 3 by rw [hl1]]
  have hg2 : v2.ownBlock ≠ some g := by
    rcases own_own_ne hown hrow6 (by decide) with h | h
    · rw [h]; simp
    · simpa [Value.ownBlock] using h
  have hcode : ∀ (i : Nat) (y : Fn) (r : Value), p0[i]? = some y → v0[i]? = some r → W.ownsRow base 64 3 r y.code.length (y.code.flatMap insL) := by
    intro i y r hi hr
    have hlt := (List.getElem?_eq_some_iff.1 hi).1
    refine hcodes i y r ?_ ?_
    · rw [List.getElem?_append_left hlt]; exact hi
    · rw [List.getElem?_append_left (by omega)]; exact hr
  have hnot : ∀ r ∈ v0, r.ownBlock = none ∨ r.ownBlock ≠ u.ownBlock := by
    intro r hr
    exact (List.pairwise_append.1 hap).2.2 r hr u (by simp)
  refine ⟨⟨by simp; omega, ?_, fun i y r hi hr => ?_⟩, ?_⟩
  · have := hst.1
    simpa using this
  · by_cases hlt : i < p0.length
    · rw [List.getElem?_append_left hlt] at hi
      rw [List.getElem?_append_left (by omega)] at hr
      have h1 := hcode i y r hi hr
      have hmem : r ∈ v0 := List.mem_of_getElem? hr
      have h6 := h1.kept hgrow (hnot r hmem)
      exact h6.kept hst.2 (by
        have := own_own_ne h6 hrow6 (by decide)
        simpa [Value.ownBlock] using this)
    · rw [List.getElem?_append_right (by omega)] at hi
      rw [List.getElem?_append_right (by omega)] at hr
      have hi0 : i - p0.length = 0 := by
        have := (List.getElem?_eq_some_iff.1 hi).1
        simp at this; omega
      have hi1 : i - v0.length = 0 := by omega
      rw [hi0] at hi
      rw [hi1] at hr
      simp only [List.getElem?_cons_zero, Option.some.injEq] at hi hr
      subst hi hr
      have := own_set hown hg2 (p0.length * 4 + 3) v2
      simpa using this
  · unfold Apart at *
    rw [List.pairwise_append] at hap ⊢
    refine ⟨hap.1, List.pairwise_singleton _ _, fun a ha b hb => ?_⟩
    rw [List.mem_singleton] at hb
    subst hb
    rcases hblk with hb | hb
    · rw [hb]; exact hnot a ha
    · obtain ⟨i, hi⟩ := List.getElem?_of_mem ha
      have hlt := (List.getElem?_eq_some_iff.1 hi).1
      have h1 := hcode i (p0[i]'(by omega)) a (List.getElem?_eq_getElem (by omega)) hi
      rw [hb]
      exact own_kept_lt h1
end Go.Proofs.YtedkfipjooafeaaGreatDoor.Code
namespace Go.Proofs.YtedkfipjooafeaaGreatDoor
open Go Go.RowKit

def peelB (md : Region.Mode) (l : List Oper) (n : Nat) : Bool :=
  decide (n ≤ l.length) && (List.range n).all (fun i => ((l[i]?).map fun o => o.after.all fun e => !Region.binds md e || decide (e.on < i)).getD false &&
    (match l[i]? with | some o => (match o.guard with | some (g, _) => decide (g < n) | none => true) | none => false)) &&
  (decide (n = 0) || (List.range (l.length - n)).all fun j => (List.range n).all fun i => ((l[n + j]?).map fun o => o.after.any fun e => Region.binds md e && e.on == i).getD false) &&
  Region.seqB md l.toArray (l.length - n) n (Array.replicate n true ++ Array.replicate (l.length - n) false)

section
variable {P : Program} {md : Region.Mode} {l : List Oper} {Q N : Exit → Act → World → Prop} {n : Nat}
theorem upon_tail {o : Oper} {a : Act} {K K' : Act → World → Prop} {T : Act → World → Prop} {r : Result Next} (hk : ∀ a w, K' a w → K a w) (h : o.upon P a K' (Exit.then T Q) r) : o.upon P a K Q r := by
  unfold Oper.upon at h ⊢
  split at h <;> first | exact hk _ _ h | exact h | skip
  · refine Calls.mono h ?_
    rintro (v | c | _) w' h'
    · exact hk _ _ h'
    · exact h'
    · exact h'
  all_goals first
    | exact Rows.mono h (fun _ _ he => hk _ _ he)
    | (split at h <;> first | exact hk _ _ h | exact h)
theorem yielded_head {a : Array Value} {g : Nat} (hg : g < n) : yielded (l.take n).toArray a g = yielded l.toArray a g := by
  unfold yielded
  simp [List.getElem?_take, hg]
theorem wanted_head {o : Oper} {a : Array Value} (hg : (match o.guard with | some (g, _) => decide (g < n) | none => true) = true) : Region.wanted o (yielded (l.take n).toArray a) = Region.wanted o (yielded l.toArray a) := by
  unfold Region.wanted
  cases hgd : o.guard with
  | none => rfl
  | some x =>
    obtain ⟨g, b⟩ := x
    rw [hgd] at hg
    simp only [decide_eq_true_eq] at hg
    simp only [yielded_head hg]
theorem wpOp_head {i : Nat} {o : Oper} {a : Act} {w : World} {K K' : Act → World → Prop} {T : Act → World → Prop} (hi : i < n) (ho : l[i]? = some o) (hg : (match o.guard with | some (g, _) => decide (g < n) | none => true) = true)
    (hk : ∀ a w, K' a w → K a w) (h : wpOp P (l.take n).toArray (Exit.then T Q) i K' a w) : wpOp P l.toArray Q i K a w := by
  unfold wpOp at h ⊢
  have h1 : (l.take n).toArray[i]? = some o := by simp [List.getElem?_take, hi, ho]
  have h2 : l.toArray[i]? = some o := by simpa using ho
  simp only [h1] at h
  simp only [h2]
  rw [wanted_head hg] at h
  split
  · rename_i hw
    rw [if_pos hw] at h
    rcases h with h | ⟨h1, h2⟩
    · exact .inl (by unfold Oper.wp at h ⊢; exact upon_tail hk h)
    · exact .inr ⟨h1, h2⟩
  · rename_i hw
    rw [if_neg hw] at h
    exact hk _ _ h
theorem peel_go (hB : peelB md l n = true) {T : Act → World → Prop} (hT : T = fun a w => wpList P l.toArray Q (l.drop n) a w) : ∀ (k : Nat) (H L : Array Bool) (a : Act) (w : World), H.size = n → L.size = l.length → (∀ j, j < n → L[j]? = H[j]?) → (∀ j, n ≤ j → j < l.length → L[j]? = some false) → left n H = k →
    wpAny P md (l.take n).toArray (Exit.then T Q) k H a w → wpAny P md l.toArray Q (k + (l.length - n)) L a w := by
  unfold peelB at hB
  simp only [Bool.and_eq_true, decide_eq_true_eq, List.all_eq_true, List.mem_range] at hB
  obtain ⟨⟨⟨hn, hhead⟩, htail⟩, hseq⟩ := hB
  simp only [Bool.or_eq_true, decide_eq_true_eq, List.all_eq_true, List.mem_range] at htail
  intro k
  induction k with
  | zero =>
    intro H L a w hH hL hj ht hk h
    rw [Nat.zero_add]
    have hLe : L = Array.replicate n true ++ Array.replicate (l.length - n) false := by
      apply Array.ext_getElem?
      intro j
      by_cases hjn : j < n
      · rw [hj j hjn, Array.getElem?_append_left (by simpa using hjn)]
        have h1 := left_zero hk j hjn
        have hlt : j < H.size := by omega
        rw [Array.getElem?_eq_getElem hlt]
        simp [hlt] at h1
        rw [h1]
        simp [hjn]
      · by_cases hjl : j < l.length
        · rw [ht j (by omega) hjl, Array.getElem?_append_right (by simpa using hjn)]
          have : j - n < l.length - n := by omega
          simp [this]
        · rw [Array.getElem?_eq_none (by omega), Array.getElem?_eq_none (by simp; omega)]
    have h2 : Exit.then T Q .normal a w := h.2
    have h3 : wpList P l.toArray Q (l.drop n) a w := by
      have : T a w := h2
      rw [hT] at this
      exact this
    have := wpAny_of_seq (P := P) (md := md) (Q' := Q) (ops := l.toArray) (l.drop n) n L a w (fun j => by simp [List.getElem?_drop]) (by rw [List.length_drop, hLe]; exact hseq) h3
    rwa [List.length_drop] at this
  | succ k ih =>
    intro H L a w hH hL hj ht hk h
    rw [Nat.succ_add]
    obtain ⟨i0, hi0, hu0, hl0⟩ := left_least (m := n) (listed := H) (by omega)
    have hget : ∀ j, j < n → ∀ d, L.getD j d = H.getD j d := fun j hjn d => by
      simp only [Array.getD_eq_getD_getElem?, hj j hjn]
    obtain ⟨oi0, hoi0⟩ : ∃ o, l[i0]? = some o := ⟨_, List.getElem?_eq_getElem (by omega)⟩
    refine ⟨fun hr => ?_, fun i hi => ?_⟩
    · -- the least one is ready
      exfalso
      have : i0 ∈ Region.ready md l.toArray L := by
        refine mem_ready.2 ⟨by rw [hget i0 hi0]; exact hu0, oi0, by simpa using hoi0, fun e he hb => ?_⟩
        have h1 := (hhead i0 hi0).1
        rw [hoi0] at h1
        simp only [Option.map_some, Option.getD_some, Array.all_eq_true_iff_forall_mem] at h1
        have h2 := h1 e he
        rw [hb] at h2
        simp only [Bool.not_true, Bool.false_or, decide_eq_true_eq] at h2
        have h3 := hl0 e.on h2
        rw [hget e.on (by omega)]
        have hlt : e.on < H.size := by omega
        simp only [Array.getD_eq_getD_getElem?, Array.getElem?_eq_getElem hlt, Option.getD_some] at h3 ⊢
        exact h3
      rw [hr] at this
      cases this
    · obtain ⟨hiun, oi, hoi, hall⟩ := mem_ready.1 hi
      have hil : i < l.length := by have := (Array.getElem?_eq_some_iff.1 hoi).1; simpa using this
      have hin : i < n := by
        rcases Nat.lt_or_ge i n with h' | h'
        · exact h'
        · exfalso
          have hn0 : n ≠ 0 := by omega
          rcases htail with h0 | h0
          · exact hn0 h0
          · have h1 := h0 (i - n) (by omega) i0 hi0
            rw [show n + (i - n) = i by omega] at h1
            have hoi' : l[i]? = some oi := by simpa using hoi
            rw [hoi'] at h1
            simp only [Option.map_some, Option.getD_some, Array.any_eq_true', Bool.and_eq_true, beq_iff_eq] at h1
            obtain ⟨e, he, hb, hon⟩ := h1
            have h2 := hall e he hb
            rw [hon, hget i0 hi0] at h2
            have hlt : i0 < H.size := by omega
            simp only [Array.getD_eq_getD_getElem?, Array.getElem?_eq_getElem hlt, Option.getD_some] at h2 hu0
            rw [h2] at hu0; cases hu0
      have hoi' : l[i]? = some oi := by simpa using hoi
      have hready : i ∈ Region.ready md (l.take n).toArray H := by
        refine mem_ready.2 ⟨by rw [← hget i hin]; exact hiun, oi, by simp [List.getElem?_take, hin, hoi'], fun e he hb => ?_⟩
        have h1 := (hhead i hin).1
        rw [hoi'] at h1
        simp only [Option.map_some, Option.getD_some, Array.all_eq_true_iff_forall_mem] at h1
        have h2 := h1 e he
        rw [hb] at h2
        simp only [Bool.not_true, Bool.false_or, decide_eq_true_eq] at h2
        rw [← hget e.on (by omega)]
        exact hall e he hb
      have hg := (hhead i hin).2
      rw [hoi'] at hg
      refine wpOp_head (n := n) hin hoi' hg (fun a' w' h' => ?_) (h.2 i hready)
      refine ih (H.setIfInBounds i true) (L.setIfInBounds i true) a' w' (by simpa using hH) (by simpa using hL) (fun j hjn => ?_) (fun j hjn hjl => ?_) ?_ h'
      · by_cases hij : i = j
        · subst hij
          rw [Array.getElem?_setIfInBounds_self_of_lt (by omega), Array.getElem?_setIfInBounds_self_of_lt (by omega)]
        · rw [Array.getElem?_setIfInBounds_ne hij, Array.getElem?_setIfInBounds_ne hij]
          exact hj j hjn
      · rw [Array.getElem?_setIfInBounds_ne (by omega)]
        exact ht j hjn hjl
      · have := left_set (listed := H) hin (by rw [← hget i hin]; exact hiun)
        omega
theorem wp_region_peel {id : Nat} {a : Act} {w : World} (n : Nat) (hm : P.follows .mixedOrders = true) (hB : peelB .any l n = true)
    (h : wpAny P .any (l.take n).toArray (Exit.then (fun a w => wpList P l.toArray Q (l.drop n) a w) Q) n (Array.replicate n false) a w.drew) : (Code.region id l.toArray true).wp P Q a w := by
  refine wp_region_any hm ?_
  have hB' := hB
  unfold peelB at hB'
  simp only [Bool.and_eq_true, decide_eq_true_eq] at hB'
  have hn := hB'.1.1.1
  have := peel_go (P := P) (Q := Q) hB rfl n (Array.replicate n false) (Array.replicate l.length false) a w.drew (by simp) (by simp) (fun j hj => by simp [hj, show j < l.length by omega]) (fun j hj hjl => by simp [hjl]) ?_ h
  · rw [show n + (l.length - n) = l.length by omega] at this
    simpa using this
  · unfold left
    have : (List.range n).countP (fun k => (Array.replicate n false).getD k true == false) = (List.range n).length := by
      rw [List.countP_eq_length]
      intro k hk
      have := List.mem_range.1 hk
      simp [this]
    rw [this, List.length_range]
end
section
variable {P : Program} {ops : Array Oper} {md : Region.Mode} {Q : Exit → Act → World → Prop} {S : World → Prop} {a : Act} {w : World} {f : Nat} {listed : Array Bool}
theorem wp_region_peelH {l : List Oper} {id : Nat} {a : Act} {w : World} (S : World → Prop) (n : Nat) (hm : P.follows .mixedOrders = true) (hB : peelB .any l n = true)
    (h : wpAnyH P .any (l.take n).toArray (Exit.then (fun a w => wpList P l.toArray Q (l.drop n) a w) Q) S n (Array.replicate n false) a w.drew) : (Code.region id l.toArray true).wp P Q a w :=
  wp_region_peel n hm hB (wpAny_of_held _ _ _ _ h)
theorem held_first {i : Nat} {o : Oper} (ho : ops[i]? = some o) (hs : Region.noSelect ops = true) (hf : Region.free md ops listed i = true) (hr : (Region.ready md ops listed).contains i = true) (hQ : ∀ c a w v, Q (.panic c) (a.put o.dst v) w → Q (.panic c) a w) (hg : o.guard = none) (hS : S w)
    (h : ∃ v, (∀ w, S w → (execOp a.eval o).run P w = .ok (.value v) w) ∧ wpAnyH P md ops Q S f (listed.setIfInBounds i true) (a.put o.dst v) w) : wpAnyH P md ops Q S (f + 1) listed a w := by
  obtain ⟨v, hv, hw⟩ := h
  exact wpAnyH_take ho hs hf hr (fun c a w h => hQ c a w v h) (.inl ⟨by simp [Region.wanted, hg], hv⟩) hS hw
theorem held_one {i : Nat} {o : Oper} (hr : Region.ready md ops listed = [i]) (ho : ops[i]? = some o)
    (h : wpList P ops (Exit.then (fun a' w' => S w' ∧ wpAnyH P md ops Q S f (listed.setIfInBounds i true) a' w') Q) [o] a w) : wpAnyH P md ops Q S (f + 1) listed a w := by
  refine wpAnyH_all hr (by simp) fun j hj => ?_
  rw [List.mem_singleton] at hj
  subst hj
  exact wpOp_of_list ho h
end
end Go.Proofs.YtedkfipjooafeaaGreatDoor
set_option linter.unusedSimpArgs false
set_option linter.unusedVariables false
namespace Go.Proofs.YtedkfipjooafeaaGreatDoor.Code
open Go Go.RowKit Go.Proofs.YtedkfipjooafeaaGreatDoor Go.Proofs.YtedkfipjooafeaaGreatDoor.Op Go.Proofs.YtedkfipjooafeaaGreatDoor.Wire

section
variable {P : Program} {ops : Array Oper} {md : Region.Mode} {Q : Exit → Act → World → Prop} {a : Act} {w : World} {f : Nat} {listed : Array Bool}
end
theorem ins_rel {V w6 : World} {base rb g n c m : Nat} {v v2 u : Value} {ps : Pg} {vs : List Value} {x : Ins} {ln : Nat} (HR : RB V base rb v ps vs) (hm : ps.length = m + 1) (hln : (ps[m]'(by omega)).code.length = ln) (hv : v = .slice (some ⟨g, 0, none⟩) n c) (hu : vs[m]? = some u)
    (hown : w6.ownsRow base 64 3 v2 (ln + 1) ((ps[m]'(by omega)).code.flatMap insL ++ insL x)) (hgrow : V.grownBy w6 u.ownBlock) (hblk : v2.ownBlock = u.ownBlock ∨ v2.ownBlock = some V.heap.size) :
    Has w6 rb #[v] 41 ∧ (∃ y, w6.cell? ⟨g, m * 4 + 3, none⟩ = some y) ∧ w6.frozen? ⟨g, m * 4 + 3, none⟩ = false ∧ g < w6.heap.size ∧
      RB (w6.setCell ⟨g, m * 4 + 3, none⟩ v2) base rb v (addI ps x) (vs.set m v2) ∧ Below base V (w6.setCell ⟨g, m * 4 + 3, none⟩ v2) := by
  subst hln
  have hf : ps[m]? = some (ps[m]'(by omega)) := List.getElem?_eq_getElem _
  have hcode := HR.built.2.2 m _ _ hf hu
  have hcf := own_own_ne HR.built.2.1 hcode (by decide)
  have hrow := HR.built.2.1.kept hgrow hcf
  obtain ⟨g', c', A', n', hv', hc', hvs', hf', hb', hl'⟩ := HR.built.at_ (k := m) (by omega)
  have eg : g' = g := by
    rw [hv] at hv'
    injection hv' with hA
    injection hA with hA
    injection hA with hA _
    exact hA.symm
  subst eg
  have hvo : v.ownBlock = some g' := by rw [hv]; rfl
  have hgb : w6.heap[g']? = V.heap[g']? := hgrow.block g' hl' (by
    rcases hcf with h | h
    · rw [hvo] at h; cases h
    · rw [hvo] at h; exact h)
  have hR6 : Has w6 rb #[v] 41 := Has.grown HR.has hgrow (own_ne hcode HR.has (by decide))
  have hne : rb ≠ g' := by
    intro e
    have := own_ne HR.built.2.1 HR.has (by decide)
    rw [hvo, e] at this
    exact this rfl
  have hbase : base ≤ V.heap.size := by have h1 := HR.le; have h2 := HR.has.lt; omega
  obtain ⟨h1, h2⟩ := HR.built.ins HR.apart hm hv hu hown hgrow hblk
  refine ⟨hR6, ⟨_, (World.cell?_of_block (a := ⟨g', m * 4 + 3, none⟩) hgb).trans hc'⟩, (World.frozen?_of_block (a := ⟨g', m * 4 + 3, none⟩) hgb).trans hf', Nat.lt_of_lt_of_le hl' hgrow.size, ⟨Has.set_other hR6 hne, h1, h2, HR.le⟩, ?_⟩
  exact ((Below.refl base V).grown hgrow hbase (fun k hk => (hcode.lt k hk).1)).setCell hb' _
set_option maxRecDepth 20000 in
set_option maxHeartbeats 8000000 in
theorem read_ins (base rb : Nat) (s : B) (hs : s.length < 4294967281) (ps : Pg) (vs : List Value) (v : Value) (w : World) (hg : Glob w) (h8 : 8 ≤ base) (h : RB w base rb v ps vs) (hn : ps.length ≤ 16) (hc : lastN ps ≤ 200) (hw : wordOf s ≠ funcB) :
    Calls Tryz.prog 26 #[.pointer (some ⟨rb, 0, none⟩), str s] w fun e w' => Below base w w' ∧ ∃ ok : Bool, e = .returned (.bool ok) ∧
      ((ok = true ∧ ∃ q v' vs', Step ps s q ∧ RB w' base rb v' q vs') ∨ (ok = false ∧ ∀ q, ¬ Step ps s q)) := by
  obtain ⟨vA, vc, hv⟩ := own_form h.built.2.1
  subst hv
  have HR := Lib.hid h
  have HG := Lib.hid hg
  have hR := h.has
  have hR_c := hR.cell 0
  have hR_l := hR.lt
  have hR_f := hR.frozen
  obtain ⟨n0, hn0⟩ : ∃ n, numAt (splitL 32 s) 0 = n := ⟨_, rfl⟩
  obtain ⟨n1, hn1⟩ : ∃ n, numAt (splitL 32 s) 1 = n := ⟨_, rfl⟩
  obtain ⟨n2, hn2⟩ : ∃ n, numAt (splitL 32 s) 2 = n := ⟨_, rfl⟩
  obtain ⟨wd, hwd⟩ : ∃ n, wordOf s = n := ⟨_, rfl⟩
  have N := Lib.hid (by have := numbers_calls s hs w hg; rw [hwd, hn0, hn1, hn2] at this; exact this)
  have hN : ∀ n ∈ [n0, n1], -9223372036854775808 ≤ n ∧ n ≤ 9223372036854775807 := by
    intro n hn
    simp only [List.mem_cons, List.not_mem_nil, or_false] at hn
    rcases hn with rfl | rfl
    · rw [← hn0]; exact numAt_bd _ _
    · rw [← hn1]; exact numAt_bd _ _
  have HN := Lib.hid hN
  clear hN
  rw [hwd] at hw
  have HW := Lib.hid (And.intro hwd (And.intro hn0 (And.intro hn1 hw)))
  have hfe : ((wd == [102, 117, 110, 99]) = false) := by rw [beq_eq_false_iff_ne]; exact hw
  clear hw hwd hn0 hn1 hn2 h hg
  go_enter Tryz.func26, Tryz.ntmps26
  go_wp2_with (first | (with_reducible (refine list_stop (.indexAddr 88 (.tmp 6) (.const (.int .i64 0))) rfl ?_)) | (go_at_call 58; (with_reducible refine (N.out).mono ?_); rintro e w' ⟨rfl, hb⟩; have hz := hb.size; obtain ⟨x0, rfl⟩ := to_mix hb; clear hb; (try simp only [World.size_alloc, World.size_setCell, World.size_drew] at hz); (try have q0 : w.heap.size < _ := Nat.lt_of_lt_of_le (by omega) hz); (try have q1 : w.heap.size + 1 < _ := Nat.lt_of_lt_of_le (by omega) hz); (try have q2 : w.heap.size + 1 + 1 < _ := Nat.lt_of_lt_of_le (by omega) hz); (try have q3 : w.heap.size + 1 + 1 + 1 < _ := Nat.lt_of_lt_of_le (by omega) hz)) | (go_at_call 59; (with_reducible refine (Find_calls wd _).mono ?_); rintro e w5 ⟨⟨n, is, rfl, hF⟩, hb5⟩; have HF := Lib.hid hF; clear hF; have hz := hb5.size; (first | (obtain ⟨x1, rfl⟩ := to_mix2 hb5) | (obtain ⟨x1, rfl⟩ := to_mix hb5)); clear hb5; (try simp only [World.size_alloc, World.size_setCell, World.size_drew] at hz); (try have q0 : w.heap.size < _ := Nat.lt_of_lt_of_le (by omega) hz); (try have q1 : w.heap.size + 1 < _ := Nat.lt_of_lt_of_le (by omega) hz); (try have q2 : w.heap.size + 1 + 1 < _ := Nat.lt_of_lt_of_le (by omega) hz); (try have q3 : w.heap.size + 1 + 1 + 1 < _ := Nat.lt_of_lt_of_le (by omega) hz)))
  obtain ⟨b6, hb6⟩ : ∃ b, (mix w x0).heap.size = b := ⟨_, rfl⟩
  refine Lib.hid (list_at (fun X => RB X base rb (.slice vA ps.length vc) ps vs ∧ Has X b6 #[.int .i64 n0, .int .i64 n1, .int .i64 n2] 88 ∧ Below w.heap.size w X) ⟨HR.out.below (by (repeat (first | (with_reducible assumption) | (with_reducible exact Below.refl _ _) | (with_reducible refine grow_alloc ?_ _) | (with_reducible refine grow_mix ?_ _) | (with_reducible refine grow_drew ?_) | (with_reducible refine grow_drewN ?_ _) | (with_reducible refine grow_set ?_ (by first | (simp; done) | (simp; omega) | omega) _)))), by rw [← hb6]; (repeat (first | (with_reducible assumption) | (with_reducible exact Has.new _ _ _) | (with_reducible exact Has.new' (by first | rfl | (simp; done) | (simp; omega)) _ _) | (with_reducible apply Has.alloc) | (with_reducible apply Has.mix) | (with_reducible apply Has.drew) | (with_reducible apply Has.drewN) | (with_reducible apply Has.set_same) | (with_reducible apply Has.set_other (hp := (by first | (simp; done) | (simp; omega) | omega))) | (with_reducible rfl) | rfl)), by (repeat (first | (with_reducible assumption) | (with_reducible exact Below.refl _ _) | (with_reducible refine grow_alloc ?_ _) | (with_reducible refine grow_mix ?_ _) | (with_reducible refine grow_drew ?_) | (with_reducible refine grow_drewN ?_ _) | (with_reducible refine grow_set ?_ (by first | (simp; done) | (simp; omega) | omega) _)))⟩ ?_)
  simp only [hb6]
  rintro X ⟨h1, hT, hBX⟩
  have hzX := hBX.size
  have HRX := Lib.hid h1
  have HBX := Lib.hid hBX
  have hRX := h1.has
  clear h1 hBX hR hR_c hR_l hR_f
  have hT_c0 := hT.cell 0
  have hT_c1 := hT.cell 1
  have hT_c2 := hT.cell 2
  have hT_f := hT.frozen
  have hT_l := hT.lt
  simp only [List.size_toArray, List.length_cons, List.length_nil, Nat.reduceAdd, Nat.zero_lt_succ, Nat.one_lt_succ_succ, Nat.reduceLT, getElem?_pos, List.getElem_toArray, List.getElem_cons_zero, List.getElem_cons_succ] at hT_c0 hT_c1 hT_c2
  have hRX_c0 := hRX.cell 0
  have hRX_f := hRX.frozen
  have hRX_l := hRX.lt
  simp only [List.size_toArray, List.length_cons, List.length_nil, Nat.reduceAdd, Nat.zero_lt_succ, Nat.one_lt_succ_succ, Nat.reduceLT, getElem?_pos, List.getElem_toArray, List.getElem_cons_zero, List.getElem_cons_succ] at hRX_c0
  clear hb6
  obtain ⟨mb, hmb⟩ : ∃ m, mayI ⟨n, n0, n1⟩ = m := ⟨_, rfl⟩
  obtain ⟨wr, hwr⟩ : ∃ m, writtenB ⟨n, n0, n1⟩ = m := ⟨_, rfl⟩
  obtain ⟨ln, hlnE⟩ : ∃ ln, lastN ps = ln := ⟨_, rfl⟩
  have HM := Lib.hid (fun (W : World) => Op.May_calls ⟨n, n0, n1⟩ W)
  have hbase : base ≤ w.heap.size := by have h1 := HR.out.le; have h2 := HR.out.has.lt; omega
  have HWr := Lib.hid (fun (W : World) (hW : Below base w W) => written_calls ⟨n, n0, n1⟩ W HN.out (HG.out.base hW h8))
  have HS : Hid ((mb = true ∧ wr = s ∧ ps ≠ [] ∧ ln ≠ 200 → Step ps s (addI ps ⟨n, n0, n1⟩)) ∧ (¬ (is = true ∧ mb = true ∧ wr = s ∧ ps ≠ [] ∧ ln ≠ 200) → ∀ q, ¬ Step ps s q)) := by
    have := step_ins (ps := ps) (s := s) (n := n) (is := is) (by rw [HW.out.1]; exact HW.out.2.2.2) (by rw [HW.out.1]; exact HF.out)
    simp only [HW.out.2.1, HW.out.2.2.1, hwr, hmb, hlnE] at this
    exact Lib.hid this
  rw [hmb] at HM
  rw [hwr] at HWr
  have hBXX : Hid (∀ W, Below X.heap.size X W → Below base w W) := Lib.hid fun W hW => (HBX.out.mono hbase).trans (hW.mono (by omega))
  clear hmb hwr HF HN hbase
  cases is
  · have HF' := Lib.hid (HS.out.2 fun h => by cases h.1)
    clear HS
    go_wp2_with (first | (go_at_call 37; (with_reducible refine (HM.out _).mono ?_); rintro e w' ⟨rfl, hb⟩; have hz := hb.size; (first | (obtain ⟨x1, rfl⟩ := to_mix2 hb) | (obtain ⟨x1, rfl⟩ := to_mix hb)); clear hb; (try simp only [World.size_alloc, World.size_setCell, World.size_drew] at hz); (try have q0 : w.heap.size < _ := Nat.lt_of_lt_of_le (by omega) hz); (try have q1 : w.heap.size + 1 < _ := Nat.lt_of_lt_of_le (by omega) hz); (try have q2 : w.heap.size + 1 + 1 < _ := Nat.lt_of_lt_of_le (by omega) hz); (try have q3 : w.heap.size + 1 + 1 + 1 < _ := Nat.lt_of_lt_of_le (by omega) hz)) | (go_at_call 42; (with_reducible refine (HWr.out _ (hBXX.out _ (by (repeat (first | (with_reducible assumption) | (with_reducible exact Below.refl _ _) | (with_reducible refine grow_alloc ?_ _) | (with_reducible refine grow_mix ?_ _) | (with_reducible refine grow_drew ?_) | (with_reducible refine grow_drewN ?_ _) | (with_reducible refine grow_set ?_ (by first | (simp; done) | (simp; omega) | omega) _)))))).mono ?_); rintro e w' ⟨rfl, hb⟩; have hz := hb.size; (first | (obtain ⟨x1, rfl⟩ := to_mix2 hb) | (obtain ⟨x1, rfl⟩ := to_mix hb)); clear hb; (try simp only [World.size_alloc, World.size_setCell, World.size_drew] at hz); (try have q0 : w.heap.size < _ := Nat.lt_of_lt_of_le (by omega) hz); (try have q1 : w.heap.size + 1 < _ := Nat.lt_of_lt_of_le (by omega) hz); (try have q2 : w.heap.size + 1 + 1 < _ := Nat.lt_of_lt_of_le (by omega) hz); (try have q3 : w.heap.size + 1 + 1 + 1 < _ := Nat.lt_of_lt_of_le (by omega) hz)))
    go_ret
    first | exact ⟨hBXX.out _ (by (repeat (first | (with_reducible assumption) | (with_reducible exact Below.refl _ _) | (with_reducible refine grow_alloc ?_ _) | (with_reducible refine grow_mix ?_ _) | (with_reducible refine grow_drew ?_) | (with_reducible refine grow_drewN ?_ _) | (with_reducible refine grow_set ?_ (by first | (simp; done) | (simp; omega) | omega) _)))), false, rfl, .inr ⟨rfl, HF'.out⟩⟩ | exact ⟨hBXX.out _ (by (repeat (first | (with_reducible assumption) | (with_reducible exact Below.refl _ _) | (with_reducible refine grow_alloc ?_ _) | (with_reducible refine grow_mix ?_ _) | (with_reducible refine grow_drew ?_) | (with_reducible refine grow_drewN ?_ _) | (with_reducible refine grow_set ?_ (by first | (simp; done) | (simp; omega) | omega) _)))), .inl ⟨rfl, HF'.out⟩⟩ | exact ⟨hBXX.out _ (by (repeat (first | (with_reducible assumption) | (with_reducible exact Below.refl _ _) | (with_reducible refine grow_alloc ?_ _) | (with_reducible refine grow_mix ?_ _) | (with_reducible refine grow_drew ?_) | (with_reducible refine grow_drewN ?_ _) | (with_reducible refine grow_set ?_ (by first | (simp; done) | (simp; omega) | omega) _)))), .inr ⟨rfl, HF'.out⟩⟩
  · rcases Nat.eq_zero_or_pos ps.length with h0 | h0
    · have e1 : ((ps.length : Int) - 1) = -1 := by omega
      have HF' := Lib.hid (HS.out.2 fun h => h.2.2.2.1 (List.length_eq_zero_iff.1 h0))
      clear HS
      simp only [e1]
      go_wp2_with (first | (go_at_call 37; (with_reducible refine (HM.out _).mono ?_); rintro e w' ⟨rfl, hb⟩; have hz := hb.size; (first | (obtain ⟨x1, rfl⟩ := to_mix2 hb) | (obtain ⟨x1, rfl⟩ := to_mix hb)); clear hb; (try simp only [World.size_alloc, World.size_setCell, World.size_drew] at hz); (try have q0 : w.heap.size < _ := Nat.lt_of_lt_of_le (by omega) hz); (try have q1 : w.heap.size + 1 < _ := Nat.lt_of_lt_of_le (by omega) hz); (try have q2 : w.heap.size + 1 + 1 < _ := Nat.lt_of_lt_of_le (by omega) hz); (try have q3 : w.heap.size + 1 + 1 + 1 < _ := Nat.lt_of_lt_of_le (by omega) hz)) | (go_at_call 42; (with_reducible refine (HWr.out _ (hBXX.out _ (by (repeat (first | (with_reducible assumption) | (with_reducible exact Below.refl _ _) | (with_reducible refine grow_alloc ?_ _) | (with_reducible refine grow_mix ?_ _) | (with_reducible refine grow_drew ?_) | (with_reducible refine grow_drewN ?_ _) | (with_reducible refine grow_set ?_ (by first | (simp; done) | (simp; omega) | omega) _)))))).mono ?_); rintro e w' ⟨rfl, hb⟩; have hz := hb.size; (first | (obtain ⟨x1, rfl⟩ := to_mix2 hb) | (obtain ⟨x1, rfl⟩ := to_mix hb)); clear hb; (try simp only [World.size_alloc, World.size_setCell, World.size_drew] at hz); (try have q0 : w.heap.size < _ := Nat.lt_of_lt_of_le (by omega) hz); (try have q1 : w.heap.size + 1 < _ := Nat.lt_of_lt_of_le (by omega) hz); (try have q2 : w.heap.size + 1 + 1 < _ := Nat.lt_of_lt_of_le (by omega) hz); (try have q3 : w.heap.size + 1 + 1 + 1 < _ := Nat.lt_of_lt_of_le (by omega) hz)))
      go_ret
      first | exact ⟨hBXX.out _ (by (repeat (first | (with_reducible assumption) | (with_reducible exact Below.refl _ _) | (with_reducible refine grow_alloc ?_ _) | (with_reducible refine grow_mix ?_ _) | (with_reducible refine grow_drew ?_) | (with_reducible refine grow_drewN ?_ _) | (with_reducible refine grow_set ?_ (by first | (simp; done) | (simp; omega) | omega) _)))), false, rfl, .inr ⟨rfl, HF'.out⟩⟩ | exact ⟨hBXX.out _ (by (repeat (first | (with_reducible assumption) | (with_reducible exact Below.refl _ _) | (with_reducible refine grow_alloc ?_ _) | (with_reducible refine grow_mix ?_ _) | (with_reducible refine grow_drew ?_) | (with_reducible refine grow_drewN ?_ _) | (with_reducible refine grow_set ?_ (by first | (simp; done) | (simp; omega) | omega) _)))), .inl ⟨rfl, HF'.out⟩⟩ | exact ⟨hBXX.out _ (by (repeat (first | (with_reducible assumption) | (with_reducible exact Below.refl _ _) | (with_reducible refine grow_alloc ?_ _) | (with_reducible refine grow_mix ?_ _) | (with_reducible refine grow_drew ?_) | (with_reducible refine grow_drewN ?_ _) | (with_reducible refine grow_set ?_ (by first | (simp; done) | (simp; omega) | omega) _)))), .inr ⟨rfl, HF'.out⟩⟩
    · obtain ⟨m, hm⟩ : ∃ m, ps.length = m + 1 := ⟨ps.length - 1, by omega⟩
      have e1 : ((ps.length : Int) - 1) = m := by omega
      have hne : ps ≠ [] := fun e => by rw [e] at h0; cases h0
      have HNE := Lib.hid hne
      simp only [e1]
      clear hne
      cases mb
      · have HF' := Lib.hid (HS.out.2 fun h => by cases h.2.1)
        clear HS
        go_wp2_with (first | (go_at_call 37; (with_reducible refine (HM.out _).mono ?_); rintro e w' ⟨rfl, hb⟩; have hz := hb.size; (first | (obtain ⟨x1, rfl⟩ := to_mix2 hb) | (obtain ⟨x1, rfl⟩ := to_mix hb)); clear hb; (try simp only [World.size_alloc, World.size_setCell, World.size_drew] at hz); (try have q0 : w.heap.size < _ := Nat.lt_of_lt_of_le (by omega) hz); (try have q1 : w.heap.size + 1 < _ := Nat.lt_of_lt_of_le (by omega) hz); (try have q2 : w.heap.size + 1 + 1 < _ := Nat.lt_of_lt_of_le (by omega) hz); (try have q3 : w.heap.size + 1 + 1 + 1 < _ := Nat.lt_of_lt_of_le (by omega) hz)) | (go_at_call 42; (with_reducible refine (HWr.out _ (hBXX.out _ (by (repeat (first | (with_reducible assumption) | (with_reducible exact Below.refl _ _) | (with_reducible refine grow_alloc ?_ _) | (with_reducible refine grow_mix ?_ _) | (with_reducible refine grow_drew ?_) | (with_reducible refine grow_drewN ?_ _) | (with_reducible refine grow_set ?_ (by first | (simp; done) | (simp; omega) | omega) _)))))).mono ?_); rintro e w' ⟨rfl, hb⟩; have hz := hb.size; (first | (obtain ⟨x1, rfl⟩ := to_mix2 hb) | (obtain ⟨x1, rfl⟩ := to_mix hb)); clear hb; (try simp only [World.size_alloc, World.size_setCell, World.size_drew] at hz); (try have q0 : w.heap.size < _ := Nat.lt_of_lt_of_le (by omega) hz); (try have q1 : w.heap.size + 1 < _ := Nat.lt_of_lt_of_le (by omega) hz); (try have q2 : w.heap.size + 1 + 1 < _ := Nat.lt_of_lt_of_le (by omega) hz); (try have q3 : w.heap.size + 1 + 1 + 1 < _ := Nat.lt_of_lt_of_le (by omega) hz)))
        go_ret
        first | exact ⟨hBXX.out _ (by (repeat (first | (with_reducible assumption) | (with_reducible exact Below.refl _ _) | (with_reducible refine grow_alloc ?_ _) | (with_reducible refine grow_mix ?_ _) | (with_reducible refine grow_drew ?_) | (with_reducible refine grow_drewN ?_ _) | (with_reducible refine grow_set ?_ (by first | (simp; done) | (simp; omega) | omega) _)))), false, rfl, .inr ⟨rfl, HF'.out⟩⟩ | exact ⟨hBXX.out _ (by (repeat (first | (with_reducible assumption) | (with_reducible exact Below.refl _ _) | (with_reducible refine grow_alloc ?_ _) | (with_reducible refine grow_mix ?_ _) | (with_reducible refine grow_drew ?_) | (with_reducible refine grow_drewN ?_ _) | (with_reducible refine grow_set ?_ (by first | (simp; done) | (simp; omega) | omega) _)))), .inl ⟨rfl, HF'.out⟩⟩ | exact ⟨hBXX.out _ (by (repeat (first | (with_reducible assumption) | (with_reducible exact Below.refl _ _) | (with_reducible refine grow_alloc ?_ _) | (with_reducible refine grow_mix ?_ _) | (with_reducible refine grow_drew ?_) | (with_reducible refine grow_drewN ?_ _) | (with_reducible refine grow_set ?_ (by first | (simp; done) | (simp; omega) | omega) _)))), .inr ⟨rfl, HF'.out⟩⟩
      · cases hE : wr == s
        · have HF' := Lib.hid (HS.out.2 fun h => by rw [beq_eq_false_iff_ne] at hE; exact hE h.2.2.1)
          clear HS
          have hE' : (wr != s) = true := by unfold bne; rw [hE]; rfl
          go_wp2_with (first | (go_at_call 37; (with_reducible refine (HM.out _).mono ?_); rintro e w' ⟨rfl, hb⟩; have hz := hb.size; (first | (obtain ⟨x1, rfl⟩ := to_mix2 hb) | (obtain ⟨x1, rfl⟩ := to_mix hb)); clear hb; (try simp only [World.size_alloc, World.size_setCell, World.size_drew] at hz); (try have q0 : w.heap.size < _ := Nat.lt_of_lt_of_le (by omega) hz); (try have q1 : w.heap.size + 1 < _ := Nat.lt_of_lt_of_le (by omega) hz); (try have q2 : w.heap.size + 1 + 1 < _ := Nat.lt_of_lt_of_le (by omega) hz); (try have q3 : w.heap.size + 1 + 1 + 1 < _ := Nat.lt_of_lt_of_le (by omega) hz)) | (go_at_call 42; (with_reducible refine (HWr.out _ (hBXX.out _ (by (repeat (first | (with_reducible assumption) | (with_reducible exact Below.refl _ _) | (with_reducible refine grow_alloc ?_ _) | (with_reducible refine grow_mix ?_ _) | (with_reducible refine grow_drew ?_) | (with_reducible refine grow_drewN ?_ _) | (with_reducible refine grow_set ?_ (by first | (simp; done) | (simp; omega) | omega) _)))))).mono ?_); rintro e w' ⟨rfl, hb⟩; have hz := hb.size; (first | (obtain ⟨x1, rfl⟩ := to_mix2 hb) | (obtain ⟨x1, rfl⟩ := to_mix hb)); clear hb; (try simp only [World.size_alloc, World.size_setCell, World.size_drew] at hz); (try have q0 : w.heap.size < _ := Nat.lt_of_lt_of_le (by omega) hz); (try have q1 : w.heap.size + 1 < _ := Nat.lt_of_lt_of_le (by omega) hz); (try have q2 : w.heap.size + 1 + 1 < _ := Nat.lt_of_lt_of_le (by omega) hz); (try have q3 : w.heap.size + 1 + 1 + 1 < _ := Nat.lt_of_lt_of_le (by omega) hz)))
          go_ret
          first | exact ⟨hBXX.out _ (by (repeat (first | (with_reducible assumption) | (with_reducible exact Below.refl _ _) | (with_reducible refine grow_alloc ?_ _) | (with_reducible refine grow_mix ?_ _) | (with_reducible refine grow_drew ?_) | (with_reducible refine grow_drewN ?_ _) | (with_reducible refine grow_set ?_ (by first | (simp; done) | (simp; omega) | omega) _)))), false, rfl, .inr ⟨rfl, HF'.out⟩⟩ | exact ⟨hBXX.out _ (by (repeat (first | (with_reducible assumption) | (with_reducible exact Below.refl _ _) | (with_reducible refine grow_alloc ?_ _) | (with_reducible refine grow_mix ?_ _) | (with_reducible refine grow_drew ?_) | (with_reducible refine grow_drewN ?_ _) | (with_reducible refine grow_set ?_ (by first | (simp; done) | (simp; omega) | omega) _)))), .inl ⟨rfl, HF'.out⟩⟩ | exact ⟨hBXX.out _ (by (repeat (first | (with_reducible assumption) | (with_reducible exact Below.refl _ _) | (with_reducible refine grow_alloc ?_ _) | (with_reducible refine grow_mix ?_ _) | (with_reducible refine grow_drew ?_) | (with_reducible refine grow_drewN ?_ _) | (with_reducible refine grow_set ?_ (by first | (simp; done) | (simp; omega) | omega) _)))), .inr ⟨rfl, HF'.out⟩⟩
        · have hE' : (wr != s) = false := by unfold bne; rw [hE]; rfl
          obtain ⟨g', c', A', n', hv', hc', hvs', hf', hb', hl'⟩ := HRX.out.built.at_ (k := m) (by omega)
          have hln : (ps[m]'(by omega)).code.length = ln := (last_at hm).trans hlnE
          rw [hln] at hc' hvs'
          injection hv' with hv'
          subst hv'
          have HLN := Lib.hid hln
          by_cases h200 : ln = 200
          · have HF' := Lib.hid (HS.out.2 fun h => h.2.2.2.2 h200)
            subst h200
            clear HS HLN hln
            go_wp2_with (first | (go_at_call 37; (with_reducible refine (HM.out _).mono ?_); rintro e w' ⟨rfl, hb⟩; have hz := hb.size; (first | (obtain ⟨x1, rfl⟩ := to_mix2 hb) | (obtain ⟨x1, rfl⟩ := to_mix hb)); clear hb; (try simp only [World.size_alloc, World.size_setCell, World.size_drew] at hz); (try have q0 : w.heap.size < _ := Nat.lt_of_lt_of_le (by omega) hz); (try have q1 : w.heap.size + 1 < _ := Nat.lt_of_lt_of_le (by omega) hz); (try have q2 : w.heap.size + 1 + 1 < _ := Nat.lt_of_lt_of_le (by omega) hz); (try have q3 : w.heap.size + 1 + 1 + 1 < _ := Nat.lt_of_lt_of_le (by omega) hz)) | (go_at_call 42; (with_reducible refine (HWr.out _ (hBXX.out _ (by (repeat (first | (with_reducible assumption) | (with_reducible exact Below.refl _ _) | (with_reducible refine grow_alloc ?_ _) | (with_reducible refine grow_mix ?_ _) | (with_reducible refine grow_drew ?_) | (with_reducible refine grow_drewN ?_ _) | (with_reducible refine grow_set ?_ (by first | (simp; done) | (simp; omega) | omega) _)))))).mono ?_); rintro e w' ⟨rfl, hb⟩; have hz := hb.size; (first | (obtain ⟨x1, rfl⟩ := to_mix2 hb) | (obtain ⟨x1, rfl⟩ := to_mix hb)); clear hb; (try simp only [World.size_alloc, World.size_setCell, World.size_drew] at hz); (try have q0 : w.heap.size < _ := Nat.lt_of_lt_of_le (by omega) hz); (try have q1 : w.heap.size + 1 < _ := Nat.lt_of_lt_of_le (by omega) hz); (try have q2 : w.heap.size + 1 + 1 < _ := Nat.lt_of_lt_of_le (by omega) hz); (try have q3 : w.heap.size + 1 + 1 + 1 < _ := Nat.lt_of_lt_of_le (by omega) hz)))
            go_ret
            first | exact ⟨hBXX.out _ (by (repeat (first | (with_reducible assumption) | (with_reducible exact Below.refl _ _) | (with_reducible refine grow_alloc ?_ _) | (with_reducible refine grow_mix ?_ _) | (with_reducible refine grow_drew ?_) | (with_reducible refine grow_drewN ?_ _) | (with_reducible refine grow_set ?_ (by first | (simp; done) | (simp; omega) | omega) _)))), false, rfl, .inr ⟨rfl, HF'.out⟩⟩ | exact ⟨hBXX.out _ (by (repeat (first | (with_reducible assumption) | (with_reducible exact Below.refl _ _) | (with_reducible refine grow_alloc ?_ _) | (with_reducible refine grow_mix ?_ _) | (with_reducible refine grow_drew ?_) | (with_reducible refine grow_drewN ?_ _) | (with_reducible refine grow_set ?_ (by first | (simp; done) | (simp; omega) | omega) _)))), .inl ⟨rfl, HF'.out⟩⟩ | exact ⟨hBXX.out _ (by (repeat (first | (with_reducible assumption) | (with_reducible exact Below.refl _ _) | (with_reducible refine grow_alloc ?_ _) | (with_reducible refine grow_mix ?_ _) | (with_reducible refine grow_drew ?_) | (with_reducible refine grow_drewN ?_ _) | (with_reducible refine grow_set ?_ (by first | (simp; done) | (simp; omega) | omega) _)))), .inr ⟨rfl, HF'.out⟩⟩
          · have HF' := Lib.hid (HS.out.1 ⟨rfl, eq_of_beq hE, HNE.out, h200⟩)
            clear HS hln
            have hl2 : ((ln : Int) == 200) = false := by rw [beq_eq_false_iff_ne]; omega
            have hm0 : ((m : Int) < 0) = False := by simp
            go_wp2_with (first | (go_at_call 37; (with_reducible refine (HM.out _).mono ?_); rintro e w' ⟨rfl, hb⟩; have hz := hb.size; (first | (obtain ⟨x1, rfl⟩ := to_mix2 hb) | (obtain ⟨x1, rfl⟩ := to_mix hb)); clear hb; (try simp only [World.size_alloc, World.size_setCell, World.size_drew] at hz); (try have q0 : w.heap.size < _ := Nat.lt_of_lt_of_le (by omega) hz); (try have q1 : w.heap.size + 1 < _ := Nat.lt_of_lt_of_le (by omega) hz); (try have q2 : w.heap.size + 1 + 1 < _ := Nat.lt_of_lt_of_le (by omega) hz); (try have q3 : w.heap.size + 1 + 1 + 1 < _ := Nat.lt_of_lt_of_le (by omega) hz)) | (go_at_call 42; (with_reducible refine (HWr.out _ (hBXX.out _ (by (repeat (first | (with_reducible assumption) | (with_reducible exact Below.refl _ _) | (with_reducible refine grow_alloc ?_ _) | (with_reducible refine grow_mix ?_ _) | (with_reducible refine grow_drew ?_) | (with_reducible refine grow_drewN ?_ _) | (with_reducible refine grow_set ?_ (by first | (simp; done) | (simp; omega) | omega) _)))))).mono ?_); rintro e w' ⟨rfl, hb⟩; have hz := hb.size; (first | (obtain ⟨x1, rfl⟩ := to_mix2 hb) | (obtain ⟨x1, rfl⟩ := to_mix hb)); clear hb; (try simp only [World.size_alloc, World.size_setCell, World.size_drew] at hz); (try have q0 : w.heap.size < _ := Nat.lt_of_lt_of_le (by omega) hz); (try have q1 : w.heap.size + 1 < _ := Nat.lt_of_lt_of_le (by omega) hz); (try have q2 : w.heap.size + 1 + 1 < _ := Nat.lt_of_lt_of_le (by omega) hz); (try have q3 : w.heap.size + 1 + 1 + 1 < _ := Nat.lt_of_lt_of_le (by omega) hz)))
            obtain ⟨b11, hb11⟩ : ∃ b, X.heap.size = b := ⟨_, rfl⟩
            have AX : Hid ((Value.slice A' ln n').ownBlock ≠ some b11) := by
              refine Lib.hid fun e => ?_
              have := (HRX.out.built.2.2 m _ _ (List.getElem?_eq_getElem (by omega)) hvs').lt _ e
              omega
            refine wp_at' (fun Y => RB Y base rb (.slice (some ⟨g', 0, none⟩) ps.length vc) ps vs ∧ Has Y b11 #[.int .i64 n, .int .i64 n0, .int .i64 n1] 64 ∧ Below base w Y) ⟨HRX.out.below (by (repeat (first | (with_reducible assumption) | (with_reducible exact Below.refl _ _) | (with_reducible refine grow_alloc ?_ _) | (with_reducible refine grow_mix ?_ _) | (with_reducible refine grow_drew ?_) | (with_reducible refine grow_drewN ?_ _) | (with_reducible refine grow_set ?_ (by first | (simp; done) | (simp; omega) | omega) _)))), by rw [← hb11]; (repeat (first | (with_reducible assumption) | (with_reducible exact Has.new _ _ _) | (with_reducible exact Has.new' (by first | rfl | (simp; done) | (simp; omega)) _ _) | (with_reducible apply Has.alloc) | (with_reducible apply Has.mix) | (with_reducible apply Has.drew) | (with_reducible apply Has.drewN) | (with_reducible apply Has.set_same) | (with_reducible apply Has.set_other (hp := (by first | (simp; done) | (simp; omega) | omega))) | (with_reducible rfl) | rfl)), hBXX.out _ (by (repeat (first | (with_reducible assumption) | (with_reducible exact Below.refl _ _) | (with_reducible refine grow_alloc ?_ _) | (with_reducible refine grow_mix ?_ _) | (with_reducible refine grow_drew ?_) | (with_reducible refine grow_drewN ?_ _) | (with_reducible refine grow_set ?_ (by first | (simp; done) | (simp; omega) | omega) _))))⟩ ?_
            simp only [hb11]
            rintro Y ⟨h1, hT, hBX⟩
            have hY := h1.has
            have HRY := Lib.hid h1
            have HBY := Lib.hid hBX
            obtain ⟨g2, c2, A2, n2', hv2, hc2, hvs2, hf2, hb2, hl2'⟩ := h1.built.at_ (k := m) (by omega)
            rw [HLN.out] at hc2 hvs2
            have e2 := hvs'.symm.trans hvs2
            injection e2 with e2
            injection e2 with e2 _ e3
            subst e2
            subst e3
            injection hv2 with hv2
            injection hv2 with hv2
            injection hv2 with hv2 _
            subst hv2
            have HU := Lib.hid (h1.built.2.2 m _ _ (List.getElem?_eq_getElem (by omega)) hvs')
            rw [HLN.out] at HU
            have HVS := Lib.hid hvs'
            clear h1 hBX hvs2 hvs'
            have HX := Lib.hid hT
            have hYl := hY.lt
            have hYf := hY.frozen
            have hT_c0 := hT.cell 0
            have hT_c1 := hT.cell 1
            have hT_c2 := hT.cell 2
            have hT_f := hT.frozen
            have hT_l := hT.lt
            simp only [List.size_toArray, List.length_cons, List.length_nil, Nat.reduceAdd, Nat.zero_lt_succ, Nat.one_lt_succ_succ, Nat.reduceLT, getElem?_pos, List.getElem_toArray, List.getElem_cons_zero, List.getElem_cons_succ] at hT_c0 hT_c1 hT_c2
            have hY_c := hY.cell 0
            clear hT hY
            have ag : (Value.slice A' ln n').ownBlock ≠ some rb := own_ne HU.out HRY.out.has (by decide)
            have ac : (Value.slice A' ln n').ownBlock ≠ some g' := by
              have h2 := own_own_ne HRY.out.built.2.1 HU.out (by decide)
              rcases h2 with h2 | h2
              · cases h2
              · intro e; exact h2 (by rw [e]; rfl)
            have hlY1 : rb < Y.heap.size := hYl
            have hlY2 : g' < Y.heap.size := hl2'
            have hlY3 : b11 < Y.heap.size := HX.out.lt
            have hi1 : (m : Int) < (ps.length : Int) := by omega
            have hi0 : (0 : Int) ≤ (m : Int) := by omega
            obtain ⟨i0, hi, hz0, hz1, hz2⟩ := info_parts insRow
            have hgr : g' ≠ rb := by
              have h2 := own_ne HRY.out.built.2.1 HRY.out.has (by decide)
              intro e; exact h2 (by rw [← e]; rfl)
            have hgr' : rb ≠ g' := Ne.symm hgr
            have hgx : g' ≠ b11 := by
              have h2 := own_ne HRY.out.built.2.1 HX.out (by decide)
              intro e; exact h2 (by rw [← e]; rfl)
            have hgx' : b11 ≠ g' := Ne.symm hgx
            have AG := Lib.hid ag
            have AC := Lib.hid ac
            clear ag ac
            have HMM := Lib.hid hm
            have hi2 : (m : Int) < (m : Int) + 1 := by omega
            obtain ⟨SS, hSS⟩ : ∃ SS : World → Prop, Hid (∀ w', SS w' ↔ (w'.cell? ⟨rb, 0, none⟩ = some (.slice (some ⟨g', 0, none⟩) ps.length vc) ∧ w'.cell? ⟨g', m * 4 + 3, none⟩ = some (.slice A' ln n') ∧ w'.cell? ⟨b11, 0, none⟩ = some (.int .i64 n) ∧ w'.cell? ⟨b11, 1, none⟩ = some (.int .i64 n0) ∧ w'.cell? ⟨b11, 2, none⟩ = some (.int .i64 n1))) := ⟨fun w' => w'.cell? ⟨rb, 0, none⟩ = some (.slice (some ⟨g', 0, none⟩) ps.length vc) ∧ w'.cell? ⟨g', m * 4 + 3, none⟩ = some (.slice A' ln n') ∧ w'.cell? ⟨b11, 0, none⟩ = some (.int .i64 n) ∧ w'.cell? ⟨b11, 1, none⟩ = some (.int .i64 n0) ∧ w'.cell? ⟨b11, 2, none⟩ = some (.int .i64 n1), Lib.hid fun _ => Iff.rfl⟩
            have hS0 : SS (Y).drew := (hSS.out _).2 ⟨hY_c, hc2, hT_c0, hT_c1, hT_c2⟩
            refine wp_region_peelH SS 16 (by kernel_rfl) (by kernel_rfl) ?_
            simp only [List.take_succ_cons, List.take_zero, List.drop_succ_cons, List.drop_zero]
            show wpAnyH _ _ _ _ _ (15 + 1) _ _ _
            refine held_first (i := 0) rfl (by kernel_rfl) (by kernel_rfl) (by kernel_rfl) (fun _ _ _ _ h => h) rfl (by assumption) ?_
            apply Exists.intro
            refine And.intro (fun _ hS => ?_) ?_
            · obtain ⟨s1, s2, s3, s4, s5⟩ := (hSS.out _).1 hS
              first | (go_simp; rfl) | rfl
            show wpAnyH _ _ _ _ _ (14 + 1) _ _ _
            refine held_first (i := 1) rfl (by kernel_rfl) (by kernel_rfl) (by kernel_rfl) (fun _ _ _ _ h => h) rfl (by assumption) ?_
            apply Exists.intro
            refine And.intro (fun _ hS => ?_) ?_
            · obtain ⟨s1, s2, s3, s4, s5⟩ := (hSS.out _).1 hS
              first | (go_simp; rfl) | rfl
            show wpAnyH _ _ _ _ _ (13 + 1) _ _ _
            refine held_first (i := 2) rfl (by kernel_rfl) (by kernel_rfl) (by kernel_rfl) (fun _ _ _ _ h => h) rfl (by assumption) ?_
            apply Exists.intro
            refine And.intro (fun _ hS => ?_) ?_
            · obtain ⟨s1, s2, s3, s4, s5⟩ := (hSS.out _).1 hS
              first | (go_simp; rfl) | rfl
            show wpAnyH _ _ _ _ _ (12 + 1) _ _ _
            refine held_first (i := 3) rfl (by kernel_rfl) (by kernel_rfl) (by kernel_rfl) (fun _ _ _ _ h => h) rfl (by assumption) ?_
            apply Exists.intro
            refine And.intro (fun _ hS => ?_) ?_
            · obtain ⟨s1, s2, s3, s4, s5⟩ := (hSS.out _).1 hS
              first | (go_simp; rfl) | rfl
            show wpAnyH _ _ _ _ _ (11 + 1) _ _ _
            refine held_first (i := 4) rfl (by kernel_rfl) (by kernel_rfl) (by kernel_rfl) (fun _ _ _ _ h => h) rfl (by assumption) ?_
            apply Exists.intro
            refine And.intro (fun _ hS => ?_) ?_
            · obtain ⟨s1, s2, s3, s4, s5⟩ := (hSS.out _).1 hS
              first | (go_simp; rfl) | rfl
            show wpAnyH _ _ _ _ _ (10 + 1) _ _ _
            refine held_first (i := 5) rfl (by kernel_rfl) (by kernel_rfl) (by kernel_rfl) (fun _ _ _ _ h => h) rfl (by assumption) ?_
            apply Exists.intro
            refine And.intro (fun _ hS => ?_) ?_
            · obtain ⟨s1, s2, s3, s4, s5⟩ := (hSS.out _).1 hS
              first | (go_simp; rfl) | rfl
            show wpAnyH _ _ _ _ _ (9 + 1) _ _ _
            refine held_first (i := 6) rfl (by kernel_rfl) (by kernel_rfl) (by kernel_rfl) (fun _ _ _ _ h => h) rfl (by assumption) ?_
            apply Exists.intro
            refine And.intro (fun _ hS => ?_) ?_
            · obtain ⟨s1, s2, s3, s4, s5⟩ := (hSS.out _).1 hS
              first | (go_simp; rfl) | rfl
            show wpAnyH _ _ _ _ _ (8 + 1) _ _ _
            refine held_first (i := 7) rfl (by kernel_rfl) (by kernel_rfl) (by kernel_rfl) (fun _ _ _ _ h => h) rfl (by assumption) ?_
            apply Exists.intro
            refine And.intro (fun _ hS => ?_) ?_
            · obtain ⟨s1, s2, s3, s4, s5⟩ := (hSS.out _).1 hS
              first | (go_simp; rfl) | rfl
            show wpAnyH _ _ _ _ _ (7 + 1) _ _ _
            refine held_first (i := 8) rfl (by kernel_rfl) (by kernel_rfl) (by kernel_rfl) (fun _ _ _ _ h => h) rfl (by assumption) ?_
            apply Exists.intro
            refine And.intro (fun _ hS => ?_) ?_
            · obtain ⟨s1, s2, s3, s4, s5⟩ := (hSS.out _).1 hS
              first | (go_simp; rfl) | rfl
            show wpAnyH _ _ _ _ _ (6 + 1) _ _ _
            refine held_first (i := 9) rfl (by kernel_rfl) (by kernel_rfl) (by kernel_rfl) (fun _ _ _ _ h => h) rfl (by assumption) ?_
            apply Exists.intro
            refine And.intro (fun _ hS => ?_) ?_
            · obtain ⟨s1, s2, s3, s4, s5⟩ := (hSS.out _).1 hS
              first | (go_simp; rfl) | rfl
            show wpAnyH _ _ _ _ _ (5 + 1) _ _ _
            refine held_first (i := 10) rfl (by kernel_rfl) (by kernel_rfl) (by kernel_rfl) (fun _ _ _ _ h => h) rfl (by assumption) ?_
            apply Exists.intro
            refine And.intro (fun _ hS => ?_) ?_
            · obtain ⟨s1, s2, s3, s4, s5⟩ := (hSS.out _).1 hS
              first | (go_simp; rfl) | rfl
            show wpAnyH _ _ _ _ _ (4 + 1) _ _ _
            refine held_first (i := 11) rfl (by kernel_rfl) (by kernel_rfl) (by kernel_rfl) (fun _ _ _ _ h => h) rfl (by assumption) ?_
            apply Exists.intro
            refine And.intro (fun _ hS => ?_) ?_
            · obtain ⟨s1, s2, s3, s4, s5⟩ := (hSS.out _).1 hS
              first | (go_simp; rfl) | rfl
            show wpAnyH _ _ _ _ _ (3 + 1) _ _ _
            refine held_first (i := 12) rfl (by kernel_rfl) (by kernel_rfl) (by kernel_rfl) (fun _ _ _ _ h => h) rfl (by assumption) ?_
            apply Exists.intro
            refine And.intro (fun _ hS => ?_) ?_
            · obtain ⟨s1, s2, s3, s4, s5⟩ := (hSS.out _).1 hS
              first | (go_simp; rfl) | rfl
            show wpAnyH _ _ _ _ _ (2 + 1) _ _ _
            refine held_first (i := 13) rfl (by kernel_rfl) (by kernel_rfl) (by kernel_rfl) (fun _ _ _ _ h => h) rfl (by assumption) ?_
            apply Exists.intro
            refine And.intro (fun _ hS => ?_) ?_
            · obtain ⟨s1, s2, s3, s4, s5⟩ := (hSS.out _).1 hS
              first | (go_simp; rfl) | rfl
            show wpAnyH _ _ _ _ _ (1 + 1) _ _ _
            refine held_one (i := 14) (by kernel_rfl) rfl ?_
            go_wp2
            refine ⟨(hSS.out _).2 ⟨(World.cell?_alloc_lt Y _ ⟨rb, 0, none⟩ (by assumption)).trans hY_c, (World.cell?_alloc_lt Y _ ⟨g', m * 4 + 3, none⟩ (by assumption)).trans hc2, (World.cell?_alloc_lt Y _ ⟨b11, 0, none⟩ (by assumption)).trans hT_c0, (World.cell?_alloc_lt Y _ ⟨b11, 1, none⟩ (by assumption)).trans hT_c1, (World.cell?_alloc_lt Y _ ⟨b11, 2, none⟩ (by assumption)).trans hT_c2⟩, ?_⟩
            show wpAnyH _ _ _ _ _ (0 + 1) _ _ _
            refine held_one (i := 15) (by kernel_rfl) rfl ?_
            (refine wpList_append_lies _ rfl _ _ _ rfl base 64 i0 _ 3 24 Tryz.underlying37 hi hz0 hz1 hz2 rfl (by omega) _ ln _ (by rfl) (((HU.out).alloc _).drew) ⟨Y.heap.size, 0, none⟩ 1 1 (insL ⟨n, n0, n1⟩) (by rfl) (by rfl) (World.news_of_block (cs := #[.int .i64 n, .int .i64 n0, .int .i64 n1]) (t := 64) (fr := (0, 0)) (heap_alloc_new Y _)) (ins_one ⟨n, n0, n1⟩) (by omega) (by unfold maxLen; omega) (by omega) (by have := HRX.out.le; simp; omega) (Y.heap.size + 1) (by simp) ?_; intro gg cap w1 hown1 hgrow hat hlt; have hcw : w1.cell? ⟨g', m * 4 + 3, none⟩ = some (.slice A' ln n') := ((hgrow.cell_far ⟨g', m * 4 + 3, none⟩ (by first | (simp; done) | (simp; omega)) (Ne.symm AC.out)).trans (World.cell?_alloc_lt Y _ ⟨g', m * 4 + 3, none⟩ hlY2)).trans hc2; have hfw : w1.frozen? ⟨g', m * 4 + 3, none⟩ = false := ((hgrow.frozen_far ⟨g', m * 4 + 3, none⟩ (by first | (simp; done) | (simp; omega)) (Ne.symm AC.out)).trans (World.frozen?_alloc_old Y _ ⟨g', m * 4 + 3, none⟩ (by show g' ≠ Y.heap.size; omega))).trans hf2)
            refine wpList_nil ⟨(hSS.out _).2 ⟨(hgrow.cell_far ⟨rb, 0, none⟩ (by first | (simp; done) | (simp; omega)) (Ne.symm AG.out)).trans ((World.cell?_alloc_lt Y _ ⟨rb, 0, none⟩ (by assumption)).trans hY_c), (hgrow.cell_far ⟨g', m * 4 + 3, none⟩ (by first | (simp; done) | (simp; omega)) (Ne.symm AC.out)).trans ((World.cell?_alloc_lt Y _ ⟨g', m * 4 + 3, none⟩ (by assumption)).trans hc2), (hgrow.cell_far ⟨b11, 0, none⟩ (by first | (simp; done) | (simp; omega)) (Ne.symm AX.out)).trans ((World.cell?_alloc_lt Y _ ⟨b11, 0, none⟩ (by assumption)).trans hT_c0), (hgrow.cell_far ⟨b11, 1, none⟩ (by first | (simp; done) | (simp; omega)) (Ne.symm AX.out)).trans ((World.cell?_alloc_lt Y _ ⟨b11, 1, none⟩ (by assumption)).trans hT_c1), (hgrow.cell_far ⟨b11, 2, none⟩ (by first | (simp; done) | (simp; omega)) (Ne.symm AX.out)).trans ((World.cell?_alloc_lt Y _ ⟨b11, 2, none⟩ (by assumption)).trans hT_c2)⟩, ?_⟩
            show wpAnyH _ _ _ _ _ 0 _ _ _
            refine ⟨by kernel_rfl, ?_⟩
            simp only [Exit.then]
            all_goals
              have hVB : Below Y.heap.size Y ((Y.alloc (.cells #[.int .i64 n, .int .i64 n0, .int .i64 n1] 64)).drew) := by (repeat (first | (with_reducible assumption) | (with_reducible exact Below.refl _ _) | (with_reducible refine grow_alloc ?_ _) | (with_reducible refine grow_mix ?_ _) | (with_reducible refine grow_drew ?_) | (with_reducible refine grow_drewN ?_ _) | (with_reducible refine grow_set ?_ (by first | (simp; done) | (simp; omega) | omega) _)))
              have hq := ins_rel (V := (Y.alloc (.cells #[.int .i64 n, .int .i64 n0, .int .i64 n1] 64)).drew) (w6 := w1) (HRY.out.below hVB) HMM.out HLN.out rfl HVS.out hown1 hgrow (by rcases hat with h | h; exact .inl h.symm; exact .inr (by rw [h]; simp [Value.ownBlock]))
              have HQ := Lib.hid hq
              clear hq hVB
              go_wp2
              go_ret
              have hbY : base ≤ Y.heap.size := by have h1 := HRX.out.le; have h2 := HRY.out.has.lt; omega
              first | refine ⟨?_, true, rfl, .inl ⟨rfl, _, _, _, HF'.out, HQ.out.2.2.2.2.1⟩⟩ | refine ⟨?_, .inr ⟨rfl, _, HF'.out, _, _, HQ.out.2.2.2.2.1⟩⟩
              exact HBY.out.trans (((show Below Y.heap.size Y _ by (repeat (first | (with_reducible assumption) | (with_reducible exact Below.refl _ _) | (with_reducible refine grow_alloc ?_ _) | (with_reducible refine grow_mix ?_ _) | (with_reducible refine grow_drew ?_) | (with_reducible refine grow_drewN ?_ _) | (with_reducible refine grow_set ?_ (by first | (simp; done) | (simp; omega) | omega) _)))).mono hbY).trans HQ.out.2.2.2.2.2)
end Go.Proofs.YtedkfipjooafeaaGreatDoor.Code
set_option linter.unusedSimpArgs false
set_option linter.unusedVariables false
namespace Go.Proofs.YtedkfipjooafeaaGreatDoor.Code
open Go Go.RowKit Go.Proofs.YtedkfipjooafeaaGreatDoor Go.Proofs.YtedkfipjooafeaaGreatDoor.Op Go.Proofs.YtedkfipjooafeaaGreatDoor.Wire

section
variable {P : Program} {a : Act} {w : World} {Q : Exit → Act → World → Prop}
end

def BD (ps : Pg) : Prop := ps.length ≤ 16 ∧ ∀ f ∈ ps, f.code.length ≤ 200
theorem BD.last {ps : Pg} (h : BD ps) : lastN ps ≤ 200 := by
  unfold lastN
  cases hl : ps.getLast? with
  | none => simp
  | some f =>
    simp only [Option.map_some, Option.getD_some]
    exact h.2 f (List.mem_of_getLast? hl)
theorem BD.step {ps q : Pg} {s : B} (h : BD ps) (hs : Step ps s q) : BD q := by
  rcases hs with ⟨f, h1, h2, h3, h4, h5⟩ | ⟨x, h1, h3, h4, h5⟩
  · refine ⟨by simp; omega, fun g hg => ?_⟩
    rw [List.mem_append, List.mem_singleton] at hg
    rcases hg with hg | rfl
    · exact h.2 g hg
    · rw [h2]; simp
  · obtain ⟨p, f, rfl⟩ : ∃ p f, ps = p ++ [f] := ⟨ps.dropLast, ps.getLast h4, (List.dropLast_concat_getLast h4).symm⟩
    have hl := h.last
    have hf : lastN (p ++ [f]) = f.code.length := by unfold lastN; simp
    rw [hf] at hl h5
    rw [addI_last]
    refine ⟨by have := h.1; simpa using this, fun g hg => ?_⟩
    rw [List.mem_append, List.mem_singleton] at hg
    rcases hg with hg | rfl
    · exact h.2 g (by simp [hg])
    · simp; omega

theorem read_calls (base rb : Nat) (s : B) (hs : s.length < 4294967281) (ps : Pg) (vs : List Value) (v : Value) (w : World) (hg : Glob w) (h8 : 8 ≤ base) (h : RB w base rb v ps vs) (hn : BD ps) :
    Calls Tryz.prog 26 #[.pointer (some ⟨rb, 0, none⟩), str s] w fun e w' => Below base w w' ∧ ∃ ok : Bool, e = .returned (.bool ok) ∧
      ((ok = true ∧ ∃ q v' vs', Step ps s q ∧ RB w' base rb v' q vs') ∨ (ok = false ∧ ∀ q, ¬ Step ps s q)) := by
  by_cases hw : wordOf s = funcB
  · exact read_head base rb s hs ps vs v w hg h8 h hn.1 hw
  · exact read_ins base rb s hs ps vs v w hg h8 h hn.1 hn.last hw

theorem runL_none {a : B} {ls : List B} {p : Pg} {n : Nat} (hne : ls ≠ []) (h : ∀ q, ¬ Step p a q) : runL (a :: ls) p n = (none, n) := by
  cases ls with
  | nil => exact absurd rfl hne
  | cons m r => simp only [runL, readP_none h]
theorem runL_some1 {a : B} {ls : List B} {p q : Pg} {n : Nat} (hne : ls ≠ []) (h : Step p a q) : runL (a :: ls) p n = runL ls q (n + 1) := by
  cases ls with
  | nil => exact absurd rfl hne
  | cons m r => simp only [runL, readP_some h]

def ParJ (s : B) (base rb : Nat) (w0 : World) (a : Act) (w : World) : Prop :=
  ∃ (s' : B) (n : Nat) (q : Pg) (A : Option Addr) (c : Nat) (vs : List Value) (u7 u8 u9 u10 u11 u12 u13 u14 u15 u16 u17 u18 u19 u20 u21 u22 u23 u24 u25 u26 u27 u28 u29 u30 u31 u32 u33 u34 u35 u36 : Value),
    a = { tmps := #[str s', undef, .slice none 0 0, .int .i64 0, .int .i64 0, .pointer (some ⟨rb, 0, none⟩), .int .i64 (n : Int), u7, u8, u9, u10, u11, u12, u13, u14, u15, u16, u17, u18, u19, u20, u21, u22, u23, u24, u25, u26, u27, u28, u29, u30, u31, u32, u33, u34, u35, u36], defers := [] } ∧
    RB w base rb (.slice A q.length c) q vs ∧ Below base w0 w ∧ BD q ∧ n + s'.length ≤ s.length ∧ parseP s = runL (splitL 10 s') q n
def CapOk (v : Value) : Prop := ∀ A n c, v = .slice A n c → n ≤ c
theorem capOk_nil : CapOk (.slice none 0 0) := by intro A n c h; injection h with _ h1 h2; omega
theorem own_cap {w : World} {base : Nat} {e : TypeId} {size n : Nat} {v : Value} {xs : List Value} (h : w.ownsRow base e size v n xs) : CapOk v := by
  rcases h.2 with ⟨rfl, _⟩ | ⟨g, cap, cur, rfl, _, _, hnc, _⟩
  · exact capOk_nil
  · intro A n' c h
    injection h with _ h1 h2
    omega
noncomputable def parS (s : B) : Pg × Nat × Int := ((parseP s).1.getD [], (parseP s).2, if (parseP s).1.isSome then 0 else 70)

set_option maxRecDepth 20000 in
set_option maxHeartbeats 4000000 in
theorem Parse_calls (s : B) (hs : s.length < 4294967281) (w : World) (hg : Glob w) (h8 : 8 ≤ w.heap.size) :
    Calls Tryz.prog 11 #[str s] w fun e w' => (∃ v, e = .returned (.tuple #[v, .int .i64 (parS s).2.1, .int .i64 (parS s).2.2]) ∧ ProgAt w' w'.heap.size v (parS s).1 ∧ CapOk v) ∧ Below w.heap.size w w' := by
  have HG := Lib.hid hg
  clear hg
  go_enter Tryz.func11, Tryz.ntmps11
  go_wp2_with fail
  refine wp_scope_goto2 0 (ParJ s w.heap.size w.heap.size w) (fun a' _ => 5000000000 - (Go.RowKit.intOf (a'.tmps.getD 6 undef)).toNat) rfl ?_ ?_
  · go_wp2
    exact ⟨s, 0, [], none, 0, [], _, _, _, _, _, _, _, _, _, _, _, _, _, _, _, _, _, _, _, _, _, _, _, _, _, _, _, _, _, _, rfl, ⟨Has.new _ _ _, Built.nil _ _, List.Pairwise.nil, Nat.le_refl _⟩, by (repeat (first | (with_reducible assumption) | (with_reducible exact Below.refl _ _) | (with_reducible refine grow_alloc ?_ _) | (with_reducible refine grow_mix ?_ _) | (with_reducible refine grow_drew ?_) | (with_reducible refine grow_drewN ?_ _) | (with_reducible refine grow_set ?_ (by first | (simp; done) | (simp; omega) | omega) _))), ⟨by simp, by simp⟩, by omega, rfl⟩
  · rintro a' w' ⟨s', n, q, A, c, vs, u7, u8, u9, u10, u11, u12, u13, u14, u15, u16, u17, u18, u19, u20, u21, u22, u23, u24, u25, u26, u27, u28, u29, u30, u31, u32, u33, u34, u35, u36, rfl, hR, hB, hbd, hn, hpar⟩
    have HR := Lib.hid hR
    have HB := Lib.hid hB
    have HBD := Lib.hid hbd
    have HP := Lib.hid hpar
    have hH := hR.has
    have hc := hH.cell 0
    have hf := hH.frozen
    have hl := hH.lt
    have hBB : Hid (∀ W, Below w'.heap.size w' W → Below w.heap.size w W) := Lib.hid fun W hW => HB.out.trans (hW.mono HB.out.size)
    clear hR hB hbd hpar
    rcases cut_cases 10 s' with hcl | ⟨ha, hr, rfl, hcl⟩
    · have C := Lib.hid (fun (W : World) (hW : Below w.heap.size w W) => Cut_calls s' 10 (by omega) W (HG.out.base hW h8))
      rw [cut_clean 10 s' hcl] at C
      rw [splitL_one 10 s' hcl] at HP
      clear hcl
      cases s' with
      | nil =>
        have M := Lib.hid (fun (W : World) (hW : RB W w.heap.size w.heap.size (.slice A q.length c) q vs) => May_calls q (.slice A q.length c) W hW.built.prog (by have := HBD.out.1; omega) (fun f hf => by have := HBD.out.2 f hf; omega))
        obtain ⟨mp, hmp⟩ : ∃ m, mayP q = m := ⟨_, rfl⟩
        rw [hmp] at M
        cases mp
        · have HPS : Hid (parS s = ([], n, 70)) := Lib.hid (by unfold parS; rw [HP.out]; simp [runL, hmp])
          clear HP hmp
          go_wp2_with (first | (go_at_call 25; (with_reducible refine (C.out _ (hBB.out _ (by (repeat (first | (with_reducible assumption) | (with_reducible exact Below.refl _ _) | (with_reducible refine grow_alloc ?_ _) | (with_reducible refine grow_mix ?_ _) | (with_reducible refine grow_drew ?_) | (with_reducible refine grow_drewN ?_ _) | (with_reducible refine grow_set ?_ (by first | (simp; done) | (simp; omega) | omega) _)))))).mono ?_); rintro e w' ⟨rfl, hb⟩; have hz := hb.size; (first | (obtain ⟨x1, rfl⟩ := to_mix2 hb) | (obtain ⟨x1, rfl⟩ := to_mix hb)); clear hb; (try simp only [World.size_alloc, World.size_setCell, World.size_drew] at hz); (try have q0 : w.heap.size < _ := Nat.lt_of_lt_of_le (by omega) hz); (try have q1 : w.heap.size + 1 < _ := Nat.lt_of_lt_of_le (by omega) hz); (try have q2 : w.heap.size + 1 + 1 < _ := Nat.lt_of_lt_of_le (by omega) hz); (try have q3 : w.heap.size + 1 + 1 + 1 < _ := Nat.lt_of_lt_of_le (by omega) hz)) | (go_at_call 15; (with_reducible refine (M.out _ (HR.out.below (by (repeat (first | (with_reducible assumption) | (with_reducible exact Below.refl _ _) | (with_reducible refine grow_alloc ?_ _) | (with_reducible refine grow_mix ?_ _) | (with_reducible refine grow_drew ?_) | (with_reducible refine grow_drewN ?_ _) | (with_reducible refine grow_set ?_ (by first | (simp; done) | (simp; omega) | omega) _)))))).mono ?_); rintro e w' ⟨rfl, hb⟩; have hz := hb.size; (first | (obtain ⟨x1, rfl⟩ := to_mix2 hb) | (obtain ⟨x1, rfl⟩ := to_mix hb)); clear hb; (try simp only [World.size_alloc, World.size_setCell, World.size_drew] at hz); (try have q0 : w.heap.size < _ := Nat.lt_of_lt_of_le (by omega) hz); (try have q1 : w.heap.size + 1 < _ := Nat.lt_of_lt_of_le (by omega) hz); (try have q2 : w.heap.size + 1 + 1 < _ := Nat.lt_of_lt_of_le (by omega) hz); (try have q3 : w.heap.size + 1 + 1 + 1 < _ := Nat.lt_of_lt_of_le (by omega) hz)))
          (try simp only [Exit.jump])
          go_ret3
          exact ⟨⟨_, by rw [HPS.out]; rfl, by rw [HPS.out]; exact prog_nil _, capOk_nil⟩, hBB.out _ (by (repeat (first | (with_reducible assumption) | (with_reducible exact Below.refl _ _) | (with_reducible refine grow_alloc ?_ _) | (with_reducible refine grow_mix ?_ _) | (with_reducible refine grow_drew ?_) | (with_reducible refine grow_drewN ?_ _) | (with_reducible refine grow_set ?_ (by first | (simp; done) | (simp; omega) | omega) _))))⟩
        · have HPS : Hid (parS s = (q, n, 0)) := Lib.hid (by unfold parS; rw [HP.out]; simp [runL, hmp])
          clear HP hmp
          go_wp2_with (first | (go_at_call 25; (with_reducible refine (C.out _ (hBB.out _ (by (repeat (first | (with_reducible assumption) | (with_reducible exact Below.refl _ _) | (with_reducible refine grow_alloc ?_ _) | (with_reducible refine grow_mix ?_ _) | (with_reducible refine grow_drew ?_) | (with_reducible refine grow_drewN ?_ _) | (with_reducible refine grow_set ?_ (by first | (simp; done) | (simp; omega) | omega) _)))))).mono ?_); rintro e w' ⟨rfl, hb⟩; have hz := hb.size; (first | (obtain ⟨x1, rfl⟩ := to_mix2 hb) | (obtain ⟨x1, rfl⟩ := to_mix hb)); clear hb; (try simp only [World.size_alloc, World.size_setCell, World.size_drew] at hz); (try have q0 : w.heap.size < _ := Nat.lt_of_lt_of_le (by omega) hz); (try have q1 : w.heap.size + 1 < _ := Nat.lt_of_lt_of_le (by omega) hz); (try have q2 : w.heap.size + 1 + 1 < _ := Nat.lt_of_lt_of_le (by omega) hz); (try have q3 : w.heap.size + 1 + 1 + 1 < _ := Nat.lt_of_lt_of_le (by omega) hz)) | (go_at_call 15; (with_reducible refine (M.out _ (HR.out.below (by (repeat (first | (with_reducible assumption) | (with_reducible exact Below.refl _ _) | (with_reducible refine grow_alloc ?_ _) | (with_reducible refine grow_mix ?_ _) | (with_reducible refine grow_drew ?_) | (with_reducible refine grow_drewN ?_ _) | (with_reducible refine grow_set ?_ (by first | (simp; done) | (simp; omega) | omega) _)))))).mono ?_); rintro e w' ⟨rfl, hb⟩; have hz := hb.size; (first | (obtain ⟨x1, rfl⟩ := to_mix2 hb) | (obtain ⟨x1, rfl⟩ := to_mix hb)); clear hb; (try simp only [World.size_alloc, World.size_setCell, World.size_drew] at hz); (try have q0 : w.heap.size < _ := Nat.lt_of_lt_of_le (by omega) hz); (try have q1 : w.heap.size + 1 < _ := Nat.lt_of_lt_of_le (by omega) hz); (try have q2 : w.heap.size + 1 + 1 < _ := Nat.lt_of_lt_of_le (by omega) hz); (try have q3 : w.heap.size + 1 + 1 + 1 < _ := Nat.lt_of_lt_of_le (by omega) hz)))
          (try simp only [Exit.jump])
          go_ret3
          exact ⟨⟨_, by rw [HPS.out]; rfl, by rw [HPS.out]; exact (HR.out.below (by (repeat (first | (with_reducible assumption) | (with_reducible exact Below.refl _ _) | (with_reducible refine grow_alloc ?_ _) | (with_reducible refine grow_mix ?_ _) | (with_reducible refine grow_drew ?_) | (with_reducible refine grow_drewN ?_ _) | (with_reducible refine grow_set ?_ (by first | (simp; done) | (simp; omega) | omega) _))))).built.prog, own_cap HR.out.built.2.1⟩, hBB.out _ (by (repeat (first | (with_reducible assumption) | (with_reducible exact Below.refl _ _) | (with_reducible refine grow_alloc ?_ _) | (with_reducible refine grow_mix ?_ _) | (with_reducible refine grow_drew ?_) | (with_reducible refine grow_drewN ?_ _) | (with_reducible refine grow_set ?_ (by first | (simp; done) | (simp; omega) | omega) _))))⟩
      | cons y ys =>
        have HPS : Hid (parS s = ([], n, 70)) := Lib.hid (by unfold parS; rw [HP.out]; simp [runL])
        clear HP
        go_wp2_with (first | (go_at_call 25; (with_reducible refine (C.out _ (hBB.out _ (by (repeat (first | (with_reducible assumption) | (with_reducible exact Below.refl _ _) | (with_reducible refine grow_alloc ?_ _) | (with_reducible refine grow_mix ?_ _) | (with_reducible refine grow_drew ?_) | (with_reducible refine grow_drewN ?_ _) | (with_reducible refine grow_set ?_ (by first | (simp; done) | (simp; omega) | omega) _)))))).mono ?_); rintro e w' ⟨rfl, hb⟩; have hz := hb.size; (first | (obtain ⟨x1, rfl⟩ := to_mix2 hb) | (obtain ⟨x1, rfl⟩ := to_mix hb)); clear hb; (try simp only [World.size_alloc, World.size_setCell, World.size_drew] at hz); (try have q0 : w.heap.size < _ := Nat.lt_of_lt_of_le (by omega) hz); (try have q1 : w.heap.size + 1 < _ := Nat.lt_of_lt_of_le (by omega) hz); (try have q2 : w.heap.size + 1 + 1 < _ := Nat.lt_of_lt_of_le (by omega) hz); (try have q3 : w.heap.size + 1 + 1 + 1 < _ := Nat.lt_of_lt_of_le (by omega) hz)) | (go_at_call 15; (with_reducible refine (M.out _ (HR.out.below (by (repeat (first | (with_reducible assumption) | (with_reducible exact Below.refl _ _) | (with_reducible refine grow_alloc ?_ _) | (with_reducible refine grow_mix ?_ _) | (with_reducible refine grow_drew ?_) | (with_reducible refine grow_drewN ?_ _) | (with_reducible refine grow_set ?_ (by first | (simp; done) | (simp; omega) | omega) _)))))).mono ?_); rintro e w' ⟨rfl, hb⟩; have hz := hb.size; (first | (obtain ⟨x1, rfl⟩ := to_mix2 hb) | (obtain ⟨x1, rfl⟩ := to_mix hb)); clear hb; (try simp only [World.size_alloc, World.size_setCell, World.size_drew] at hz); (try have q0 : w.heap.size < _ := Nat.lt_of_lt_of_le (by omega) hz); (try have q1 : w.heap.size + 1 < _ := Nat.lt_of_lt_of_le (by omega) hz); (try have q2 : w.heap.size + 1 + 1 < _ := Nat.lt_of_lt_of_le (by omega) hz); (try have q3 : w.heap.size + 1 + 1 + 1 < _ := Nat.lt_of_lt_of_le (by omega) hz)))
        (try simp only [Exit.jump])
        go_ret3
        exact ⟨⟨_, by rw [HPS.out]; rfl, by rw [HPS.out]; exact prog_nil _, capOk_nil⟩, hBB.out _ (by (repeat (first | (with_reducible assumption) | (with_reducible exact Below.refl _ _) | (with_reducible refine grow_alloc ?_ _) | (with_reducible refine grow_mix ?_ _) | (with_reducible refine grow_drew ?_) | (with_reducible refine grow_drewN ?_ _) | (with_reducible refine grow_set ?_ (by first | (simp; done) | (simp; omega) | omega) _))))⟩
    · have C := Lib.hid (fun (W : World) (hW : Below w.heap.size w W) => Cut_calls (ha ++ 10 :: hr) 10 (by omega) W (HG.out.base hW h8))
      rw [cut_cut 10 ha hr hcl] at C
      rw [splitL_cut 10 ha hr hcl] at HP
      clear hcl
      have hla : ha.length < 4294967281 := by simp at hn; omega
      have R := Lib.hid (fun (W : World) (hW : Below w.heap.size w W) (hRW : RB W w.heap.size w.heap.size (.slice A q.length c) q vs) => read_calls w.heap.size w.heap.size ha hla q vs _ W (HG.out.base hW h8) h8 hRW HBD.out)
      go_wp2_with (first | (go_at_call 25; (with_reducible refine (C.out _ (hBB.out _ (by (repeat (first | (with_reducible assumption) | (with_reducible exact Below.refl _ _) | (with_reducible refine grow_alloc ?_ _) | (with_reducible refine grow_mix ?_ _) | (with_reducible refine grow_drew ?_) | (with_reducible refine grow_drewN ?_ _) | (with_reducible refine grow_set ?_ (by first | (simp; done) | (simp; omega) | omega) _)))))).mono ?_); rintro e w' ⟨rfl, hb⟩; have hz := hb.size; (first | (obtain ⟨x1, rfl⟩ := to_mix2 hb) | (obtain ⟨x1, rfl⟩ := to_mix hb)); clear hb; (try simp only [World.size_alloc, World.size_setCell, World.size_drew] at hz); (try have q0 : w.heap.size < _ := Nat.lt_of_lt_of_le (by omega) hz); (try have q1 : w.heap.size + 1 < _ := Nat.lt_of_lt_of_le (by omega) hz); (try have q2 : w.heap.size + 1 + 1 < _ := Nat.lt_of_lt_of_le (by omega) hz); (try have q3 : w.heap.size + 1 + 1 + 1 < _ := Nat.lt_of_lt_of_le (by omega) hz)) | (go_at_call 26; (with_reducible refine (R.out _ (hBB.out _ (by (repeat (first | (with_reducible assumption) | (with_reducible exact Below.refl _ _) | (with_reducible refine grow_alloc ?_ _) | (with_reducible refine grow_mix ?_ _) | (with_reducible refine grow_drew ?_) | (with_reducible refine grow_drewN ?_ _) | (with_reducible refine grow_set ?_ (by first | (simp; done) | (simp; omega) | omega) _))))) (HR.out.below (by (repeat (first | (with_reducible assumption) | (with_reducible exact Below.refl _ _) | (with_reducible refine grow_alloc ?_ _) | (with_reducible refine grow_mix ?_ _) | (with_reducible refine grow_drew ?_) | (with_reducible refine grow_drewN ?_ _) | (with_reducible refine grow_set ?_ (by first | (simp; done) | (simp; omega) | omega) _)))))).mono ?_); rintro e w5 ⟨hb5, ok, rfl, hcase⟩; have hBX := Lib.hid hb5; clear hb5; rcases hcase with ⟨rfl, q', v', vs', hst, hRB⟩ | ⟨rfl, hno⟩))
      · obtain ⟨A2, c2, rfl⟩ := own_form hRB.built.2.1
        refine wp_goto ⟨rfl, ?_⟩
        refine ⟨⟨hr, n + 1, q', A2, c2, vs', _, _, _, _, _, _, _, _, _, _, _, _, _, _, _, _, _, _, _, _, _, _, _, _, _, _, _, _, _, _, rfl, hRB, ?_, HBD.out.step hst, ?_, ?_⟩, ?_⟩
        · exact (HB.out.trans ((below_mix _ _).mono HB.out.size)).trans hBX.out
        · simp at hn; omega
        · rw [HP.out]; exact runL_some1 (splitL_ne _ _) hst
        · simp [intOf]; simp at hn; omega
      · have HPS : Hid (parS s = ([], n, 70)) := Lib.hid (by unfold parS; rw [HP.out, runL_none (splitL_ne _ _) hno]; rfl)
        (try simp only [Exit.jump])
        go_ret3
        exact ⟨⟨_, by rw [HPS.out]; rfl, by rw [HPS.out]; exact prog_nil _, capOk_nil⟩, (HB.out.trans ((below_mix _ _).mono HB.out.size)).trans hBX.out⟩
end Go.Proofs.YtedkfipjooafeaaGreatDoor.Code
set_option linter.unusedSimpArgs false
set_option linter.unusedVariables false
namespace Go.Proofs.YtedkfipjooafeaaGreatDoor.Crc
open Go Go.RowKit Go.Proofs.YtedkfipjooafeaaGreatDoor Go.Proofs.YtedkfipjooafeaaGreatDoor.Op

def step1 (b : Nat) : Nat := (b / 2) ^^^ (3988292384 * (b % 2))
def rem (k b : Nat) : Nat := match k with
  | 0 => b
  | k + 1 => step1 (rem k b)
def roll1 (x c : Nat) : Nat := (x / 256) ^^^ rem 8 ((x % 256) ^^^ c)
def rollN (x : Nat) (s : List UInt8) : Nat := s.foldl (fun x c => roll1 x c.toNat) x
def crcOf (s : List UInt8) : Nat := 4294967295 - rollN 4294967295 s
theorem xor_lt {a b : Nat} (ha : a < 4294967296) (hb : b < 4294967296) : a ^^^ b < 4294967296 := Nat.xor_lt_two_pow (n := 32) ha hb
theorem step1_lt {b : Nat} (h : b < 4294967296) : step1 b < 4294967296 := by
  unfold step1
  refine xor_lt (by omega) ?_
  have : b % 2 < 2 := Nat.mod_lt _ (by decide)
  omega
theorem rem_lt {b : Nat} (h : b < 4294967296) (k : Nat) : rem k b < 4294967296 := by
  induction k with
  | zero => exact h
  | succ k ih => exact step1_lt ih
theorem and1 (b : Nat) (h : b < 4294967296) : bits .and .u32 (b : Int) 1 = ((b % 2 : Nat) : Int) := by
  rw [show (1 : Int) = 2 ^ 1 - 1 by decide]
  have := bits_mask .u32 32 (by decide) wraps_u32 1 (by decide) (b : Int) (by omega) (by omega)
  rw [this]
  omega

set_option maxHeartbeats 400000 in
theorem remainder_calls (b : Nat) (hb : b < 4294967296) (w : World) :
    Calls Tryz.prog 104 #[.int .u32 b] w fun e w' => e = .returned (.int .u32 (rem 8 b)) ∧ w = w' := by
  go_enter Tryz.func104, Tryz.ntmps104
  go_wp2
  go_loop [0, 3] (fun x i => ∃ k : Nat, k ≤ 8 ∧ i = .int .i64 k ∧ x = .int .u32 (rem k b)) (fun _ i => 8 - (intOf i).toNat)
  case atStart => exact ⟨0, by omega, rfl, rfl⟩
  case round =>
    obtain ⟨k, hk, rfl, rfl⟩ := hrel
    by_cases hlt : k < 8
    · have hs : rem (k + 1) b = step1 (rem k b) := rfl
      have hx := rem_lt hb k
      have HS := Lib.hid hs
      clear hs
      obtain ⟨y, hy⟩ : ∃ y, rem k b = y := ⟨_, rfl⟩
      rw [hy] at hx ⊢
      have HY := Lib.hid hy
      have h1 := and1 y hx
      clear hy
      have h2 := u32_xor_nat (y / 2) (3988292384 * (y % 2)) (by omega) (by have : y % 2 < 2 := Nat.mod_lt _ (by decide); omega)
      have H2 := Lib.hid h2
      clear h2
      go_wp2
      go_round
      case rel =>
        refine ⟨k + 1, by omega, by go_num, ?_⟩
        rw [HS.out, HY.out]
        have := H2.out
        unfold step1
        rw [← this]
        simp
      case measure => simp [intOf]; omega
    · have hk' : k = 8 := by omega
      subst hk'
      go_wp2
      go_ret
      exact ⟨rfl, rfl⟩
theorem has_setRow {w : World} {b : Nat} {cs : Array Value} {t : TypeId} (h : Has w b cs t) (cs' : Array Value) : Has (w.setRow b cs') b cs' t := by
  unfold Has World.setRow at *
  rw [Array.getElem?_modify]
  simp [h]
theorem below_setRow {w0 w : World} {B b : Nat} (h : Below B w0 w) (hb : B ≤ b) (cs : Array Value) : Below B w0 (w.setRow b cs) :=
  h.trans ⟨rfl, rfl, rfl, by simp [World.setRow], fun i hi => by
    show (w.heap.modify b _)[i]? = _
    rw [Array.getElem?_modify, if_neg (by omega)]⟩
section
variable {P : Program} {ops : Array Oper} {Q : Exit → Act → World → Prop} {a : Act} {w w' : World} {o : Oper} {rest : List Oper}
theorem list_load {t : TypeId} {x : Operand} {b : Nat} {v : Value} (ho : o.op = .load t x) (hg : o.guard = none) (hx : a.eval x = .pointer (some ⟨b, 0, none⟩)) (hr : (loadVar t ⟨b, 0, none⟩).run P w = .ok v w)
    (h : wpList P ops Q rest (a.put o.dst v) w) : wpList P ops Q (o :: rest) a w := by
  refine list_val hg v ?_ h
  unfold execOp
  rw [ho]
  simp [hx, hr, Sem.run_bind, Instr.loadAt, Instr.sureAddr]
theorem store_at {t : TypeId} {b : Nat} {v : Value} (hr : (storeVar t ⟨b, 0, none⟩ v).run P w = .ok () w') : (Instr.storeAt t (.pointer (some ⟨b, 0, none⟩)) v).run P w = .ok () w' := by
  simp [hr, Sem.run_bind, Instr.storeAt, Instr.sureAddr]
end
def tabK (k : Nat) : List Value := (List.range k).map (fun i => Value.int .u32 (rem 8 i)) ++ List.replicate (256 - k) (Value.int .u32 0)
def tabL : List Value := (List.range 256).map (fun i => Value.int .u32 (rem 8 i))
theorem tabK_at (k : Nat) (h : k < 256) : (tabK k).toArray[k]? = some (.int .u32 0) := by
  rw [List.getElem?_toArray]
  unfold tabK
  rw [List.getElem?_append_right (by simp), List.length_map, List.length_range, Nat.sub_self, List.getElem?_replicate, if_pos (by omega)]
theorem tabK_set (k : Nat) (h : k < 256) : (tabK k).toArray.setIfInBounds k (.int .u32 (rem 8 k)) = (tabK (k + 1)).toArray := by
  rw [List.setIfInBounds_toArray]
  congr 1
  unfold tabK
  rw [List.set_append_right _ _ (by simp), List.length_map, List.length_range, Nat.sub_self, List.range_succ, List.map_append]
  obtain ⟨m, hm⟩ : ∃ m, 256 - k = m + 1 := ⟨255 - k, by omega⟩
  rw [hm, List.replicate_succ, List.set_cons_zero, show 256 - (k + 1) = m by omega]
  simp
theorem tabK_end : tabK 256 = tabL := by unfold tabK tabL; simp
theorem tabK_zero : (tabK 0).toArray = Tryz.zeroCells128 := by kernel_rfl
theorem tabL_at (i : Nat) (h : i < 256) : tabL.toArray[i]? = some (.int .u32 (rem 8 i)) := by
  rw [List.getElem?_toArray]
  unfold tabL
  rw [List.getElem?_map, List.getElem?_range h]; rfl

set_option maxRecDepth 100000 in
set_option maxHeartbeats 2000000 in
theorem table_calls (w : World) :
    Calls Tryz.prog 92 #[] w fun e w' => e = .returned (.agg tabL.toArray) ∧ Below w.heap.size w w' := by
  have hz := Lib.hid tabK_zero
  go_enter Tryz.func92, Tryz.ntmps92
  refine wp_seq (wp_region_lit ?_)
  refine list_run rfl (.pointer (some ⟨w.heap.size, 0, none⟩)) (w' := w.alloc (.cells Tryz.zeroCells128 128)) (by go_simp) ?_
  show Code.wp _ _ _ _ _
  refine wp_seq (wp_region_lit ?_)
  refine list_run rfl (.pointer (some ⟨w.heap.size + 1, 0, none⟩)) (w' := (w.alloc (.cells Tryz.zeroCells128 128)).alloc (.cells Tryz.zeroCells128 128)) (by go_simp) ?_
  show Code.wp _ _ _ _ _
  rw [← hz.out]
  have hb0 : Below w.heap.size w ((w.alloc (.cells (tabK 0).toArray 128)).alloc (.cells (tabK 0).toArray 128)) := by (repeat (first | (with_reducible assumption) | (with_reducible exact Below.refl _ _) | (with_reducible refine grow_alloc ?_ _) | (with_reducible refine grow_mix ?_ _) | (with_reducible refine grow_drew ?_) | (with_reducible refine grow_drewN ?_ _) | (with_reducible refine grow_set ?_ (by first | (simp; done) | (simp; omega) | omega) _)))
  have hh0 : Has ((w.alloc (.cells (tabK 0).toArray 128)).alloc (.cells (tabK 0).toArray 128)) w.heap.size (tabK 0).toArray 128 := (Has.new _ _ _).alloc _
  have hh1 : Has ((w.alloc (.cells (tabK 0).toArray 128)).alloc (.cells (tabK 0).toArray 128)) (w.heap.size + 1) (tabK 0).toArray 128 := Has.new' (by simp) _ _
  revert hb0 hh0 hh1
  generalize (w.alloc (.cells (tabK 0).toArray 128)).alloc (.cells (tabK 0).toArray 128) = w1
  intro hb0 hh0 hh1
  have HH := Lib.hid (And.intro hh0 hh1)
  clear hh0 hh1
  go_wp2
  go_loopw [3] (fun i wr => ∃ k : Nat, k ≤ 256 ∧ i = .int .i64 k ∧ Below w.heap.size w wr ∧ Hid (Has wr w.heap.size (tabK 0).toArray 128 ∧ Has wr (w.heap.size + 1) (tabK k).toArray 128)) (fun i _ => 256 - (intOf i).toNat)
  case atStart => exact ⟨0, by omega, rfl, hb0, HH⟩
  case round =>
    obtain ⟨k, hk, rfl, hb, HR⟩ := hrel
    by_cases hlt : k < 256
    · have c0 := (HR.out.2.cell k).trans (tabK_at k hlt)
      have f0 := HR.out.2.frozen k
      have R1 := Lib.hid (fun W => remainder_calls k (by omega) W)
      go_wp2_with (first | (go_at_call 104; refine (R1.out _).mono ?_; rintro e w' ⟨rfl, rfl⟩))
      go_roundw
      case rel => exact ⟨k + 1, by omega, by go_num, by (repeat (first | (with_reducible assumption) | (with_reducible exact Below.refl _ _) | (with_reducible refine grow_alloc ?_ _) | (with_reducible refine grow_mix ?_ _) | (with_reducible refine grow_drew ?_) | (with_reducible refine grow_drewN ?_ _) | (with_reducible refine grow_set ?_ (by first | (simp; done) | (simp; omega) | omega) _))), Lib.hid ⟨HR.out.1.set_other (by simp), HR.out.2.set_same (tabK_set k hlt)⟩⟩
      case measure => simp [intOf]; omega
    · have hk' : k = 256 := by omega
      subst hk'
      have HT : Has wr (w.heap.size + 1) tabL.toArray 128 := by have := HR.out.2; rwa [tabK_end] at this
      have HS : Has (wr.setRow w.heap.size tabL.toArray) w.heap.size tabL.toArray 128 := has_setRow HR.out.1 _
      have HT := Lib.hid (And.intro HT HS)
      have LV := Lib.hid (run_loadVar_row (P := Tryz.prog) wr _ 128 128 tabL.toArray (0, 0) _ HT.out.1 Tryz.underlying128 rfl (by kernel_rfl))
      have SV := Lib.hid (run_storeVar_row (P := Tryz.prog) wr w.heap.size 128 128 (tabK 0).toArray tabL.toArray HR.out.1 (by kernel_rfl) (by kernel_rfl) (by kernel_rfl))
      go_wp2_with (first | (refine list_load (t := 128) (x := .tmp 1) rfl rfl rfl LV.out ?_) | (refine list_store (t := 128) (x := .tmp 0) (y := .tmp 12) rfl rfl rfl rfl (store_at SV.out) ?_))
      refine ret_cell (cs := tabL) (t' := 128) (b := w.heap.size) Tryz.results92 rfl (fun _ => by kernel_rfl) (fun _ => by kernel_rfl) rfl HT.out.2 ⟨rfl, below_setRow hb (Nat.le_refl _) _⟩
theorem ba_get (l : List UInt8) (i : Nat) (h : i < l.length) : (⟨l.toArray⟩ : ByteArray)[i]'h = l[i] := rfl
theorem rollN_next (x : Nat) (s : List UInt8) (k : Nat) (h : k < s.length) : rollN x (s.take (k + 1)) = roll1 (rollN x (s.take k)) s[k].toNat := by
  unfold rollN
  rw [List.take_add_one, List.getElem?_eq_getElem h, Option.toList_some, List.foldl_append]
  rfl

theorem not_nat (x : Nat) (h : x < 4294967296) : 4294967295 ^^^ x = 4294967295 - x := by
  have e : (BitVec.allOnes 32 ^^^ BitVec.ofNat 32 x) = ~~~ (BitVec.ofNat 32 x) := BitVec.allOnes_xor
  have e2 := congrArg BitVec.toNat e
  rw [BitVec.toNat_xor, BitVec.toNat_not, BitVec.toNat_allOnes, BitVec.toNat_ofNat, Nat.mod_eq_of_lt (by simpa using h)] at e2
  exact e2
theorem not_u32 (x : Nat) (h : x < 4294967296) : bits .xor .u32 IntKind.u32.max (x : Int) = ((4294967295 - x : Nat) : Int) := by
  have := u32_xor_nat 4294967295 x (by decide) h
  rw [not_nat x h] at this
  exact this
set_option maxRecDepth 100000 in
set_option maxHeartbeats 2000000 in
theorem Roll_calls (sum : Nat) (hs : sum < 4294967296) (s : List UInt8) (hl : s.length ≤ 9223372036854775000) (w : World) :
    Calls Tryz.prog 77 #[.int .i64 sum, str s] w fun e w' => e = .returned (.int .i64 (4294967295 - rollN (4294967295 - sum) s : Nat)) ∧ Below w.heap.size w w' := by
  have hu : IntKind.u32.signed = false := rfl
  go_enter Tryz.func77, Tryz.ntmps77
  go_wp2_with (first | (go_at_call 92; refine (table_calls _).mono ?_; rintro e w' ⟨rfl, hb⟩; have hz := hb.size; (first | (obtain ⟨x1, rfl⟩ := to_mix2 hb) | (obtain ⟨x1, rfl⟩ := to_mix hb)); clear hb; (try simp only [World.size_alloc, World.size_setCell, World.size_drew] at hz); (try have q0 : w.heap.size < _ := Nat.lt_of_lt_of_le (by omega) hz); (try have q1 : w.heap.size + 1 < _ := Nat.lt_of_lt_of_le (by omega) hz); (try have q2 : w.heap.size + 1 + 1 < _ := Nat.lt_of_lt_of_le (by omega) hz); (try have q3 : w.heap.size + 1 + 1 + 1 < _ := Nat.lt_of_lt_of_le (by omega) hz)) | (refine list_store (t := 128) (x := .tmp 5) (y := .tmp 14) rfl rfl rfl rfl (run_storeAt_new (P := Tryz.prog) _ 128 Tryz.zeroCells128 tabL.toArray (by kernel_rfl) (by kernel_rfl) (by kernel_rfl)) ?_))
  have hb : Below w.heap.size w ((mix w x1).alloc (.cells tabL.toArray 128)) := by (repeat (first | (with_reducible assumption) | (with_reducible exact Below.refl _ _) | (with_reducible refine grow_alloc ?_ _) | (with_reducible refine grow_mix ?_ _) | (with_reducible refine grow_drew ?_) | (with_reducible refine grow_drewN ?_ _) | (with_reducible refine grow_set ?_ (by first | (simp; done) | (simp; omega) | omega) _)))
  have hh : Has ((mix w x1).alloc (.cells tabL.toArray 128)) (mix w x1).heap.size tabL.toArray 128 := Has.new _ _ _
  revert hb hh
  generalize (mix w x1).alloc (.cells tabL.toArray 128) = W
  generalize (mix w x1).heap.size = b5
  intro hb hh
  have HH := Lib.hid (And.intro hb hh)
  clear hb hh hz
  go_loop [6, 20] (fun x i => ∃ k X : Nat, k ≤ s.length ∧ i = .int .i64 k ∧ X < 4294967296 ∧ x = .int .u32 X ∧ Hid (X = rollN (4294967295 - sum) (s.take k))) (fun _ i => s.length - (intOf i).toNat)
  case atStart =>
    exact ⟨0, 4294967295 - sum, Nat.zero_le _, rfl, by omega, by rw [not_u32 _ hs], Lib.hid (by simp [rollN])⟩
  case round =>
    obtain ⟨k, X, hk, rfl, hX, rfl, HX⟩ := hrel
    by_cases hlt : k < s.length
    · obtain ⟨c, hc⟩ : ∃ c, s[k] = c := ⟨_, rfl⟩
      have hcb := c.toNat_lt
      have hb := ba_get s k hlt
      rw [hc] at hb
      have HC := Lib.hid hc
      have hxj := u8_xor_nat (X % 256) c.toNat (by omega) hcb
      have hj : (X % 256) ^^^ c.toNat < 256 := Nat.xor_lt_two_pow (n := 8) (by omega) hcb
      obtain ⟨j, hjj⟩ : ∃ j, (X % 256) ^^^ c.toNat = j := ⟨_, rfl⟩
      rw [hjj] at hxj hj
      have hxj' : bits .xor .u8 ((X : Int) % 256) (c.toNat : Int) = (j : Int) := by push_cast at hxj; exact hxj
      clear hxj
      have cj := (HH.out.2.cell j).trans (tabL_at j hj)
      have hxk := u32_xor_nat (X / 256) (rem 8 j) (by omega) (rem_lt (by omega) 8)
      have HN := Lib.hid (show rollN (4294967295 - sum) (s.take (k + 1)) = (X / 256) ^^^ (rem 8 j) by
        rw [rollN_next _ _ _ hlt, ← HX.out, HC.out]
        unfold roll1
        rw [hjj])
      have hXn : (X / 256) ^^^ (rem 8 j) < 4294967296 := xor_lt (by omega) (rem_lt (by omega) 8)
      obtain ⟨Y, hY⟩ : ∃ Y, (X / 256) ^^^ (rem 8 j) = Y := ⟨_, rfl⟩
      rw [hY] at HN hxk hXn
      have hxk' : bits .xor .u32 ((X : Int) / 256) (rem 8 j : Int) = (Y : Int) := by push_cast at hxk; exact hxk
      clear hjj hY hc hxk
      go_wp2
      go_round
      case rel => exact ⟨k + 1, Y, by omega, by go_num, hXn, rfl, Lib.hid HN.out.symm⟩
      case measure => simp [intOf]; omega
    · have hk' : k = s.length := by omega
      subst hk'
      have hnot := not_u32 X hX
      have HE := Lib.hid (show 4294967295 - X = 4294967295 - rollN (4294967295 - sum) s by rw [HX.out, List.take_length])
      have hle : 4294967295 - X < 4294967296 := by omega
      rw [HE.out] at hnot hle
      go_wp2
      go_ret
      exact ⟨rfl, HH.out.1⟩
theorem Of_calls (s : List UInt8) (hl : s.length ≤ 9223372036854775000) (w : World) :
    Calls Tryz.prog 52 #[str s] w fun e w' => e = .returned (.int .i64 (crcOf s)) ∧ Below w.heap.size w w' := by
  have R := Lib.hid (fun W => Roll_calls 0 (by decide) s hl W)
  go_enter Tryz.func52, Tryz.ntmps52
  go_wp2_with (first | (go_at_call 77; refine (R.out _).mono ?_; rintro e w' ⟨rfl, hb⟩; have hz := hb.size; (first | (obtain ⟨x1, rfl⟩ := to_mix2 hb) | (obtain ⟨x1, rfl⟩ := to_mix hb)); clear hb; (try simp only [World.size_alloc, World.size_setCell, World.size_drew] at hz); (try have q0 : w.heap.size < _ := Nat.lt_of_lt_of_le (by omega) hz); (try have q1 : w.heap.size + 1 < _ := Nat.lt_of_lt_of_le (by omega) hz); (try have q2 : w.heap.size + 1 + 1 < _ := Nat.lt_of_lt_of_le (by omega) hz); (try have q3 : w.heap.size + 1 + 1 + 1 < _ := Nat.lt_of_lt_of_le (by omega) hz)))
  go_ret
  exact ⟨rfl, by (repeat (first | (with_reducible assumption) | (with_reducible exact Below.refl _ _) | (with_reducible refine grow_alloc ?_ _) | (with_reducible refine grow_mix ?_ _) | (with_reducible refine grow_drew ?_) | (with_reducible refine grow_drewN ?_ _) | (with_reducible refine grow_set ?_ (by first | (simp; done) | (simp; omega) | omega) _)))⟩
end Go.Proofs.YtedkfipjooafeaaGreatDoor.Crc
