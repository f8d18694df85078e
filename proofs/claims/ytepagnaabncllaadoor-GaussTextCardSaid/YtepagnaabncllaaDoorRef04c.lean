/-
  Contracts of the texts of values, of the program and of the reference.
-/
import Derived.Test.YtepagnaabncllaaDoorRef04b
import Derived.Test.YtepagnaabncllaaDoorShelf
import Derived.Lib.SmallJoins
import Derived.Lib.AppendIntMem
set_option linter.unusedSimpArgs false
set_option linter.unusedVariables false
namespace Go.Proofs.YtepagnaabncllaaDoor.Text
open Go Go.RowKit Go.Proofs.YtepagnaabncllaaDoor Go.Proofs.YtepagnaabncllaaDoor.Gauss

/-- The reference's digits of a number that is not negative. -/
abbrev str (l : List UInt8) : Value := .string ⟨l.toArray⟩

def dig (n : Nat) : UInt8 := UInt8.ofNat (48 + n % 10)
theorem digits_small (n : Nat) (h : n < 10) : Lib.decDigits n = [dig n] := by rw [Lib.decDigits, dif_pos h]; unfold dig; congr 2; omega
theorem digits_big (n : Nat) (h : ¬ n < 10) : Lib.decDigits n = Lib.decDigits (n / 10) ++ [dig n] := by rw [Lib.decDigits, dif_neg h]; rfl

theorem ba_append (a b : List UInt8) : (⟨a.toArray⟩ : ByteArray) ++ ⟨b.toArray⟩ = ⟨(a ++ b).toArray⟩ := by
  apply ByteArray.ext; simp [ByteArray.data_append]

theorem str_two (a b : List UInt8) : Value.string ((⟨a.toArray⟩ : ByteArray) ++ ⟨b.toArray⟩) = str (a ++ b) := by rw [ba_append]
theorem str_four (a b c d : List UInt8) : Value.string ((⟨a.toArray⟩ : ByteArray) ++ ⟨b.toArray⟩ ++ ⟨c.toArray⟩ ++ ⟨d.toArray⟩) = str (a ++ b ++ c ++ d) := by rw [ba_append, ba_append, ba_append]

theorem decLen (n : Nat) : (Lib.decDigits n).length ≤ n + 1 := by
  induction n using Nat.strongRecOn with
  | _ n ih =>
  by_cases h : n < 10
  · rw [digits_small n h]; simp
  · have := ih (n / 10) (by omega)
    rw [digits_big n h, List.length_append]
    simp only [List.length_cons, List.length_nil]
    omega

theorem conv_one {w : World} {b : Nat} {t : TypeId} {n : Int} (c : Nat) (h : Has w b #[.int .u8 n] t) :
    (convert 43 9 (.slice (some ⟨b, 0, none⟩) 1 c)).run Tryd.prog w = .ok (.string ⟨#[UInt8.ofNat n.toNat]⟩) w := by
  rw [run_convert_bytes_string (P := Tryd.prog) w 43 9 5 _ _ _ Tryd.underlying43 Tryd.underlying5 Tryd.underlying9]
  have := run_loadCells_list (P := Tryd.prog) w ⟨b, 0, none⟩ [.int .u8 n] (fun j v hj => by
    match j, hj with
    | 0, hj => simpa [Addr.add, h.cell] using hj)
  rw [run_bytesToString w ⟨b, 0, none⟩ 1 c [n] (by simpa using this)]
  rfl

set_option maxRecDepth 100000 in
set_option maxHeartbeats 2000000 in
theorem Digits_calls : ∀ (n : Nat), n ≤ 9223372036854775807 → ∀ (w : World),
    Calls Tryd.prog 35 #[.int .i64 n] w fun e w' => e = .returned (str (Lib.decDigits n)) ∧ Below w.heap.size w w' := by
  intro n
  induction n using Nat.strongRecOn with
  | _ n ih =>
  intro hn w
  have hlt : decide ((n : Int) < 0) = false := by simp
  have cv := conv_one (w := w.alloc (.cells #[.int .u8 (48 + (n : Int) % 10)] 5)) 1 (Has.new w #[.int .u8 (48 + (n : Int) % 10)] 5)
  have eb : UInt8.ofNat (48 + (n : Int) % 10).toNat = dig n := by unfold dig; congr 1
  rw [eb] at cv
  clear eb
  by_cases h0 : n < 10
  · have t0 : decide (10 ≤ (n : Int)) = false := by simp; omega
    have E := Lib.hid (digits_small n h0)
    clear ih h0
    go_enter Tryd.func35, Tryd.ntmps35
    go_wp2
    go_ret
    exact ⟨by rw [E.out]; rfl, by (repeat (first | (with_reducible assumption) | (with_reducible exact Below.refl _ _) | (with_reducible refine grow_alloc ?_ _) | (with_reducible refine grow_mix ?_ _) | (with_reducible refine grow_drew ?_) | (with_reducible refine grow_drewN ?_ _) | (with_reducible refine grow_set ?_ (by first | (simp; done) | (simp; omega) | omega) _)))⟩
  · have t0 : decide (10 ≤ (n : Int)) = true := by simp; omega
    have E := Lib.hid (digits_big n h0)
    have hr : ∀ W, Calls Tryd.prog 35 #[.int .i64 ((n : Int) / 10)] W fun e w' => e = .returned (str (Lib.decDigits (n / 10))) ∧ Below W.heap.size W w' := fun W => by
      have c1 : (n : Int) / 10 = ((n / 10 : Nat) : Int) := by omega
      rw [c1]
      exact ih (n / 10) (by omega) (by omega) W
    have HR := Lib.hid hr
    have hl := decLen (n / 10)
    have hl1 : (Lib.decDigits (n / 10)).length + 1 ≤ 9223372036854775807 := by omega
    clear ih hr h0 hl
    go_enter Tryd.func35, Tryd.ntmps35
    go_wp2_with (first | (go_at_call 35; refine (HR.out _).mono ?_; rintro e w' ⟨rfl, hb⟩; have hz := hb.size; (first | (obtain ⟨x1, rfl⟩ := to_mix2 hb) | (obtain ⟨x1, rfl⟩ := to_mix hb)); clear hb; (try simp only [World.size_alloc, World.size_setCell, World.size_drew] at hz); (try have q0 : w.heap.size < _ := Nat.lt_of_lt_of_le (by omega) hz); (try have q1 : w.heap.size + 1 < _ := Nat.lt_of_lt_of_le (by omega) hz); (try have q2 : w.heap.size + 1 + 1 < _ := Nat.lt_of_lt_of_le (by omega) hz); (try have q3 : w.heap.size + 1 + 1 + 1 < _ := Nat.lt_of_lt_of_le (by omega) hz)))
    go_ret
    exact ⟨by rw [E.out]; exact congrArg Ending.returned (str_two (Lib.decDigits (n / 10)) [dig n]), by (repeat (first | (with_reducible assumption) | (with_reducible exact Below.refl _ _) | (with_reducible refine grow_alloc ?_ _) | (with_reducible refine grow_mix ?_ _) | (with_reducible refine grow_drew ?_) | (with_reducible refine grow_drewN ?_ _) | (with_reducible refine grow_set ?_ (by first | (simp; done) | (simp; omega) | omega) _)))⟩

/-- A value's text. -/
def textV (x : Int × Int) : List UInt8 := Lib.decDigits (rest x.1).toNat ++ [43] ++ Lib.decDigits (rest x.2).toNat ++ [105]

set_option maxHeartbeats 2000000 in
theorem RText_calls (x : Int × Int) (w : World) :
    Calls Tryd.prog 26 #[vv x] w fun e w' => e = .returned (str (textV x)) ∧ Below w.heap.size w w' := by
  have d1 : ∀ W, Calls Tryd.prog 35 #[.int .i64 (rest x.1)] W fun e w' => e = .returned (str (Lib.decDigits (rest x.1).toNat)) ∧ Below W.heap.size W w' := fun W => by
    have := Digits_calls (rest x.1).toNat (by have := rest_bd x.1; omega) W
    rwa [Int.toNat_of_nonneg (rest_nonneg _)] at this
  have d2 : ∀ W, Calls Tryd.prog 35 #[.int .i64 (rest x.2)] W fun e w' => e = .returned (str (Lib.decDigits (rest x.2).toNat)) ∧ Below W.heap.size W w' := fun W => by
    have := Digits_calls (rest x.2).toNat (by have := rest_bd x.2; omega) W
    rwa [Int.toNat_of_nonneg (rest_nonneg _)] at this
  have l1 : (Lib.decDigits (rest x.1).toNat).length ≤ 251 := by have := decLen (rest x.1).toNat; have := rest_bd x.1; omega
  have l2 : (Lib.decDigits (rest x.2).toNat).length ≤ 251 := by have := decLen (rest x.2).toNat; have := rest_bd x.2; omega
  have D1 := Lib.hid d1
  have D2 := Lib.hid d2
  clear d1 d2
  go_enter Tryd.func26, Tryd.ntmps26
  go_wp2
  refine wp_region_mix 11 (by kernel_rfl) (by kernel_rfl) ?_
  simp only [List.take_succ_cons, List.take_zero, List.drop_succ_cons, List.drop_zero]
  repeat (go_big_quiet_step ((first | (go_at_call 33; (with_reducible exact mix_call_same (Ref04.Rest_calls _ _))) | (go_at_call 35; (with_reducible exact mix_call (D1.out _))) | (go_at_call 35; (with_reducible exact mix_call (D2.out _))))))
  refine wpQuiet_nil ?_
  intro _ hmix
  (try (with_reducible replace hmix := mix_flat hmix))
  obtain ⟨x1, hmix'⟩ := hmix
  have hz := mix_size' hmix'
  subst hmix'
  (try simp only [World.size_alloc, World.size_setCell, World.size_drew] at hz); (try have q0 : w.heap.size < _ := Nat.lt_of_lt_of_le (by omega) hz); (try have q1 : w.heap.size + 1 < _ := Nat.lt_of_lt_of_le (by omega) hz); (try have q2 : w.heap.size + 1 + 1 < _ := Nat.lt_of_lt_of_le (by omega) hz); (try have q3 : w.heap.size + 1 + 1 + 1 < _ := Nat.lt_of_lt_of_le (by omega) hz)
  go_wp2
  go_ret
  exact ⟨congrArg Ending.returned (str_four (Lib.decDigits (rest x.1).toNat) [43] (Lib.decDigits (rest x.2).toNat) [105]), by (repeat (first | (with_reducible assumption) | (with_reducible exact Below.refl _ _) | (with_reducible refine grow_alloc ?_ _) | (with_reducible refine grow_mix ?_ _) | (with_reducible refine grow_drew ?_) | (with_reducible refine grow_drewN ?_ _) | (with_reducible refine grow_set ?_ (by first | (simp; done) | (simp; omega) | omega) _)))⟩

/-- The table of powers of ten, as its initialiser lays it. -/
def Tab (w : World) : Prop := Lib.TabIs Tryd.prog w "internal/strconv.uint64pow10" .u64 Lib.pow10Tab
theorem Tab.below {w w' : World} (h : Tab w) (hb : Below w.heap.size w w') : Tab w' := Lib.tabBelow_of_tabIs h w' hb

theorem grow_below (w : World) (k : Nat) (os : Array Obj) : Below w.heap.size w (Go.Sort.grow (w.drewN k) os) :=
  ⟨rfl, rfl, rfl, by simp [Go.Sort.grow], fun i hi => by
    show (w.heap ++ os)[i]? = _
    rw [Array.getElem?_append, if_pos hi]⟩

theorem Itoa_calls (n : Int) (h0 : 0 ≤ n) (h1 : n ≤ 9223372036854775807) (w : World) (ht : Tab w) :
    Calls Tryd.prog 32 #[.int .i64 n] w fun e w' => e = .returned (str (Lib.decDigits n.toNat)) ∧ Below w.heap.size w w' :=
  (Tryd.strconv_Itoa n (by omega) h1 w ht).mono fun e w' ⟨he, k, os, hw⟩ => by
    subst hw
    refine ⟨?_, grow_below w k os⟩
    rw [he]
    unfold Lib.itoa
    rw [if_neg (by omega)]

set_option maxHeartbeats 2000000 in
theorem Text_calls (x : Int × Int) (w : World) (ht : Tab w) :
    Calls Tryd.prog 16 #[vv x] w fun e w' => e = .returned (str (textV x)) ∧ Below w.heap.size w w' := by
  have l1 : (Lib.decDigits (rest x.1).toNat).length ≤ 251 := by have := decLen (rest x.1).toNat; have := rest_bd x.1; omega
  have l2 : (Lib.decDigits (rest x.2).toNat).length ≤ 251 := by have := decLen (rest x.2).toNat; have := rest_bd x.2; omega
  have b1 := rest_bd x.1
  have b2 := rest_bd x.2
  have D := Lib.hid (fun (n : Int) (h : 0 ≤ n ∧ n < 251) (y : World) => Itoa_calls n h.1 (by omega) (mix (w.alloc (.cells #[.int .i64 x.1, .int .i64 x.2] 23)) y) (ht.below (by (repeat (first | (with_reducible assumption) | (with_reducible exact Below.refl _ _) | (with_reducible refine grow_alloc ?_ _) | (with_reducible refine grow_mix ?_ _) | (with_reducible refine grow_drew ?_) | (with_reducible refine grow_drewN ?_ _) | (with_reducible refine grow_set ?_ (by first | (simp; done) | (simp; omega) | omega) _))))))
  have B1 := Lib.hid b1
  have B2 := Lib.hid b2
  clear ht b1 b2
  go_enter Tryd.func16, Tryd.ntmps16
  go_wp2
  refine wp_region_mix 11 (by kernel_rfl) (by kernel_rfl) ?_
  simp only [List.take_succ_cons, List.take_zero, List.drop_succ_cons, List.drop_zero]
  repeat (go_big_quiet_step ((first | (go_at_call 29; (with_reducible exact mix_call_same (rest_calls _ _))) | (go_at_call 32; (with_reducible exact mix_call (D.out _ B1.out _))) | (go_at_call 32; (with_reducible exact mix_call (D.out _ B2.out _))))))
  refine wpQuiet_nil ?_
  intro _ hmix
  (try (with_reducible replace hmix := mix_flat hmix))
  obtain ⟨x1, hmix'⟩ := hmix
  have hz := mix_size' hmix'
  subst hmix'
  (try simp only [World.size_alloc, World.size_setCell, World.size_drew] at hz); (try have q0 : w.heap.size < _ := Nat.lt_of_lt_of_le (by omega) hz); (try have q1 : w.heap.size + 1 < _ := Nat.lt_of_lt_of_le (by omega) hz); (try have q2 : w.heap.size + 1 + 1 < _ := Nat.lt_of_lt_of_le (by omega) hz); (try have q3 : w.heap.size + 1 + 1 + 1 < _ := Nat.lt_of_lt_of_le (by omega) hz)
  go_wp2
  go_ret
  exact ⟨congrArg Ending.returned (str_four (Lib.decDigits (rest x.1).toNat) [43] (Lib.decDigits (rest x.2).toNat) [105]), by (repeat (first | (with_reducible assumption) | (with_reducible exact Below.refl _ _) | (with_reducible refine grow_alloc ?_ _) | (with_reducible refine grow_mix ?_ _) | (with_reducible refine grow_drew ?_) | (with_reducible refine grow_drewN ?_ _) | (with_reducible refine grow_set ?_ (by first | (simp; done) | (simp; omega) | omega) _)))⟩
end Go.Proofs.YtepagnaabncllaaDoor.Text
