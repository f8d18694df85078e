/-
  The walks of %s: for every input it returns true, and makes only new memory.
-/
import Derived.Test.YtepagnaabncllaaDoorLawFacts
import Derived.Test.YtepagnaabncllaaDoorRow
set_option linter.unusedSimpArgs false
set_option linter.unusedVariables false
namespace Go.Proofs.YtepagnaabncllaaDoor.Laws
open Go Go.RowKit Go.Proofs.YtepagnaabncllaaDoor Go.Proofs.YtepagnaabncllaaDoor.Gauss Go.Proofs.YtepagnaabncllaaDoor.Pure Go.Proofs.YtepagnaabncllaaDoor.Text Go.Proofs.YtepagnaabncllaaDoor.Ref04

attribute [local go_sem high] eql_value neq_value equal_value field_re field_im
set_option maxRecDepth 100000 in
set_option maxHeartbeats 8000000 in
theorem text_leave1 (x : Int × Int) (w : World) (ht : Tab w) (h0 : mayR x = false) :
    Calls Tryd.prog 4 #[vv x] w fun e w' => e = .returned (.bool true) ∧ Below w.heap.size w w' := by
  have HT := Lib.hid (fun (w1 : World) (h : Below w.heap.size w w1) => fixed_calls w1 (ht.below h))
  have Mx := Lib.hid (fun w1 => R_May_false x h0 w1)
  clear ht h0
  go_enter Tryd.func4, Tryd.ntmps4
  go_wp2_with fail
  (go_at_call 10; refine (HT.out _ (by (repeat (first | (with_reducible assumption) | (with_reducible exact Below.refl _ _) | (with_reducible refine grow_alloc ?_ _) | (with_reducible refine grow_mix ?_ _) | (with_reducible refine grow_drew ?_) | (with_reducible refine grow_drewN ?_ _) | (with_reducible refine grow_set ?_ (by first | (simp; done) | (simp; omega) | omega) _))))).mono ?_; rintro e w' ⟨rfl, hb⟩; have hz := hb.size; (first | (obtain ⟨x1, rfl⟩ := to_mix2 hb) | (obtain ⟨x1, rfl⟩ := to_mix hb)); clear hb; (try simp only [World.size_alloc, World.size_setCell, World.size_drew] at hz); (try have q0 : w.heap.size < _ := Nat.lt_of_lt_of_le (by omega) hz); (try have q1 : w.heap.size + 1 < _ := Nat.lt_of_lt_of_le (by omega) hz); (try have q2 : w.heap.size + 1 + 1 < _ := Nat.lt_of_lt_of_le (by omega) hz); (try have q3 : w.heap.size + 1 + 1 + 1 < _ := Nat.lt_of_lt_of_le (by omega) hz))
  go_wp2_with fail
  (go_at_call 11; refine (Mx.out _).mono ?_; rintro e w' ⟨rfl, hb⟩; have hz := hb.size; (first | (obtain ⟨x1, rfl⟩ := to_mix2 hb) | (obtain ⟨x1, rfl⟩ := to_mix hb)); clear hb; (try simp only [World.size_alloc, World.size_setCell, World.size_drew] at hz); (try have q0 : w.heap.size < _ := Nat.lt_of_lt_of_le (by omega) hz); (try have q1 : w.heap.size + 1 < _ := Nat.lt_of_lt_of_le (by omega) hz); (try have q2 : w.heap.size + 1 + 1 < _ := Nat.lt_of_lt_of_le (by omega) hz); (try have q3 : w.heap.size + 1 + 1 + 1 < _ := Nat.lt_of_lt_of_le (by omega) hz))
  go_wp2_with fail
  (go_at_call 10; refine (HT.out _ (by (repeat (first | (with_reducible assumption) | (with_reducible exact Below.refl _ _) | (with_reducible refine grow_alloc ?_ _) | (with_reducible refine grow_mix ?_ _) | (with_reducible refine grow_drew ?_) | (with_reducible refine grow_drewN ?_ _) | (with_reducible refine grow_set ?_ (by first | (simp; done) | (simp; omega) | omega) _))))).mono ?_; rintro e w' ⟨rfl, hb⟩; have hz := hb.size; (first | (obtain ⟨x1, rfl⟩ := to_mix2 hb) | (obtain ⟨x1, rfl⟩ := to_mix hb)); clear hb; (try simp only [World.size_alloc, World.size_setCell, World.size_drew] at hz); (try have q0 : w.heap.size < _ := Nat.lt_of_lt_of_le (by omega) hz); (try have q1 : w.heap.size + 1 < _ := Nat.lt_of_lt_of_le (by omega) hz); (try have q2 : w.heap.size + 1 + 1 < _ := Nat.lt_of_lt_of_le (by omega) hz); (try have q3 : w.heap.size + 1 + 1 + 1 < _ := Nat.lt_of_lt_of_le (by omega) hz))
  go_wp2
  go_ret
  exact ⟨rfl, by (repeat (first | (with_reducible assumption) | (with_reducible exact Below.refl _ _) | (with_reducible refine grow_alloc ?_ _) | (with_reducible refine grow_mix ?_ _) | (with_reducible refine grow_drew ?_) | (with_reducible refine grow_drewN ?_ _) | (with_reducible refine grow_set ?_ (by first | (simp; done) | (simp; omega) | omega) _)))⟩

/-- How many digits, and how many signs, stand in a text. -/
def digN (l : List UInt8) : Int := (l.filter fun c => 48 ≤ c && c ≤ 57).length
def sigN (l : List UInt8) : Int := (l.filter fun c => c == 43).length
theorem digN_le (l : List UInt8) : 0 ≤ digN l ∧ digN l ≤ l.length := by
  unfold digN; exact ⟨by omega, by have := List.length_filter_le (fun c : UInt8 => 48 ≤ c && c ≤ 57) l; omega⟩
theorem sigN_le (l : List UInt8) : 0 ≤ sigN l ∧ sigN l ≤ l.length := by
  unfold sigN; exact ⟨by omega, by have := List.length_filter_le (fun c : UInt8 => c == 43) l; omega⟩
theorem digN_app (a b : List UInt8) : digN (a ++ b) = digN a + digN b := by unfold digN; rw [List.filter_append, List.length_append]; push_cast; rfl
theorem sigN_app (a b : List UInt8) : sigN (a ++ b) = sigN a + sigN b := by unfold sigN; rw [List.filter_append, List.length_append]; push_cast; rfl
theorem take_snoc (s : ByteArray) (k : Nat) (h : k < s.size) : s.data.toList.take (k + 1) = s.data.toList.take k ++ [s[k]] := by
  rw [List.take_succ_eq_append_getElem (by simpa using h)]; rfl
theorem digN_one (c : UInt8) : digN [c] = if 48 ≤ (c.toNat : Int) ∧ (c.toNat : Int) ≤ 57 then 1 else 0 := by
  unfold digN
  have e : (48 ≤ c && c ≤ 57) = decide (48 ≤ (c.toNat : Int) ∧ (c.toNat : Int) ≤ 57) := by
    rw [Bool.eq_iff_iff]; simp [UInt8.le_iff_toNat_le]; omega
  by_cases h : 48 ≤ (c.toNat : Int) ∧ (c.toNat : Int) ≤ 57 <;> simp [List.filter_cons, e, h]
theorem sigN_one (c : UInt8) : sigN [c] = if (c.toNat : Int) = 43 then 1 else 0 := by
  unfold sigN
  have e : (c == 43) = decide ((c.toNat : Int) = 43) := by
    rw [Bool.eq_iff_iff, beq_iff_eq, decide_eq_true_iff, ← UInt8.toNat_inj]
    show c.toNat = 43 ↔ _
    omega
  by_cases h : (c.toNat : Int) = 43 <;> simp [List.filter_cons, e, h]
theorem digN_dec (n : Nat) : digN (Lib.decDigits n) = (Lib.decDigits n).length := by
  unfold digN
  rw [List.filter_eq_self.2]
  intro c hc
  have := dec_ne n c hc
  simp [UInt8.le_iff_toNat_le]
  exact this
theorem sigN_dec (n : Nat) : sigN (Lib.decDigits n) = 0 := by
  unfold sigN
  rw [List.filter_eq_nil_iff.2]
  · rfl
  intro c hc e
  have := dec_ne n c hc
  rw [eq_of_beq e] at this
  exact absurd this.1 (by decide)
theorem dec_len (n : Nat) (h : n < 251) : 1 ≤ (Lib.decDigits n).length ∧ (Lib.decDigits n).length ≤ 3 := by
  by_cases h1 : n < 10
  · rw [digs1 h1]; simp
  · by_cases h2 : n < 100
    · rw [digs2 h1 h2]; simp
    · rw [digs3 h2 (by omega)]; simp
/-- What a text is made of. -/
def TextIs (s : ByteArray) : Prop := 4 ≤ s.size ∧ s.size ≤ 8 ∧ sigN s.data.toList = 1 ∧ digN s.data.toList = (s.size : Int) - 2 ∧ ∀ (i : Nat) (h : i < s.size), i + 1 = s.size → s[i].toNat = 105
theorem textIs (x : Int × Int) : TextIs ⟨(textV x).toArray⟩ := by
  have b1 := rest_bd x.1
  have b2 := rest_bd x.2
  have l1 := dec_len (rest x.1).toNat (by omega)
  have l2 := dec_len (rest x.2).toNat (by omega)
  have hs : (⟨(textV x).toArray⟩ : ByteArray).size = (Lib.decDigits (rest x.1).toNat).length + (Lib.decDigits (rest x.2).toNat).length + 2 := by
    show (textV x).toArray.size = _
    unfold textV
    simp
    omega
  refine ⟨by omega, by omega, ?_, ?_, ?_⟩
  · show sigN (textV x).toArray.toList = 1
    unfold textV
    rw [List.toList_toArray, sigN_app, sigN_app, sigN_app, sigN_dec, sigN_dec, sigN_one, sigN_one]; decide
  · show digN (textV x).toArray.toList = _
    rw [hs]
    unfold textV
    rw [List.toList_toArray, digN_app, digN_app, digN_app, digN_dec, digN_dec, digN_one, digN_one, if_neg (by decide), if_neg (by decide)]
    push_cast; omega
  · intro i h hi
    show ((textV x).toArray[i]).toNat = 105
    have hl : (textV x).length = i + 1 := by
      have : (⟨(textV x).toArray⟩ : ByteArray).size = (textV x).length := by show (textV x).toArray.size = _; simp
      omega
    have hlast : (textV x)[i]? = some 105 := by
      have : (textV x).getLast? = some 105 := by unfold textV; exact List.getLast?_concat ..
      rw [List.getLast?_eq_getElem?, hl] at this
      simpa using this
    rw [List.getElem_toArray]
    have := List.getElem?_eq_some_iff.1 hlast
    obtain ⟨_, e⟩ := this
    rw [e]; rfl
theorem text_shift (x : Int × Int) : textV (x.1 - 251, x.2 + 251) = textV x := by
  have e1 : rest (x.1 - 251) = rest x.1 := by unfold rest; omega
  have e2 : rest (x.2 + 251) = rest x.2 := by unfold rest; omega
  unfold textV
  simp only [e1, e2]
set_option maxRecDepth 100000 in
set_option maxHeartbeats 8000000 in
theorem text_all (x : Int × Int) (w : World) (ht : Tab w) (h0 : mayR x = true) :
    Calls Tryd.prog 4 #[vv x] w fun e w' => e = .returned (.bool true) ∧ Below w.heap.size w w' := by
  have hm := (mayR_iff x).1 h0
  obtain ⟨⟨m1, m2⟩, m3, m4⟩ := hm
  obtain ⟨s, hs⟩ : ∃ s : ByteArray, s = ⟨(textV x).toArray⟩ := ⟨_, rfl⟩
  have his := textIs x
  rw [← hs] at his
  obtain ⟨n1, n2, n3, n4, n5⟩ := his
  have N3 := Lib.hid n3
  have N4 := Lib.hid n4
  have N5 := Lib.hid n5
  have TT := Lib.hid (fun (w1 : World) (h : Below w.heap.size w w1) => show Calls Tryd.prog 16 #[vv x] w1 fun e w' => e = .returned (.string s) ∧ Below w1.heap.size w1 w' from hs ▸ Text_calls x w1 (ht.below h))
  have T2 := Lib.hid (fun (w1 : World) (h : Below w.heap.size w w1) => show Calls Tryd.prog 16 #[vv (x.1 - 251, x.2 + 251)] w1 fun e w' => e = .returned (.string s) ∧ Below w1.heap.size w1 w' from by
    have := Text_calls (x.1 - 251, x.2 + 251) w1 (ht.below h)
    rw [text_shift] at this
    rw [hs]; exact this)
  have HT := Lib.hid (fun (w1 : World) (h : Below w.heap.size w w1) => fixed_calls w1 (ht.below h))
  have Mx := Lib.hid (fun w1 => R_May_true x h0 w1)
  clear ht h0 hs n3 n4 n5
  go_enter Tryd.func4, Tryd.ntmps4
  go_wp2_with fail
  (go_at_call 10; refine (HT.out _ (by (repeat (first | (with_reducible assumption) | (with_reducible exact Below.refl _ _) | (with_reducible refine grow_alloc ?_ _) | (with_reducible refine grow_mix ?_ _) | (with_reducible refine grow_drew ?_) | (with_reducible refine grow_drewN ?_ _) | (with_reducible refine grow_set ?_ (by first | (simp; done) | (simp; omega) | omega) _))))).mono ?_; rintro e w' ⟨rfl, hb⟩; have hz := hb.size; (first | (obtain ⟨x1, rfl⟩ := to_mix2 hb) | (obtain ⟨x1, rfl⟩ := to_mix hb)); clear hb; (try simp only [World.size_alloc, World.size_setCell, World.size_drew] at hz); (try have q0 : w.heap.size < _ := Nat.lt_of_lt_of_le (by omega) hz); (try have q1 : w.heap.size + 1 < _ := Nat.lt_of_lt_of_le (by omega) hz); (try have q2 : w.heap.size + 1 + 1 < _ := Nat.lt_of_lt_of_le (by omega) hz); (try have q3 : w.heap.size + 1 + 1 + 1 < _ := Nat.lt_of_lt_of_le (by omega) hz))
  go_wp2_with fail
  (go_at_call 11; refine (Mx.out _).mono ?_; rintro e w' ⟨rfl, hb⟩; have hz := hb.size; (first | (obtain ⟨x1, rfl⟩ := to_mix2 hb) | (obtain ⟨x1, rfl⟩ := to_mix hb)); clear hb; (try simp only [World.size_alloc, World.size_setCell, World.size_drew] at hz); (try have q0 : w.heap.size < _ := Nat.lt_of_lt_of_le (by omega) hz); (try have q1 : w.heap.size + 1 < _ := Nat.lt_of_lt_of_le (by omega) hz); (try have q2 : w.heap.size + 1 + 1 < _ := Nat.lt_of_lt_of_le (by omega) hz); (try have q3 : w.heap.size + 1 + 1 + 1 < _ := Nat.lt_of_lt_of_le (by omega) hz))
  go_wp2_with fail
  (go_at_call 16; refine (TT.out _ (by (repeat (first | (with_reducible assumption) | (with_reducible exact Below.refl _ _) | (with_reducible refine grow_alloc ?_ _) | (with_reducible refine grow_mix ?_ _) | (with_reducible refine grow_drew ?_) | (with_reducible refine grow_drewN ?_ _) | (with_reducible refine grow_set ?_ (by first | (simp; done) | (simp; omega) | omega) _))))).mono ?_; rintro e w1 ⟨rfl, hb⟩; obtain ⟨hc_w1, hf_w1⟩ := bcell hb; have hz_w1 := hb.size; (try simp only [World.size_alloc] at hz_w1); (try have hy0_w1 : w.heap.size < w1.heap.size := by omega); (try have hy1_w1 : w.heap.size + 1 < w1.heap.size := by omega); (try have hy2_w1 : w.heap.size + 1 + 1 < w1.heap.size := by omega); (try have hyA_w1 : w.heap.size < w1.heap.size + 1 := by omega); (try have hyB_w1 : w.heap.size + 1 < w1.heap.size + 1 := by omega); (try have hyC_w1 : w.heap.size + 1 + 1 < w1.heap.size + 1 := by omega); have hb_w1 := Lib.hid hb; clear hb)
  have X0 : Has w1 w.heap.size #[.int .i64 x.1, .int .i64 x.2] 23 := by
    refine Has.below' ?_ hb_w1.out
    (repeat (first | (with_reducible assumption) | (with_reducible exact Has.new _ _ _) | (with_reducible exact Has.new' (by first | rfl | (simp; done) | (simp; omega)) _ _) | (with_reducible apply Has.alloc) | (with_reducible apply Has.mix) | (with_reducible apply Has.drew) | (with_reducible apply Has.drewN) | (with_reducible apply Has.set_same) | (with_reducible apply Has.set_other (hp := (by first | (simp; done) | (simp; omega) | omega))) | (with_reducible rfl) | rfl))
  have HW := Lib.hid (show Below w.heap.size w w1 from Below.trans (by (repeat (first | (with_reducible assumption) | (with_reducible exact Below.refl _ _) | (with_reducible refine grow_alloc ?_ _) | (with_reducible refine grow_mix ?_ _) | (with_reducible refine grow_drew ?_) | (with_reducible refine grow_drewN ?_ _) | (with_reducible refine grow_set ?_ (by first | (simp; done) | (simp; omega) | omega) _)))) (hb_w1.out.mono (by first | omega | (simp; done) | (simp; omega))))
  clear hc_w1 hf_w1
  have X0_c0 := X0.cell 0
  have X0_c1 := X0.cell 1
  have X0_f := X0.frozen
  have X0_l := X0.lt
  simp only [List.size_toArray, List.length_cons, List.length_nil, Nat.reduceAdd, Nat.zero_lt_succ, Nat.one_lt_succ_succ, Nat.reduceLT, getElem?_pos, List.getElem_toArray, List.getElem_cons_zero, List.getElem_cons_succ] at X0_c0 X0_c1
  go_wp2
  go_loop [4, 5, 6] (fun a b c => ∃ k : Nat, k ≤ s.size ∧ c = .int .i64 k ∧ a = .int .i64 (sigN (s.data.toList.take k)) ∧ b = .int .i64 (digN (s.data.toList.take k))) (fun _ _ c => s.size - (intOf c).toNat)
  case atStart => exact ⟨0, Nat.zero_le _, rfl, rfl, rfl⟩
  case round =>
    obtain ⟨k, hk, rfl, rfl, rfl⟩ := hrel
    have hd := digN_le (s.data.toList.take k)
    have hg := sigN_le (s.data.toList.take k)
    have hl : (s.data.toList.take k).length ≤ k := List.length_take_le _ _
    by_cases hlt : k < s.size
    · have HS : Hid (digN (s.data.toList.take (k + 1)) = digN (s.data.toList.take k) + if 48 ≤ (s[k].toNat : Int) ∧ (s[k].toNat : Int) ≤ 57 then 1 else 0) := Lib.hid (by rw [take_snoc s k hlt, digN_app, digN_one])
      have HG : Hid (sigN (s.data.toList.take (k + 1)) = sigN (s.data.toList.take k) + if (s[k].toNat : Int) = 43 then 1 else 0) := Lib.hid (by rw [take_snoc s k hlt, sigN_app, sigN_one])
      by_cases c1 : (s[k].toNat : Int) = 43
      · have c2 : ¬ (48 ≤ (s[k].toNat : Int)) := by omega
        have c3 : ((s[k].toNat : Int) == 43) = true := by simpa using c1
        have C1 := Lib.hid c1
        clear c1
        go_wp2
        go_round
        case rel => exact ⟨k + 1, by omega, by go_num, by rw [HG.out, if_pos C1.out], by rw [HS.out, if_neg (by omega)]; go_num⟩
        case measure => simp [intOf]; omega
      · have c3 : ((s[k].toNat : Int) == 43) = false := by simpa using c1
        have C1 := Lib.hid c1
        clear c1
        by_cases c2 : 48 ≤ (s[k].toNat : Int)
        · by_cases c4 : (s[k].toNat : Int) ≤ 57
          · go_wp2
            go_round
            case rel => exact ⟨k + 1, by omega, by go_num, by rw [HG.out, if_neg C1.out]; go_num, by rw [HS.out, if_pos ⟨c2, c4⟩]⟩
            case measure => simp [intOf]; omega
          · go_wp2
            go_round
            case rel => exact ⟨k + 1, by omega, by go_num, by rw [HG.out, if_neg C1.out]; go_num, by rw [HS.out, if_neg (by omega)]; go_num⟩
            case measure => simp [intOf]; omega
        · go_wp2
          go_round
          case rel => exact ⟨k + 1, by omega, by go_num, by rw [HG.out, if_neg C1.out]; go_num, by rw [HS.out, if_neg (by omega)]; go_num⟩
          case measure => simp [intOf]; omega
    · have hk' : k = s.size := by omega
      subst hk'
      have e : s.data.toList.take s.size = s.data.toList := List.take_of_length_le (by simp)
      have e1 : sigN (s.data.toList.take s.size) = 1 := by rw [e]; exact N3.out
      have e2 : digN (s.data.toList.take s.size) = (s.size : Int) - 2 := by rw [e]; exact N4.out
      have hlast : s[s.size - 1].toNat = 105 := N5.out _ _ (by omega)
      clear hd hg hl e
      go_wp2_with fail
      (go_at_call 16; refine (T2.out _ HW.out).mono ?_; rintro e w' ⟨rfl, hb⟩; have hz := hb.size; (first | (obtain ⟨x1, rfl⟩ := to_mix2 hb) | (obtain ⟨x1, rfl⟩ := to_mix hb)); clear hb; (try simp only [World.size_alloc, World.size_setCell, World.size_drew] at hz); (try have q0 : w.heap.size < _ := Nat.lt_of_lt_of_le (by omega) hz); (try have q1 : w.heap.size + 1 < _ := Nat.lt_of_lt_of_le (by omega) hz); (try have q2 : w.heap.size + 1 + 1 < _ := Nat.lt_of_lt_of_le (by omega) hz); (try have q3 : w.heap.size + 1 + 1 + 1 < _ := Nat.lt_of_lt_of_le (by omega) hz))
      go_wp2
      go_ret
      have HB := HW.out
      exact ⟨rfl, HB.trans (Below.mono (by (repeat (first | (with_reducible assumption) | (with_reducible exact Below.refl _ _) | (with_reducible refine grow_alloc ?_ _) | (with_reducible refine grow_mix ?_ _) | (with_reducible refine grow_drew ?_) | (with_reducible refine grow_drewN ?_ _) | (with_reducible refine grow_set ?_ (by first | (simp; done) | (simp; omega) | omega) _)))) (by omega))⟩

theorem gaussText_walk (x : Int × Int) (_ : (Lit.int .i64 x.1).wf = true) (_ : (Lit.int .i64 x.2).wf = true) (w : World) (ht : Tab w)  :
    Calls Tryd.prog 4 #[vv x] w fun e w' => e = .returned (.bool true) ∧ Below w.heap.size w w' := by
  cases h0 : mayR x with
  | false => exact text_leave1 x w ht h0
  | true =>
    exact text_all x w ht h0
end Go.Proofs.YtepagnaabncllaaDoor.Laws
