/-
  Contracts: the digest, and whether a program is small. The calls whose answers the document fixes: what they answer, in plain words. Contracts of the reference's operations. Contract of whether an instruction may be, as the reference has it. Contracts of the reference's programs: whether one may be. Contracts of the reference's numbers as bytes, and of its digits. Contracts of the reference's checksum. Contracts of the reference's programs: bytes, and their digest. '==' of instructions: field by field. Contract of whether two programs are the same. The calls whose answers the document fixes: they are so.
-/
import Derived.Lib.Varint
import Derived.Laws.StructEq
import Derived.Test.YtedkfipjooafeaaGreatDoorT3
import Derived.Test.YtedkfipjooafeaaGreatDoorT4
set_option linter.unusedSimpArgs false
set_option linter.unusedVariables false
set_option linter.unusedSimpArgs false
set_option linter.unusedVariables false
namespace Go.Proofs.YtedkfipjooafeaaGreatDoor.Code
open Go Go.RowKit Go.Proofs.YtedkfipjooafeaaGreatDoor Go.Proofs.YtedkfipjooafeaaGreatDoor.Op

theorem encP_len (p : Pg) : (encP p).length ≤ 1000000 := by
  unfold encP
  cases hm : mayP p
  · simp
  · have h := mayP_parts hm
    have h1 := encs_len h.1
    have h2 : (putI p.length).length ≤ 7 := putI_len (by omega) (by omega)
    simp only [if_true, List.length_append]
    omega
theorem Digest_calls (p : Pg) (v : Value) (w : World) (h : ProgAt w w.heap.size v p) (hl : p.length ≤ 9223372036854775000) (hc : ∀ f ∈ p, f.code.length ≤ 9223372036854775000) :
    Calls Tryz.prog 21 #[v] w fun e w' => e = .returned (.int .i64 (Crc.crcOf (encP p))) ∧ Below w.heap.size w w' := by
  have E := Lib.hid (Encode_calls p v w h hl hc)
  have C := Lib.hid (fun W => Crc.Of_calls (encP p) (by have := encP_len p; omega) W)
  obtain ⟨A, c, rfl⟩ := h.form
  clear h hc
  go_enter Tryz.func21, Tryz.ntmps21
  go_wp2_with (first | (go_at_call 19; (with_reducible refine (E.out).mono ?_); rintro e w' ⟨rfl, hb⟩; have hz := hb.size; (first | (obtain ⟨x1, rfl⟩ := to_mix2 hb) | (obtain ⟨x1, rfl⟩ := to_mix hb)); clear hb; (try simp only [World.size_alloc, World.size_setCell, World.size_drew] at hz); (try have q0 : w.heap.size < _ := Nat.lt_of_lt_of_le (by omega) hz); (try have q1 : w.heap.size + 1 < _ := Nat.lt_of_lt_of_le (by omega) hz); (try have q2 : w.heap.size + 1 + 1 < _ := Nat.lt_of_lt_of_le (by omega) hz); (try have q3 : w.heap.size + 1 + 1 + 1 < _ := Nat.lt_of_lt_of_le (by omega) hz)) | (go_at_call 52; (with_reducible refine (C.out _).mono ?_); rintro e w' ⟨rfl, hb⟩; have hz := hb.size; (first | (obtain ⟨x1, rfl⟩ := to_mix2 hb) | (obtain ⟨x1, rfl⟩ := to_mix hb)); clear hb; (try simp only [World.size_alloc, World.size_setCell, World.size_drew] at hz); (try have q0 : w.heap.size < _ := Nat.lt_of_lt_of_le (by omega) hz); (try have q1 : w.heap.size + 1 < _ := Nat.lt_of_lt_of_le (by omega) hz); (try have q2 : w.heap.size + 1 + 1 < _ := Nat.lt_of_lt_of_le (by omega) hz); (try have q3 : w.heap.size + 1 + 1 + 1 < _ := Nat.lt_of_lt_of_le (by omega) hz)))
  go_ret
  exact ⟨rfl, by (repeat (first | (with_reducible assumption) | (with_reducible exact Below.refl _ _) | (with_reducible refine grow_alloc ?_ _) | (with_reducible refine grow_mix ?_ _) | (with_reducible refine grow_drew ?_) | (with_reducible refine grow_drewN ?_ _) | (with_reducible refine grow_set ?_ (by first | (simp; done) | (simp; omega) | omega) _)))⟩

def total (p : Pg) : Nat := (p.map fun f => f.code.length).sum
def smallP (p : Pg) (most : Int) : Bool := decide (p.length ≤ 20 ∧ (total p : Int) ≤ most)
theorem total_take (p : Pg) (k : Nat) (f : Fn) (h : p[k]? = some f) : total (p.take (k + 1)) = total (p.take k) + f.code.length := by
  unfold total
  rw [List.take_add_one, h, Option.toList_some, List.map_append, List.sum_append]
  simp
set_option maxHeartbeats 1000000 in
theorem Small_calls (p : Pg) (v : Value) (most : Int) (w : World) (h : ProgAt w w.heap.size v p) (hl : p.length ≤ 9223372036854775000) (hc : ∀ f ∈ p, f.code.length ≤ 9223372036854775) :
    Calls Tryz.prog 9 #[v, .int .i64 most] w fun e w' => e = .returned (.bool (smallP p most)) ∧ Below w.heap.size w w' := by
  obtain ⟨A, c, rfl⟩ := h.form
  have HC := Lib.hid h
  have HT := Lib.hid hc
  clear h hc
  by_cases h20 : p.length ≤ 20
  · go_enter Tryz.func9, Tryz.ntmps9
    go_wp2
    go_loopw [5, 6] (fun n i wr => ∃ k m : Nat, k ≤ p.length ∧ i = .int .i64 k ∧ n = .int .i64 m ∧ m ≤ 9223372036854775 * k ∧ Below w.heap.size w wr ∧ Hid (m = total (p.take k))) (fun _ i _ => p.length - (intOf i).toNat)
    case atStart => exact ⟨0, 0, Nat.zero_le _, rfl, rfl, by omega, Below.refl _ _, Lib.hid (by simp [total])⟩
    case round =>
      obtain ⟨k, m, hk, rfl, rfl, hm, hb, HM⟩ := hrel
      by_cases hlt : k < p.length
      · obtain ⟨a, c', u, e, hab, c0, c1, c2, c3, hcd⟩ := HC.out.at2 hb hlt
        injection e with e1 e2 e3
        subst e1 e3
        obtain ⟨A', c', rfl⟩ := hcd.form
        have hx : p[k]? = some p[k] := List.getElem?_eq_getElem hlt
        have hlx := HT.out p[k] (List.getElem_mem hlt)
        obtain ⟨f, hf⟩ : ∃ f, p[k] = f := ⟨_, rfl⟩
        rw [hf] at c0 c1 c2 c3 hx hlx
        have HX := Lib.hid hx
        clear hx hf hcd
        go_wp2
        go_roundw
        case rel => exact ⟨k + 1, m + f.code.length, by omega, by go_num, by go_num, by omega, hb, Lib.hid (by rw [total_take _ _ _ HX.out, HM.out])⟩
        case measure => simp [intOf]; omega
      · have hk' : k = p.length := by omega
        subst hk'
        by_cases hm2 : (m : Int) ≤ most
        · have HN := Lib.hid (show smallP p most = true from decide_eq_true ⟨h20, by have := HM.out; rw [List.take_length] at this; rw [← this]; exact hm2⟩)
          go_wp2
          go_ret
          exact ⟨by rw [HN.out]; rfl, by (repeat (first | (with_reducible assumption) | (with_reducible exact Below.refl _ _) | (with_reducible refine grow_alloc ?_ _) | (with_reducible refine grow_mix ?_ _) | (with_reducible refine grow_drew ?_) | (with_reducible refine grow_drewN ?_ _) | (with_reducible refine grow_set ?_ (by first | (simp; done) | (simp; omega) | omega) _)))⟩
        · have HN := Lib.hid (show smallP p most = false from decide_eq_false (fun e => hm2 (by have := HM.out; rw [List.take_length] at this; rw [this]; exact e.2)))
          go_wp2
          go_ret
          exact ⟨by rw [HN.out]; rfl, by (repeat (first | (with_reducible assumption) | (with_reducible exact Below.refl _ _) | (with_reducible refine grow_alloc ?_ _) | (with_reducible refine grow_mix ?_ _) | (with_reducible refine grow_drew ?_) | (with_reducible refine grow_drewN ?_ _) | (with_reducible refine grow_set ?_ (by first | (simp; done) | (simp; omega) | omega) _)))⟩
  · have HN := Lib.hid (show smallP p most = false from decide_eq_false (fun e => h20 e.1))
    have hgt : 20 < p.length := by omega
    clear h20
    go_enter Tryz.func9, Tryz.ntmps9
    go_wp2
    go_loop [5, 6] (fun n i => n = .int .i64 0 ∧ i = .int .i64 0) (fun _ _ => 0)
    case atStart => exact ⟨rfl, rfl⟩
    case round =>
      obtain ⟨rfl, rfl⟩ := hrel
      go_wp2
      go_ret
      exact ⟨by rw [HN.out]; rfl, by (repeat (first | (with_reducible assumption) | (with_reducible exact Below.refl _ _) | (with_reducible refine grow_alloc ?_ _) | (with_reducible refine grow_mix ?_ _) | (with_reducible refine grow_drew ?_) | (with_reducible refine grow_drewN ?_ _) | (with_reducible refine grow_set ?_ (by first | (simp; done) | (simp; omega) | omega) _)))⟩
end Go.Proofs.YtedkfipjooafeaaGreatDoor.Code
set_option linter.unusedSimpArgs false
set_option linter.unusedVariables false
namespace Go.Proofs.YtedkfipjooafeaaGreatDoor.Code
open Go Go.RowKit Go.Proofs.YtedkfipjooafeaaGreatDoor Go.Proofs.YtedkfipjooafeaaGreatDoor.Op Go.Proofs.YtedkfipjooafeaaGreatDoor.Wire

abbrev P0 : Pg := [⟨0, 1, 2, [⟨0, 1, 2⟩, ⟨13, 0, 1⟩, ⟨15, 0, 0⟩]⟩, ⟨1, 1, 0, [⟨16, 16, 0⟩]⟩]
abbrev S0 : B := [102, 117, 110, 99, 32, 48, 32, 49, 32, 50, 10, 112, 117, 115, 104, 32, 49, 32, 50, 10, 115, 112, 97, 119, 110, 32, 48, 32, 49, 10, 114, 101, 116, 10, 102, 117, 110, 99, 32, 49, 32, 49, 32, 48, 10, 116, 114, 97, 112, 32, 49, 54, 10]
abbrev E0 : B := [2, 0, 1, 2, 3, 0, 1, 2, 13, 0, 1, 15, 1, 1, 0, 1, 16, 16]
theorem may_P0 : mayP P0 = true := by decide
theorem itoa0 : Lib.itoa 0 = [48] := by rw [itoa_nat (by decide)]; exact digits_small 0 (by decide)
theorem itoa1 : Lib.itoa 1 = [49] := by rw [itoa_nat (by decide)]; exact digits_small 1 (by decide)
theorem itoa2 : Lib.itoa 2 = [50] := by rw [itoa_nat (by decide)]; exact digits_small 2 (by decide)
theorem itoa16 : Lib.itoa 16 = [49, 54] := by
  rw [itoa_nat (by decide)]
  show Lib.decDigits 16 = _
  rw [digits_big 16 (by decide), digits_small (16 / 10) (by decide)]; rfl
theorem lines_P0 : linesP P0 = [[102, 117, 110, 99, 32, 48, 32, 49, 32, 50], [112, 117, 115, 104, 32, 49, 32, 50], [115, 112, 97, 119, 110, 32, 48, 32, 49], [114, 101, 116], [102, 117, 110, 99, 32, 49, 32, 49, 32, 48], [116, 114, 97, 112, 32, 49, 54]] := by
  have a1 : fieldsB ⟨0, 1, 2⟩ = [1, 2] := rfl
  have a2 : fieldsB ⟨13, 0, 1⟩ = [0, 1] := rfl
  have a3 : fieldsB ⟨15, 0, 0⟩ = [] := rfl
  have a4 : fieldsB ⟨16, 16, 0⟩ = [16] := rfl
  have b1 : opName 0 = [112, 117, 115, 104] := rfl
  have b2 : opName 13 = [115, 112, 97, 119, 110] := rfl
  have b3 : opName 15 = [114, 101, 116] := rfl
  have b4 : opName 16 = [116, 114, 97, 112] := rfl
  simp [linesP, linesF, headedB, writtenB, lineB, funcB, a1, a2, a3, a4, b1, b2, b3, b4, itoa0, itoa1, itoa2, itoa16]
theorem text_P0 : textP P0 = S0 := by
  unfold textP
  rw [if_pos may_P0, joined_text, lines_P0]
  rfl
theorem putI_small {n : Int} (h0 : 0 ≤ n) (h : n ≤ 127) : putI n = [UInt8.ofNat n.toNat] := by
  unfold putI
  rw [putN_small (by omega)]
  rfl
theorem enc_P0 : encP P0 = E0 := by
  unfold encP
  rw [if_pos may_P0]
  have a1 : fieldsB ⟨0, 1, 2⟩ = [1, 2] := rfl
  have a2 : fieldsB ⟨13, 0, 1⟩ = [0, 1] := rfl
  have a3 : fieldsB ⟨15, 0, 0⟩ = [] := rfl
  have a4 : fieldsB ⟨16, 16, 0⟩ = [16] := rfl
  have q0 : putI 0 = [0] := putI_small (by decide) (by decide)
  have q1 : putI 1 = [1] := putI_small (by decide) (by decide)
  have q2 : putI 2 = [2] := putI_small (by decide) (by decide)
  have q3 : putI 3 = [3] := putI_small (by decide) (by decide)
  have q16 : putI 16 = [16] := putI_small (by decide) (by decide)
  simp [encF, encC, encI, a1, a2, a3, a4, q0, q1, q2, q3, q16]
theorem par_S0 : parS S0 = (P0, 6, 0) := by
  unfold parS
  rw [← text_P0, parse_text may_P0, lines_P0]
  rfl
theorem steps_P0 : Steps [] (linesP P0) P0 := steps_prog [] P0 (mayP_parts may_P0).1 (by decide) (.inl rfl)
theorem par_S0x : parS (S0 ++ [120]) = ([], 6, 70) := by
  have e : splitL 10 (S0 ++ [120]) = linesP P0 ++ [[120]] := by rw [lines_P0]; rfl
  have h : parseP (S0 ++ [120]) = (none, 6) := by
    unfold parseP
    rw [e, runL_steps steps_P0 (by simp), lines_P0]
    rfl
  unfold parS
  rw [h]; rfl
abbrev S1 : B := [102, 117, 110, 99, 32, 48, 32, 48, 32, 48, 10, 114, 101, 116, 32, 49, 10]
theorem no_ret1 (p q : Pg) : ¬ Step p [114, 101, 116, 32, 49] q := by
  intro h
  have hw : wordOf [114, 101, 116, 32, 49] = [114, 101, 116] := rfl
  rcases h with ⟨f, h1, h2, h3, h4, h5⟩ | ⟨x, h1, h3, h4, h5⟩
  · have := (head_back h2 h1 h3).1
    rw [hw] at this
    exact absurd this (by decide)
  · have h6 := (ins_back h1 h3).1
    rw [hw] at h6
    have ho : x.op = 15 := name_inj (isOp_of_may h1) h6.symm
    have hf : fieldsB x = [] := by unfold fieldsB; rw [ho]; rfl
    have hn : writtenB x = [114, 101, 116] := by
      unfold writtenB
      rw [hf, ← h6]; rfl
    rw [hn] at h3
    exact absurd h3 (by decide)
theorem par_S1 : parS S1 = ([], 1, 70) := by
  have e : splitL 10 S1 = [[102, 117, 110, 99, 32, 48, 32, 48, 32, 48], [114, 101, 116, 32, 49], []] := rfl
  have hh : headedB ⟨0, 0, 0, []⟩ = [102, 117, 110, 99, 32, 48, 32, 48, 32, 48] := by
    simp [headedB, lineB, funcB, itoa0]
  have hs : Step [] [102, 117, 110, 99, 32, 48, 32, 48, 32, 48] ([] ++ [⟨0, 0, 0, []⟩]) := .head _ (by decide) rfl hh (by decide) (.inl rfl)
  have h : parseP S1 = (none, 1) := by
    unfold parseP
    rw [e, runL_some1 (by simp) hs, runL_none (by simp) (no_ret1 _)]
  unfold parS
  rw [h]; rfl
theorem dec_E0 : decS E0 = (P0, 0) := by
  have := dec_enc may_P0 []
  rw [List.append_nil, enc_P0, if_pos rfl] at this
  exact this
theorem dec_E0x : decS (E0 ++ [120]) = ([], 72) := by
  have := dec_enc may_P0 [120]
  rw [enc_P0, if_neg (by simp)] at this
  exact this
theorem dec_0 : decS [0] = ([], 71) := by decide
theorem dec_1 : decS [1, 0, 0, 0, 1, 17] = ([], 71) := by decide
theorem crc_P0 : Crc.crcOf E0 ≠ 0 := by decide +kernel
theorem text_nil : textP [] = [] := rfl
theorem may_nil : mayP [] = false := rfl
end Go.Proofs.YtedkfipjooafeaaGreatDoor.Code
set_option linter.unusedSimpArgs false
set_option linter.unusedVariables false
namespace Go.Proofs.YtedkfipjooafeaaGreatDoor.Code
open Go Go.RowKit Go.Proofs.YtedkfipjooafeaaGreatDoor Go.Proofs.YtedkfipjooafeaaGreatDoor.Op

theorem FieldsR_0 (w : World) : Calls Tryz.prog 51 #[.int .i64 0] w fun e w' => e = .returned (.int .i64 2) ∧ Below w.heap.size w w' := by
  go_enter Tryz.func51, Tryz.ntmps51
  go_wp2
  go_ret
  exact ⟨rfl, by (repeat (first | (with_reducible assumption) | (with_reducible exact Below.refl _ _) | (with_reducible refine grow_alloc ?_ _) | (with_reducible refine grow_mix ?_ _) | (with_reducible refine grow_drew ?_) | (with_reducible refine grow_drewN ?_ _) | (with_reducible refine grow_set ?_ (by first | (simp; done) | (simp; omega) | omega) _)))⟩
theorem FieldsR_13 (w : World) : Calls Tryz.prog 51 #[.int .i64 13] w fun e w' => e = .returned (.int .i64 2) ∧ Below w.heap.size w w' := by
  go_enter Tryz.func51, Tryz.ntmps51
  go_wp2
  go_ret
  exact ⟨rfl, by (repeat (first | (with_reducible assumption) | (with_reducible exact Below.refl _ _) | (with_reducible refine grow_alloc ?_ _) | (with_reducible refine grow_mix ?_ _) | (with_reducible refine grow_drew ?_) | (with_reducible refine grow_drewN ?_ _) | (with_reducible refine grow_set ?_ (by first | (simp; done) | (simp; omega) | omega) _)))⟩
theorem FieldsR_1 (w : World) : Calls Tryz.prog 51 #[.int .i64 1] w fun e w' => e = .returned (.int .i64 1) ∧ Below w.heap.size w w' := by
  go_enter Tryz.func51, Tryz.ntmps51
  go_wp2
  go_ret
  exact ⟨rfl, by (repeat (first | (with_reducible assumption) | (with_reducible exact Below.refl _ _) | (with_reducible refine grow_alloc ?_ _) | (with_reducible refine grow_mix ?_ _) | (with_reducible refine grow_drew ?_) | (with_reducible refine grow_drewN ?_ _) | (with_reducible refine grow_set ?_ (by first | (simp; done) | (simp; omega) | omega) _)))⟩
theorem FieldsR_2 (w : World) : Calls Tryz.prog 51 #[.int .i64 2] w fun e w' => e = .returned (.int .i64 1) ∧ Below w.heap.size w w' := by
  go_enter Tryz.func51, Tryz.ntmps51
  go_wp2
  go_ret
  exact ⟨rfl, by (repeat (first | (with_reducible assumption) | (with_reducible exact Below.refl _ _) | (with_reducible refine grow_alloc ?_ _) | (with_reducible refine grow_mix ?_ _) | (with_reducible refine grow_drew ?_) | (with_reducible refine grow_drewN ?_ _) | (with_reducible refine grow_set ?_ (by first | (simp; done) | (simp; omega) | omega) _)))⟩
theorem FieldsR_10 (w : World) : Calls Tryz.prog 51 #[.int .i64 10] w fun e w' => e = .returned (.int .i64 1) ∧ Below w.heap.size w w' := by
  go_enter Tryz.func51, Tryz.ntmps51
  go_wp2
  go_ret
  exact ⟨rfl, by (repeat (first | (with_reducible assumption) | (with_reducible exact Below.refl _ _) | (with_reducible refine grow_alloc ?_ _) | (with_reducible refine grow_mix ?_ _) | (with_reducible refine grow_drew ?_) | (with_reducible refine grow_drewN ?_ _) | (with_reducible refine grow_set ?_ (by first | (simp; done) | (simp; omega) | omega) _)))⟩
theorem FieldsR_11 (w : World) : Calls Tryz.prog 51 #[.int .i64 11] w fun e w' => e = .returned (.int .i64 1) ∧ Below w.heap.size w w' := by
  go_enter Tryz.func51, Tryz.ntmps51
  go_wp2
  go_ret
  exact ⟨rfl, by (repeat (first | (with_reducible assumption) | (with_reducible exact Below.refl _ _) | (with_reducible refine grow_alloc ?_ _) | (with_reducible refine grow_mix ?_ _) | (with_reducible refine grow_drew ?_) | (with_reducible refine grow_drewN ?_ _) | (with_reducible refine grow_set ?_ (by first | (simp; done) | (simp; omega) | omega) _)))⟩
theorem FieldsR_14 (w : World) : Calls Tryz.prog 51 #[.int .i64 14] w fun e w' => e = .returned (.int .i64 1) ∧ Below w.heap.size w w' := by
  go_enter Tryz.func51, Tryz.ntmps51
  go_wp2
  go_ret
  exact ⟨rfl, by (repeat (first | (with_reducible assumption) | (with_reducible exact Below.refl _ _) | (with_reducible refine grow_alloc ?_ _) | (with_reducible refine grow_mix ?_ _) | (with_reducible refine grow_drew ?_) | (with_reducible refine grow_drewN ?_ _) | (with_reducible refine grow_set ?_ (by first | (simp; done) | (simp; omega) | omega) _)))⟩
theorem FieldsR_16 (w : World) : Calls Tryz.prog 51 #[.int .i64 16] w fun e w' => e = .returned (.int .i64 1) ∧ Below w.heap.size w w' := by
  go_enter Tryz.func51, Tryz.ntmps51
  go_wp2
  go_ret
  exact ⟨rfl, by (repeat (first | (with_reducible assumption) | (with_reducible exact Below.refl _ _) | (with_reducible refine grow_alloc ?_ _) | (with_reducible refine grow_mix ?_ _) | (with_reducible refine grow_drew ?_) | (with_reducible refine grow_drewN ?_ _) | (with_reducible refine grow_set ?_ (by first | (simp; done) | (simp; omega) | omega) _)))⟩
set_option maxHeartbeats 400000 in
theorem FieldsR_none (n : Int) (h0 : (n == 0) = false) (h13 : (n == 13) = false) (h1 : (n == 1) = false) (h2 : (n == 2) = false) (h10 : (n == 10) = false) (h11 : (n == 11) = false) (h14 : (n == 14) = false) (h16 : (n == 16) = false) (w : World) : Calls Tryz.prog 51 #[.int .i64 n] w fun e w' => e = .returned (.int .i64 0) ∧ Below w.heap.size w w' := by
  go_enter Tryz.func51, Tryz.ntmps51
  go_wp2
  go_ret
  exact ⟨rfl, by (repeat (first | (with_reducible assumption) | (with_reducible exact Below.refl _ _) | (with_reducible refine grow_alloc ?_ _) | (with_reducible refine grow_mix ?_ _) | (with_reducible refine grow_drew ?_) | (with_reducible refine grow_drewN ?_ _) | (with_reducible refine grow_set ?_ (by first | (simp; done) | (simp; omega) | omega) _)))⟩
theorem fields_zero (n : Int) (h0 : (n == 0) = false) (h13 : (n == 13) = false) (h1 : (n == 1) = false) (h2 : (n == 2) = false) (h10 : (n == 10) = false) (h11 : (n == 11) = false) (h14 : (n == 14) = false) (h16 : (n == 16) = false) : opFields n = 0 := by
  unfold opFields isOp
  split
  · rename_i h
    simp only [decide_eq_true_eq] at h
    simp only [beq_eq_false_iff_ne, ne_eq] at h0 h13 h1 h2 h10 h11 h14 h16
    have hc : n = 3 ∨ n = 4 ∨ n = 5 ∨ n = 6 ∨ n = 7 ∨ n = 8 ∨ n = 9 ∨ n = 12 ∨ n = 15 := by omega
    rcases hc with rfl | rfl | rfl | rfl | rfl | rfl | rfl | rfl | rfl <;> decide
  · rfl
theorem FieldsR_calls (n : Int) (w : World) : Calls Tryz.prog 51 #[.int .i64 n] w fun e w' => e = .returned (.int .i64 (opFields n)) ∧ Below w.heap.size w w' := by
  by_cases h0 : n = 0
  · subst h0; exact FieldsR_0 w
  by_cases h13 : n = 13
  · subst h13; exact FieldsR_13 w
  by_cases h1 : n = 1
  · subst h1; exact FieldsR_1 w
  by_cases h2 : n = 2
  · subst h2; exact FieldsR_2 w
  by_cases h10 : n = 10
  · subst h10; exact FieldsR_10 w
  by_cases h11 : n = 11
  · subst h11; exact FieldsR_11 w
  by_cases h14 : n = 14
  · subst h14; exact FieldsR_14 w
  by_cases h16 : n = 16
  · subst h16; exact FieldsR_16 w
  rw [fields_zero n (by simpa using h0) (by simpa using h13) (by simpa using h1) (by simpa using h2) (by simpa using h10) (by simpa using h11) (by simpa using h14) (by simpa using h16)]
  exact FieldsR_none n (by simpa using h0) (by simpa using h13) (by simpa using h1) (by simpa using h2) (by simpa using h10) (by simpa using h11) (by simpa using h14) (by simpa using h16) w
def mostR (op f : Int) : Int := if op = 0 then 250 else if op = 1 ∨ op = 2 then 15 else if op = 10 ∨ op = 11 then 199 else if op = 13 then (if f = 1 then 7 else 15) else if op = 14 then 7 else 255
theorem most_0 (f : Int) (w : World) : Calls Tryz.prog 70 #[.int .i64 0, .int .i64 f] w fun e w' => e = .returned (.int .i64 250) ∧ Below w.heap.size w w' := by
  go_enter Tryz.func70, Tryz.ntmps70
  go_wp2
  go_ret
  exact ⟨rfl, by (repeat (first | (with_reducible assumption) | (with_reducible exact Below.refl _ _) | (with_reducible refine grow_alloc ?_ _) | (with_reducible refine grow_mix ?_ _) | (with_reducible refine grow_drew ?_) | (with_reducible refine grow_drewN ?_ _) | (with_reducible refine grow_set ?_ (by first | (simp; done) | (simp; omega) | omega) _)))⟩
theorem most_1 (f : Int) (w : World) : Calls Tryz.prog 70 #[.int .i64 1, .int .i64 f] w fun e w' => e = .returned (.int .i64 15) ∧ Below w.heap.size w w' := by
  go_enter Tryz.func70, Tryz.ntmps70
  go_wp2
  go_ret
  exact ⟨rfl, by (repeat (first | (with_reducible assumption) | (with_reducible exact Below.refl _ _) | (with_reducible refine grow_alloc ?_ _) | (with_reducible refine grow_mix ?_ _) | (with_reducible refine grow_drew ?_) | (with_reducible refine grow_drewN ?_ _) | (with_reducible refine grow_set ?_ (by first | (simp; done) | (simp; omega) | omega) _)))⟩
theorem most_2 (f : Int) (w : World) : Calls Tryz.prog 70 #[.int .i64 2, .int .i64 f] w fun e w' => e = .returned (.int .i64 15) ∧ Below w.heap.size w w' := by
  go_enter Tryz.func70, Tryz.ntmps70
  go_wp2
  go_ret
  exact ⟨rfl, by (repeat (first | (with_reducible assumption) | (with_reducible exact Below.refl _ _) | (with_reducible refine grow_alloc ?_ _) | (with_reducible refine grow_mix ?_ _) | (with_reducible refine grow_drew ?_) | (with_reducible refine grow_drewN ?_ _) | (with_reducible refine grow_set ?_ (by first | (simp; done) | (simp; omega) | omega) _)))⟩
theorem most_10 (f : Int) (w : World) : Calls Tryz.prog 70 #[.int .i64 10, .int .i64 f] w fun e w' => e = .returned (.int .i64 199) ∧ Below w.heap.size w w' := by
  go_enter Tryz.func70, Tryz.ntmps70
  go_wp2
  go_ret
  exact ⟨rfl, by (repeat (first | (with_reducible assumption) | (with_reducible exact Below.refl _ _) | (with_reducible refine grow_alloc ?_ _) | (with_reducible refine grow_mix ?_ _) | (with_reducible refine grow_drew ?_) | (with_reducible refine grow_drewN ?_ _) | (with_reducible refine grow_set ?_ (by first | (simp; done) | (simp; omega) | omega) _)))⟩
theorem most_11 (f : Int) (w : World) : Calls Tryz.prog 70 #[.int .i64 11, .int .i64 f] w fun e w' => e = .returned (.int .i64 199) ∧ Below w.heap.size w w' := by
  go_enter Tryz.func70, Tryz.ntmps70
  go_wp2
  go_ret
  exact ⟨rfl, by (repeat (first | (with_reducible assumption) | (with_reducible exact Below.refl _ _) | (with_reducible refine grow_alloc ?_ _) | (with_reducible refine grow_mix ?_ _) | (with_reducible refine grow_drew ?_) | (with_reducible refine grow_drewN ?_ _) | (with_reducible refine grow_set ?_ (by first | (simp; done) | (simp; omega) | omega) _)))⟩
theorem most_13_0 (w : World) : Calls Tryz.prog 70 #[.int .i64 13, .int .i64 0] w fun e w' => e = .returned (.int .i64 15) ∧ Below w.heap.size w w' := by
  go_enter Tryz.func70, Tryz.ntmps70
  go_wp2
  go_ret
  exact ⟨rfl, by (repeat (first | (with_reducible assumption) | (with_reducible exact Below.refl _ _) | (with_reducible refine grow_alloc ?_ _) | (with_reducible refine grow_mix ?_ _) | (with_reducible refine grow_drew ?_) | (with_reducible refine grow_drewN ?_ _) | (with_reducible refine grow_set ?_ (by first | (simp; done) | (simp; omega) | omega) _)))⟩
theorem most_13_1 (w : World) : Calls Tryz.prog 70 #[.int .i64 13, .int .i64 1] w fun e w' => e = .returned (.int .i64 7) ∧ Below w.heap.size w w' := by
  go_enter Tryz.func70, Tryz.ntmps70
  go_wp2
  go_ret
  exact ⟨rfl, by (repeat (first | (with_reducible assumption) | (with_reducible exact Below.refl _ _) | (with_reducible refine grow_alloc ?_ _) | (with_reducible refine grow_mix ?_ _) | (with_reducible refine grow_drew ?_) | (with_reducible refine grow_drewN ?_ _) | (with_reducible refine grow_set ?_ (by first | (simp; done) | (simp; omega) | omega) _)))⟩
theorem most_14 (f : Int) (w : World) : Calls Tryz.prog 70 #[.int .i64 14, .int .i64 f] w fun e w' => e = .returned (.int .i64 7) ∧ Below w.heap.size w w' := by
  go_enter Tryz.func70, Tryz.ntmps70
  go_wp2
  go_ret
  exact ⟨rfl, by (repeat (first | (with_reducible assumption) | (with_reducible exact Below.refl _ _) | (with_reducible refine grow_alloc ?_ _) | (with_reducible refine grow_mix ?_ _) | (with_reducible refine grow_drew ?_) | (with_reducible refine grow_drewN ?_ _) | (with_reducible refine grow_set ?_ (by first | (simp; done) | (simp; omega) | omega) _)))⟩
set_option maxHeartbeats 400000 in
theorem most_none (n f : Int) (h0 : (n == 0) = false) (h1 : (n == 1) = false) (h2 : (n == 2) = false) (h10 : (n == 10) = false) (h11 : (n == 11) = false) (h13 : (n == 13) = false) (h14 : (n == 14) = false) (w : World) : Calls Tryz.prog 70 #[.int .i64 n, .int .i64 f] w fun e w' => e = .returned (.int .i64 255) ∧ Below w.heap.size w w' := by
  go_enter Tryz.func70, Tryz.ntmps70
  go_wp2
  go_ret
  exact ⟨rfl, by (repeat (first | (with_reducible assumption) | (with_reducible exact Below.refl _ _) | (with_reducible refine grow_alloc ?_ _) | (with_reducible refine grow_mix ?_ _) | (with_reducible refine grow_drew ?_) | (with_reducible refine grow_drewN ?_ _) | (with_reducible refine grow_set ?_ (by first | (simp; done) | (simp; omega) | omega) _)))⟩
theorem most_calls (n f : Int) (hf : f = 0 ∨ f = 1) (w : World) : Calls Tryz.prog 70 #[.int .i64 n, .int .i64 f] w fun e w' => e = .returned (.int .i64 (mostR n f)) ∧ Below w.heap.size w w' := by
  by_cases h0 : n = 0
  · subst h0; exact most_0 f w
  by_cases h1 : n = 1
  · subst h1; exact most_1 f w
  by_cases h2 : n = 2
  · subst h2; exact most_2 f w
  by_cases h10 : n = 10
  · subst h10; exact most_10 f w
  by_cases h11 : n = 11
  · subst h11; exact most_11 f w
  by_cases h13 : n = 13
  · subst h13; rcases hf with rfl | rfl
    · exact most_13_0 w
    · exact most_13_1 w
  by_cases h14 : n = 14
  · subst h14; exact most_14 f w
  have e : mostR n f = 255 := by unfold mostR; simp [h0, h1, h2, h10, h11, h13, h14]
  rw [e]
  exact most_none n f (by simpa using h0) (by simpa using h1) (by simpa using h2) (by simpa using h10) (by simpa using h11) (by simpa using h13) (by simpa using h14) w
end Go.Proofs.YtedkfipjooafeaaGreatDoor.Code
set_option linter.unusedSimpArgs false
set_option linter.unusedVariables false
namespace Go.Proofs.YtedkfipjooafeaaGreatDoor.Code
open Go Go.RowKit Go.Proofs.YtedkfipjooafeaaGreatDoor Go.Proofs.YtedkfipjooafeaaGreatDoor.Op

def mayN (o a b n m0 m1 : Int) : Bool := decide (0 ≤ o ∧ o ≤ 16 ∧ 0 ≤ a ∧ 0 ≤ b ∧ (n < 2 → b = 0) ∧ (n < 1 → a = 0) ∧ (o = 16 → 16 ≤ a) ∧ (1 ≤ n → a ≤ m0) ∧ (2 ≤ n → b ≤ m1))
section
variable (a b m0 m1 : Int) (w : World)
set_option maxHeartbeats 8000000 in
theorem MayR_0 (o : Int) (h0 : ¬ o < 0) (h1 : ¬ 16 < o) (h16 : (o == 16) = false) (hM0 : ∀ W, Calls Tryz.prog 70 #[.int .i64 o, .int .i64 0] W fun e w' => e = .returned (.int .i64 m0) ∧ Below W.heap.size W w')
    (hM1 : ∀ W, Calls Tryz.prog 70 #[.int .i64 o, .int .i64 1] W fun e w' => e = .returned (.int .i64 m1) ∧ Below W.heap.size W w')
    (hF : ∀ W, Calls Tryz.prog 51 #[.int .i64 o] W fun e w' => e = .returned (.int .i64 0) ∧ Below W.heap.size W w') :
    Calls Tryz.prog 38 #[.agg #[.int .i64 o, .int .i64 a, .int .i64 b]] w fun e w' => e = .returned (.bool (mayN o a b 0 m0 m1)) ∧ Below w.heap.size w w' := by
  have M0 := Lib.hid hM0
  have M1 := Lib.hid hM1
  have F := Lib.hid hF
  clear hM0 hM1 hF
  have hne : ¬ o = 16 := by simpa using h16
  by_cases h2 : a < 0
  ·
    go_enter Tryz.func38, Tryz.ntmps38
    go_wp2_with (first | (go_at_call 51; (with_reducible refine (F.out _).mono ?_); rintro e w' ⟨rfl, hb⟩; have hz := hb.size; (first | (obtain ⟨x1, rfl⟩ := to_mix2 hb) | (obtain ⟨x1, rfl⟩ := to_mix hb)); clear hb; (try simp only [World.size_alloc, World.size_setCell, World.size_drew] at hz); (try have q0 : w.heap.size < _ := Nat.lt_of_lt_of_le (by omega) hz); (try have q1 : w.heap.size + 1 < _ := Nat.lt_of_lt_of_le (by omega) hz); (try have q2 : w.heap.size + 1 + 1 < _ := Nat.lt_of_lt_of_le (by omega) hz); (try have q3 : w.heap.size + 1 + 1 + 1 < _ := Nat.lt_of_lt_of_le (by omega) hz)))
    go_ret
    exact ⟨by rw [show mayN o a b 0 m0 m1 = false from decide_eq_false (by omega)]; rfl, by (repeat (first | (with_reducible assumption) | (with_reducible exact Below.refl _ _) | (with_reducible refine grow_alloc ?_ _) | (with_reducible refine grow_mix ?_ _) | (with_reducible refine grow_drew ?_) | (with_reducible refine grow_drewN ?_ _) | (with_reducible refine grow_set ?_ (by first | (simp; done) | (simp; omega) | omega) _)))⟩
  by_cases h3 : b < 0
  ·
    go_enter Tryz.func38, Tryz.ntmps38
    go_wp2_with (first | (go_at_call 51; (with_reducible refine (F.out _).mono ?_); rintro e w' ⟨rfl, hb⟩; have hz := hb.size; (first | (obtain ⟨x1, rfl⟩ := to_mix2 hb) | (obtain ⟨x1, rfl⟩ := to_mix hb)); clear hb; (try simp only [World.size_alloc, World.size_setCell, World.size_drew] at hz); (try have q0 : w.heap.size < _ := Nat.lt_of_lt_of_le (by omega) hz); (try have q1 : w.heap.size + 1 < _ := Nat.lt_of_lt_of_le (by omega) hz); (try have q2 : w.heap.size + 1 + 1 < _ := Nat.lt_of_lt_of_le (by omega) hz); (try have q3 : w.heap.size + 1 + 1 + 1 < _ := Nat.lt_of_lt_of_le (by omega) hz)))
    go_ret
    exact ⟨by rw [show mayN o a b 0 m0 m1 = false from decide_eq_false (by omega)]; rfl, by (repeat (first | (with_reducible assumption) | (with_reducible exact Below.refl _ _) | (with_reducible refine grow_alloc ?_ _) | (with_reducible refine grow_mix ?_ _) | (with_reducible refine grow_drew ?_) | (with_reducible refine grow_drewN ?_ _) | (with_reducible refine grow_set ?_ (by first | (simp; done) | (simp; omega) | omega) _)))⟩
  by_cases h4 : b = 0
  rotate_left
  ·
    have h4' : (b != 0) = true := by simpa using h4
    go_enter Tryz.func38, Tryz.ntmps38
    go_wp2_with (first | (go_at_call 51; (with_reducible refine (F.out _).mono ?_); rintro e w' ⟨rfl, hb⟩; have hz := hb.size; (first | (obtain ⟨x1, rfl⟩ := to_mix2 hb) | (obtain ⟨x1, rfl⟩ := to_mix hb)); clear hb; (try simp only [World.size_alloc, World.size_setCell, World.size_drew] at hz); (try have q0 : w.heap.size < _ := Nat.lt_of_lt_of_le (by omega) hz); (try have q1 : w.heap.size + 1 < _ := Nat.lt_of_lt_of_le (by omega) hz); (try have q2 : w.heap.size + 1 + 1 < _ := Nat.lt_of_lt_of_le (by omega) hz); (try have q3 : w.heap.size + 1 + 1 + 1 < _ := Nat.lt_of_lt_of_le (by omega) hz)))
    go_ret
    exact ⟨by rw [show mayN o a b 0 m0 m1 = false from decide_eq_false (by omega)]; rfl, by (repeat (first | (with_reducible assumption) | (with_reducible exact Below.refl _ _) | (with_reducible refine grow_alloc ?_ _) | (with_reducible refine grow_mix ?_ _) | (with_reducible refine grow_drew ?_) | (with_reducible refine grow_drewN ?_ _) | (with_reducible refine grow_set ?_ (by first | (simp; done) | (simp; omega) | omega) _)))⟩
  subst h4
  by_cases h5 : a = 0
  rotate_left
  ·
    have h5' : (a != 0) = true := by simpa using h5
    go_enter Tryz.func38, Tryz.ntmps38
    go_wp2_with (first | (go_at_call 51; (with_reducible refine (F.out _).mono ?_); rintro e w' ⟨rfl, hb⟩; have hz := hb.size; (first | (obtain ⟨x1, rfl⟩ := to_mix2 hb) | (obtain ⟨x1, rfl⟩ := to_mix hb)); clear hb; (try simp only [World.size_alloc, World.size_setCell, World.size_drew] at hz); (try have q0 : w.heap.size < _ := Nat.lt_of_lt_of_le (by omega) hz); (try have q1 : w.heap.size + 1 < _ := Nat.lt_of_lt_of_le (by omega) hz); (try have q2 : w.heap.size + 1 + 1 < _ := Nat.lt_of_lt_of_le (by omega) hz); (try have q3 : w.heap.size + 1 + 1 + 1 < _ := Nat.lt_of_lt_of_le (by omega) hz)))
    go_ret
    exact ⟨by rw [show mayN o a 0 0 m0 m1 = false from decide_eq_false (by omega)]; rfl, by (repeat (first | (with_reducible assumption) | (with_reducible exact Below.refl _ _) | (with_reducible refine grow_alloc ?_ _) | (with_reducible refine grow_mix ?_ _) | (with_reducible refine grow_drew ?_) | (with_reducible refine grow_drewN ?_ _) | (with_reducible refine grow_set ?_ (by first | (simp; done) | (simp; omega) | omega) _)))⟩
  subst h5
  go_enter Tryz.func38, Tryz.ntmps38
  go_wp2_with (first | (go_at_call 51; (with_reducible refine (F.out _).mono ?_); rintro e w' ⟨rfl, hb⟩; have hz := hb.size; (first | (obtain ⟨x1, rfl⟩ := to_mix2 hb) | (obtain ⟨x1, rfl⟩ := to_mix hb)); clear hb; (try simp only [World.size_alloc, World.size_setCell, World.size_drew] at hz); (try have q0 : w.heap.size < _ := Nat.lt_of_lt_of_le (by omega) hz); (try have q1 : w.heap.size + 1 < _ := Nat.lt_of_lt_of_le (by omega) hz); (try have q2 : w.heap.size + 1 + 1 < _ := Nat.lt_of_lt_of_le (by omega) hz); (try have q3 : w.heap.size + 1 + 1 + 1 < _ := Nat.lt_of_lt_of_le (by omega) hz)))
  refine wp_region_mix 22 (by kernel_rfl) (by kernel_rfl) ?_
  simp only [List.take_succ_cons, List.take_zero, List.drop_succ_cons, List.drop_zero]
  repeat (go_big_quiet_step (((first | (go_at_call 70; (with_reducible exact mix_call (M0.out _))) | (go_at_call 70; (with_reducible exact mix_call (M1.out _)))))))
  refine wpQuiet_nil ?_
  intro _ hmix
  (try (with_reducible replace hmix := mix_flat hmix))
  obtain ⟨x1, hmix'⟩ := hmix
  have hz := mix_size' hmix'
  subst hmix'
  (try simp only [World.size_alloc, World.size_setCell, World.size_drew] at hz); (try have q0 : w.heap.size < _ := Nat.lt_of_lt_of_le (by omega) hz); (try have q1 : w.heap.size + 1 < _ := Nat.lt_of_lt_of_le (by omega) hz); (try have q2 : w.heap.size + 1 + 1 < _ := Nat.lt_of_lt_of_le (by omega) hz); (try have q3 : w.heap.size + 1 + 1 + 1 < _ := Nat.lt_of_lt_of_le (by omega) hz)
  go_wp2
  go_ret
  exact ⟨by rw [show mayN o 0 0 0 m0 m1 = true from decide_eq_true (by omega)]; rfl, by (repeat (first | (with_reducible assumption) | (with_reducible exact Below.refl _ _) | (with_reducible refine grow_alloc ?_ _) | (with_reducible refine grow_mix ?_ _) | (with_reducible refine grow_drew ?_) | (with_reducible refine grow_drewN ?_ _) | (with_reducible refine grow_set ?_ (by first | (simp; done) | (simp; omega) | omega) _)))⟩
set_option maxHeartbeats 8000000 in
theorem MayR_1 (o : Int) (h0 : ¬ o < 0) (h1 : ¬ 16 < o) (h16 : (o == 16) = false) (hM0 : ∀ W, Calls Tryz.prog 70 #[.int .i64 o, .int .i64 0] W fun e w' => e = .returned (.int .i64 m0) ∧ Below W.heap.size W w')
    (hM1 : ∀ W, Calls Tryz.prog 70 #[.int .i64 o, .int .i64 1] W fun e w' => e = .returned (.int .i64 m1) ∧ Below W.heap.size W w')
    (hF : ∀ W, Calls Tryz.prog 51 #[.int .i64 o] W fun e w' => e = .returned (.int .i64 1) ∧ Below W.heap.size W w') :
    Calls Tryz.prog 38 #[.agg #[.int .i64 o, .int .i64 a, .int .i64 b]] w fun e w' => e = .returned (.bool (mayN o a b 1 m0 m1)) ∧ Below w.heap.size w w' := by
  have M0 := Lib.hid hM0
  have M1 := Lib.hid hM1
  have F := Lib.hid hF
  clear hM0 hM1 hF
  have hne : ¬ o = 16 := by simpa using h16
  by_cases h2 : a < 0
  ·
    go_enter Tryz.func38, Tryz.ntmps38
    go_wp2_with (first | (go_at_call 51; (with_reducible refine (F.out _).mono ?_); rintro e w' ⟨rfl, hb⟩; have hz := hb.size; (first | (obtain ⟨x1, rfl⟩ := to_mix2 hb) | (obtain ⟨x1, rfl⟩ := to_mix hb)); clear hb; (try simp only [World.size_alloc, World.size_setCell, World.size_drew] at hz); (try have q0 : w.heap.size < _ := Nat.lt_of_lt_of_le (by omega) hz); (try have q1 : w.heap.size + 1 < _ := Nat.lt_of_lt_of_le (by omega) hz); (try have q2 : w.heap.size + 1 + 1 < _ := Nat.lt_of_lt_of_le (by omega) hz); (try have q3 : w.heap.size + 1 + 1 + 1 < _ := Nat.lt_of_lt_of_le (by omega) hz)))
    go_ret
    exact ⟨by rw [show mayN o a b 1 m0 m1 = false from decide_eq_false (by omega)]; rfl, by (repeat (first | (with_reducible assumption) | (with_reducible exact Below.refl _ _) | (with_reducible refine grow_alloc ?_ _) | (with_reducible refine grow_mix ?_ _) | (with_reducible refine grow_drew ?_) | (with_reducible refine grow_drewN ?_ _) | (with_reducible refine grow_set ?_ (by first | (simp; done) | (simp; omega) | omega) _)))⟩
  by_cases h3 : b < 0
  ·
    go_enter Tryz.func38, Tryz.ntmps38
    go_wp2_with (first | (go_at_call 51; (with_reducible refine (F.out _).mono ?_); rintro e w' ⟨rfl, hb⟩; have hz := hb.size; (first | (obtain ⟨x1, rfl⟩ := to_mix2 hb) | (obtain ⟨x1, rfl⟩ := to_mix hb)); clear hb; (try simp only [World.size_alloc, World.size_setCell, World.size_drew] at hz); (try have q0 : w.heap.size < _ := Nat.lt_of_lt_of_le (by omega) hz); (try have q1 : w.heap.size + 1 < _ := Nat.lt_of_lt_of_le (by omega) hz); (try have q2 : w.heap.size + 1 + 1 < _ := Nat.lt_of_lt_of_le (by omega) hz); (try have q3 : w.heap.size + 1 + 1 + 1 < _ := Nat.lt_of_lt_of_le (by omega) hz)))
    go_ret
    exact ⟨by rw [show mayN o a b 1 m0 m1 = false from decide_eq_false (by omega)]; rfl, by (repeat (first | (with_reducible assumption) | (with_reducible exact Below.refl _ _) | (with_reducible refine grow_alloc ?_ _) | (with_reducible refine grow_mix ?_ _) | (with_reducible refine grow_drew ?_) | (with_reducible refine grow_drewN ?_ _) | (with_reducible refine grow_set ?_ (by first | (simp; done) | (simp; omega) | omega) _)))⟩
  by_cases h4 : b = 0
  rotate_left
  ·
    have h4' : (b != 0) = true := by simpa using h4
    go_enter Tryz.func38, Tryz.ntmps38
    go_wp2_with (first | (go_at_call 51; (with_reducible refine (F.out _).mono ?_); rintro e w' ⟨rfl, hb⟩; have hz := hb.size; (first | (obtain ⟨x1, rfl⟩ := to_mix2 hb) | (obtain ⟨x1, rfl⟩ := to_mix hb)); clear hb; (try simp only [World.size_alloc, World.size_setCell, World.size_drew] at hz); (try have q0 : w.heap.size < _ := Nat.lt_of_lt_of_le (by omega) hz); (try have q1 : w.heap.size + 1 < _ := Nat.lt_of_lt_of_le (by omega) hz); (try have q2 : w.heap.size + 1 + 1 < _ := Nat.lt_of_lt_of_le (by omega) hz); (try have q3 : w.heap.size + 1 + 1 + 1 < _ := Nat.lt_of_lt_of_le (by omega) hz)))
    go_ret
    exact ⟨by rw [show mayN o a b 1 m0 m1 = false from decide_eq_false (by omega)]; rfl, by (repeat (first | (with_reducible assumption) | (with_reducible exact Below.refl _ _) | (with_reducible refine grow_alloc ?_ _) | (with_reducible refine grow_mix ?_ _) | (with_reducible refine grow_drew ?_) | (with_reducible refine grow_drewN ?_ _) | (with_reducible refine grow_set ?_ (by first | (simp; done) | (simp; omega) | omega) _)))⟩
  subst h4
  by_cases h7 : a ≤ m0
  rotate_left
  ·
    have hd7 : decide (a ≤ m0) = false := decide_eq_false h7
    go_enter Tryz.func38, Tryz.ntmps38
    go_wp2_with (first | (go_at_call 51; (with_reducible refine (F.out _).mono ?_); rintro e w' ⟨rfl, hb⟩; have hz := hb.size; (first | (obtain ⟨x1, rfl⟩ := to_mix2 hb) | (obtain ⟨x1, rfl⟩ := to_mix hb)); clear hb; (try simp only [World.size_alloc, World.size_setCell, World.size_drew] at hz); (try have q0 : w.heap.size < _ := Nat.lt_of_lt_of_le (by omega) hz); (try have q1 : w.heap.size + 1 < _ := Nat.lt_of_lt_of_le (by omega) hz); (try have q2 : w.heap.size + 1 + 1 < _ := Nat.lt_of_lt_of_le (by omega) hz); (try have q3 : w.heap.size + 1 + 1 + 1 < _ := Nat.lt_of_lt_of_le (by omega) hz)))
    refine wp_region_mix 22 (by kernel_rfl) (by kernel_rfl) ?_
    simp only [List.take_succ_cons, List.take_zero, List.drop_succ_cons, List.drop_zero]
    repeat (go_big_quiet_step (((first | (go_at_call 70; (with_reducible exact mix_call (M0.out _))) | (go_at_call 70; (with_reducible exact mix_call (M1.out _)))))))
    refine wpQuiet_nil ?_
    intro _ hmix
    (try (with_reducible replace hmix := mix_flat hmix))
    obtain ⟨x1, hmix'⟩ := hmix
    have hz := mix_size' hmix'
    subst hmix'
    (try simp only [World.size_alloc, World.size_setCell, World.size_drew] at hz); (try have q0 : w.heap.size < _ := Nat.lt_of_lt_of_le (by omega) hz); (try have q1 : w.heap.size + 1 < _ := Nat.lt_of_lt_of_le (by omega) hz); (try have q2 : w.heap.size + 1 + 1 < _ := Nat.lt_of_lt_of_le (by omega) hz); (try have q3 : w.heap.size + 1 + 1 + 1 < _ := Nat.lt_of_lt_of_le (by omega) hz)
    go_wp2
    go_ret
    exact ⟨by rw [show mayN o a 0 1 m0 m1 = false from decide_eq_false (by omega)]; rfl, by (repeat (first | (with_reducible assumption) | (with_reducible exact Below.refl _ _) | (with_reducible refine grow_alloc ?_ _) | (with_reducible refine grow_mix ?_ _) | (with_reducible refine grow_drew ?_) | (with_reducible refine grow_drewN ?_ _) | (with_reducible refine grow_set ?_ (by first | (simp; done) | (simp; omega) | omega) _)))⟩
  go_enter Tryz.func38, Tryz.ntmps38
  go_wp2_with (first | (go_at_call 51; (with_reducible refine (F.out _).mono ?_); rintro e w' ⟨rfl, hb⟩; have hz := hb.size; (first | (obtain ⟨x1, rfl⟩ := to_mix2 hb) | (obtain ⟨x1, rfl⟩ := to_mix hb)); clear hb; (try simp only [World.size_alloc, World.size_setCell, World.size_drew] at hz); (try have q0 : w.heap.size < _ := Nat.lt_of_lt_of_le (by omega) hz); (try have q1 : w.heap.size + 1 < _ := Nat.lt_of_lt_of_le (by omega) hz); (try have q2 : w.heap.size + 1 + 1 < _ := Nat.lt_of_lt_of_le (by omega) hz); (try have q3 : w.heap.size + 1 + 1 + 1 < _ := Nat.lt_of_lt_of_le (by omega) hz)))
  refine wp_region_mix 22 (by kernel_rfl) (by kernel_rfl) ?_
  simp only [List.take_succ_cons, List.take_zero, List.drop_succ_cons, List.drop_zero]
  repeat (go_big_quiet_step (((first | (go_at_call 70; (with_reducible exact mix_call (M0.out _))) | (go_at_call 70; (with_reducible exact mix_call (M1.out _)))))))
  refine wpQuiet_nil ?_
  intro _ hmix
  (try (with_reducible replace hmix := mix_flat hmix))
  obtain ⟨x1, hmix'⟩ := hmix
  have hz := mix_size' hmix'
  subst hmix'
  (try simp only [World.size_alloc, World.size_setCell, World.size_drew] at hz); (try have q0 : w.heap.size < _ := Nat.lt_of_lt_of_le (by omega) hz); (try have q1 : w.heap.size + 1 < _ := Nat.lt_of_lt_of_le (by omega) hz); (try have q2 : w.heap.size + 1 + 1 < _ := Nat.lt_of_lt_of_le (by omega) hz); (try have q3 : w.heap.size + 1 + 1 + 1 < _ := Nat.lt_of_lt_of_le (by omega) hz)
  go_wp2
  go_ret
  exact ⟨by rw [show mayN o a 0 1 m0 m1 = true from decide_eq_true (by omega)]; rfl, by (repeat (first | (with_reducible assumption) | (with_reducible exact Below.refl _ _) | (with_reducible refine grow_alloc ?_ _) | (with_reducible refine grow_mix ?_ _) | (with_reducible refine grow_drew ?_) | (with_reducible refine grow_drewN ?_ _) | (with_reducible refine grow_set ?_ (by first | (simp; done) | (simp; omega) | omega) _)))⟩
set_option maxHeartbeats 8000000 in
theorem MayR_2 (o : Int) (h0 : ¬ o < 0) (h1 : ¬ 16 < o) (h16 : (o == 16) = false) (hM0 : ∀ W, Calls Tryz.prog 70 #[.int .i64 o, .int .i64 0] W fun e w' => e = .returned (.int .i64 m0) ∧ Below W.heap.size W w')
    (hM1 : ∀ W, Calls Tryz.prog 70 #[.int .i64 o, .int .i64 1] W fun e w' => e = .returned (.int .i64 m1) ∧ Below W.heap.size W w')
    (hF : ∀ W, Calls Tryz.prog 51 #[.int .i64 o] W fun e w' => e = .returned (.int .i64 2) ∧ Below W.heap.size W w') :
    Calls Tryz.prog 38 #[.agg #[.int .i64 o, .int .i64 a, .int .i64 b]] w fun e w' => e = .returned (.bool (mayN o a b 2 m0 m1)) ∧ Below w.heap.size w w' := by
  have M0 := Lib.hid hM0
  have M1 := Lib.hid hM1
  have F := Lib.hid hF
  clear hM0 hM1 hF
  have hne : ¬ o = 16 := by simpa using h16
  by_cases h2 : a < 0
  ·
    go_enter Tryz.func38, Tryz.ntmps38
    go_wp2_with (first | (go_at_call 51; (with_reducible refine (F.out _).mono ?_); rintro e w' ⟨rfl, hb⟩; have hz := hb.size; (first | (obtain ⟨x1, rfl⟩ := to_mix2 hb) | (obtain ⟨x1, rfl⟩ := to_mix hb)); clear hb; (try simp only [World.size_alloc, World.size_setCell, World.size_drew] at hz); (try have q0 : w.heap.size < _ := Nat.lt_of_lt_of_le (by omega) hz); (try have q1 : w.heap.size + 1 < _ := Nat.lt_of_lt_of_le (by omega) hz); (try have q2 : w.heap.size + 1 + 1 < _ := Nat.lt_of_lt_of_le (by omega) hz); (try have q3 : w.heap.size + 1 + 1 + 1 < _ := Nat.lt_of_lt_of_le (by omega) hz)))
    go_ret
    exact ⟨by rw [show mayN o a b 2 m0 m1 = false from decide_eq_false (by omega)]; rfl, by (repeat (first | (with_reducible assumption) | (with_reducible exact Below.refl _ _) | (with_reducible refine grow_alloc ?_ _) | (with_reducible refine grow_mix ?_ _) | (with_reducible refine grow_drew ?_) | (with_reducible refine grow_drewN ?_ _) | (with_reducible refine grow_set ?_ (by first | (simp; done) | (simp; omega) | omega) _)))⟩
  by_cases h3 : b < 0
  ·
    go_enter Tryz.func38, Tryz.ntmps38
    go_wp2_with (first | (go_at_call 51; (with_reducible refine (F.out _).mono ?_); rintro e w' ⟨rfl, hb⟩; have hz := hb.size; (first | (obtain ⟨x1, rfl⟩ := to_mix2 hb) | (obtain ⟨x1, rfl⟩ := to_mix hb)); clear hb; (try simp only [World.size_alloc, World.size_setCell, World.size_drew] at hz); (try have q0 : w.heap.size < _ := Nat.lt_of_lt_of_le (by omega) hz); (try have q1 : w.heap.size + 1 < _ := Nat.lt_of_lt_of_le (by omega) hz); (try have q2 : w.heap.size + 1 + 1 < _ := Nat.lt_of_lt_of_le (by omega) hz); (try have q3 : w.heap.size + 1 + 1 + 1 < _ := Nat.lt_of_lt_of_le (by omega) hz)))
    go_ret
    exact ⟨by rw [show mayN o a b 2 m0 m1 = false from decide_eq_false (by omega)]; rfl, by (repeat (first | (with_reducible assumption) | (with_reducible exact Below.refl _ _) | (with_reducible refine grow_alloc ?_ _) | (with_reducible refine grow_mix ?_ _) | (with_reducible refine grow_drew ?_) | (with_reducible refine grow_drewN ?_ _) | (with_reducible refine grow_set ?_ (by first | (simp; done) | (simp; omega) | omega) _)))⟩
  by_cases h7 : a ≤ m0
  rotate_left
  ·
    have hd7 : decide (a ≤ m0) = false := decide_eq_false h7
    go_enter Tryz.func38, Tryz.ntmps38
    go_wp2_with (first | (go_at_call 51; (with_reducible refine (F.out _).mono ?_); rintro e w' ⟨rfl, hb⟩; have hz := hb.size; (first | (obtain ⟨x1, rfl⟩ := to_mix2 hb) | (obtain ⟨x1, rfl⟩ := to_mix hb)); clear hb; (try simp only [World.size_alloc, World.size_setCell, World.size_drew] at hz); (try have q0 : w.heap.size < _ := Nat.lt_of_lt_of_le (by omega) hz); (try have q1 : w.heap.size + 1 < _ := Nat.lt_of_lt_of_le (by omega) hz); (try have q2 : w.heap.size + 1 + 1 < _ := Nat.lt_of_lt_of_le (by omega) hz); (try have q3 : w.heap.size + 1 + 1 + 1 < _ := Nat.lt_of_lt_of_le (by omega) hz)))
    refine wp_region_mix 22 (by kernel_rfl) (by kernel_rfl) ?_
    simp only [List.take_succ_cons, List.take_zero, List.drop_succ_cons, List.drop_zero]
    repeat (go_big_quiet_step (((first | (go_at_call 70; (with_reducible exact mix_call (M0.out _))) | (go_at_call 70; (with_reducible exact mix_call (M1.out _)))))))
    refine wpQuiet_nil ?_
    intro _ hmix
    (try (with_reducible replace hmix := mix_flat hmix))
    obtain ⟨x1, hmix'⟩ := hmix
    have hz := mix_size' hmix'
    subst hmix'
    (try simp only [World.size_alloc, World.size_setCell, World.size_drew] at hz); (try have q0 : w.heap.size < _ := Nat.lt_of_lt_of_le (by omega) hz); (try have q1 : w.heap.size + 1 < _ := Nat.lt_of_lt_of_le (by omega) hz); (try have q2 : w.heap.size + 1 + 1 < _ := Nat.lt_of_lt_of_le (by omega) hz); (try have q3 : w.heap.size + 1 + 1 + 1 < _ := Nat.lt_of_lt_of_le (by omega) hz)
    go_wp2
    go_ret
    exact ⟨by rw [show mayN o a b 2 m0 m1 = false from decide_eq_false (by omega)]; rfl, by (repeat (first | (with_reducible assumption) | (with_reducible exact Below.refl _ _) | (with_reducible refine grow_alloc ?_ _) | (with_reducible refine grow_mix ?_ _) | (with_reducible refine grow_drew ?_) | (with_reducible refine grow_drewN ?_ _) | (with_reducible refine grow_set ?_ (by first | (simp; done) | (simp; omega) | omega) _)))⟩
  by_cases h8 : b ≤ m1
  rotate_left
  ·
    have hd8 : decide (b ≤ m1) = false := decide_eq_false h8
    go_enter Tryz.func38, Tryz.ntmps38
    go_wp2_with (first | (go_at_call 51; (with_reducible refine (F.out _).mono ?_); rintro e w' ⟨rfl, hb⟩; have hz := hb.size; (first | (obtain ⟨x1, rfl⟩ := to_mix2 hb) | (obtain ⟨x1, rfl⟩ := to_mix hb)); clear hb; (try simp only [World.size_alloc, World.size_setCell, World.size_drew] at hz); (try have q0 : w.heap.size < _ := Nat.lt_of_lt_of_le (by omega) hz); (try have q1 : w.heap.size + 1 < _ := Nat.lt_of_lt_of_le (by omega) hz); (try have q2 : w.heap.size + 1 + 1 < _ := Nat.lt_of_lt_of_le (by omega) hz); (try have q3 : w.heap.size + 1 + 1 + 1 < _ := Nat.lt_of_lt_of_le (by omega) hz)))
    refine wp_region_mix 22 (by kernel_rfl) (by kernel_rfl) ?_
    simp only [List.take_succ_cons, List.take_zero, List.drop_succ_cons, List.drop_zero]
    repeat (go_big_quiet_step (((first | (go_at_call 70; (with_reducible exact mix_call (M0.out _))) | (go_at_call 70; (with_reducible exact mix_call (M1.out _)))))))
    refine wpQuiet_nil ?_
    intro _ hmix
    (try (with_reducible replace hmix := mix_flat hmix))
    obtain ⟨x1, hmix'⟩ := hmix
    have hz := mix_size' hmix'
    subst hmix'
    (try simp only [World.size_alloc, World.size_setCell, World.size_drew] at hz); (try have q0 : w.heap.size < _ := Nat.lt_of_lt_of_le (by omega) hz); (try have q1 : w.heap.size + 1 < _ := Nat.lt_of_lt_of_le (by omega) hz); (try have q2 : w.heap.size + 1 + 1 < _ := Nat.lt_of_lt_of_le (by omega) hz); (try have q3 : w.heap.size + 1 + 1 + 1 < _ := Nat.lt_of_lt_of_le (by omega) hz)
    go_wp2
    go_ret
    exact ⟨by rw [show mayN o a b 2 m0 m1 = false from decide_eq_false (by omega)]; rfl, by (repeat (first | (with_reducible assumption) | (with_reducible exact Below.refl _ _) | (with_reducible refine grow_alloc ?_ _) | (with_reducible refine grow_mix ?_ _) | (with_reducible refine grow_drew ?_) | (with_reducible refine grow_drewN ?_ _) | (with_reducible refine grow_set ?_ (by first | (simp; done) | (simp; omega) | omega) _)))⟩
  go_enter Tryz.func38, Tryz.ntmps38
  go_wp2_with (first | (go_at_call 51; (with_reducible refine (F.out _).mono ?_); rintro e w' ⟨rfl, hb⟩; have hz := hb.size; (first | (obtain ⟨x1, rfl⟩ := to_mix2 hb) | (obtain ⟨x1, rfl⟩ := to_mix hb)); clear hb; (try simp only [World.size_alloc, World.size_setCell, World.size_drew] at hz); (try have q0 : w.heap.size < _ := Nat.lt_of_lt_of_le (by omega) hz); (try have q1 : w.heap.size + 1 < _ := Nat.lt_of_lt_of_le (by omega) hz); (try have q2 : w.heap.size + 1 + 1 < _ := Nat.lt_of_lt_of_le (by omega) hz); (try have q3 : w.heap.size + 1 + 1 + 1 < _ := Nat.lt_of_lt_of_le (by omega) hz)))
  refine wp_region_mix 22 (by kernel_rfl) (by kernel_rfl) ?_
  simp only [List.take_succ_cons, List.take_zero, List.drop_succ_cons, List.drop_zero]
  repeat (go_big_quiet_step (((first | (go_at_call 70; (with_reducible exact mix_call (M0.out _))) | (go_at_call 70; (with_reducible exact mix_call (M1.out _)))))))
  refine wpQuiet_nil ?_
  intro _ hmix
  (try (with_reducible replace hmix := mix_flat hmix))
  obtain ⟨x1, hmix'⟩ := hmix
  have hz := mix_size' hmix'
  subst hmix'
  (try simp only [World.size_alloc, World.size_setCell, World.size_drew] at hz); (try have q0 : w.heap.size < _ := Nat.lt_of_lt_of_le (by omega) hz); (try have q1 : w.heap.size + 1 < _ := Nat.lt_of_lt_of_le (by omega) hz); (try have q2 : w.heap.size + 1 + 1 < _ := Nat.lt_of_lt_of_le (by omega) hz); (try have q3 : w.heap.size + 1 + 1 + 1 < _ := Nat.lt_of_lt_of_le (by omega) hz)
  go_wp2
  go_ret
  exact ⟨by rw [show mayN o a b 2 m0 m1 = true from decide_eq_true (by omega)]; rfl, by (repeat (first | (with_reducible assumption) | (with_reducible exact Below.refl _ _) | (with_reducible refine grow_alloc ?_ _) | (with_reducible refine grow_mix ?_ _) | (with_reducible refine grow_drew ?_) | (with_reducible refine grow_drewN ?_ _) | (with_reducible refine grow_set ?_ (by first | (simp; done) | (simp; omega) | omega) _)))⟩
set_option maxHeartbeats 8000000 in
theorem MayR_16 (hM0 : ∀ W, Calls Tryz.prog 70 #[.int .i64 16, .int .i64 0] W fun e w' => e = .returned (.int .i64 m0) ∧ Below W.heap.size W w')
    (hM1 : ∀ W, Calls Tryz.prog 70 #[.int .i64 16, .int .i64 1] W fun e w' => e = .returned (.int .i64 m1) ∧ Below W.heap.size W w')
    (hF : ∀ W, Calls Tryz.prog 51 #[.int .i64 16] W fun e w' => e = .returned (.int .i64 1) ∧ Below W.heap.size W w') :
    Calls Tryz.prog 38 #[.agg #[.int .i64 16, .int .i64 a, .int .i64 b]] w fun e w' => e = .returned (.bool (mayN 16 a b 1 m0 m1)) ∧ Below w.heap.size w w' := by
  have M0 := Lib.hid hM0
  have M1 := Lib.hid hM1
  have F := Lib.hid hF
  clear hM0 hM1 hF
  by_cases h2 : a < 0
  ·
    go_enter Tryz.func38, Tryz.ntmps38
    go_wp2_with (first | (go_at_call 51; (with_reducible refine (F.out _).mono ?_); rintro e w' ⟨rfl, hb⟩; have hz := hb.size; (first | (obtain ⟨x1, rfl⟩ := to_mix2 hb) | (obtain ⟨x1, rfl⟩ := to_mix hb)); clear hb; (try simp only [World.size_alloc, World.size_setCell, World.size_drew] at hz); (try have q0 : w.heap.size < _ := Nat.lt_of_lt_of_le (by omega) hz); (try have q1 : w.heap.size + 1 < _ := Nat.lt_of_lt_of_le (by omega) hz); (try have q2 : w.heap.size + 1 + 1 < _ := Nat.lt_of_lt_of_le (by omega) hz); (try have q3 : w.heap.size + 1 + 1 + 1 < _ := Nat.lt_of_lt_of_le (by omega) hz)))
    go_ret
    exact ⟨by rw [show mayN 16 a b 1 m0 m1 = false from decide_eq_false (by omega)]; rfl, by (repeat (first | (with_reducible assumption) | (with_reducible exact Below.refl _ _) | (with_reducible refine grow_alloc ?_ _) | (with_reducible refine grow_mix ?_ _) | (with_reducible refine grow_drew ?_) | (with_reducible refine grow_drewN ?_ _) | (with_reducible refine grow_set ?_ (by first | (simp; done) | (simp; omega) | omega) _)))⟩
  by_cases h3 : b < 0
  ·
    go_enter Tryz.func38, Tryz.ntmps38
    go_wp2_with (first | (go_at_call 51; (with_reducible refine (F.out _).mono ?_); rintro e w' ⟨rfl, hb⟩; have hz := hb.size; (first | (obtain ⟨x1, rfl⟩ := to_mix2 hb) | (obtain ⟨x1, rfl⟩ := to_mix hb)); clear hb; (try simp only [World.size_alloc, World.size_setCell, World.size_drew] at hz); (try have q0 : w.heap.size < _ := Nat.lt_of_lt_of_le (by omega) hz); (try have q1 : w.heap.size + 1 < _ := Nat.lt_of_lt_of_le (by omega) hz); (try have q2 : w.heap.size + 1 + 1 < _ := Nat.lt_of_lt_of_le (by omega) hz); (try have q3 : w.heap.size + 1 + 1 + 1 < _ := Nat.lt_of_lt_of_le (by omega) hz)))
    go_ret
    exact ⟨by rw [show mayN 16 a b 1 m0 m1 = false from decide_eq_false (by omega)]; rfl, by (repeat (first | (with_reducible assumption) | (with_reducible exact Below.refl _ _) | (with_reducible refine grow_alloc ?_ _) | (with_reducible refine grow_mix ?_ _) | (with_reducible refine grow_drew ?_) | (with_reducible refine grow_drewN ?_ _) | (with_reducible refine grow_set ?_ (by first | (simp; done) | (simp; omega) | omega) _)))⟩
  by_cases h4 : b = 0
  rotate_left
  ·
    have h4' : (b != 0) = true := by simpa using h4
    go_enter Tryz.func38, Tryz.ntmps38
    go_wp2_with (first | (go_at_call 51; (with_reducible refine (F.out _).mono ?_); rintro e w' ⟨rfl, hb⟩; have hz := hb.size; (first | (obtain ⟨x1, rfl⟩ := to_mix2 hb) | (obtain ⟨x1, rfl⟩ := to_mix hb)); clear hb; (try simp only [World.size_alloc, World.size_setCell, World.size_drew] at hz); (try have q0 : w.heap.size < _ := Nat.lt_of_lt_of_le (by omega) hz); (try have q1 : w.heap.size + 1 < _ := Nat.lt_of_lt_of_le (by omega) hz); (try have q2 : w.heap.size + 1 + 1 < _ := Nat.lt_of_lt_of_le (by omega) hz); (try have q3 : w.heap.size + 1 + 1 + 1 < _ := Nat.lt_of_lt_of_le (by omega) hz)))
    go_ret
    exact ⟨by rw [show mayN 16 a b 1 m0 m1 = false from decide_eq_false (by omega)]; rfl, by (repeat (first | (with_reducible assumption) | (with_reducible exact Below.refl _ _) | (with_reducible refine grow_alloc ?_ _) | (with_reducible refine grow_mix ?_ _) | (with_reducible refine grow_drew ?_) | (with_reducible refine grow_drewN ?_ _) | (with_reducible refine grow_set ?_ (by first | (simp; done) | (simp; omega) | omega) _)))⟩
  subst h4
  by_cases h6 : a < 16
  ·
    go_enter Tryz.func38, Tryz.ntmps38
    go_wp2_with (first | (go_at_call 51; (with_reducible refine (F.out _).mono ?_); rintro e w' ⟨rfl, hb⟩; have hz := hb.size; (first | (obtain ⟨x1, rfl⟩ := to_mix2 hb) | (obtain ⟨x1, rfl⟩ := to_mix hb)); clear hb; (try simp only [World.size_alloc, World.size_setCell, World.size_drew] at hz); (try have q0 : w.heap.size < _ := Nat.lt_of_lt_of_le (by omega) hz); (try have q1 : w.heap.size + 1 < _ := Nat.lt_of_lt_of_le (by omega) hz); (try have q2 : w.heap.size + 1 + 1 < _ := Nat.lt_of_lt_of_le (by omega) hz); (try have q3 : w.heap.size + 1 + 1 + 1 < _ := Nat.lt_of_lt_of_le (by omega) hz)))
    go_ret
    exact ⟨by rw [show mayN 16 a 0 1 m0 m1 = false from decide_eq_false (by omega)]; rfl, by (repeat (first | (with_reducible assumption) | (with_reducible exact Below.refl _ _) | (with_reducible refine grow_alloc ?_ _) | (with_reducible refine grow_mix ?_ _) | (with_reducible refine grow_drew ?_) | (with_reducible refine grow_drewN ?_ _) | (with_reducible refine grow_set ?_ (by first | (simp; done) | (simp; omega) | omega) _)))⟩
  by_cases h7 : a ≤ m0
  rotate_left
  ·
    have hd7 : decide (a ≤ m0) = false := decide_eq_false h7
    go_enter Tryz.func38, Tryz.ntmps38
    go_wp2_with (first | (go_at_call 51; (with_reducible refine (F.out _).mono ?_); rintro e w' ⟨rfl, hb⟩; have hz := hb.size; (first | (obtain ⟨x1, rfl⟩ := to_mix2 hb) | (obtain ⟨x1, rfl⟩ := to_mix hb)); clear hb; (try simp only [World.size_alloc, World.size_setCell, World.size_drew] at hz); (try have q0 : w.heap.size < _ := Nat.lt_of_lt_of_le (by omega) hz); (try have q1 : w.heap.size + 1 < _ := Nat.lt_of_lt_of_le (by omega) hz); (try have q2 : w.heap.size + 1 + 1 < _ := Nat.lt_of_lt_of_le (by omega) hz); (try have q3 : w.heap.size + 1 + 1 + 1 < _ := Nat.lt_of_lt_of_le (by omega) hz)))
    refine wp_region_mix 22 (by kernel_rfl) (by kernel_rfl) ?_
    simp only [List.take_succ_cons, List.take_zero, List.drop_succ_cons, List.drop_zero]
    repeat (go_big_quiet_step (((first | (go_at_call 70; (with_reducible exact mix_call (M0.out _))) | (go_at_call 70; (with_reducible exact mix_call (M1.out _)))))))
    refine wpQuiet_nil ?_
    intro _ hmix
    (try (with_reducible replace hmix := mix_flat hmix))
    obtain ⟨x1, hmix'⟩ := hmix
    have hz := mix_size' hmix'
    subst hmix'
    (try simp only [World.size_alloc, World.size_setCell, World.size_drew] at hz); (try have q0 : w.heap.size < _ := Nat.lt_of_lt_of_le (by omega) hz); (try have q1 : w.heap.size + 1 < _ := Nat.lt_of_lt_of_le (by omega) hz); (try have q2 : w.heap.size + 1 + 1 < _ := Nat.lt_of_lt_of_le (by omega) hz); (try have q3 : w.heap.size + 1 + 1 + 1 < _ := Nat.lt_of_lt_of_le (by omega) hz)
    go_wp2
    go_ret
    exact ⟨by rw [show mayN 16 a 0 1 m0 m1 = false from decide_eq_false (by omega)]; rfl, by (repeat (first | (with_reducible assumption) | (with_reducible exact Below.refl _ _) | (with_reducible refine grow_alloc ?_ _) | (with_reducible refine grow_mix ?_ _) | (with_reducible refine grow_drew ?_) | (with_reducible refine grow_drewN ?_ _) | (with_reducible refine grow_set ?_ (by first | (simp; done) | (simp; omega) | omega) _)))⟩
  go_enter Tryz.func38, Tryz.ntmps38
  go_wp2_with (first | (go_at_call 51; (with_reducible refine (F.out _).mono ?_); rintro e w' ⟨rfl, hb⟩; have hz := hb.size; (first | (obtain ⟨x1, rfl⟩ := to_mix2 hb) | (obtain ⟨x1, rfl⟩ := to_mix hb)); clear hb; (try simp only [World.size_alloc, World.size_setCell, World.size_drew] at hz); (try have q0 : w.heap.size < _ := Nat.lt_of_lt_of_le (by omega) hz); (try have q1 : w.heap.size + 1 < _ := Nat.lt_of_lt_of_le (by omega) hz); (try have q2 : w.heap.size + 1 + 1 < _ := Nat.lt_of_lt_of_le (by omega) hz); (try have q3 : w.heap.size + 1 + 1 + 1 < _ := Nat.lt_of_lt_of_le (by omega) hz)))
  refine wp_region_mix 22 (by kernel_rfl) (by kernel_rfl) ?_
  simp only [List.take_succ_cons, List.take_zero, List.drop_succ_cons, List.drop_zero]
  repeat (go_big_quiet_step (((first | (go_at_call 70; (with_reducible exact mix_call (M0.out _))) | (go_at_call 70; (with_reducible exact mix_call (M1.out _)))))))
  refine wpQuiet_nil ?_
  intro _ hmix
  (try (with_reducible replace hmix := mix_flat hmix))
  obtain ⟨x1, hmix'⟩ := hmix
  have hz := mix_size' hmix'
  subst hmix'
  (try simp only [World.size_alloc, World.size_setCell, World.size_drew] at hz); (try have q0 : w.heap.size < _ := Nat.lt_of_lt_of_le (by omega) hz); (try have q1 : w.heap.size + 1 < _ := Nat.lt_of_lt_of_le (by omega) hz); (try have q2 : w.heap.size + 1 + 1 < _ := Nat.lt_of_lt_of_le (by omega) hz); (try have q3 : w.heap.size + 1 + 1 + 1 < _ := Nat.lt_of_lt_of_le (by omega) hz)
  go_wp2
  go_ret
  exact ⟨by rw [show mayN 16 a 0 1 m0 m1 = true from decide_eq_true (by omega)]; rfl, by (repeat (first | (with_reducible assumption) | (with_reducible exact Below.refl _ _) | (with_reducible refine grow_alloc ?_ _) | (with_reducible refine grow_mix ?_ _) | (with_reducible refine grow_drew ?_) | (with_reducible refine grow_drewN ?_ _) | (with_reducible refine grow_set ?_ (by first | (simp; done) | (simp; omega) | omega) _)))⟩
set_option maxHeartbeats 8000000 in
theorem MayR_out (o : Int) (h : o < 0 ∨ 16 < o) (hF : ∀ W, Calls Tryz.prog 51 #[.int .i64 o] W fun e w' => e = .returned (.int .i64 0) ∧ Below W.heap.size W w') :
    Calls Tryz.prog 38 #[.agg #[.int .i64 o, .int .i64 a, .int .i64 b]] w fun e w' => e = .returned (.bool (mayN o a b 0 m0 m1)) ∧ Below w.heap.size w w' := by
  have F := Lib.hid hF
  clear hF
  rcases h with h | h
  ·
    go_enter Tryz.func38, Tryz.ntmps38
    go_wp2_with (first | (go_at_call 51; (with_reducible refine (F.out _).mono ?_); rintro e w' ⟨rfl, hb⟩; have hz := hb.size; (first | (obtain ⟨x1, rfl⟩ := to_mix2 hb) | (obtain ⟨x1, rfl⟩ := to_mix hb)); clear hb; (try simp only [World.size_alloc, World.size_setCell, World.size_drew] at hz); (try have q0 : w.heap.size < _ := Nat.lt_of_lt_of_le (by omega) hz); (try have q1 : w.heap.size + 1 < _ := Nat.lt_of_lt_of_le (by omega) hz); (try have q2 : w.heap.size + 1 + 1 < _ := Nat.lt_of_lt_of_le (by omega) hz); (try have q3 : w.heap.size + 1 + 1 + 1 < _ := Nat.lt_of_lt_of_le (by omega) hz)))
    go_ret
    exact ⟨by rw [show mayN o a b 0 m0 m1 = false from decide_eq_false (by omega)]; rfl, by (repeat (first | (with_reducible assumption) | (with_reducible exact Below.refl _ _) | (with_reducible refine grow_alloc ?_ _) | (with_reducible refine grow_mix ?_ _) | (with_reducible refine grow_drew ?_) | (with_reducible refine grow_drewN ?_ _) | (with_reducible refine grow_set ?_ (by first | (simp; done) | (simp; omega) | omega) _)))⟩
  ·
    have h0 : ¬ o < 0 := by omega
    go_enter Tryz.func38, Tryz.ntmps38
    go_wp2_with (first | (go_at_call 51; (with_reducible refine (F.out _).mono ?_); rintro e w' ⟨rfl, hb⟩; have hz := hb.size; (first | (obtain ⟨x1, rfl⟩ := to_mix2 hb) | (obtain ⟨x1, rfl⟩ := to_mix hb)); clear hb; (try simp only [World.size_alloc, World.size_setCell, World.size_drew] at hz); (try have q0 : w.heap.size < _ := Nat.lt_of_lt_of_le (by omega) hz); (try have q1 : w.heap.size + 1 < _ := Nat.lt_of_lt_of_le (by omega) hz); (try have q2 : w.heap.size + 1 + 1 < _ := Nat.lt_of_lt_of_le (by omega) hz); (try have q3 : w.heap.size + 1 + 1 + 1 < _ := Nat.lt_of_lt_of_le (by omega) hz)))
    go_ret
    exact ⟨by rw [show mayN o a b 0 m0 m1 = false from decide_eq_false (by omega)]; rfl, by (repeat (first | (with_reducible assumption) | (with_reducible exact Below.refl _ _) | (with_reducible refine grow_alloc ?_ _) | (with_reducible refine grow_mix ?_ _) | (with_reducible refine grow_drew ?_) | (with_reducible refine grow_drewN ?_ _) | (with_reducible refine grow_set ?_ (by first | (simp; done) | (simp; omega) | omega) _)))⟩
end
theorem mayN_eq (x : Ins) : mayN x.op x.a x.b (opFields x.op) (mostR x.op 0) (mostR x.op 1) = mayI x := by
  obtain ⟨o, a, b⟩ := x
  simp only
  by_cases ho : isOp o = true
  · have hb : 0 ≤ o ∧ o < 17 := by unfold isOp at ho; simpa using ho
    have key : ∀ k : Nat, k < 17 → o = (k : Int) → mayN o a b (opFields o) (mostR o 0) (mostR o 1) = mayI ⟨o, a, b⟩ := by
      intro k hk e
      subst e
      have : k = 0 ∨ k = 1 ∨ k = 2 ∨ k = 3 ∨ k = 4 ∨ k = 5 ∨ k = 6 ∨ k = 7 ∨ k = 8 ∨ k = 9 ∨ k = 10 ∨ k = 11 ∨ k = 12 ∨ k = 13 ∨ k = 14 ∨ k = 15 ∨ k = 16 := by omega
      rcases this with rfl | rfl | rfl | rfl | rfl | rfl | rfl | rfl | rfl | rfl | rfl | rfl | rfl | rfl | rfl | rfl | rfl <;>
        (rw [Bool.eq_iff_iff]; simp [mayN, mayI, isOp, opFields, fieldsL, mostR, spanHas, spanA, spanB]; try omega)
    exact key o.toNat (by omega) (by omega)
  · have hb : o < 0 ∨ 17 ≤ o := by unfold isOp at ho; simp at ho; omega
    have h1 : mayI ⟨o, a, b⟩ = false := by unfold mayI; simp [ho]
    rw [h1]
    exact decide_eq_false (by omega)
theorem MayR_calls (x : Ins) (w : World) : Calls Tryz.prog 38 #[insV x] w fun e w' => e = .returned (.bool (mayI x)) ∧ Below w.heap.size w w' := by
  rw [← mayN_eq]
  obtain ⟨o, a, b⟩ := x
  show Calls Tryz.prog 38 #[.agg #[.int .i64 o, .int .i64 a, .int .i64 b]] w _
  simp only
  have hM0 := fun W => most_calls o 0 (.inl rfl) W
  have hM1 := fun W => most_calls o 1 (.inr rfl) W
  have hF := fun W => FieldsR_calls o W
  by_cases hb : o < 0 ∨ 16 < o
  · have e : opFields o = 0 := by unfold opFields isOp; rw [if_neg]; simp; omega
    rw [e] at hF ⊢
    exact MayR_out a b _ _ w o hb hF
  · by_cases h16 : o = 16
    · subst h16
      exact MayR_16 a b _ _ w hM0 hM1 hF
    · have h16' : (o == 16) = false := by simpa using h16
      rcases fields_len o with e | e | e <;> rw [e] at hF ⊢
      · exact MayR_0 a b _ _ w o (by omega) (by omega) h16' hM0 hM1 hF
      · exact MayR_1 a b _ _ w o (by omega) (by omega) h16' hM0 hM1 hF
      · exact MayR_2 a b _ _ w o (by omega) (by omega) h16' hM0 hM1 hF
end Go.Proofs.YtedkfipjooafeaaGreatDoor.Code
set_option linter.unusedSimpArgs false
set_option linter.unusedVariables false
namespace Go.Proofs.YtedkfipjooafeaaGreatDoor.Code
open Go Go.RowKit Go.Proofs.YtedkfipjooafeaaGreatDoor Go.Proofs.YtedkfipjooafeaaGreatDoor.Op

set_option maxHeartbeats 2000000 in
theorem HeadR_calls (f : Fn) (A : Option Addr) (n c : Nat) (w : World) :
    Calls Tryz.prog 39 #[fnV f (.slice A n c)] w fun e w' => e = .returned (.bool (headB f)) ∧ Below w.heap.size w w' := by
  have hE : ∀ b : Bool, (headB f = b ↔ (decide (0 ≤ f.ar ∧ f.ar ≤ 16 ∧ 0 ≤ f.lo ∧ f.lo ≤ 16 ∧ 0 ≤ f.sl ∧ f.sl ≤ 8)) = b) := by
    intro b
    have : headB f = decide (0 ≤ f.ar ∧ f.ar ≤ 16 ∧ 0 ≤ f.lo ∧ f.lo ≤ 16 ∧ 0 ≤ f.sl ∧ f.sl ≤ 8) := by
      rw [Bool.eq_iff_iff]; unfold headB inB; simp [and_assoc]
    rw [this]
  have HE := Lib.hid hE
  clear hE
  by_cases h1 : 0 ≤ f.ar
  · by_cases h2 : f.ar ≤ 16
    · by_cases h3 : 0 ≤ f.lo
      · by_cases h4 : f.lo ≤ 16
        · by_cases h5 : 0 ≤ f.sl
          · by_cases h6 : f.sl ≤ 8
            · rw [(HE.out true).2 (decide_eq_true ⟨h1, h2, h3, h4, h5, h6⟩)]
              go_enter Tryz.func39, Tryz.ntmps39
              go_wp2
              go_ret
              exact ⟨rfl, by (repeat (first | (with_reducible assumption) | (with_reducible exact Below.refl _ _) | (with_reducible refine grow_alloc ?_ _) | (with_reducible refine grow_mix ?_ _) | (with_reducible refine grow_drew ?_) | (with_reducible refine grow_drewN ?_ _) | (with_reducible refine grow_set ?_ (by first | (simp; done) | (simp; omega) | omega) _)))⟩
            · rw [(HE.out false).2 (decide_eq_false (fun h => h6 h.2.2.2.2.2))]
              have hd : decide (f.sl ≤ 8) = false := decide_eq_false h6
              go_enter Tryz.func39, Tryz.ntmps39
              go_wp2
              go_ret
              exact ⟨rfl, by (repeat (first | (with_reducible assumption) | (with_reducible exact Below.refl _ _) | (with_reducible refine grow_alloc ?_ _) | (with_reducible refine grow_mix ?_ _) | (with_reducible refine grow_drew ?_) | (with_reducible refine grow_drewN ?_ _) | (with_reducible refine grow_set ?_ (by first | (simp; done) | (simp; omega) | omega) _)))⟩
          · rw [(HE.out false).2 (decide_eq_false (fun h => h5 h.2.2.2.2.1))]
            have hd : decide (0 ≤ f.sl) = false := decide_eq_false h5
            go_enter Tryz.func39, Tryz.ntmps39
            go_wp2
            go_ret
            exact ⟨rfl, by (repeat (first | (with_reducible assumption) | (with_reducible exact Below.refl _ _) | (with_reducible refine grow_alloc ?_ _) | (with_reducible refine grow_mix ?_ _) | (with_reducible refine grow_drew ?_) | (with_reducible refine grow_drewN ?_ _) | (with_reducible refine grow_set ?_ (by first | (simp; done) | (simp; omega) | omega) _)))⟩
        · rw [(HE.out false).2 (decide_eq_false (fun h => h4 h.2.2.2.1))]
          have hd : decide (f.lo ≤ 16) = false := decide_eq_false h4
          go_enter Tryz.func39, Tryz.ntmps39
          go_wp2
          go_ret
          exact ⟨rfl, by (repeat (first | (with_reducible assumption) | (with_reducible exact Below.refl _ _) | (with_reducible refine grow_alloc ?_ _) | (with_reducible refine grow_mix ?_ _) | (with_reducible refine grow_drew ?_) | (with_reducible refine grow_drewN ?_ _) | (with_reducible refine grow_set ?_ (by first | (simp; done) | (simp; omega) | omega) _)))⟩
      · rw [(HE.out false).2 (decide_eq_false (fun h => h3 h.2.2.1))]
        have hd : decide (0 ≤ f.lo) = false := decide_eq_false h3
        go_enter Tryz.func39, Tryz.ntmps39
        go_wp2
        go_ret
        exact ⟨rfl, by (repeat (first | (with_reducible assumption) | (with_reducible exact Below.refl _ _) | (with_reducible refine grow_alloc ?_ _) | (with_reducible refine grow_mix ?_ _) | (with_reducible refine grow_drew ?_) | (with_reducible refine grow_drewN ?_ _) | (with_reducible refine grow_set ?_ (by first | (simp; done) | (simp; omega) | omega) _)))⟩
    · rw [(HE.out false).2 (decide_eq_false (fun h => h2 h.2.1))]
      have hd : decide (f.ar ≤ 16) = false := decide_eq_false h2
      go_enter Tryz.func39, Tryz.ntmps39
      go_wp2
      go_ret
      exact ⟨rfl, by (repeat (first | (with_reducible assumption) | (with_reducible exact Below.refl _ _) | (with_reducible refine grow_alloc ?_ _) | (with_reducible refine grow_mix ?_ _) | (with_reducible refine grow_drew ?_) | (with_reducible refine grow_drewN ?_ _) | (with_reducible refine grow_set ?_ (by first | (simp; done) | (simp; omega) | omega) _)))⟩
  · rw [(HE.out false).2 (decide_eq_false (fun h => h1 h.1))]
    have hd : decide (0 ≤ f.ar) = false := decide_eq_false h1
    go_enter Tryz.func39, Tryz.ntmps39
    go_wp2
    go_ret
    exact ⟨rfl, by (repeat (first | (with_reducible assumption) | (with_reducible exact Below.refl _ _) | (with_reducible refine grow_alloc ?_ _) | (with_reducible refine grow_mix ?_ _) | (with_reducible refine grow_drew ?_) | (with_reducible refine grow_drewN ?_ _) | (with_reducible refine grow_set ?_ (by first | (simp; done) | (simp; omega) | omega) _)))⟩

theorem all_next {l : List Ins} {k : Nat} (h : (l.take k).all mayI = true) (hk : k < l.length) (hx : mayI (l[k]) = true) : (l.take (k + 1)).all mayI = true := by
  rw [List.take_add_one, List.getElem?_eq_getElem hk, List.all_append, h]; simp [hx]
theorem all_no {l : List Ins} {k : Nat} (hk : k < l.length) (hx : mayI (l[k]) = false) : l.all mayI = false := by
  rw [Bool.eq_false_iff]
  intro h
  have := List.all_eq_true.1 h _ (List.getElem_mem hk)
  rw [hx] at this; cases this
theorem mayF_no {f : Fn} (h : f.code.all mayI = false) : mayF f = false := by unfold mayF; rw [h]; simp
set_option maxHeartbeats 8000000 in
theorem MayP_calls (p : Pg) (v : Value) (w : World) (h : ProgAt w w.heap.size v p) (hl : p.length ≤ 9223372036854775000) (hc : ∀ f ∈ p, f.code.length ≤ 9223372036854775000) :
    Calls Tryz.prog 16 #[v] w fun e w' => e = .returned (.bool (mayP p)) ∧ Below w.heap.size w w' := by
  obtain ⟨A, c, rfl⟩ := h.form
  have HC := Lib.hid h
  have HL := Lib.hid hc
  clear h hc
  go_enter Tryz.func16, Tryz.ntmps16
  go_wp2
  go_loopw [3, 4] (fun i j wr => ∃ k : Nat, k ≤ p.length ∧ i = .int .i64 k ∧ Below w.heap.size w wr ∧ Hid ((p.take k).all mayF = true)) (fun i _ _ => p.length - (intOf i).toNat)
  case atStart => exact ⟨0, Nat.zero_le _, rfl, Below.refl _ _, Lib.hid (by simp)⟩
  case round =>
    obtain ⟨k, hk, rfl, hb, HA⟩ := hrel
    by_cases hlt : k < p.length
    · go_wp2
      obtain ⟨wo, hwo⟩ : ∃ wo : World, wo = wr := ⟨_, rfl⟩
      subst hwo
      have hln := HL.out p[k] (List.getElem_mem hlt)
      go_loopw [4] (fun j wr => ∃ m : Nat, m ≤ p[k].code.length ∧ j = .int .i64 m ∧ Below w.heap.size w wr ∧ Hid ((p[k].code.take m).all mayI = true)) (fun j _ => p[k].code.length - (intOf j).toNat)
      case atStart => exact ⟨0, Nat.zero_le _, rfl, hb, Lib.hid (by simp)⟩
      case round =>
        obtain ⟨m, hm, rfl, hbi, HI⟩ := hrel
        obtain ⟨a, c', u, e, hab, c0, c1, c2, c3, hcd⟩ := HC.out.at2 hbi hlt
        injection e with e1 e2 e3
        subst e1 e3
        obtain ⟨A', c', rfl⟩ := hcd.form
        have hq3 : (a.add (k * 4)).block < wr.heap.size := by rw [add_block]; have := hbi.size; omega
        have HCD := Lib.hid hcd
        have hx : p[k]? = some p[k] := List.getElem?_eq_getElem hlt
        obtain ⟨f, hf⟩ : ∃ f, p[k] = f := ⟨_, rfl⟩
        simp only [hf] at c0 c1 c2 c3 HCD hln hx hm HI ⊢
        have HF := Lib.hid (And.intro hf hx)
        clear hf hx hcd
        by_cases hmt : m < f.code.length
        · obtain ⟨a2, c2', e2, hab2, d0, d1, d2⟩ := HCD.out.at2 hbi hmt
          injection e2 with e1 e2 e3
          subst e1 e3
          obtain ⟨x, hx⟩ : ∃ x, f.code[m] = x := ⟨_, rfl⟩
          rw [hx] at d0 d1 d2
          obtain ⟨b, hbm⟩ : ∃ b, mayI x = b := ⟨_, rfl⟩
          have M := Lib.hid (fun (W : World) => MayR_calls x W)
          rw [hbm] at M
          have HX := Lib.hid (And.intro hx hbm)
          clear hx hbm
          cases b
          · go_wp2_with (first | (go_at_call 38; (with_reducible refine (M.out _).mono ?_); rintro e w' ⟨rfl, hb⟩; have hz := hb.size; (first | (obtain ⟨x1, rfl⟩ := to_mix2 hb) | (obtain ⟨x1, rfl⟩ := to_mix hb)); clear hb; (try simp only [World.size_alloc, World.size_setCell, World.size_drew] at hz); (try have q0 : w.heap.size < _ := Nat.lt_of_lt_of_le (by omega) hz); (try have q1 : w.heap.size + 1 < _ := Nat.lt_of_lt_of_le (by omega) hz); (try have q2 : w.heap.size + 1 + 1 < _ := Nat.lt_of_lt_of_le (by omega) hz); (try have q3 : w.heap.size + 1 + 1 + 1 < _ := Nat.lt_of_lt_of_le (by omega) hz)))
            go_ret
            exact ⟨by rw [may_false HF.out.2 (mayF_no (all_no hmt (by rw [HX.out.1]; exact HX.out.2)))]; rfl, by (repeat (first | (with_reducible assumption) | (with_reducible exact Below.refl _ _) | (with_reducible refine grow_alloc ?_ _) | (with_reducible refine grow_mix ?_ _) | (with_reducible refine grow_drew ?_) | (with_reducible refine grow_drewN ?_ _) | (with_reducible refine grow_set ?_ (by first | (simp; done) | (simp; omega) | omega) _)))⟩
          · go_wp2_with (first | (go_at_call 38; (with_reducible refine (M.out _).mono ?_); rintro e w' ⟨rfl, hb⟩; have hz := hb.size; (first | (obtain ⟨x1, rfl⟩ := to_mix2 hb) | (obtain ⟨x1, rfl⟩ := to_mix hb)); clear hb; (try simp only [World.size_alloc, World.size_setCell, World.size_drew] at hz); (try have q0 : w.heap.size < _ := Nat.lt_of_lt_of_le (by omega) hz); (try have q1 : w.heap.size + 1 < _ := Nat.lt_of_lt_of_le (by omega) hz); (try have q2 : w.heap.size + 1 + 1 < _ := Nat.lt_of_lt_of_le (by omega) hz); (try have q3 : w.heap.size + 1 + 1 + 1 < _ := Nat.lt_of_lt_of_le (by omega) hz)))
            go_roundw
            case rel => exact ⟨m + 1, by omega, by go_num, by (repeat (first | (with_reducible assumption) | (with_reducible exact Below.refl _ _) | (with_reducible refine grow_alloc ?_ _) | (with_reducible refine grow_mix ?_ _) | (with_reducible refine grow_drew ?_) | (with_reducible refine grow_drewN ?_ _) | (with_reducible refine grow_set ?_ (by first | (simp; done) | (simp; omega) | omega) _))), Lib.hid (all_next HI.out hmt (by rw [HX.out.1]; exact HX.out.2))⟩
            case measure => simp [intOf]; omega
        · have hm' : m = f.code.length := by omega
          subst hm'
          have hall : f.code.all mayI = true := by have := HI.out; rwa [List.take_length] at this
          obtain ⟨b1, hb1⟩ : ∃ b, headB f = b := ⟨_, rfl⟩
          have H1 := Lib.hid (fun (W : World) => HeadR_calls f A' f.code.length c' W)
          rw [hb1] at H1
          have HAL := Lib.hid (And.intro hall hb1)
          clear hall hb1
          cases b1
          · have HN := Lib.hid (may_false HF.out.2 (may_no (f := f) HAL.out.2 rfl rfl (by simp)))
            go_wp2_with (first | (go_at_call 39; (with_reducible refine (H1.out _).mono ?_); rintro e w' ⟨rfl, hb⟩; have hz := hb.size; (first | (obtain ⟨x1, rfl⟩ := to_mix2 hb) | (obtain ⟨x1, rfl⟩ := to_mix hb)); clear hb; (try simp only [World.size_alloc, World.size_setCell, World.size_drew] at hz); (try have q0 : w.heap.size < _ := Nat.lt_of_lt_of_le (by omega) hz); (try have q1 : w.heap.size + 1 < _ := Nat.lt_of_lt_of_le (by omega) hz); (try have q2 : w.heap.size + 1 + 1 < _ := Nat.lt_of_lt_of_le (by omega) hz); (try have q3 : w.heap.size + 1 + 1 + 1 < _ := Nat.lt_of_lt_of_le (by omega) hz)))
            go_ret
            exact ⟨by rw [HN.out]; rfl, by (repeat (first | (with_reducible assumption) | (with_reducible exact Below.refl _ _) | (with_reducible refine grow_alloc ?_ _) | (with_reducible refine grow_mix ?_ _) | (with_reducible refine grow_drew ?_) | (with_reducible refine grow_drewN ?_ _) | (with_reducible refine grow_set ?_ (by first | (simp; done) | (simp; omega) | omega) _)))⟩
          · by_cases h1 : f.code.length < 1
            · have HN := Lib.hid (may_false HF.out.2 (may_no (f := f) (b2 := false) HAL.out.2 (decide_eq_false (by omega)) rfl (by simp)))
              have hd : decide ((f.code.length : Int) < 1) = true := decide_eq_true (by omega)
              go_wp2_with (first | (go_at_call 39; (with_reducible refine (H1.out _).mono ?_); rintro e w' ⟨rfl, hb⟩; have hz := hb.size; (first | (obtain ⟨x1, rfl⟩ := to_mix2 hb) | (obtain ⟨x1, rfl⟩ := to_mix hb)); clear hb; (try simp only [World.size_alloc, World.size_setCell, World.size_drew] at hz); (try have q0 : w.heap.size < _ := Nat.lt_of_lt_of_le (by omega) hz); (try have q1 : w.heap.size + 1 < _ := Nat.lt_of_lt_of_le (by omega) hz); (try have q2 : w.heap.size + 1 + 1 < _ := Nat.lt_of_lt_of_le (by omega) hz); (try have q3 : w.heap.size + 1 + 1 + 1 < _ := Nat.lt_of_lt_of_le (by omega) hz)))
              go_ret
              exact ⟨by rw [HN.out]; rfl, by (repeat (first | (with_reducible assumption) | (with_reducible exact Below.refl _ _) | (with_reducible refine grow_alloc ?_ _) | (with_reducible refine grow_mix ?_ _) | (with_reducible refine grow_drew ?_) | (with_reducible refine grow_drewN ?_ _) | (with_reducible refine grow_set ?_ (by first | (simp; done) | (simp; omega) | omega) _)))⟩
            · by_cases h2 : 200 < f.code.length
              · have HN := Lib.hid (may_false HF.out.2 (may_no (f := f) (b2 := false) HAL.out.2 (decide_eq_false (by omega)) rfl (by simp)))
                have hd : decide (200 < (f.code.length : Int)) = true := decide_eq_true (by omega)
                go_wp2_with (first | (go_at_call 39; (with_reducible refine (H1.out _).mono ?_); rintro e w' ⟨rfl, hb⟩; have hz := hb.size; (first | (obtain ⟨x1, rfl⟩ := to_mix2 hb) | (obtain ⟨x1, rfl⟩ := to_mix hb)); clear hb; (try simp only [World.size_alloc, World.size_setCell, World.size_drew] at hz); (try have q0 : w.heap.size < _ := Nat.lt_of_lt_of_le (by omega) hz); (try have q1 : w.heap.size + 1 < _ := Nat.lt_of_lt_of_le (by omega) hz); (try have q2 : w.heap.size + 1 + 1 < _ := Nat.lt_of_lt_of_le (by omega) hz); (try have q3 : w.heap.size + 1 + 1 + 1 < _ := Nat.lt_of_lt_of_le (by omega) hz)))
                go_ret
                exact ⟨by rw [HN.out]; rfl, by (repeat (first | (with_reducible assumption) | (with_reducible exact Below.refl _ _) | (with_reducible refine grow_alloc ?_ _) | (with_reducible refine grow_mix ?_ _) | (with_reducible refine grow_drew ?_) | (with_reducible refine grow_drewN ?_ _) | (with_reducible refine grow_set ?_ (by first | (simp; done) | (simp; omega) | omega) _)))⟩
              · have HN := Lib.hid (may_true (f := f) HAL.out.2 (decide_eq_true (by omega)) (by rw [HAL.out.1]; rfl))
                go_wp2_with (first | (go_at_call 39; (with_reducible refine (H1.out _).mono ?_); rintro e w' ⟨rfl, hb⟩; have hz := hb.size; (first | (obtain ⟨x1, rfl⟩ := to_mix2 hb) | (obtain ⟨x1, rfl⟩ := to_mix hb)); clear hb; (try simp only [World.size_alloc, World.size_setCell, World.size_drew] at hz); (try have q0 : w.heap.size < _ := Nat.lt_of_lt_of_le (by omega) hz); (try have q1 : w.heap.size + 1 < _ := Nat.lt_of_lt_of_le (by omega) hz); (try have q2 : w.heap.size + 1 + 1 < _ := Nat.lt_of_lt_of_le (by omega) hz); (try have q3 : w.heap.size + 1 + 1 + 1 < _ := Nat.lt_of_lt_of_le (by omega) hz)))
                go_roundw
                case rel => exact ⟨k + 1, by omega, by go_num, by (repeat (first | (with_reducible assumption) | (with_reducible exact Below.refl _ _) | (with_reducible refine grow_alloc ?_ _) | (with_reducible refine grow_mix ?_ _) | (with_reducible refine grow_drew ?_) | (with_reducible refine grow_drewN ?_ _) | (with_reducible refine grow_set ?_ (by first | (simp; done) | (simp; omega) | omega) _))), Lib.hid (may_next HF.out.2 HA.out HN.out)⟩
                case measure => simp [intOf]; omega
    · have hk' : k = p.length := by omega
      subst hk'
      have HN := Lib.hid (show p.all mayF = true by have := HA.out; rwa [List.take_length] at this)
      by_cases h1 : 1 ≤ p.length
      · by_cases h2 : p.length ≤ 16
        · have HM := Lib.hid (show mayP p = true by unfold mayP; rw [HN.out]; simp [inB]; omega)
          go_wp2
          go_ret
          exact ⟨by rw [HM.out]; first | rfl | (show Ending.returned (Value.bool (decide ((p.length : Int) ≤ 16))) = _; rw [decide_eq_true (by omega)]), by (repeat (first | (with_reducible assumption) | (with_reducible exact Below.refl _ _) | (with_reducible refine grow_alloc ?_ _) | (with_reducible refine grow_mix ?_ _) | (with_reducible refine grow_drew ?_) | (with_reducible refine grow_drewN ?_ _) | (with_reducible refine grow_set ?_ (by first | (simp; done) | (simp; omega) | omega) _)))⟩
        · have HM := Lib.hid (show mayP p = false by unfold mayP; rw [HN.out]; simp [inB]; omega)
          have hd : decide ((p.length : Int) ≤ 16) = false := decide_eq_false (by omega)
          go_wp2
          go_ret
          exact ⟨by rw [HM.out]; rfl, by (repeat (first | (with_reducible assumption) | (with_reducible exact Below.refl _ _) | (with_reducible refine grow_alloc ?_ _) | (with_reducible refine grow_mix ?_ _) | (with_reducible refine grow_drew ?_) | (with_reducible refine grow_drewN ?_ _) | (with_reducible refine grow_set ?_ (by first | (simp; done) | (simp; omega) | omega) _)))⟩
      · have HM := Lib.hid (show mayP p = false by unfold mayP; rw [HN.out]; simp [inB]; omega)
        have hd : decide (1 ≤ (p.length : Int)) = false := decide_eq_false (by omega)
        go_wp2
        go_ret
        exact ⟨by rw [HM.out]; rfl, by (repeat (first | (with_reducible assumption) | (with_reducible exact Below.refl _ _) | (with_reducible refine grow_alloc ?_ _) | (with_reducible refine grow_mix ?_ _) | (with_reducible refine grow_drew ?_) | (with_reducible refine grow_drewN ?_ _) | (with_reducible refine grow_set ?_ (by first | (simp; done) | (simp; omega) | omega) _)))⟩
end Go.Proofs.YtedkfipjooafeaaGreatDoor.Code
set_option linter.unusedSimpArgs false
set_option linter.unusedVariables false
namespace Go.Proofs.YtedkfipjooafeaaGreatDoor.Code
open Go Go.RowKit Go.Proofs.YtedkfipjooafeaaGreatDoor Go.Proofs.YtedkfipjooafeaaGreatDoor.Op Go.Proofs.YtedkfipjooafeaaGreatDoor.Wire

theorem conv_one {w : World} {b : Nat} {t : TypeId} {n : Int} (c : Nat) (h : Has w b #[.int .u8 n] t) :
    (convert 67 9 (.slice (some ⟨b, 0, none⟩) 1 c)).run Tryz.prog w = .ok (.string ⟨#[UInt8.ofNat n.toNat]⟩) w := by
  rw [run_convert_bytes_string (P := Tryz.prog) w 67 9 5 _ _ _ Tryz.underlying67 Tryz.underlying5 Tryz.underlying9]
  have := run_loadCells_list (P := Tryz.prog) w ⟨b, 0, none⟩ [.int .u8 n] (fun j v hj => by
    match j, hj with
    | 0, hj => simpa [Addr.add, h.cell] using hj)
  rw [run_bytesToString w ⟨b, 0, none⟩ 1 c [n] (by simpa using this)]
  rfl
theorem decLen (n : Nat) : (Lib.decDigits n).length ≤ n + 1 := by
  induction n using Nat.strongRecOn with
  | _ n ih =>
  by_cases h : n < 10
  · rw [digits_small n h]; simp
  · have := ih (n / 10) (by omega)
    rw [digits_big n h, List.length_append]
    simp only [List.length_cons, List.length_nil]
    omega
theorem str_two (a b : List UInt8) : Value.string ((⟨a.toArray⟩ : ByteArray) ++ ⟨b.toArray⟩) = str (a ++ b) := by rw [ba_append]

set_option maxRecDepth 100000 in
set_option maxHeartbeats 2000000 in
theorem Digits_calls : ∀ (n : Nat), n ≤ 9223372036854775807 → ∀ (w : World),
    Calls Tryz.prog 74 #[.int .i64 n] w fun e w' => e = .returned (str (Lib.decDigits n)) ∧ Below w.heap.size w w' := by
  intro n
  induction n using Nat.strongRecOn with
  | _ n ih =>
  intro hn w
  have hlt : decide ((n : Int) < 0) = false := by simp
  have cv := conv_one (w := w.alloc (.cells #[.int .u8 (48 + (n : Int) % 10)] 5)) 1 (Has.new w #[.int .u8 (48 + (n : Int) % 10)] 5)
  have eb : UInt8.ofNat (48 + (n : Int) % 10).toNat = dig n := by unfold dig; congr 1
  rw [eb] at cv
  clear eb
  by_cases h0 : n < 10
  · have t0 : decide (10 ≤ (n : Int)) = false := by simp; omega
    have E := Lib.hid (digits_small n h0)
    clear ih h0
    go_enter Tryz.func74, Tryz.ntmps74
    go_wp2
    go_ret
    exact ⟨by rw [E.out]; rfl, by (repeat (first | (with_reducible assumption) | (with_reducible exact Below.refl _ _) | (with_reducible refine grow_alloc ?_ _) | (with_reducible refine grow_mix ?_ _) | (with_reducible refine grow_drew ?_) | (with_reducible refine grow_drewN ?_ _) | (with_reducible refine grow_set ?_ (by first | (simp; done) | (simp; omega) | omega) _)))⟩
  · have t0 : decide (10 ≤ (n : Int)) = true := by simp; omega
    have E := Lib.hid (digits_big n h0)
    have hr : ∀ W, Calls Tryz.prog 74 #[.int .i64 ((n : Int) / 10)] W fun e w' => e = .returned (str (Lib.decDigits (n / 10))) ∧ Below W.heap.size W w' := fun W => by
      have c1 : (n : Int) / 10 = ((n / 10 : Nat) : Int) := by omega
      rw [c1]
      exact ih (n / 10) (by omega) (by omega) W
    have HR := Lib.hid hr
    have hl := decLen (n / 10)
    have hl1 : (Lib.decDigits (n / 10)).length + 1 ≤ 9223372036854775807 := by omega
    clear ih hr h0 hl
    go_enter Tryz.func74, Tryz.ntmps74
    go_wp2_with (first | (go_at_call 74; refine (HR.out _).mono ?_; rintro e w' ⟨rfl, hb⟩; have hz := hb.size; (first | (obtain ⟨x1, rfl⟩ := to_mix2 hb) | (obtain ⟨x1, rfl⟩ := to_mix hb)); clear hb; (try simp only [World.size_alloc, World.size_setCell, World.size_drew] at hz); (try have q0 : w.heap.size < _ := Nat.lt_of_lt_of_le (by omega) hz); (try have q1 : w.heap.size + 1 < _ := Nat.lt_of_lt_of_le (by omega) hz); (try have q2 : w.heap.size + 1 + 1 < _ := Nat.lt_of_lt_of_le (by omega) hz); (try have q3 : w.heap.size + 1 + 1 + 1 < _ := Nat.lt_of_lt_of_le (by omega) hz)))
    go_ret
    exact ⟨by rw [E.out]; exact congrArg Ending.returned (str_two (Lib.decDigits (n / 10)) [dig n]), by (repeat (first | (with_reducible assumption) | (with_reducible exact Below.refl _ _) | (with_reducible refine grow_alloc ?_ _) | (with_reducible refine grow_mix ?_ _) | (with_reducible refine grow_drew ?_) | (with_reducible refine grow_drewN ?_ _) | (with_reducible refine grow_set ?_ (by first | (simp; done) | (simp; omega) | omega) _)))⟩

section
variable {P : Program} {ops : Array Oper} {Q : Exit → Act → World → Prop} {a : Act} {w w' : World} {o : Oper} {rest : List Oper}
theorem list_conv {x : Operand} {b c : Nat} {n : Int} {t : TypeId} (ho : o.op = .convert 67 9 x) (hg : o.guard = none) (hx : a.eval x = .slice (some ⟨b, 0, none⟩) 1 c) (hh : Has w b #[.int .u8 n] t)
    (h : wpList Tryz.prog ops Q rest (a.put o.dst (str [UInt8.ofNat n.toNat])) w) : wpList Tryz.prog ops Q (o :: rest) a w := by
  refine list_val hg _ ?_ h
  have hr := conv_one c hh
  unfold execOp
  rw [ho]
  simp [hx, hr, Sem.run_bind]
end
theorem putB_small {n : Nat} (h : n ≤ 127) : Wire.bytes (putN n) = [UInt8.ofNat n] := by rw [putN_small h]; rfl
theorem putB_big {n : Nat} (h : ¬ n ≤ 127) : Wire.bytes (putN n) = [UInt8.ofNat (128 + n % 128)] ++ Wire.bytes (putN (n / 128)) := by
  rw [putN_big h]
  unfold Wire.bytes
  rw [List.map_cons, List.singleton_append]
  congr 2
  have := Lib.u8_or128_any ((n : Int) % 256) (by omega) (by omega)
  rw [this]
  omega
set_option maxRecDepth 100000 in
set_option maxHeartbeats 8000000 in
theorem PutR_nat : ∀ (n : Nat), n ≤ 281474976710655 → ∀ (w : World),
    Calls Tryz.prog 50 #[.int .i64 n] w fun e w' => e = .returned (str (Wire.bytes (putN n))) ∧ Below w.heap.size w w' := by
  intro n
  induction n using Nat.strongRecOn with
  | _ n ih =>
  intro hn w
  by_cases h0 : n ≤ 127
  · have cv := conv_one (w := w.alloc (.cells #[.int .u8 (n : Int)] 5)) 1 (Has.new w #[.int .u8 (n : Int)] 5)
    have E := Lib.hid (putB_small h0)
    clear ih
    go_enter Tryz.func50, Tryz.ntmps50
    go_wp2
    go_ret
    exact ⟨by rw [E.out]; rfl, by (repeat (first | (with_reducible assumption) | (with_reducible exact Below.refl _ _) | (with_reducible refine grow_alloc ?_ _) | (with_reducible refine grow_mix ?_ _) | (with_reducible refine grow_drew ?_) | (with_reducible refine grow_drewN ?_ _) | (with_reducible refine grow_set ?_ (by first | (simp; done) | (simp; omega) | omega) _)))⟩
  · have E := Lib.hid (putB_big h0)
    have hr : ∀ W, Calls Tryz.prog 50 #[.int .i64 ((n : Int) / 128)] W fun e w' => e = .returned (str (Wire.bytes (putN (n / 128)))) ∧ Below W.heap.size W w' := fun W => by
      have c1 : (n : Int) / 128 = ((n / 128 : Nat) : Int) := by omega
      rw [c1]
      exact ih (n / 128) (by omega) (by omega) W
    have HR := Lib.hid hr
    have hl := putN_len 6 (n / 128) (by simp; omega)
    have hl' : (Wire.bytes (putN (n / 128))).length ≤ 7 := by unfold Wire.bytes; rw [List.length_map]; exact hl
    obtain ⟨bs, hbs⟩ : ∃ bs, Wire.bytes (putN (n / 128)) = bs := ⟨_, rfl⟩
    rw [hbs] at hl' HR E
    clear hbs
    have BA := ba_append [UInt8.ofNat (128 + (n : Int) % 128).toNat] bs
    have eb : UInt8.ofNat (128 + (n : Int) % 128).toNat = UInt8.ofNat (128 + n % 128) := by congr 1
    have E2 := Lib.hid (show Wire.bytes (putN n) = (128 + UInt8.ofNat (n % 128)) :: bs by rw [E.out, UInt8.ofNat_add]; rfl)
    clear E
    clear ih hr hl eb
    go_enter Tryz.func50, Tryz.ntmps50
    go_wp2_with fail
    refine wp_region_ord (by kernel_rfl) ?_
    show wpAny _ _ _ _ (10 + 1) _ _ _
    refine any_first (i := 0) rfl (by kernel_rfl) (fun _ _ _ _ h => h) rfl ?_
    apply Exists.intro
    refine And.intro (fun _ => ?_) ?_
    · first | (go_simp; rfl) | rfl
    show wpAny _ _ _ _ (9 + 1) _ _ _
    refine any_first (i := 1) rfl (by kernel_rfl) (fun _ _ _ _ h => h) rfl ?_
    apply Exists.intro
    refine And.intro (fun _ => ?_) ?_
    · first | (go_simp; rfl) | rfl
    show wpAny _ _ _ _ (8 + 1) _ _ _
    refine any_first (i := 2) rfl (by kernel_rfl) (fun _ _ _ _ h => h) rfl ?_
    apply Exists.intro
    refine And.intro (fun _ => ?_) ?_
    · first | (go_simp; rfl) | rfl
    show wpAny _ _ _ _ (7 + 1) _ _ _
    refine any_first (i := 3) rfl (by kernel_rfl) (fun _ _ _ _ h => h) rfl ?_
    apply Exists.intro
    refine And.intro (fun _ => ?_) ?_
    · first | (go_simp; rfl) | rfl
    show wpAny _ _ _ _ (6 + 1) _ _ _
    refine any_first (i := 6) rfl (by kernel_rfl) (fun _ _ _ _ h => h) rfl ?_
    apply Exists.intro
    refine And.intro (fun _ => ?_) ?_
    · first | (go_simp; rfl) | rfl
    show wpAny _ _ _ _ (5 + 1) _ _ _
    refine any_first (i := 7) rfl (by kernel_rfl) (fun _ _ _ _ h => h) rfl ?_
    apply Exists.intro
    refine And.intro (fun _ => ?_) ?_
    · first | (go_simp; rfl) | rfl
    show wpAny _ _ _ _ (4 + 1) _ _ _
    refine any_two (i := 4) (k := 8) (by kernel_rfl) rfl rfl ?_ ?_
    ·
      go_wp2_with (first | (go_at_call 50; refine (HR.out _).mono ?_; rintro e w' ⟨rfl, hb⟩; have hz := hb.size; (first | (obtain ⟨x1, rfl⟩ := to_mix2 hb) | (obtain ⟨x1, rfl⟩ := to_mix hb)); clear hb; (try simp only [World.size_alloc, World.size_setCell, World.size_drew] at hz); (try have q0 : w.heap.size < _ := Nat.lt_of_lt_of_le (by omega) hz); (try have q1 : w.heap.size + 1 < _ := Nat.lt_of_lt_of_le (by omega) hz); (try have q2 : w.heap.size + 1 + 1 < _ := Nat.lt_of_lt_of_le (by omega) hz); (try have q3 : w.heap.size + 1 + 1 + 1 < _ := Nat.lt_of_lt_of_le (by omega) hz)) | (refine list_conv (n := (128 + (n : Int) % 128)) (t := 5) rfl rfl rfl (Has.new' (by simp) _ _) ?_) | (refine list_conv (n := (128 + (n : Int) % 128)) (t := 5) rfl rfl rfl (Has.mix (Has.new' (by simp) _ _) _) ?_) | (refine list_conv (n := (128 + (n : Int) % 128)) (t := 5) rfl rfl rfl (Has.mix (Has.drew (Has.new' (by simp) _ _)) _) ?_) | (refine list_conv (n := (128 + (n : Int) % 128)) (t := 5) rfl rfl rfl (Has.drew (Has.new' (by simp) _ _)) ?_))
      show wpAny _ _ _ _ (3 + 1) _ _ _
      refine any_two (i := 5) (k := 8) (by kernel_rfl) rfl rfl ?_ ?_
      ·
        go_wp2_with (first | (go_at_call 50; refine (HR.out _).mono ?_; rintro e w' ⟨rfl, hb⟩; have hz := hb.size; (first | (obtain ⟨x1, rfl⟩ := to_mix2 hb) | (obtain ⟨x1, rfl⟩ := to_mix hb)); clear hb; (try simp only [World.size_alloc, World.size_setCell, World.size_drew] at hz); (try have q0 : w.heap.size < _ := Nat.lt_of_lt_of_le (by omega) hz); (try have q1 : w.heap.size + 1 < _ := Nat.lt_of_lt_of_le (by omega) hz); (try have q2 : w.heap.size + 1 + 1 < _ := Nat.lt_of_lt_of_le (by omega) hz); (try have q3 : w.heap.size + 1 + 1 + 1 < _ := Nat.lt_of_lt_of_le (by omega) hz)) | (refine list_conv (n := (128 + (n : Int) % 128)) (t := 5) rfl rfl rfl (Has.new' (by simp) _ _) ?_) | (refine list_conv (n := (128 + (n : Int) % 128)) (t := 5) rfl rfl rfl (Has.mix (Has.new' (by simp) _ _) _) ?_) | (refine list_conv (n := (128 + (n : Int) % 128)) (t := 5) rfl rfl rfl (Has.mix (Has.drew (Has.new' (by simp) _ _)) _) ?_) | (refine list_conv (n := (128 + (n : Int) % 128)) (t := 5) rfl rfl rfl (Has.drew (Has.new' (by simp) _ _)) ?_))
        show wpAny _ _ _ _ (2 + 1) _ _ _
        refine any_one (i := 8) (by kernel_rfl) rfl ?_
        go_wp2_with (first | (go_at_call 50; refine (HR.out _).mono ?_; rintro e w' ⟨rfl, hb⟩; have hz := hb.size; (first | (obtain ⟨x1, rfl⟩ := to_mix2 hb) | (obtain ⟨x1, rfl⟩ := to_mix hb)); clear hb; (try simp only [World.size_alloc, World.size_setCell, World.size_drew] at hz); (try have q0 : w.heap.size < _ := Nat.lt_of_lt_of_le (by omega) hz); (try have q1 : w.heap.size + 1 < _ := Nat.lt_of_lt_of_le (by omega) hz); (try have q2 : w.heap.size + 1 + 1 < _ := Nat.lt_of_lt_of_le (by omega) hz); (try have q3 : w.heap.size + 1 + 1 + 1 < _ := Nat.lt_of_lt_of_le (by omega) hz)) | (refine list_conv (n := (128 + (n : Int) % 128)) (t := 5) rfl rfl rfl (Has.new' (by simp) _ _) ?_) | (refine list_conv (n := (128 + (n : Int) % 128)) (t := 5) rfl rfl rfl (Has.mix (Has.new' (by simp) _ _) _) ?_) | (refine list_conv (n := (128 + (n : Int) % 128)) (t := 5) rfl rfl rfl (Has.mix (Has.drew (Has.new' (by simp) _ _)) _) ?_) | (refine list_conv (n := (128 + (n : Int) % 128)) (t := 5) rfl rfl rfl (Has.drew (Has.new' (by simp) _ _)) ?_))
        show wpAny _ _ _ _ (1 + 1) _ _ _
        refine any_one (i := 9) (by kernel_rfl) rfl ?_
        go_wp2_with (first | (go_at_call 50; refine (HR.out _).mono ?_; rintro e w' ⟨rfl, hb⟩; have hz := hb.size; (first | (obtain ⟨x1, rfl⟩ := to_mix2 hb) | (obtain ⟨x1, rfl⟩ := to_mix hb)); clear hb; (try simp only [World.size_alloc, World.size_setCell, World.size_drew] at hz); (try have q0 : w.heap.size < _ := Nat.lt_of_lt_of_le (by omega) hz); (try have q1 : w.heap.size + 1 < _ := Nat.lt_of_lt_of_le (by omega) hz); (try have q2 : w.heap.size + 1 + 1 < _ := Nat.lt_of_lt_of_le (by omega) hz); (try have q3 : w.heap.size + 1 + 1 + 1 < _ := Nat.lt_of_lt_of_le (by omega) hz)) | (refine list_conv (n := (128 + (n : Int) % 128)) (t := 5) rfl rfl rfl (Has.new' (by simp) _ _) ?_) | (refine list_conv (n := (128 + (n : Int) % 128)) (t := 5) rfl rfl rfl (Has.mix (Has.new' (by simp) _ _) _) ?_) | (refine list_conv (n := (128 + (n : Int) % 128)) (t := 5) rfl rfl rfl (Has.mix (Has.drew (Has.new' (by simp) _ _)) _) ?_) | (refine list_conv (n := (128 + (n : Int) % 128)) (t := 5) rfl rfl rfl (Has.drew (Has.new' (by simp) _ _)) ?_))
        show wpAny _ _ _ _ (0 + 1) _ _ _
        refine any_one (i := 10) (by kernel_rfl) rfl ?_
        go_wp2_with (first | (go_at_call 50; refine (HR.out _).mono ?_; rintro e w' ⟨rfl, hb⟩; have hz := hb.size; (first | (obtain ⟨x1, rfl⟩ := to_mix2 hb) | (obtain ⟨x1, rfl⟩ := to_mix hb)); clear hb; (try simp only [World.size_alloc, World.size_setCell, World.size_drew] at hz); (try have q0 : w.heap.size < _ := Nat.lt_of_lt_of_le (by omega) hz); (try have q1 : w.heap.size + 1 < _ := Nat.lt_of_lt_of_le (by omega) hz); (try have q2 : w.heap.size + 1 + 1 < _ := Nat.lt_of_lt_of_le (by omega) hz); (try have q3 : w.heap.size + 1 + 1 + 1 < _ := Nat.lt_of_lt_of_le (by omega) hz)) | (refine list_conv (n := (128 + (n : Int) % 128)) (t := 5) rfl rfl rfl (Has.new' (by simp) _ _) ?_) | (refine list_conv (n := (128 + (n : Int) % 128)) (t := 5) rfl rfl rfl (Has.mix (Has.new' (by simp) _ _) _) ?_) | (refine list_conv (n := (128 + (n : Int) % 128)) (t := 5) rfl rfl rfl (Has.mix (Has.drew (Has.new' (by simp) _ _)) _) ?_) | (refine list_conv (n := (128 + (n : Int) % 128)) (t := 5) rfl rfl rfl (Has.drew (Has.new' (by simp) _ _)) ?_))
        refine any_end (by kernel_rfl) ?_
        (go_wp2; go_ret; exact ⟨by rw [E2.out]; first | rfl | exact congrArg Ending.returned (str_two [_] bs), by (repeat (first | (with_reducible assumption) | (with_reducible exact Below.refl _ _) | (with_reducible refine grow_alloc ?_ _) | (with_reducible refine grow_mix ?_ _) | (with_reducible refine grow_drew ?_) | (with_reducible refine grow_drewN ?_ _) | (with_reducible refine grow_set ?_ (by first | (simp; done) | (simp; omega) | omega) _)))⟩)
      ·
        go_wp2_with (first | (go_at_call 50; refine (HR.out _).mono ?_; rintro e w' ⟨rfl, hb⟩; have hz := hb.size; (first | (obtain ⟨x1, rfl⟩ := to_mix2 hb) | (obtain ⟨x1, rfl⟩ := to_mix hb)); clear hb; (try simp only [World.size_alloc, World.size_setCell, World.size_drew] at hz); (try have q0 : w.heap.size < _ := Nat.lt_of_lt_of_le (by omega) hz); (try have q1 : w.heap.size + 1 < _ := Nat.lt_of_lt_of_le (by omega) hz); (try have q2 : w.heap.size + 1 + 1 < _ := Nat.lt_of_lt_of_le (by omega) hz); (try have q3 : w.heap.size + 1 + 1 + 1 < _ := Nat.lt_of_lt_of_le (by omega) hz)) | (refine list_conv (n := (128 + (n : Int) % 128)) (t := 5) rfl rfl rfl (Has.new' (by simp) _ _) ?_) | (refine list_conv (n := (128 + (n : Int) % 128)) (t := 5) rfl rfl rfl (Has.mix (Has.new' (by simp) _ _) _) ?_) | (refine list_conv (n := (128 + (n : Int) % 128)) (t := 5) rfl rfl rfl (Has.mix (Has.drew (Has.new' (by simp) _ _)) _) ?_) | (refine list_conv (n := (128 + (n : Int) % 128)) (t := 5) rfl rfl rfl (Has.drew (Has.new' (by simp) _ _)) ?_))
        show wpAny _ _ _ _ (2 + 1) _ _ _
        refine any_one (i := 5) (by kernel_rfl) rfl ?_
        go_wp2_with (first | (go_at_call 50; refine (HR.out _).mono ?_; rintro e w' ⟨rfl, hb⟩; have hz := hb.size; (first | (obtain ⟨x1, rfl⟩ := to_mix2 hb) | (obtain ⟨x1, rfl⟩ := to_mix hb)); clear hb; (try simp only [World.size_alloc, World.size_setCell, World.size_drew] at hz); (try have q0 : w.heap.size < _ := Nat.lt_of_lt_of_le (by omega) hz); (try have q1 : w.heap.size + 1 < _ := Nat.lt_of_lt_of_le (by omega) hz); (try have q2 : w.heap.size + 1 + 1 < _ := Nat.lt_of_lt_of_le (by omega) hz); (try have q3 : w.heap.size + 1 + 1 + 1 < _ := Nat.lt_of_lt_of_le (by omega) hz)) | (refine list_conv (n := (128 + (n : Int) % 128)) (t := 5) rfl rfl rfl (Has.new' (by simp) _ _) ?_) | (refine list_conv (n := (128 + (n : Int) % 128)) (t := 5) rfl rfl rfl (Has.mix (Has.new' (by simp) _ _) _) ?_) | (refine list_conv (n := (128 + (n : Int) % 128)) (t := 5) rfl rfl rfl (Has.mix (Has.drew (Has.new' (by simp) _ _)) _) ?_) | (refine list_conv (n := (128 + (n : Int) % 128)) (t := 5) rfl rfl rfl (Has.drew (Has.new' (by simp) _ _)) ?_))
        show wpAny _ _ _ _ (1 + 1) _ _ _
        refine any_one (i := 9) (by kernel_rfl) rfl ?_
        go_wp2_with (first | (go_at_call 50; refine (HR.out _).mono ?_; rintro e w' ⟨rfl, hb⟩; have hz := hb.size; (first | (obtain ⟨x1, rfl⟩ := to_mix2 hb) | (obtain ⟨x1, rfl⟩ := to_mix hb)); clear hb; (try simp only [World.size_alloc, World.size_setCell, World.size_drew] at hz); (try have q0 : w.heap.size < _ := Nat.lt_of_lt_of_le (by omega) hz); (try have q1 : w.heap.size + 1 < _ := Nat.lt_of_lt_of_le (by omega) hz); (try have q2 : w.heap.size + 1 + 1 < _ := Nat.lt_of_lt_of_le (by omega) hz); (try have q3 : w.heap.size + 1 + 1 + 1 < _ := Nat.lt_of_lt_of_le (by omega) hz)) | (refine list_conv (n := (128 + (n : Int) % 128)) (t := 5) rfl rfl rfl (Has.new' (by simp) _ _) ?_) | (refine list_conv (n := (128 + (n : Int) % 128)) (t := 5) rfl rfl rfl (Has.mix (Has.new' (by simp) _ _) _) ?_) | (refine list_conv (n := (128 + (n : Int) % 128)) (t := 5) rfl rfl rfl (Has.mix (Has.drew (Has.new' (by simp) _ _)) _) ?_) | (refine list_conv (n := (128 + (n : Int) % 128)) (t := 5) rfl rfl rfl (Has.drew (Has.new' (by simp) _ _)) ?_))
        show wpAny _ _ _ _ (0 + 1) _ _ _
        refine any_one (i := 10) (by kernel_rfl) rfl ?_
        go_wp2_with (first | (go_at_call 50; refine (HR.out _).mono ?_; rintro e w' ⟨rfl, hb⟩; have hz := hb.size; (first | (obtain ⟨x1, rfl⟩ := to_mix2 hb) | (obtain ⟨x1, rfl⟩ := to_mix hb)); clear hb; (try simp only [World.size_alloc, World.size_setCell, World.size_drew] at hz); (try have q0 : w.heap.size < _ := Nat.lt_of_lt_of_le (by omega) hz); (try have q1 : w.heap.size + 1 < _ := Nat.lt_of_lt_of_le (by omega) hz); (try have q2 : w.heap.size + 1 + 1 < _ := Nat.lt_of_lt_of_le (by omega) hz); (try have q3 : w.heap.size + 1 + 1 + 1 < _ := Nat.lt_of_lt_of_le (by omega) hz)) | (refine list_conv (n := (128 + (n : Int) % 128)) (t := 5) rfl rfl rfl (Has.new' (by simp) _ _) ?_) | (refine list_conv (n := (128 + (n : Int) % 128)) (t := 5) rfl rfl rfl (Has.mix (Has.new' (by simp) _ _) _) ?_) | (refine list_conv (n := (128 + (n : Int) % 128)) (t := 5) rfl rfl rfl (Has.mix (Has.drew (Has.new' (by simp) _ _)) _) ?_) | (refine list_conv (n := (128 + (n : Int) % 128)) (t := 5) rfl rfl rfl (Has.drew (Has.new' (by simp) _ _)) ?_))
        refine any_end (by kernel_rfl) ?_
        (go_wp2; go_ret; exact ⟨by rw [E2.out]; first | rfl | exact congrArg Ending.returned (str_two [_] bs), by (repeat (first | (with_reducible assumption) | (with_reducible exact Below.refl _ _) | (with_reducible refine grow_alloc ?_ _) | (with_reducible refine grow_mix ?_ _) | (with_reducible refine grow_drew ?_) | (with_reducible refine grow_drewN ?_ _) | (with_reducible refine grow_set ?_ (by first | (simp; done) | (simp; omega) | omega) _)))⟩)
    ·
      go_wp2_with (first | (go_at_call 50; refine (HR.out _).mono ?_; rintro e w' ⟨rfl, hb⟩; have hz := hb.size; (first | (obtain ⟨x1, rfl⟩ := to_mix2 hb) | (obtain ⟨x1, rfl⟩ := to_mix hb)); clear hb; (try simp only [World.size_alloc, World.size_setCell, World.size_drew] at hz); (try have q0 : w.heap.size < _ := Nat.lt_of_lt_of_le (by omega) hz); (try have q1 : w.heap.size + 1 < _ := Nat.lt_of_lt_of_le (by omega) hz); (try have q2 : w.heap.size + 1 + 1 < _ := Nat.lt_of_lt_of_le (by omega) hz); (try have q3 : w.heap.size + 1 + 1 + 1 < _ := Nat.lt_of_lt_of_le (by omega) hz)) | (refine list_conv (n := (128 + (n : Int) % 128)) (t := 5) rfl rfl rfl (Has.new' (by simp) _ _) ?_) | (refine list_conv (n := (128 + (n : Int) % 128)) (t := 5) rfl rfl rfl (Has.mix (Has.new' (by simp) _ _) _) ?_) | (refine list_conv (n := (128 + (n : Int) % 128)) (t := 5) rfl rfl rfl (Has.mix (Has.drew (Has.new' (by simp) _ _)) _) ?_) | (refine list_conv (n := (128 + (n : Int) % 128)) (t := 5) rfl rfl rfl (Has.drew (Has.new' (by simp) _ _)) ?_))
      show wpAny _ _ _ _ (3 + 1) _ _ _
      refine any_one (i := 4) (by kernel_rfl) rfl ?_
      go_wp2_with (first | (go_at_call 50; refine (HR.out _).mono ?_; rintro e w' ⟨rfl, hb⟩; have hz := hb.size; (first | (obtain ⟨x1, rfl⟩ := to_mix2 hb) | (obtain ⟨x1, rfl⟩ := to_mix hb)); clear hb; (try simp only [World.size_alloc, World.size_setCell, World.size_drew] at hz); (try have q0 : w.heap.size < _ := Nat.lt_of_lt_of_le (by omega) hz); (try have q1 : w.heap.size + 1 < _ := Nat.lt_of_lt_of_le (by omega) hz); (try have q2 : w.heap.size + 1 + 1 < _ := Nat.lt_of_lt_of_le (by omega) hz); (try have q3 : w.heap.size + 1 + 1 + 1 < _ := Nat.lt_of_lt_of_le (by omega) hz)) | (refine list_conv (n := (128 + (n : Int) % 128)) (t := 5) rfl rfl rfl (Has.new' (by simp) _ _) ?_) | (refine list_conv (n := (128 + (n : Int) % 128)) (t := 5) rfl rfl rfl (Has.mix (Has.new' (by simp) _ _) _) ?_) | (refine list_conv (n := (128 + (n : Int) % 128)) (t := 5) rfl rfl rfl (Has.mix (Has.drew (Has.new' (by simp) _ _)) _) ?_) | (refine list_conv (n := (128 + (n : Int) % 128)) (t := 5) rfl rfl rfl (Has.drew (Has.new' (by simp) _ _)) ?_))
      show wpAny _ _ _ _ (2 + 1) _ _ _
      refine any_one (i := 5) (by kernel_rfl) rfl ?_
      go_wp2_with (first | (go_at_call 50; refine (HR.out _).mono ?_; rintro e w' ⟨rfl, hb⟩; have hz := hb.size; (first | (obtain ⟨x1, rfl⟩ := to_mix2 hb) | (obtain ⟨x1, rfl⟩ := to_mix hb)); clear hb; (try simp only [World.size_alloc, World.size_setCell, World.size_drew] at hz); (try have q0 : w.heap.size < _ := Nat.lt_of_lt_of_le (by omega) hz); (try have q1 : w.heap.size + 1 < _ := Nat.lt_of_lt_of_le (by omega) hz); (try have q2 : w.heap.size + 1 + 1 < _ := Nat.lt_of_lt_of_le (by omega) hz); (try have q3 : w.heap.size + 1 + 1 + 1 < _ := Nat.lt_of_lt_of_le (by omega) hz)) | (refine list_conv (n := (128 + (n : Int) % 128)) (t := 5) rfl rfl rfl (Has.new' (by simp) _ _) ?_) | (refine list_conv (n := (128 + (n : Int) % 128)) (t := 5) rfl rfl rfl (Has.mix (Has.new' (by simp) _ _) _) ?_) | (refine list_conv (n := (128 + (n : Int) % 128)) (t := 5) rfl rfl rfl (Has.mix (Has.drew (Has.new' (by simp) _ _)) _) ?_) | (refine list_conv (n := (128 + (n : Int) % 128)) (t := 5) rfl rfl rfl (Has.drew (Has.new' (by simp) _ _)) ?_))
      show wpAny _ _ _ _ (1 + 1) _ _ _
      refine any_one (i := 9) (by kernel_rfl) rfl ?_
      go_wp2_with (first | (go_at_call 50; refine (HR.out _).mono ?_; rintro e w' ⟨rfl, hb⟩; have hz := hb.size; (first | (obtain ⟨x1, rfl⟩ := to_mix2 hb) | (obtain ⟨x1, rfl⟩ := to_mix hb)); clear hb; (try simp only [World.size_alloc, World.size_setCell, World.size_drew] at hz); (try have q0 : w.heap.size < _ := Nat.lt_of_lt_of_le (by omega) hz); (try have q1 : w.heap.size + 1 < _ := Nat.lt_of_lt_of_le (by omega) hz); (try have q2 : w.heap.size + 1 + 1 < _ := Nat.lt_of_lt_of_le (by omega) hz); (try have q3 : w.heap.size + 1 + 1 + 1 < _ := Nat.lt_of_lt_of_le (by omega) hz)) | (refine list_conv (n := (128 + (n : Int) % 128)) (t := 5) rfl rfl rfl (Has.new' (by simp) _ _) ?_) | (refine list_conv (n := (128 + (n : Int) % 128)) (t := 5) rfl rfl rfl (Has.mix (Has.new' (by simp) _ _) _) ?_) | (refine list_conv (n := (128 + (n : Int) % 128)) (t := 5) rfl rfl rfl (Has.mix (Has.drew (Has.new' (by simp) _ _)) _) ?_) | (refine list_conv (n := (128 + (n : Int) % 128)) (t := 5) rfl rfl rfl (Has.drew (Has.new' (by simp) _ _)) ?_))
      show wpAny _ _ _ _ (0 + 1) _ _ _
      refine any_one (i := 10) (by kernel_rfl) rfl ?_
      go_wp2_with (first | (go_at_call 50; refine (HR.out _).mono ?_; rintro e w' ⟨rfl, hb⟩; have hz := hb.size; (first | (obtain ⟨x1, rfl⟩ := to_mix2 hb) | (obtain ⟨x1, rfl⟩ := to_mix hb)); clear hb; (try simp only [World.size_alloc, World.size_setCell, World.size_drew] at hz); (try have q0 : w.heap.size < _ := Nat.lt_of_lt_of_le (by omega) hz); (try have q1 : w.heap.size + 1 < _ := Nat.lt_of_lt_of_le (by omega) hz); (try have q2 : w.heap.size + 1 + 1 < _ := Nat.lt_of_lt_of_le (by omega) hz); (try have q3 : w.heap.size + 1 + 1 + 1 < _ := Nat.lt_of_lt_of_le (by omega) hz)) | (refine list_conv (n := (128 + (n : Int) % 128)) (t := 5) rfl rfl rfl (Has.new' (by simp) _ _) ?_) | (refine list_conv (n := (128 + (n : Int) % 128)) (t := 5) rfl rfl rfl (Has.mix (Has.new' (by simp) _ _) _) ?_) | (refine list_conv (n := (128 + (n : Int) % 128)) (t := 5) rfl rfl rfl (Has.mix (Has.drew (Has.new' (by simp) _ _)) _) ?_) | (refine list_conv (n := (128 + (n : Int) % 128)) (t := 5) rfl rfl rfl (Has.drew (Has.new' (by simp) _ _)) ?_))
      refine any_end (by kernel_rfl) ?_
      (go_wp2; go_ret; exact ⟨by rw [E2.out]; first | rfl | exact congrArg Ending.returned (str_two [_] bs), by (repeat (first | (with_reducible assumption) | (with_reducible exact Below.refl _ _) | (with_reducible refine grow_alloc ?_ _) | (with_reducible refine grow_mix ?_ _) | (with_reducible refine grow_drew ?_) | (with_reducible refine grow_drewN ?_ _) | (with_reducible refine grow_set ?_ (by first | (simp; done) | (simp; omega) | omega) _)))⟩)
end Go.Proofs.YtedkfipjooafeaaGreatDoor.Code
set_option linter.unusedSimpArgs false
set_option linter.unusedVariables false
namespace Go.Proofs.YtedkfipjooafeaaGreatDoor.Crc
open Go Go.RowKit Go.Proofs.YtedkfipjooafeaaGreatDoor Go.Proofs.YtedkfipjooafeaaGreatDoor.Op

theorem wrap_i64_nat (n : Nat) (h : n < 9223372036854775808) : IntKind.i64.wrap (n : Int) = (n : Int) := by
  have e : (n : Int) % 2 ^ 64 = n := Int.emod_eq_of_lt (by omega) (by omega)
  simp only [IntKind.wrap, IntKind.bits, IntKind.signed, e]
  rw [if_neg]
  simp
  omega
theorem xor_i64 (a b : Nat) (ha : a < 4294967296) (hb : b < 4294967296) : bits .xor .i64 (a : Int) (b : Int) = ((a ^^^ b : Nat) : Int) := by
  have hx := xor_lt ha hb
  show IntKind.i64.wrap ((BitVec.ofInt 64 (a : Int) ^^^ BitVec.ofInt 64 (b : Int)).toNat : Int) = _
  rw [BitVec.toNat_xor, ofInt_u64 a (by omega), ofInt_u64 b (by omega)]
  exact wrap_i64_nat _ (by omega)
theorem xor_calls (a b : Nat) (ha : a < 4294967296) (hb : b < 4294967296) (w : World) :
    Calls Tryz.prog 93 #[.int .i64 a, .int .i64 b] w fun e w' => e = .returned (.int .i64 (a ^^^ b : Nat)) ∧ w = w' := by
  have h := xor_i64 a b ha hb
  obtain ⟨c, hc⟩ : ∃ c, a ^^^ b = c := ⟨_, rfl⟩
  rw [hc] at h ⊢
  clear hc
  go_enter Tryz.func93, Tryz.ntmps93
  go_wp2
  go_ret
  exact ⟨rfl, rfl⟩
def remL : Nat → Nat → Nat
  | 0, b => b
  | k + 1, b => remL k (step1 b)
theorem rem_succ (k b : Nat) : rem k (step1 b) = rem (k + 1) b := by
  induction k with
  | zero => rfl
  | succ k ih => show step1 (rem k (step1 b)) = step1 (rem (k + 1) b); rw [ih]
theorem remL_eq (k : Nat) : ∀ b, remL k b = rem k b := by
  induction k with
  | zero => intro b; rfl
  | succ k ih => intro b; show remL k (step1 b) = _; rw [ih, rem_succ]
theorem step1_odd {b : Nat} (h : b % 2 = 1) : step1 b = (b / 2) ^^^ 3988292384 := by unfold step1; rw [h]
theorem step1_even {b : Nat} (h : b % 2 = 0) : step1 b = b / 2 := by unfold step1; rw [h]; simp

theorem xor_at (a b c : Nat) (ha : a < 4294967296) (hb : b < 4294967296) (h : a ^^^ b = c) (w : World) :
    Calls Tryz.prog 93 #[.int .i64 a, .int .i64 b] w fun e w' => e = .returned (.int .i64 c) ∧ w = w' := by
  subst h; exact xor_calls a b ha hb w
set_option maxHeartbeats 400000 in
theorem rest_calls (k : Nat) : k ≤ 8 → ∀ (b : Nat), b < 4294967296 → ∀ (w : World),
    Calls Tryz.prog 94 #[.int .i64 b, .int .i64 k] w fun e w' => e = .returned (.int .i64 (remL k b)) ∧ w = w' := by
  induction k with
  | zero =>
    intro _ b hb w
    go_enter Tryz.func94, Tryz.ntmps94
    go_wp2
    go_ret
    exact ⟨rfl, rfl⟩
  | succ k ih =>
    intro hk b hb w
    have hk0 : (((k + 1 : Nat) : Int) == 0) = false := by simp; omega
    have hk1 : ((k + 1 : Nat) : Int) - 1 = (k : Int) := by omega
    have HE := Lib.hid (show remL (k + 1) b = remL k (step1 b) from rfl)
    obtain ⟨y, hy⟩ : ∃ y, step1 b = y := ⟨_, rfl⟩
    have hyl : y < 4294967296 := hy ▸ step1_lt hb
    rw [hy] at HE
    have R := Lib.hid (fun W => ih (by omega) y hyl W)
    clear ih
    by_cases h1 : b % 2 = 1
    · have hx := (step1_odd h1).symm.trans hy
      have X := Lib.hid (fun W => xor_at (b / 2) 3988292384 y (by omega) (by decide) hx W)
      have X' : ∀ W, Calls Tryz.prog 93 #[.int .i64 ((b : Int) / 2), .int .i64 3988292384] W fun e w' => e = .returned (.int .i64 y) ∧ W = w' := fun W => X.out W
      have X' := Lib.hid X'
      have h1' : (((b : Int) % 2) == 1) = true := by simp; omega
      clear hx hy h1 X
      go_enter Tryz.func94, Tryz.ntmps94
      go_wp2_with (first | (go_at_call 93; refine (X'.out _).mono ?_; rintro e w' ⟨rfl, rfl⟩) | (go_at_call 94; refine (R.out _).mono ?_; rintro e w' ⟨rfl, rfl⟩))
      go_ret
      exact ⟨by rw [HE.out]; rfl, rfl⟩
    · have h0 : b % 2 = 0 := by omega
      have hx := (step1_even h0).symm.trans hy
      have h1' : (((b : Int) % 2) == 1) = false := by simp; omega
      have hdiv : (b : Int) / 2 = (y : Int) := by omega
      clear hx hy h1 h0
      go_enter Tryz.func94, Tryz.ntmps94
      go_wp2_with (first | (go_at_call 94; refine (R.out _).mono ?_; rintro e w' ⟨rfl, rfl⟩))
      go_ret
      exact ⟨by rw [HE.out]; rfl, rfl⟩
theorem rest8_calls (b c : Nat) (hb : b < 4294967296) (h : rem 8 b = c) (w : World) :
    Calls Tryz.prog 94 #[.int .i64 b, .int .i64 8] w fun e w' => e = .returned (.int .i64 c) ∧ w = w' := by
  subst h
  rw [← remL_eq]
  exact rest_calls 8 (by decide) b hb w

set_option maxRecDepth 20000 in
set_option maxHeartbeats 1000000 in
theorem RollR_calls (sum : Nat) (hs : sum < 4294967296) (s : List UInt8) (hl : s.length ≤ 9223372036854775000) (w : World) :
    Calls Tryz.prog 78 #[.int .i64 sum, str s] w fun e w' => e = .returned (.int .i64 (4294967295 - rollN (4294967295 - sum) s : Nat)) ∧ Below w.heap.size w w' := by
  go_enter Tryz.func78, Tryz.ntmps78
  go_wp2
  go_loop [5, 6] (fun x i => ∃ k X : Nat, k ≤ s.length ∧ i = .int .i64 k ∧ X < 4294967296 ∧ x = .int .i64 X ∧ Hid (X = rollN (4294967295 - sum) (s.take k))) (fun _ i => s.length - (intOf i).toNat)
  case atStart => exact ⟨0, 4294967295 - sum, Nat.zero_le _, rfl, by omega, by congr 1; omega, Lib.hid (by simp [rollN])⟩
  case round =>
    obtain ⟨k, X, hk, rfl, hX, rfl, HX⟩ := hrel
    by_cases hlt : k < s.length
    · obtain ⟨c, hc⟩ : ∃ c, s[k] = c := ⟨_, rfl⟩
      have hcb : c.toNat < 256 := c.toNat_lt
      have hb := ba_get s k hlt
      rw [hc] at hb
      have HC := Lib.hid hc
      have hj : (X % 256) ^^^ c.toNat < 256 := Nat.xor_lt_two_pow (n := 8) (by omega) hcb
      obtain ⟨j, hjj⟩ : ∃ j, (X % 256) ^^^ c.toNat = j := ⟨_, rfl⟩
      rw [hjj] at hj
      obtain ⟨r, hr⟩ : ∃ r, rem 8 j = r := ⟨_, rfl⟩
      have hrl : r < 4294967296 := hr ▸ rem_lt (by omega) 8
      have X1 : ∀ W, Calls Tryz.prog 93 #[.int .i64 ((X : Int) % 256), .int .i64 (c.toNat : Int)] W fun e w' => e = .returned (.int .i64 j) ∧ W = w' := fun W => xor_at (X % 256) c.toNat j (by omega) (by omega) hjj W
      have R1 := Lib.hid (fun W => rest8_calls j r (by omega) hr W)
      obtain ⟨Y, hY⟩ : ∃ Y, (X / 256) ^^^ r = Y := ⟨_, rfl⟩
      have X2 : ∀ W, Calls Tryz.prog 93 #[.int .i64 ((X : Int) / 256), .int .i64 (r : Int)] W fun e w' => e = .returned (.int .i64 Y) ∧ W = w' := fun W => xor_at (X / 256) r Y (by omega) hrl hY W
      have hYl : Y < 4294967296 := hY ▸ xor_lt (by omega) hrl
      have HN := Lib.hid (show rollN (4294967295 - sum) (s.take (k + 1)) = Y by
        rw [rollN_next _ _ _ hlt, ← HX.out, HC.out]
        unfold roll1
        rw [hjj, hr, hY])
      have X1 := Lib.hid X1
      have X2 := Lib.hid X2
      have hwc : wrap64 (c.toNat : Int) = c.toNat := by unfold wrap64; omega
      clear hjj hY hc hr
      go_wp2_with (first | (go_at_call 93; (with_reducible refine (X1.out _).mono ?_); rintro e w' ⟨rfl, rfl⟩) | (go_at_call 93; (with_reducible refine (X2.out _).mono ?_); rintro e w' ⟨rfl, rfl⟩) | (go_at_call 94; refine (R1.out _).mono ?_; rintro e w' ⟨rfl, rfl⟩))
      go_round
      case rel => exact ⟨k + 1, Y, by omega, by go_num, hYl, rfl, Lib.hid HN.out.symm⟩
      case measure => simp [intOf]; omega
    · have hk' : k = s.length := by omega
      subst hk'
      have HE := Lib.hid (show X = rollN (4294967295 - sum) s by rw [HX.out, List.take_length])
      go_wp2
      go_ret
      refine ⟨?_, by (repeat (first | (with_reducible assumption) | (with_reducible exact Below.refl _ _) | (with_reducible refine grow_alloc ?_ _) | (with_reducible refine grow_mix ?_ _) | (with_reducible refine grow_drew ?_) | (with_reducible refine grow_drewN ?_ _) | (with_reducible refine grow_set ?_ (by first | (simp; done) | (simp; omega) | omega) _)))⟩
      rw [← HE.out]
      show Ending.returned (.int .i64 (4294967295 - (X : Int))) = _
      congr 2
      omega
theorem OfR_calls (s : List UInt8) (hl : s.length ≤ 9223372036854775000) (w : World) :
    Calls Tryz.prog 53 #[str s] w fun e w' => e = .returned (.int .i64 (crcOf s)) ∧ Below w.heap.size w w' := by
  have R := Lib.hid (fun W => RollR_calls 0 (by decide) s hl W)
  go_enter Tryz.func53, Tryz.ntmps53
  go_wp2_with (first | (go_at_call 78; refine (R.out _).mono ?_; rintro e w' ⟨rfl, hb⟩; have hz := hb.size; (first | (obtain ⟨x1, rfl⟩ := to_mix2 hb) | (obtain ⟨x1, rfl⟩ := to_mix hb)); clear hb; (try simp only [World.size_alloc, World.size_setCell, World.size_drew] at hz); (try have q0 : w.heap.size < _ := Nat.lt_of_lt_of_le (by omega) hz); (try have q1 : w.heap.size + 1 < _ := Nat.lt_of_lt_of_le (by omega) hz); (try have q2 : w.heap.size + 1 + 1 < _ := Nat.lt_of_lt_of_le (by omega) hz); (try have q3 : w.heap.size + 1 + 1 + 1 < _ := Nat.lt_of_lt_of_le (by omega) hz)))
  go_ret
  exact ⟨rfl, by (repeat (first | (with_reducible assumption) | (with_reducible exact Below.refl _ _) | (with_reducible refine grow_alloc ?_ _) | (with_reducible refine grow_mix ?_ _) | (with_reducible refine grow_drew ?_) | (with_reducible refine grow_drewN ?_ _) | (with_reducible refine grow_set ?_ (by first | (simp; done) | (simp; omega) | omega) _)))⟩
end Go.Proofs.YtedkfipjooafeaaGreatDoor.Crc
set_option linter.unusedSimpArgs false
set_option linter.unusedVariables false
namespace Go.Proofs.YtedkfipjooafeaaGreatDoor.Code
open Go Go.RowKit Go.Proofs.YtedkfipjooafeaaGreatDoor Go.Proofs.YtedkfipjooafeaaGreatDoor.Op Go.Proofs.YtedkfipjooafeaaGreatDoor.Wire

@[simp, go_sem] theorem ba_join (a b : List UInt8) : (⟨a.toArray⟩ : ByteArray) ++ ⟨b.toArray⟩ = ⟨(a ++ b).toArray⟩ := ba_append a b
theorem PutR_calls (n : Int) (h0 : 0 ≤ n) (h : n ≤ 281474976710655) (w : World) :
    Calls Tryz.prog 50 #[.int .i64 n] w fun e w' => e = .returned (str (putI n)) ∧ Below w.heap.size w w' := by
  obtain ⟨m, rfl⟩ := Int.eq_ofNat_of_zero_le h0
  exact PutR_nat m (by omega) w
theorem mayPR_at (p : Pg) (v : Value) (b : Bool) (hb : mayP p = b) (w : World) (h : ProgAt w w.heap.size v p) (hl : p.length ≤ 9223372036854775000) (hc : ∀ f ∈ p, f.code.length ≤ 9223372036854775000) :
    Calls Tryz.prog 16 #[v] w fun e w' => e = .returned (.bool b) ∧ Below w.heap.size w w' := by
  subst hb; exact MayP_calls p v w h hl hc
theorem EncodeR_no (p : Pg) (v : Value) (w : World) (hm : mayP p = false) (h : ProgAt w w.heap.size v p) (hl : p.length ≤ 9223372036854775000) (hc : ∀ f ∈ p, f.code.length ≤ 9223372036854775000) :
    Calls Tryz.prog 20 #[v] w fun e w' => e = .returned (str []) ∧ Below w.heap.size w w' := by
  have M := Lib.hid (mayPR_at p v false hm w h hl hc)
  obtain ⟨A, c, rfl⟩ := h.form
  clear h hc hm
  go_enter Tryz.func20, Tryz.ntmps20
  go_wp2_with (first | (go_at_call 16; (with_reducible refine (M.out).mono ?_); rintro e w' ⟨rfl, hb⟩; have hz := hb.size; (first | (obtain ⟨x1, rfl⟩ := to_mix2 hb) | (obtain ⟨x1, rfl⟩ := to_mix hb)); clear hb; (try simp only [World.size_alloc, World.size_setCell, World.size_drew] at hz); (try have q0 : w.heap.size < _ := Nat.lt_of_lt_of_le (by omega) hz); (try have q1 : w.heap.size + 1 < _ := Nat.lt_of_lt_of_le (by omega) hz); (try have q2 : w.heap.size + 1 + 1 < _ := Nat.lt_of_lt_of_le (by omega) hz); (try have q3 : w.heap.size + 1 + 1 + 1 < _ := Nat.lt_of_lt_of_le (by omega) hz)))
  go_ret
  exact ⟨rfl, by (repeat (first | (with_reducible assumption) | (with_reducible exact Below.refl _ _) | (with_reducible refine grow_alloc ?_ _) | (with_reducible refine grow_mix ?_ _) | (with_reducible refine grow_drew ?_) | (with_reducible refine grow_drewN ?_ _) | (with_reducible refine grow_set ?_ (by first | (simp; done) | (simp; omega) | omega) _)))⟩
theorem encI_0 {x : Ins} (h : opFields x.op = 0) : encI x = [UInt8.ofNat x.op.toNat] := by unfold encI fieldsB; rw [h]; rfl
theorem encI_1 {x : Ins} (h : opFields x.op = 1) : encI x = [UInt8.ofNat x.op.toNat] ++ putI x.a := by unfold encI fieldsB; rw [h]; simp
theorem encI_2 {x : Ins} (h : opFields x.op = 2) : encI x = [UInt8.ofNat x.op.toNat] ++ putI x.a ++ putI x.b := by unfold encI fieldsB; rw [h]; simp
set_option maxRecDepth 20000 in
set_option maxHeartbeats 8000000 in
theorem EncodeR_yes (p : Pg) (v : Value) (w : World) (hm : mayP p = true) (h : ProgAt w w.heap.size v p) :
    Calls Tryz.prog 20 #[v] w fun e w' => e = .returned (str (putI p.length ++ p.flatMap encF)) ∧ Below w.heap.size w w' := by
  have PM := Lib.hid (mayP_parts hm)
  have M := Lib.hid (mayPR_at p v true hm w h (by have := PM.out.2.2; omega) (fun f hf => by have := mayF_parts (PM.out.1 f hf); omega))
  obtain ⟨A, c, rfl⟩ := h.form
  have HC := Lib.hid h
  have hp16 : p.length ≤ 16 := PM.out.2.2
  have P0 := Lib.hid (fun W => PutR_calls p.length (by omega) (by omega) W)
  obtain ⟨z0, hz0⟩ : ∃ z, putI p.length = z := ⟨_, rfl⟩
  have hz0l : z0.length ≤ 7 := by rw [← hz0]; exact putI_len (by omega) (by omega)
  rw [hz0] at P0 ⊢
  clear h hm hz0
  go_enter Tryz.func20, Tryz.ntmps20
  go_wp2_with (first | (go_at_call 16; (with_reducible refine (M.out).mono ?_); rintro e w' ⟨rfl, hb⟩; have hz := hb.size; (first | (obtain ⟨x1, rfl⟩ := to_mix2 hb) | (obtain ⟨x1, rfl⟩ := to_mix hb)); clear hb; (try simp only [World.size_alloc, World.size_setCell, World.size_drew] at hz); (try have q0 : w.heap.size < _ := Nat.lt_of_lt_of_le (by omega) hz); (try have q1 : w.heap.size + 1 < _ := Nat.lt_of_lt_of_le (by omega) hz); (try have q2 : w.heap.size + 1 + 1 < _ := Nat.lt_of_lt_of_le (by omega) hz); (try have q3 : w.heap.size + 1 + 1 + 1 < _ := Nat.lt_of_lt_of_le (by omega) hz)) | (go_at_call 50; (with_reducible refine (P0.out _).mono ?_); rintro e w' ⟨rfl, hb⟩; have hz := hb.size; (first | (obtain ⟨x1, rfl⟩ := to_mix2 hb) | (obtain ⟨x1, rfl⟩ := to_mix hb)); clear hb; (try simp only [World.size_alloc, World.size_setCell, World.size_drew] at hz); (try have q0 : w.heap.size < _ := Nat.lt_of_lt_of_le (by omega) hz); (try have q1 : w.heap.size + 1 < _ := Nat.lt_of_lt_of_le (by omega) hz); (try have q2 : w.heap.size + 1 + 1 < _ := Nat.lt_of_lt_of_le (by omega) hz); (try have q3 : w.heap.size + 1 + 1 + 1 < _ := Nat.lt_of_lt_of_le (by omega) hz)))
  go_loopw [3, 4] (fun s i wr => ∃ (k : Nat) (acc : B), k ≤ p.length ∧ i = .int .i64 k ∧ s = str acc ∧ acc.length ≤ 7 + 3100 * k ∧ Below w.heap.size w wr ∧ Hid (acc = z0 ++ (p.take k).flatMap encF)) (fun _ i _ => p.length - (intOf i).toNat)
  case atStart => exact ⟨0, z0, Nat.zero_le _, rfl, rfl, by omega, by (repeat (first | (with_reducible assumption) | (with_reducible exact Below.refl _ _) | (with_reducible refine grow_alloc ?_ _) | (with_reducible refine grow_mix ?_ _) | (with_reducible refine grow_drew ?_) | (with_reducible refine grow_drewN ?_ _) | (with_reducible refine grow_set ?_ (by first | (simp; done) | (simp; omega) | omega) _))), Lib.hid (by simp)⟩
  case round =>
    obtain ⟨k, acc, hk, rfl, rfl, hal, hb, HS⟩ := hrel
    by_cases hlt : k < p.length
    · obtain ⟨a, c', u, e, hab, c0, c1, c2, c3, hcd⟩ := HC.out.at2 hb hlt
      injection e with e1 e2 e3
      subst e1 e3
      obtain ⟨A', c', rfl⟩ := hcd.form
      have hx : p[k]? = some p[k] := List.getElem?_eq_getElem hlt
      have hmf := PM.out.1 p[k] (List.getElem_mem hlt)
      obtain ⟨f, hf⟩ : ∃ f, p[k] = f := ⟨_, rfl⟩
      rw [hf] at c0 c1 c2 c3 hcd hx hmf
      have hn200 : f.code.length ≤ 200 := (mayF_parts hmf).2.2.2.2.1
      have hzr := hb.size
      have HF := Lib.hid (And.intro hf (And.intro hx hmf))
      have HCD := Lib.hid hcd
      have hq3 : (a.add (k * 4)).block < wr.heap.size := by rw [add_block]; omega
      obtain ⟨q1, hq1⟩ : ∃ z, putI f.ar = z := ⟨_, rfl⟩
      obtain ⟨q2, hq2⟩ : ∃ z, putI f.lo = z := ⟨_, rfl⟩
      obtain ⟨q3, hq3'⟩ : ∃ z, putI f.sl = z := ⟨_, rfl⟩
      obtain ⟨q4, hq4⟩ : ∃ z, putI f.code.length = z := ⟨_, rfl⟩
      have l1 : q1.length ≤ 7 := by rw [← hq1]; have := (mayF_parts hmf).1; exact putI_len (by omega) (by omega)
      have l2 : q2.length ≤ 7 := by rw [← hq2]; have := (mayF_parts hmf).2.1; exact putI_len (by omega) (by omega)
      have l3 : q3.length ≤ 7 := by rw [← hq3']; have := (mayF_parts hmf).2.2.1; exact putI_len (by omega) (by omega)
      have l4 : q4.length ≤ 7 := by rw [← hq4]; exact putI_len (by omega) (by omega)
      have P1 := Lib.hid (fun W => PutR_calls f.ar (by have := (mayF_parts hmf).1; omega) (by have := (mayF_parts hmf).1; omega) W)
      have P2 := Lib.hid (fun W => PutR_calls f.lo (by have := (mayF_parts hmf).2.1; omega) (by have := (mayF_parts hmf).2.1; omega) W)
      have P3 := Lib.hid (fun W => PutR_calls f.sl (by have := (mayF_parts hmf).2.2.1; omega) (by have := (mayF_parts hmf).2.2.1; omega) W)
      have P4 := Lib.hid (fun W => PutR_calls f.code.length (by omega) (by omega) W)
      rw [hq1] at P1
      rw [hq2] at P2
      rw [hq3'] at P3
      rw [hq4] at P4
      have HQ := Lib.hid (show [f.ar, f.lo, f.sl, (f.code.length : Int)].flatMap putI = q1 ++ q2 ++ q3 ++ q4 by simp [hq1, hq2, hq3', hq4])
      have s1 : q1.length + q2.length ≤ 9223372036854775807 := by omega
      have s2 : q1.length + q2.length + q3.length ≤ 9223372036854775807 := by omega
      have s3 : q1.length + q2.length + q3.length + q4.length ≤ 9223372036854775807 := by omega
      have s4 : acc.length + (q1.length + q2.length + q3.length + q4.length) ≤ 9223372036854775807 := by omega
      clear hf hx hcd hmf hq1 hq2 hq3' hq4
      go_wp2
      refine wp_region_mix 18 (by kernel_rfl) (by kernel_rfl) ?_
      simp only [List.take_succ_cons, List.take_zero, List.drop_succ_cons, List.drop_zero]
      repeat (go_big_quiet_step (((first | (go_at_call 50; (with_reducible exact mix_call (P1.out _))) | (go_at_call 50; (with_reducible exact mix_call (P2.out _))) | (go_at_call 50; (with_reducible exact mix_call (P3.out _))) | (go_at_call 50; (with_reducible exact mix_call (P4.out _)))))))
      refine wpQuiet_nil ?_
      intro _ hmix
      (try (with_reducible replace hmix := mix_flat hmix))
      obtain ⟨x1, hmix'⟩ := hmix
      have hz := mix_size' hmix'
      subst hmix'
      (try simp only [World.size_alloc, World.size_setCell, World.size_drew] at hz); (try have q0 : w.heap.size < _ := Nat.lt_of_lt_of_le (by omega) hz); (try have q1 : w.heap.size + 1 < _ := Nat.lt_of_lt_of_le (by omega) hz); (try have q2 : w.heap.size + 1 + 1 < _ := Nat.lt_of_lt_of_le (by omega) hz); (try have q3 : w.heap.size + 1 + 1 + 1 < _ := Nat.lt_of_lt_of_le (by omega) hz)
      go_wp2
      obtain ⟨wq, hwq⟩ : ∃ wq : World, wq = wr := ⟨_, rfl⟩
      subst hwq
      refine wp_at' (fun W => Has W wq.heap.size #[.int .i64 f.ar, .int .i64 f.lo, .int .i64 f.sl, .slice A' f.code.length c'] 39 ∧ Below w.heap.size w W) ⟨by (repeat (first | (with_reducible assumption) | (with_reducible exact Has.new _ _ _) | (with_reducible exact Has.new' (by first | rfl | (simp; done) | (simp; omega)) _ _) | (with_reducible apply Has.alloc) | (with_reducible apply Has.mix) | (with_reducible apply Has.drew) | (with_reducible apply Has.drewN) | (with_reducible apply Has.set_same) | (with_reducible apply Has.set_other (hp := (by first | (simp; done) | (simp; omega) | omega))) | (with_reducible rfl) | rfl)), by (repeat (first | (with_reducible assumption) | (with_reducible exact Below.refl _ _) | (with_reducible refine grow_alloc ?_ _) | (with_reducible refine grow_mix ?_ _) | (with_reducible refine grow_drew ?_) | (with_reducible refine grow_drewN ?_ _) | (with_reducible refine grow_set ?_ (by first | (simp; done) | (simp; omega) | omega) _)))⟩ ?_
      rintro wo ⟨hF, hbo⟩
      clear s1 s2 s3 s4 P1 P2 P3 P4
      have hfl := hF.lt
      have HFF := Lib.hid hF
      clear c0 c1 c2 c3
      obtain ⟨acc2, hacc2⟩ : ∃ z, acc ++ (q1 ++ (q2 ++ (q3 ++ q4))) = z := ⟨_, rfl⟩
      have ha2 : acc2.length ≤ 35 + 3100 * k := by rw [← hacc2]; simp; omega
      have HA2 := Lib.hid hacc2
      simp only [hacc2]
      clear hacc2 hF
      go_loopw [3, 6] (fun s j wi => ∃ (m : Nat) (ac : B), m ≤ f.code.length ∧ j = .int .i64 m ∧ s = str ac ∧ ac.length ≤ 35 + 3100 * k + 15 * m ∧ Below w.heap.size w wi ∧ Has wi wq.heap.size #[.int .i64 f.ar, .int .i64 f.lo, .int .i64 f.sl, .slice A' f.code.length c'] 39 ∧ Hid (ac = acc2 ++ encC (f.code.take m))) (fun _ j _ => f.code.length - (intOf j).toNat)
      case atStart => exact ⟨0, acc2, Nat.zero_le _, rfl, rfl, by omega, hbo, HFF.out, Lib.hid (by simp [encC])⟩
      case round =>
        obtain ⟨m, ac, hm, rfl, rfl, hacl, hbi, hFi, HI⟩ := hrel
        have hFi_c0 := hFi.cell 0
        have hFi_c1 := hFi.cell 1
        have hFi_c2 := hFi.cell 2
        have hFi_c3 := hFi.cell 3
        have hFi_f := hFi.frozen
        have hFi_l := hFi.lt
        simp only [List.size_toArray, List.length_cons, List.length_nil, Nat.reduceAdd, Nat.zero_lt_succ, Nat.one_lt_succ_succ, Nat.reduceLT, getElem?_pos, List.getElem_toArray, List.getElem_cons_zero, List.getElem_cons_succ] at hFi_c0 hFi_c1 hFi_c2 hFi_c3
        by_cases hmt : m < f.code.length
        · obtain ⟨ai, ci, e, habi, d0, d1, d2⟩ := HCD.out.at2 hbi hmt
          injection e with e1 e2 e3
          subst e1 e3
          have hxi : f.code[m]? = some f.code[m] := List.getElem?_eq_getElem hmt
          have hmi : mayI f.code[m] = true := List.all_eq_true.1 (mayF_parts HF.out.2.2).2.2.2.2.2 _ (List.getElem_mem hmt)
          obtain ⟨x, hxe⟩ : ∃ x, f.code[m] = x := ⟨_, rfl⟩
          rw [hxe] at d0 d1 d2 hxi hmi
          have hxb := mayI_bd hmi
          have hbi' := hbi.size
          have hq4 : (ai.add (m * 3)).block < wr.heap.size := by rw [add_block]; omega
          have cv := conv_one (w := (wr.alloc (.cells #[.int .i64 x.op, .int .i64 x.a, .int .i64 x.b] 64)).alloc (.cells #[.int .u8 x.op] 5)) 1 (Has.new' (b := wr.heap.size + 1) (by simp) #[.int .u8 x.op] 5)
          have ha : ac.length + 1 ≤ 9223372036854775807 := by omega
          obtain ⟨r1, hr1⟩ : ∃ z, putI x.a = z := ⟨_, rfl⟩
          obtain ⟨r2, hr2⟩ : ∃ z, putI x.b = z := ⟨_, rfl⟩
          have l1 : r1.length ≤ 7 := by rw [← hr1]; exact putI_len (by omega) (by omega)
          have l2 : r2.length ≤ 7 := by rw [← hr2]; exact putI_len (by omega) (by omega)
          have P1 := Lib.hid (fun W => PutR_calls x.a (by omega) (by omega) W)
          have P2 := Lib.hid (fun W => PutR_calls x.b (by omega) (by omega) W)
          have FR := Lib.hid (fun W => FieldsR_calls x.op W)
          rw [hr1] at P1
          rw [hr2] at P2
          have b1 : ac.length + 1 + r1.length ≤ 9223372036854775807 := by omega
          have b2 : ac.length + 1 + r1.length + r2.length ≤ 9223372036854775807 := by omega
          have HX := Lib.hid (And.intro hxi (And.intro hr1 hr2))
          have x17 : x.op < 256 := by omega
          obtain ⟨hx0, hx17, _⟩ := hxb
          clear hxi hxe hmi hr1 hr2
          rcases fields_len x.op with hf | hf | hf
          · have HFn := Lib.hid hf
            rw [hf] at FR
            clear hf
            go_wp2_with (first | (go_at_call 51; (with_reducible refine (FR.out _).mono ?_); rintro e w' ⟨rfl, hb⟩; have hz := hb.size; (first | (obtain ⟨x1, rfl⟩ := to_mix2 hb) | (obtain ⟨x1, rfl⟩ := to_mix hb)); clear hb; (try simp only [World.size_alloc, World.size_setCell, World.size_drew] at hz); (try have q0 : w.heap.size < _ := Nat.lt_of_lt_of_le (by omega) hz); (try have q1 : w.heap.size + 1 < _ := Nat.lt_of_lt_of_le (by omega) hz); (try have q2 : w.heap.size + 1 + 1 < _ := Nat.lt_of_lt_of_le (by omega) hz); (try have q3 : w.heap.size + 1 + 1 + 1 < _ := Nat.lt_of_lt_of_le (by omega) hz)) | (go_at_call 50; (with_reducible refine (P1.out _).mono ?_); rintro e w' ⟨rfl, hb⟩; have hz := hb.size; (first | (obtain ⟨x1, rfl⟩ := to_mix2 hb) | (obtain ⟨x1, rfl⟩ := to_mix hb)); clear hb; (try simp only [World.size_alloc, World.size_setCell, World.size_drew] at hz); (try have q0 : w.heap.size < _ := Nat.lt_of_lt_of_le (by omega) hz); (try have q1 : w.heap.size + 1 < _ := Nat.lt_of_lt_of_le (by omega) hz); (try have q2 : w.heap.size + 1 + 1 < _ := Nat.lt_of_lt_of_le (by omega) hz); (try have q3 : w.heap.size + 1 + 1 + 1 < _ := Nat.lt_of_lt_of_le (by omega) hz)) | (go_at_call 50; (with_reducible refine (P2.out _).mono ?_); rintro e w' ⟨rfl, hb⟩; have hz := hb.size; (first | (obtain ⟨x1, rfl⟩ := to_mix2 hb) | (obtain ⟨x1, rfl⟩ := to_mix hb)); clear hb; (try simp only [World.size_alloc, World.size_setCell, World.size_drew] at hz); (try have q0 : w.heap.size < _ := Nat.lt_of_lt_of_le (by omega) hz); (try have q1 : w.heap.size + 1 < _ := Nat.lt_of_lt_of_le (by omega) hz); (try have q2 : w.heap.size + 1 + 1 < _ := Nat.lt_of_lt_of_le (by omega) hz); (try have q3 : w.heap.size + 1 + 1 + 1 < _ := Nat.lt_of_lt_of_le (by omega) hz)))
            go_roundw
            case rel => exact ⟨m + 1, ac ++ [UInt8.ofNat x.op.toNat], by omega, by go_num, (by first | rfl | simp), by simp; omega, by (repeat (first | (with_reducible assumption) | (with_reducible exact Below.refl _ _) | (with_reducible refine grow_alloc ?_ _) | (with_reducible refine grow_mix ?_ _) | (with_reducible refine grow_drew ?_) | (with_reducible refine grow_drewN ?_ _) | (with_reducible refine grow_set ?_ (by first | (simp; done) | (simp; omega) | omega) _))), by (repeat (first | (with_reducible assumption) | (with_reducible exact Has.new _ _ _) | (with_reducible exact Has.new' (by first | rfl | (simp; done) | (simp; omega)) _ _) | (with_reducible apply Has.alloc) | (with_reducible apply Has.mix) | (with_reducible apply Has.drew) | (with_reducible apply Has.drewN) | (with_reducible apply Has.set_same) | (with_reducible apply Has.set_other (hp := (by first | (simp; done) | (simp; omega) | omega))) | (with_reducible rfl) | rfl)), Lib.hid (by rw [HI.out, show encC (f.code.take (m + 1)) = encC (f.code.take m) ++ encI x from flat_next _ _ _ _ HX.out.1, encI_0 HFn.out]; simp [HX.out.2.1, HX.out.2.2])⟩
            case measure => simp [intOf]; omega
          · have HFn := Lib.hid hf
            rw [hf] at FR
            clear hf
            go_wp2_with (first | (go_at_call 51; (with_reducible refine (FR.out _).mono ?_); rintro e w' ⟨rfl, hb⟩; have hz := hb.size; (first | (obtain ⟨x1, rfl⟩ := to_mix2 hb) | (obtain ⟨x1, rfl⟩ := to_mix hb)); clear hb; (try simp only [World.size_alloc, World.size_setCell, World.size_drew] at hz); (try have q0 : w.heap.size < _ := Nat.lt_of_lt_of_le (by omega) hz); (try have q1 : w.heap.size + 1 < _ := Nat.lt_of_lt_of_le (by omega) hz); (try have q2 : w.heap.size + 1 + 1 < _ := Nat.lt_of_lt_of_le (by omega) hz); (try have q3 : w.heap.size + 1 + 1 + 1 < _ := Nat.lt_of_lt_of_le (by omega) hz)) | (go_at_call 50; (with_reducible refine (P1.out _).mono ?_); rintro e w' ⟨rfl, hb⟩; have hz := hb.size; (first | (obtain ⟨x1, rfl⟩ := to_mix2 hb) | (obtain ⟨x1, rfl⟩ := to_mix hb)); clear hb; (try simp only [World.size_alloc, World.size_setCell, World.size_drew] at hz); (try have q0 : w.heap.size < _ := Nat.lt_of_lt_of_le (by omega) hz); (try have q1 : w.heap.size + 1 < _ := Nat.lt_of_lt_of_le (by omega) hz); (try have q2 : w.heap.size + 1 + 1 < _ := Nat.lt_of_lt_of_le (by omega) hz); (try have q3 : w.heap.size + 1 + 1 + 1 < _ := Nat.lt_of_lt_of_le (by omega) hz)) | (go_at_call 50; (with_reducible refine (P2.out _).mono ?_); rintro e w' ⟨rfl, hb⟩; have hz := hb.size; (first | (obtain ⟨x1, rfl⟩ := to_mix2 hb) | (obtain ⟨x1, rfl⟩ := to_mix hb)); clear hb; (try simp only [World.size_alloc, World.size_setCell, World.size_drew] at hz); (try have q0 : w.heap.size < _ := Nat.lt_of_lt_of_le (by omega) hz); (try have q1 : w.heap.size + 1 < _ := Nat.lt_of_lt_of_le (by omega) hz); (try have q2 : w.heap.size + 1 + 1 < _ := Nat.lt_of_lt_of_le (by omega) hz); (try have q3 : w.heap.size + 1 + 1 + 1 < _ := Nat.lt_of_lt_of_le (by omega) hz)))
            go_roundw
            case rel => exact ⟨m + 1, ac ++ (UInt8.ofNat x.op.toNat :: r1), by omega, by go_num, (by first | rfl | simp), by simp; omega, by (repeat (first | (with_reducible assumption) | (with_reducible exact Below.refl _ _) | (with_reducible refine grow_alloc ?_ _) | (with_reducible refine grow_mix ?_ _) | (with_reducible refine grow_drew ?_) | (with_reducible refine grow_drewN ?_ _) | (with_reducible refine grow_set ?_ (by first | (simp; done) | (simp; omega) | omega) _))), by (repeat (first | (with_reducible assumption) | (with_reducible exact Has.new _ _ _) | (with_reducible exact Has.new' (by first | rfl | (simp; done) | (simp; omega)) _ _) | (with_reducible apply Has.alloc) | (with_reducible apply Has.mix) | (with_reducible apply Has.drew) | (with_reducible apply Has.drewN) | (with_reducible apply Has.set_same) | (with_reducible apply Has.set_other (hp := (by first | (simp; done) | (simp; omega) | omega))) | (with_reducible rfl) | rfl)), Lib.hid (by rw [HI.out, show encC (f.code.take (m + 1)) = encC (f.code.take m) ++ encI x from flat_next _ _ _ _ HX.out.1, encI_1 HFn.out]; simp [HX.out.2.1, HX.out.2.2])⟩
            case measure => simp [intOf]; omega
          · have HFn := Lib.hid hf
            rw [hf] at FR
            clear hf
            go_wp2_with (first | (go_at_call 51; (with_reducible refine (FR.out _).mono ?_); rintro e w' ⟨rfl, hb⟩; have hz := hb.size; (first | (obtain ⟨x1, rfl⟩ := to_mix2 hb) | (obtain ⟨x1, rfl⟩ := to_mix hb)); clear hb; (try simp only [World.size_alloc, World.size_setCell, World.size_drew] at hz); (try have q0 : w.heap.size < _ := Nat.lt_of_lt_of_le (by omega) hz); (try have q1 : w.heap.size + 1 < _ := Nat.lt_of_lt_of_le (by omega) hz); (try have q2 : w.heap.size + 1 + 1 < _ := Nat.lt_of_lt_of_le (by omega) hz); (try have q3 : w.heap.size + 1 + 1 + 1 < _ := Nat.lt_of_lt_of_le (by omega) hz)) | (go_at_call 50; (with_reducible refine (P1.out _).mono ?_); rintro e w' ⟨rfl, hb⟩; have hz := hb.size; (first | (obtain ⟨x1, rfl⟩ := to_mix2 hb) | (obtain ⟨x1, rfl⟩ := to_mix hb)); clear hb; (try simp only [World.size_alloc, World.size_setCell, World.size_drew] at hz); (try have q0 : w.heap.size < _ := Nat.lt_of_lt_of_le (by omega) hz); (try have q1 : w.heap.size + 1 < _ := Nat.lt_of_lt_of_le (by omega) hz); (try have q2 : w.heap.size + 1 + 1 < _ := Nat.lt_of_lt_of_le (by omega) hz); (try have q3 : w.heap.size + 1 + 1 + 1 < _ := Nat.lt_of_lt_of_le (by omega) hz)) | (go_at_call 50; (with_reducible refine (P2.out _).mono ?_); rintro e w' ⟨rfl, hb⟩; have hz := hb.size; (first | (obtain ⟨x1, rfl⟩ := to_mix2 hb) | (obtain ⟨x1, rfl⟩ := to_mix hb)); clear hb; (try simp only [World.size_alloc, World.size_setCell, World.size_drew] at hz); (try have q0 : w.heap.size < _ := Nat.lt_of_lt_of_le (by omega) hz); (try have q1 : w.heap.size + 1 < _ := Nat.lt_of_lt_of_le (by omega) hz); (try have q2 : w.heap.size + 1 + 1 < _ := Nat.lt_of_lt_of_le (by omega) hz); (try have q3 : w.heap.size + 1 + 1 + 1 < _ := Nat.lt_of_lt_of_le (by omega) hz)))
            go_roundw
            case rel => exact ⟨m + 1, ac ++ (UInt8.ofNat x.op.toNat :: (r1 ++ r2)), by omega, by go_num, (by first | rfl | simp), by simp; omega, by (repeat (first | (with_reducible assumption) | (with_reducible exact Below.refl _ _) | (with_reducible refine grow_alloc ?_ _) | (with_reducible refine grow_mix ?_ _) | (with_reducible refine grow_drew ?_) | (with_reducible refine grow_drewN ?_ _) | (with_reducible refine grow_set ?_ (by first | (simp; done) | (simp; omega) | omega) _))), by (repeat (first | (with_reducible assumption) | (with_reducible exact Has.new _ _ _) | (with_reducible exact Has.new' (by first | rfl | (simp; done) | (simp; omega)) _ _) | (with_reducible apply Has.alloc) | (with_reducible apply Has.mix) | (with_reducible apply Has.drew) | (with_reducible apply Has.drewN) | (with_reducible apply Has.set_same) | (with_reducible apply Has.set_other (hp := (by first | (simp; done) | (simp; omega) | omega))) | (with_reducible rfl) | rfl)), Lib.hid (by rw [HI.out, show encC (f.code.take (m + 1)) = encC (f.code.take m) ++ encI x from flat_next _ _ _ _ HX.out.1, encI_2 HFn.out]; simp [HX.out.2.1, HX.out.2.2])⟩
            case measure => simp [intOf]; omega
        · have hm' : m = f.code.length := by omega
          subst hm'
          go_wp2
          go_roundw
          case rel => exact ⟨k + 1, ac, by omega, by go_num, rfl, by omega, hbi, Lib.hid (by rw [HI.out, ← HA2.out, HS.out, List.take_length, flat_next _ _ _ _ HF.out.2.1, show encF f = [f.ar, f.lo, f.sl, (f.code.length : Int)].flatMap putI ++ encC f.code from rfl, HQ.out]; simp only [List.append_assoc])⟩
          case measure => simp [intOf]; omega
    · have hk' : k = p.length := by omega
      subst hk'
      go_wp2
      go_ret
      exact ⟨by rw [HS.out, List.take_length]; rfl, hb⟩
theorem EncodeR_calls (p : Pg) (v : Value) (w : World) (h : ProgAt w w.heap.size v p) (hl : p.length ≤ 9223372036854775000) (hc : ∀ f ∈ p, f.code.length ≤ 9223372036854775000) :
    Calls Tryz.prog 20 #[v] w fun e w' => e = .returned (str (encP p)) ∧ Below w.heap.size w w' := by
  unfold encP
  cases hm : mayP p
  · exact EncodeR_no p v w hm h hl hc
  · exact EncodeR_yes p v w hm h
theorem DigestR_calls (p : Pg) (v : Value) (w : World) (h : ProgAt w w.heap.size v p) (hl : p.length ≤ 9223372036854775000) (hc : ∀ f ∈ p, f.code.length ≤ 9223372036854775000) :
    Calls Tryz.prog 22 #[v] w fun e w' => e = .returned (.int .i64 (Crc.crcOf (encP p))) ∧ Below w.heap.size w w' := by
  have E := Lib.hid (EncodeR_calls p v w h hl hc)
  have C := Lib.hid (fun W => Crc.OfR_calls (encP p) (by have := encP_len p; omega) W)
  obtain ⟨A, c, rfl⟩ := h.form
  clear h hc
  go_enter Tryz.func22, Tryz.ntmps22
  go_wp2_with (first | (go_at_call 20; (with_reducible refine (E.out).mono ?_); rintro e w' ⟨rfl, hb⟩; have hz := hb.size; (first | (obtain ⟨x1, rfl⟩ := to_mix2 hb) | (obtain ⟨x1, rfl⟩ := to_mix hb)); clear hb; (try simp only [World.size_alloc, World.size_setCell, World.size_drew] at hz); (try have q0 : w.heap.size < _ := Nat.lt_of_lt_of_le (by omega) hz); (try have q1 : w.heap.size + 1 < _ := Nat.lt_of_lt_of_le (by omega) hz); (try have q2 : w.heap.size + 1 + 1 < _ := Nat.lt_of_lt_of_le (by omega) hz); (try have q3 : w.heap.size + 1 + 1 + 1 < _ := Nat.lt_of_lt_of_le (by omega) hz)) | (go_at_call 53; (with_reducible refine (C.out _).mono ?_); rintro e w' ⟨rfl, hb⟩; have hz := hb.size; (first | (obtain ⟨x1, rfl⟩ := to_mix2 hb) | (obtain ⟨x1, rfl⟩ := to_mix hb)); clear hb; (try simp only [World.size_alloc, World.size_setCell, World.size_drew] at hz); (try have q0 : w.heap.size < _ := Nat.lt_of_lt_of_le (by omega) hz); (try have q1 : w.heap.size + 1 < _ := Nat.lt_of_lt_of_le (by omega) hz); (try have q2 : w.heap.size + 1 + 1 < _ := Nat.lt_of_lt_of_le (by omega) hz); (try have q3 : w.heap.size + 1 + 1 + 1 < _ := Nat.lt_of_lt_of_le (by omega) hz)))
  go_ret
  exact ⟨rfl, by (repeat (first | (with_reducible assumption) | (with_reducible exact Below.refl _ _) | (with_reducible refine grow_alloc ?_ _) | (with_reducible refine grow_mix ?_ _) | (with_reducible refine grow_drew ?_) | (with_reducible refine grow_drewN ?_ _) | (with_reducible refine grow_set ?_ (by first | (simp; done) | (simp; omega) | omega) _)))⟩
end Go.Proofs.YtedkfipjooafeaaGreatDoor.Code
set_option linter.unusedSimpArgs false
set_option linter.unusedVariables false
namespace Go.Proofs.YtedkfipjooafeaaGreatDoor.Code
open Go Go.RowKit Go.Proofs.YtedkfipjooafeaaGreatDoor Go.Proofs.YtedkfipjooafeaaGreatDoor.Op

section
variable {P : Program} {d : Nat} {xs ys : Array Value} {f : Field} {fs : List Field} {a b : Value} {r s : Bool} {w : World}
theorem fields_nil : (Op.eqFields d xs ys []).run P w = .ok true w := by simp [Op.eqFields]
theorem fields_cons (hn : (f.name == "_") = false) (ha : (part f.type xs f.offset).run P w = .ok a w) (hb : (part f.type ys f.offset).run P w = .ok b w)
    (he : (Op.equalIn d f.type a b).run P w = .ok r w) (hr : (Op.eqFields d xs ys fs).run P w = .ok s w) : (Op.eqFields d xs ys (f :: fs)).run P w = .ok (r && s) w := by
  have hn' : f.name ≠ "_" := by simpa using hn
  rw [Op.eqFields]
  simp only [if_pos hn', Sem.run_bind, ha, hb, he, Result.andThen_ok]
  cases r
  · simp
  · simpa using hr
theorem equal_struct {t : TypeId} {fs : Array Field} (hu : P.underlying t = some (.struct fs)) (hp : P.stoodInHeld t = false) (h : (Op.eqFields d xs ys fs.toList).run P w = .ok r w) :
    (Op.equalIn (d + 1) t (.agg xs) (.agg ys)).run P w = .ok r w := by
  have hf : P.fieldsOf t = fs := by simp [Program.fieldsOf, hu]
  rw [run_equalIn_struct (P := P) w d t xs ys (by rw [hf]; exact hu) hp, hf]
  exact h
end
def eqI (x y : Ins) : Bool := decide (x = y)
theorem equal_ins (x y : Ins) (w : World) : (Op.equal 64 (insV x) (insV y)).run Tryz.prog w = .ok (eqI x y) w := by
  have e : eqI x y = ((x.op == y.op) && ((x.a == y.a) && ((x.b == y.b) && true))) := by
    unfold eqI; rw [Bool.and_true, Bool.eq_iff_iff]
    obtain ⟨a, b, c⟩ := x
    obtain ⟨a', b', c'⟩ := y
    simp
  rw [e]
  unfold Op.equal
  rw [show Op.maxDepth = (Op.maxDepth - 2) + 2 from rfl]
  refine equal_struct Tryz.underlying64 (by kernel_rfl) ?_
  refine fields_cons (by rfl) (by go_simp; rfl) (by go_simp; rfl) (by go_simp) ?_
  refine fields_cons (by rfl) (by go_simp; rfl) (by go_simp; rfl) (by go_simp) ?_
  exact fields_cons (by rfl) (by go_simp; rfl) (by go_simp; rfl) (by go_simp) fields_nil
theorem neq_ins (x y : Ins) (w : World) : (binOp .neq 64 (insV x) (insV y)).run Tryz.prog w = .ok (.bool (!eqI x y)) w := by
  simp [binOp, equal_ins]
attribute [local go_sem high] neq_ins

set_option maxHeartbeats 2000000 in
theorem equalI_calls (l k : List Ins) (v u : Value) (w : World) (h : CodeAt w w.heap.size v l) (hu : CodeAt w w.heap.size u k) (hl : l.length ≤ 9223372036854775000) (hk : k.length ≤ 9223372036854775000) :
    Calls Tryz.prog 56 #[v, u] w fun e w' => e = .returned (.bool (decide (l = k))) ∧ Below w.heap.size w w' := by
  obtain ⟨A, c, rfl⟩ := h.form
  obtain ⟨A', c', rfl⟩ := hu.form
  have HL := Lib.hid h
  have HK := Lib.hid hu
  clear h hu
  by_cases hlen : l.length = k.length
  · have hb : ((l.length : Int) != (k.length : Int)) = false := by simp; omega
    have hle1 : l.length ≤ k.length := by omega
    have HLEN := Lib.hid hlen
    clear hlen
    go_enter Tryz.func56, Tryz.ntmps56
    go_wp2
    go_loopw [13] (fun i wr => ∃ j : Nat, j ≤ l.length ∧ i = .int .i64 j ∧ Below w.heap.size w wr ∧ Hid (l.take j = k.take j)) (fun i _ => l.length - (intOf i).toNat)
    case atStart => exact ⟨0, Nat.zero_le _, rfl, Below.refl _ _, Lib.hid (by simp)⟩
    case round =>
      obtain ⟨j, hj, rfl, hbw, HE⟩ := hrel
      by_cases hlt : j < l.length
      · have hlk : j < k.length := by omega
        obtain ⟨a, c1, e, hab, d0, d1, d2⟩ := HL.out.at2 hbw hlt
        injection e with e1 e2 e3
        subst e1 e3
        obtain ⟨a', c2, e, hab', f0, f1, f2⟩ := HK.out.at2 hbw hlk
        injection e with e1 e2 e3
        subst e1 e3
        have hx : l[j]? = some l[j] := List.getElem?_eq_getElem hlt
        have hy : k[j]? = some k[j] := List.getElem?_eq_getElem hlk
        obtain ⟨x, hxe⟩ : ∃ x, l[j] = x := ⟨_, rfl⟩
        obtain ⟨y, hye⟩ : ∃ y, k[j] = y := ⟨_, rfl⟩
        rw [hxe] at hx d0 d1 d2
        rw [hye] at hy f0 f1 f2
        have HXY := Lib.hid (And.intro hx hy)
        have hq1 : (a.add (j * 3)).block < wr.heap.size := by rw [add_block]; exact Nat.lt_of_lt_of_le hab hbw.size
        have hq2 : (a'.add (j * 3)).block < wr.heap.size := by rw [add_block]; exact Nat.lt_of_lt_of_le hab' hbw.size
        clear hx hy hxe hye
        by_cases hxy : x = y
        · have he : eqI x y = true := decide_eq_true hxy
          have HXY2 := Lib.hid hxy
          clear hxy
          go_wp2
          refine wp_region_mix 8 (by kernel_rfl) (by kernel_rfl) ?_
          simp only [List.take_succ_cons, List.take_zero, List.drop_succ_cons, List.drop_zero]
          repeat (go_big_quiet_step ((fail)))
          refine wpQuiet_nil ?_
          intro _ hmix
          (try (with_reducible replace hmix := mix_flat hmix))
          obtain ⟨x1, hmix'⟩ := hmix
          have hz := mix_size' hmix'
          subst hmix'
          (try simp only [World.size_alloc, World.size_setCell, World.size_drew] at hz); (try have q0 : w.heap.size < _ := Nat.lt_of_lt_of_le (by omega) hz); (try have q1 : w.heap.size + 1 < _ := Nat.lt_of_lt_of_le (by omega) hz); (try have q2 : w.heap.size + 1 + 1 < _ := Nat.lt_of_lt_of_le (by omega) hz); (try have q3 : w.heap.size + 1 + 1 + 1 < _ := Nat.lt_of_lt_of_le (by omega) hz)
          go_wp2
          go_roundw
          case rel => exact ⟨j + 1, by omega, by go_num, by (repeat (first | (with_reducible assumption) | (with_reducible exact Below.refl _ _) | (with_reducible refine grow_alloc ?_ _) | (with_reducible refine grow_mix ?_ _) | (with_reducible refine grow_drew ?_) | (with_reducible refine grow_drewN ?_ _) | (with_reducible refine grow_set ?_ (by first | (simp; done) | (simp; omega) | omega) _))), Lib.hid (by rw [List.take_add_one, List.take_add_one, HXY.out.1, HXY.out.2, HE.out, HXY2.out])⟩
          case measure => simp [intOf]; omega
        · have he : eqI x y = false := decide_eq_false hxy
          have HN := Lib.hid (show decide (l = k) = false from decide_eq_false (fun e => by
            have h1 := HXY.out.1
            rw [e, HXY.out.2] at h1
            exact hxy (Option.some.inj h1).symm))
          clear hxy
          go_wp2
          refine wp_region_mix 8 (by kernel_rfl) (by kernel_rfl) ?_
          simp only [List.take_succ_cons, List.take_zero, List.drop_succ_cons, List.drop_zero]
          repeat (go_big_quiet_step ((fail)))
          refine wpQuiet_nil ?_
          intro _ hmix
          (try (with_reducible replace hmix := mix_flat hmix))
          obtain ⟨x1, hmix'⟩ := hmix
          have hz := mix_size' hmix'
          subst hmix'
          (try simp only [World.size_alloc, World.size_setCell, World.size_drew] at hz); (try have q0 : w.heap.size < _ := Nat.lt_of_lt_of_le (by omega) hz); (try have q1 : w.heap.size + 1 < _ := Nat.lt_of_lt_of_le (by omega) hz); (try have q2 : w.heap.size + 1 + 1 < _ := Nat.lt_of_lt_of_le (by omega) hz); (try have q3 : w.heap.size + 1 + 1 + 1 < _ := Nat.lt_of_lt_of_le (by omega) hz)
          go_wp2
          go_ret
          exact ⟨by rw [HN.out]; rfl, by (repeat (first | (with_reducible assumption) | (with_reducible exact Below.refl _ _) | (with_reducible refine grow_alloc ?_ _) | (with_reducible refine grow_mix ?_ _) | (with_reducible refine grow_drew ?_) | (with_reducible refine grow_drewN ?_ _) | (with_reducible refine grow_set ?_ (by first | (simp; done) | (simp; omega) | omega) _)))⟩
      · have hj' : j = l.length := by omega
        subst hj'
        have HN := Lib.hid (show decide (l = k) = true from decide_eq_true (by have := HE.out; rwa [List.take_length, HLEN.out, List.take_length] at this))
        go_wp2
        go_ret
        exact ⟨by rw [HN.out]; rfl, by (repeat (first | (with_reducible assumption) | (with_reducible exact Below.refl _ _) | (with_reducible refine grow_alloc ?_ _) | (with_reducible refine grow_mix ?_ _) | (with_reducible refine grow_drew ?_) | (with_reducible refine grow_drewN ?_ _) | (with_reducible refine grow_set ?_ (by first | (simp; done) | (simp; omega) | omega) _)))⟩
  · have hb : ((l.length : Int) != (k.length : Int)) = true := by simp; omega
    have HN := Lib.hid (show decide (l = k) = false from decide_eq_false (fun e => hlen (by rw [e])))
    go_enter Tryz.func56, Tryz.ntmps56
    go_wp2
    go_ret
    exact ⟨by rw [HN.out]; rfl, by (repeat (first | (with_reducible assumption) | (with_reducible exact Below.refl _ _) | (with_reducible refine grow_alloc ?_ _) | (with_reducible refine grow_mix ?_ _) | (with_reducible refine grow_drew ?_) | (with_reducible refine grow_drewN ?_ _) | (with_reducible refine grow_set ?_ (by first | (simp; done) | (simp; omega) | omega) _)))⟩
theorem equalI_at (l k : List Ins) (v u : Value) (b : Bool) (hb : decide (l = k) = b) (w : World) (h : CodeAt w w.heap.size v l) (hu : CodeAt w w.heap.size u k) (hl : l.length ≤ 9223372036854775000) (hk : k.length ≤ 9223372036854775000) :
    Calls Tryz.prog 56 #[v, u] w fun e w' => e = .returned (.bool b) ∧ Below w.heap.size w w' := by
  subst hb; exact equalI_calls l k v u w h hu hl hk
set_option maxHeartbeats 4000000 in
theorem same1_at (f g : Fn) (A A' : Option Addr) (c c' : Nat) (b1 b2 b3 b4 : Bool) (h1 : (f.ar == g.ar) = b1) (h2 : (f.lo == g.lo) = b2) (h3 : (f.sl == g.sl) = b3) (h4 : decide (f.code = g.code) = b4) (w : World)
    (h : CodeAt w w.heap.size (.slice A f.code.length c) f.code) (hu : CodeAt w w.heap.size (.slice A' g.code.length c') g.code) (hl : f.code.length ≤ 9223372036854775000) (hk : g.code.length ≤ 9223372036854775000) :
    Calls Tryz.prog 55 #[fnV f (.slice A f.code.length c), fnV g (.slice A' g.code.length c')] w fun e w' => e = .returned (.bool (b1 && (b2 && (b3 && b4)))) ∧ Below w.heap.size w w' := by
  have E := Lib.hid (fun (W : World) (hW : Below w.heap.size w W) => equalI_at f.code g.code _ _ b4 h4 W (h.stays W hW) (hu.stays W hW) hl hk)
  clear h4 h hu
  cases b1 <;> cases b2 <;> cases b3 <;> cases b4
  all_goals
    go_enter Tryz.func55, Tryz.ntmps55
    go_wp2_with (first | (go_at_call 56; (with_reducible refine (E.out _ (by (repeat (first | (with_reducible assumption) | (with_reducible exact Below.refl _ _) | (with_reducible refine grow_alloc ?_ _) | (with_reducible refine grow_mix ?_ _) | (with_reducible refine grow_drew ?_) | (with_reducible refine grow_drewN ?_ _) | (with_reducible refine grow_set ?_ (by first | (simp; done) | (simp; omega) | omega) _))))).mono ?_); rintro e w' ⟨rfl, hb⟩; have hz := hb.size; (first | (obtain ⟨x1, rfl⟩ := to_mix2 hb) | (obtain ⟨x1, rfl⟩ := to_mix hb)); clear hb; (try simp only [World.size_alloc, World.size_setCell, World.size_drew] at hz); (try have q0 : w.heap.size < _ := Nat.lt_of_lt_of_le (by omega) hz); (try have q1 : w.heap.size + 1 < _ := Nat.lt_of_lt_of_le (by omega) hz); (try have q2 : w.heap.size + 1 + 1 < _ := Nat.lt_of_lt_of_le (by omega) hz); (try have q3 : w.heap.size + 1 + 1 + 1 < _ := Nat.lt_of_lt_of_le (by omega) hz)))
    go_ret
    exact ⟨rfl, by (repeat (first | (with_reducible assumption) | (with_reducible exact Below.refl _ _) | (with_reducible refine grow_alloc ?_ _) | (with_reducible refine grow_mix ?_ _) | (with_reducible refine grow_drew ?_) | (with_reducible refine grow_drewN ?_ _) | (with_reducible refine grow_set ?_ (by first | (simp; done) | (simp; omega) | omega) _)))⟩
end Go.Proofs.YtedkfipjooafeaaGreatDoor.Code
set_option linter.unusedSimpArgs false
set_option linter.unusedVariables false
namespace Go.Proofs.YtedkfipjooafeaaGreatDoor.Code
open Go Go.RowKit Go.Proofs.YtedkfipjooafeaaGreatDoor Go.Proofs.YtedkfipjooafeaaGreatDoor.Op

theorem same_eq (f g : Fn) : ((f.ar == g.ar) && ((f.lo == g.lo) && ((f.sl == g.sl) && decide (f.code = g.code)))) = decide (f = g) := by
  rw [Bool.eq_iff_iff]
  obtain ⟨a, b, c, d⟩ := f
  obtain ⟨a', b', c', d'⟩ := g
  simp
theorem same1_calls (f g : Fn) (A A' : Option Addr) (c c' : Nat) (b : Bool) (hb : decide (f = g) = b) (w : World)
    (h : CodeAt w w.heap.size (.slice A f.code.length c) f.code) (hu : CodeAt w w.heap.size (.slice A' g.code.length c') g.code) (hl : f.code.length ≤ 9223372036854775000) (hk : g.code.length ≤ 9223372036854775000) :
    Calls Tryz.prog 55 #[fnV f (.slice A f.code.length c), fnV g (.slice A' g.code.length c')] w fun e w' => e = .returned (.bool b) ∧ Below w.heap.size w w' := by
  subst hb
  rw [← same_eq]
  exact same1_at f g A A' c c' _ _ _ _ rfl rfl rfl rfl w h hu hl hk

set_option maxHeartbeats 4000000 in
theorem equalF_calls (l k : Pg) (v u : Value) (w : World) (h : ProgAt w w.heap.size v l) (hu : ProgAt w w.heap.size u k) (hl : l.length ≤ 9223372036854775000) (hk : k.length ≤ 9223372036854775000)
    (hcl : ∀ f ∈ l, f.code.length ≤ 9223372036854775000) (hck : ∀ f ∈ k, f.code.length ≤ 9223372036854775000) :
    Calls Tryz.prog 54 #[v, u, .func (.func 55) #[] #[]] w fun e w' => e = .returned (.bool (decide (l = k))) ∧ Below w.heap.size w w' := by
  obtain ⟨A, c, rfl⟩ := h.form
  obtain ⟨A', c', rfl⟩ := hu.form
  have HL := Lib.hid h
  have HK := Lib.hid hu
  have HC := Lib.hid (And.intro hcl hck)
  clear h hu hcl hck
  by_cases hlen : l.length = k.length
  · have hb : ((l.length : Int) != (k.length : Int)) = false := by simp; omega
    have hle1 : l.length ≤ k.length := by omega
    have HLEN := Lib.hid hlen
    clear hlen
    go_enter Tryz.func54, Tryz.ntmps54
    go_wp2
    go_loopw [17] (fun i wr => ∃ j : Nat, j ≤ l.length ∧ i = .int .i64 j ∧ Below w.heap.size w wr ∧ Hid (l.take j = k.take j)) (fun i _ => l.length - (intOf i).toNat)
    case atStart => exact ⟨0, Nat.zero_le _, rfl, Below.refl _ _, Lib.hid (by simp)⟩
    case round =>
      obtain ⟨j, hj, rfl, hbw, HE⟩ := hrel
      by_cases hlt : j < l.length
      · have hlk : j < k.length := by omega
        obtain ⟨a, c1, u1, e, hab, d0, d1, d2, d3, hc1⟩ := HL.out.at2 hbw hlt
        injection e with e1 e2 e3
        subst e1 e3
        obtain ⟨a', c2, u2, e, hab', f0, f1, f2, f3, hc2⟩ := HK.out.at2 hbw hlk
        injection e with e1 e2 e3
        subst e1 e3
        obtain ⟨A1, c1, rfl⟩ := hc1.form
        obtain ⟨A2, c2, rfl⟩ := hc2.form
        have hx : l[j]? = some l[j] := List.getElem?_eq_getElem hlt
        have hy : k[j]? = some k[j] := List.getElem?_eq_getElem hlk
        have hlx := HC.out.1 l[j] (List.getElem_mem hlt)
        have hly := HC.out.2 k[j] (List.getElem_mem hlk)
        obtain ⟨x, hxe⟩ : ∃ x, l[j] = x := ⟨_, rfl⟩
        obtain ⟨y, hye⟩ : ∃ y, k[j] = y := ⟨_, rfl⟩
        rw [hxe] at hx d0 d1 d2 d3 hc1 hlx
        rw [hye] at hy f0 f1 f2 f3 hc2 hly
        have HXY := Lib.hid (And.intro hx hy)
        have HCC := Lib.hid (And.intro hc1 hc2)
        have hq2 : (a'.add (j * 4)).block < wr.heap.size := by rw [add_block]; exact Nat.lt_of_lt_of_le hab' hbw.size
        have hq3 : (a'.add (j * 4)).block ≠ wr.heap.size := by omega
        clear hx hy hxe hye hc1 hc2
        by_cases hxy : x = y
        · have S := Lib.hid (fun (W : World) (hW : Below w.heap.size w W) => same1_calls x y A1 A2 c1 c2 true (decide_eq_true hxy) W (HCC.out.1.stays W hW) (HCC.out.2.stays W hW) hlx hly)
          have HXY2 := Lib.hid hxy
          clear hxy
          go_wp2_with (first | (go_at_call 55; (with_reducible refine (S.out _ (by (repeat (first | (with_reducible assumption) | (with_reducible exact Below.refl _ _) | (with_reducible refine grow_alloc ?_ _) | (with_reducible refine grow_mix ?_ _) | (with_reducible refine grow_drew ?_) | (with_reducible refine grow_drewN ?_ _) | (with_reducible refine grow_set ?_ (by first | (simp; done) | (simp; omega) | omega) _))))).mono ?_); rintro e w' ⟨rfl, hb⟩; have hz := hb.size; (first | (obtain ⟨x1, rfl⟩ := to_mix2 hb) | (obtain ⟨x1, rfl⟩ := to_mix hb)); clear hb; (try simp only [World.size_alloc, World.size_setCell, World.size_drew] at hz); (try have q0 : w.heap.size < _ := Nat.lt_of_lt_of_le (by omega) hz); (try have q1 : w.heap.size + 1 < _ := Nat.lt_of_lt_of_le (by omega) hz); (try have q2 : w.heap.size + 1 + 1 < _ := Nat.lt_of_lt_of_le (by omega) hz); (try have q3 : w.heap.size + 1 + 1 + 1 < _ := Nat.lt_of_lt_of_le (by omega) hz)))
          go_roundw
          case rel => exact ⟨j + 1, by omega, by go_num, by (repeat (first | (with_reducible assumption) | (with_reducible exact Below.refl _ _) | (with_reducible refine grow_alloc ?_ _) | (with_reducible refine grow_mix ?_ _) | (with_reducible refine grow_drew ?_) | (with_reducible refine grow_drewN ?_ _) | (with_reducible refine grow_set ?_ (by first | (simp; done) | (simp; omega) | omega) _))), Lib.hid (by rw [List.take_add_one, List.take_add_one, HXY.out.1, HXY.out.2, HE.out, HXY2.out])⟩
          case measure => simp [intOf]; omega
        · have S := Lib.hid (fun (W : World) (hW : Below w.heap.size w W) => same1_calls x y A1 A2 c1 c2 false (decide_eq_false hxy) W (HCC.out.1.stays W hW) (HCC.out.2.stays W hW) hlx hly)
          have HN := Lib.hid (show decide (l = k) = false from decide_eq_false (fun e => by
            have h1 := HXY.out.1
            rw [e, HXY.out.2] at h1
            exact hxy (Option.some.inj h1).symm))
          clear hxy
          go_wp2_with (first | (go_at_call 55; (with_reducible refine (S.out _ (by (repeat (first | (with_reducible assumption) | (with_reducible exact Below.refl _ _) | (with_reducible refine grow_alloc ?_ _) | (with_reducible refine grow_mix ?_ _) | (with_reducible refine grow_drew ?_) | (with_reducible refine grow_drewN ?_ _) | (with_reducible refine grow_set ?_ (by first | (simp; done) | (simp; omega) | omega) _))))).mono ?_); rintro e w' ⟨rfl, hb⟩; have hz := hb.size; (first | (obtain ⟨x1, rfl⟩ := to_mix2 hb) | (obtain ⟨x1, rfl⟩ := to_mix hb)); clear hb; (try simp only [World.size_alloc, World.size_setCell, World.size_drew] at hz); (try have q0 : w.heap.size < _ := Nat.lt_of_lt_of_le (by omega) hz); (try have q1 : w.heap.size + 1 < _ := Nat.lt_of_lt_of_le (by omega) hz); (try have q2 : w.heap.size + 1 + 1 < _ := Nat.lt_of_lt_of_le (by omega) hz); (try have q3 : w.heap.size + 1 + 1 + 1 < _ := Nat.lt_of_lt_of_le (by omega) hz)))
          go_ret
          exact ⟨by rw [HN.out]; rfl, by (repeat (first | (with_reducible assumption) | (with_reducible exact Below.refl _ _) | (with_reducible refine grow_alloc ?_ _) | (with_reducible refine grow_mix ?_ _) | (with_reducible refine grow_drew ?_) | (with_reducible refine grow_drewN ?_ _) | (with_reducible refine grow_set ?_ (by first | (simp; done) | (simp; omega) | omega) _)))⟩
      · have hj' : j = l.length := by omega
        subst hj'
        have HN := Lib.hid (show decide (l = k) = true from decide_eq_true (by have := HE.out; rwa [List.take_length, HLEN.out, List.take_length] at this))
        go_wp2
        go_ret
        exact ⟨by rw [HN.out]; rfl, by (repeat (first | (with_reducible assumption) | (with_reducible exact Below.refl _ _) | (with_reducible refine grow_alloc ?_ _) | (with_reducible refine grow_mix ?_ _) | (with_reducible refine grow_drew ?_) | (with_reducible refine grow_drewN ?_ _) | (with_reducible refine grow_set ?_ (by first | (simp; done) | (simp; omega) | omega) _)))⟩
  · have hb : ((l.length : Int) != (k.length : Int)) = true := by simp; omega
    have HN := Lib.hid (show decide (l = k) = false from decide_eq_false (fun e => hlen (by rw [e])))
    go_enter Tryz.func54, Tryz.ntmps54
    go_wp2
    go_ret
    exact ⟨by rw [HN.out]; rfl, by (repeat (first | (with_reducible assumption) | (with_reducible exact Below.refl _ _) | (with_reducible refine grow_alloc ?_ _) | (with_reducible refine grow_mix ?_ _) | (with_reducible refine grow_drew ?_) | (with_reducible refine grow_drewN ?_ _) | (with_reducible refine grow_set ?_ (by first | (simp; done) | (simp; omega) | omega) _)))⟩
theorem Same_calls (l k : Pg) (v u : Value) (w : World) (h : ProgAt w w.heap.size v l) (hu : ProgAt w w.heap.size u k) (hl : l.length ≤ 9223372036854775000) (hk : k.length ≤ 9223372036854775000)
    (hcl : ∀ f ∈ l, f.code.length ≤ 9223372036854775000) (hck : ∀ f ∈ k, f.code.length ≤ 9223372036854775000) :
    Calls Tryz.prog 24 #[v, u] w fun e w' => e = .returned (.bool (decide (l = k))) ∧ Below w.heap.size w w' := by
  have E := Lib.hid (equalF_calls l k v u w h hu hl hk hcl hck)
  obtain ⟨A, c, rfl⟩ := h.form
  obtain ⟨A', c', rfl⟩ := hu.form
  clear h hu hcl hck
  go_enter Tryz.func24, Tryz.ntmps24
  go_wp2_with (first | (go_at_call 54; (with_reducible refine (E.out).mono ?_); rintro e w' ⟨rfl, hb⟩; have hz := hb.size; (first | (obtain ⟨x1, rfl⟩ := to_mix2 hb) | (obtain ⟨x1, rfl⟩ := to_mix hb)); clear hb; (try simp only [World.size_alloc, World.size_setCell, World.size_drew] at hz); (try have q0 : w.heap.size < _ := Nat.lt_of_lt_of_le (by omega) hz); (try have q1 : w.heap.size + 1 < _ := Nat.lt_of_lt_of_le (by omega) hz); (try have q2 : w.heap.size + 1 + 1 < _ := Nat.lt_of_lt_of_le (by omega) hz); (try have q3 : w.heap.size + 1 + 1 + 1 < _ := Nat.lt_of_lt_of_le (by omega) hz)))
  go_ret
  exact ⟨rfl, by (repeat (first | (with_reducible assumption) | (with_reducible exact Below.refl _ _) | (with_reducible refine grow_alloc ?_ _) | (with_reducible refine grow_mix ?_ _) | (with_reducible refine grow_drew ?_) | (with_reducible refine grow_drewN ?_ _) | (with_reducible refine grow_set ?_ (by first | (simp; done) | (simp; omega) | omega) _)))⟩
end Go.Proofs.YtedkfipjooafeaaGreatDoor.Code
set_option linter.unusedSimpArgs false
set_option linter.unusedVariables false
namespace Go.Proofs.YtedkfipjooafeaaGreatDoor.Code
open Go Go.RowKit Go.Proofs.YtedkfipjooafeaaGreatDoor Go.Proofs.YtedkfipjooafeaaGreatDoor.Op Go.Proofs.YtedkfipjooafeaaGreatDoor.Wire

theorem ProgAt.take {w : World} {B n c c' k : Nat} {A : Option Addr} {p : Pg} (h : ProgAt w B (.slice A n c) p) (hk : k ≤ p.length) : ProgAt w B (.slice A k c') (p.take k) := by
  obtain ⟨vs, hv, ⟨hl, A', c2, e, hc⟩, hcode⟩ := h
  injection e with e1 e2 e3
  subst e1
  have hlen : (p.take k).length = k := by rw [List.length_take]; omega
  have hz : ((p.take k).zip (vs.take k)).flatMap (fun x => fnL x.1 x.2) <+: ((p.zip vs).flatMap fun x => fnL x.1 x.2) := by
    have e : (p.take k).zip (vs.take k) = (p.zip vs).take k := by unfold List.zip; rw [List.take_zipWith]
    rw [e]
    refine ⟨((p.zip vs).drop k).flatMap (fun x => fnL x.1 x.2), ?_⟩
    rw [← List.flatMap_append, List.take_append_drop]
  have hfl : (((p.take k).zip (vs.take k)).flatMap fun x => fnL x.1 x.2).length = k * 4 := by
    rw [flat_len (fun (x : Fn × Value) => fnL x.1 x.2) 4 (fun _ => rfl), List.length_zip, hlen, List.length_take]
    congr 1; omega
  refine ⟨vs.take k, by rw [List.length_take, hlen]; omega, ⟨by rw [hfl, hlen], A, c', by rw [hlen], fun hp => ?_⟩, fun i f u hi hu => ?_⟩
  · rw [hlen] at hp
    obtain ⟨a, rfl, hb, hcell⟩ := hc (by omega)
    refine ⟨a, rfl, hb, fun j u hj => hcell j u ?_⟩
    obtain ⟨t, ht⟩ := hz
    rw [← ht, List.getElem?_append_left (List.getElem?_eq_some_iff.1 hj).1]
    exact hj
  · have hi' := List.getElem?_eq_some_iff.1 hi
    have hik : i < k := by have := hi'.1; rw [hlen] at this; exact this
    rw [List.getElem?_take, if_pos hik] at hi hu
    exact hcode i f u hi hu
abbrev S0x : B := [102, 117, 110, 99, 32, 48, 32, 49, 32, 50, 10, 112, 117, 115, 104, 32, 49, 32, 50, 10, 115, 112, 97, 119, 110, 32, 48, 32, 49, 10, 114, 101, 116, 10, 102, 117, 110, 99, 32, 49, 32, 49, 32, 48, 10, 116, 114, 97, 112, 32, 49, 54, 10, 120]
abbrev E0x : B := [2, 0, 1, 2, 3, 0, 1, 2, 13, 0, 1, 15, 1, 1, 0, 1, 16, 16, 120]
theorem par_x : parS S0x = ([], 6, 70) := par_S0x
theorem dec_x : decS E0x = ([], 72) := dec_E0x
theorem codes_P0 : ∀ f ∈ P0, f.code.length ≤ 9223372036854775000 := by decide
set_option maxRecDepth 100000 in
set_option maxHeartbeats 16000000 in
theorem fixed_calls (w : World) (hg : Glob w) (h8 : 8 ≤ w.heap.size) :
    Calls Tryz.prog 10 #[] w fun e w' => e = .returned (.bool true) ∧ Below w.heap.size w w' := by
  have PA1 := Lib.hid (fun W (hW : Below w.heap.size w W) => by have := Parse_calls S0 (by decide) W (hg.base hW h8) (Nat.le_trans h8 hW.size); rw [par_S0] at this; exact this)
  have PA2 := Lib.hid (fun W (hW : Below w.heap.size w W) => by have := Parse_calls S0x (by decide) W (hg.base hW h8) (Nat.le_trans h8 hW.size); rw [par_x] at this; exact this)
  have PA3 := Lib.hid (fun W (hW : Below w.heap.size w W) => by have := Parse_calls S1 (by decide) W (hg.base hW h8) (Nat.le_trans h8 hW.size); rw [par_S1] at this; exact this)
  have DE1 := Lib.hid (fun W => by have := Decode_calls E0 (by decide) W; rw [dec_E0] at this; exact this)
  have DE2 := Lib.hid (fun W => by have := Decode_calls E0x (by decide) W; rw [dec_x] at this; exact this)
  have DE3 := Lib.hid (fun W => by have := Decode_calls [0] (by decide) W; rw [dec_0] at this; exact this)
  have DE4 := Lib.hid (fun W => by have := Decode_calls [1, 0, 0, 0, 1, 17] (by decide) W; rw [dec_1] at this; exact this)
  have HG := Lib.hid hg
  clear hg
  go_enter Tryz.func10, Tryz.ntmps10
  go_wp2_with (first | (go_at_call 11; go_loud ((with_reducible refine (PA1.out _ (by (repeat (first | (with_reducible assumption) | (with_reducible exact Below.refl _ _) | (with_reducible refine grow_alloc ?_ _) | (with_reducible refine grow_mix ?_ _) | (with_reducible refine grow_drew ?_) | (with_reducible refine grow_drewN ?_ _) | (with_reducible refine grow_set ?_ (by first | (simp; done) | (simp; omega) | omega) _))))).mono ?_); rintro e w1 ⟨⟨v, rfl, hp, hcap⟩, hw1⟩; obtain ⟨a, c, u, rfl, hab, c0, c1, c2, c3, hcd⟩ := hp.at_ (k := 0) (by decide); obtain ⟨A', c', rfl⟩ := hcd.form; have hc2 : 2 ≤ c := hcap _ _ _ rfl; have hc1 : (1 : Int) ≤ (c : Int) := (by omega); clear hcap; have HP1 : Hid (ProgAt w1 w1.heap.size (.slice (some a) 2 c) P0) := Lib.hid hp; have hw1z := hw1.size; have c3' : w1.cell? ⟨a.block, a.off + 3, none⟩ = some (.slice A' 3 c') := (by simpa [Addr.add] using c3); clear hp hcd c0 c1 c2 c3; have EN := Lib.hid (by have := Encode_calls P0 _ w1 HP1.out (by decide) codes_P0; rw [enc_P0] at this; exact this))) | (go_at_call 19; go_loud ((with_reducible refine (EN.out).mono ?_); rintro e w2 ⟨rfl, hb2⟩; have HB2 := Lib.hid hb2; have hw2 : Below w.heap.size w w2 := hw1.trans (hb2.mono hw1z); have hw2z := hb2.size; clear hb2)) | (go_at_call 13; go_loud ((with_reducible refine (DE1.out _).mono ?_); rintro e w3 ⟨⟨v3, rfl, hp3⟩, hb3⟩; obtain ⟨A3, cc3, rfl⟩ := hp3.form; have HP3 : Hid (ProgAt w3 w3.heap.size (.slice A3 2 cc3) P0) := Lib.hid hp3; have HP1' := Lib.hid ((HP1.out.stays w2 HB2.out).stays w3 hb3); have hw3 : Below w.heap.size w w3 := hw2.trans (hb3.mono hw2.size); have hw3z := hb3.size; clear hb3 hp3)))
  have TX := Lib.hid (fun W (hW : Below w3.heap.size w3 W) => by have := Text_calls P0 _ W (HP1'.out.stays W hW) (by decide) codes_P0 (HG.out.base (hw3.trans (hW.mono hw3.size)) h8); rw [text_P0] at this; exact this)
  have SA := Lib.hid (fun W (hW : Below w3.heap.size w3 W) => by have := Same_calls P0 P0 _ _ W (HP1'.out.stays W hW) (HP3.out.stays W hW) (by decide) (by decide) codes_P0 codes_P0; rw [decide_eq_true rfl] at this; exact this)
  have MA := Lib.hid (fun W (hW : Below w3.heap.size w3 W) => by have := May_calls P0 _ W (HP1'.out.stays W hW) (by decide) codes_P0; rw [may_P0] at this; exact this)
  have MN := Lib.hid (fun W => by have := May_calls [] _ W (prog_nil W) (by decide) (by simp); rw [may_nil] at this; exact this)
  have TN := Lib.hid (fun W (hW : Below w3.heap.size w3 W) => by have := Text_calls [] _ W (prog_nil W) (by decide) (by simp) (HG.out.base (hw3.trans (hW.mono hw3.size)) h8); rw [text_nil] at this; exact this)
  obtain ⟨dg, hdg⟩ : ∃ n, Crc.crcOf E0 = n := ⟨_, rfl⟩
  have hdg0 : dg ≠ 0 := by rw [← hdg]; exact crc_P0
  have hdg1 : ((dg : Int) != 0) = true := by simpa using hdg0
  have DG := Lib.hid (fun W (hW : Below w3.heap.size w3 W) => by have := Digest_calls P0 _ W (HP1'.out.stays W hW) (by decide) codes_P0; rw [enc_P0, hdg] at this; exact this)
  have DR := Lib.hid (fun W (hW : Below w3.heap.size w3 W) => by have := DigestR_calls P0 _ W (HP1'.out.stays W hW) (by decide) codes_P0; rw [enc_P0, hdg] at this; exact this)
  have ST := Lib.hid (fun W (hW : Below w3.heap.size w3 W) => by have := Same_calls P0 (P0.take 1) _ _ W (HP1'.out.stays W hW) ((HP1'.out.stays W hW).take (c' := c) (k := 1) (by decide)) (by decide) (by decide) codes_P0 (by decide); rw [decide_eq_false (by decide)] at this; exact this)
  clear hdg hdg0
  go_wp2_with (first | (go_at_call 13; (with_reducible refine (DE2.out _).mono ?_); rintro e w' ⟨⟨v4, rfl, hp⟩, hb⟩; clear hp; have hz := hb.size; (first | (obtain ⟨x1, rfl⟩ := to_mix2 hb) | (obtain ⟨x1, rfl⟩ := to_mix hb)); clear hb; (try simp only [World.size_alloc, World.size_setCell, World.size_drew] at hz); (try have q0 : w.heap.size < _ := Nat.lt_of_lt_of_le (by omega) hz); (try have q1 : w.heap.size + 1 < _ := Nat.lt_of_lt_of_le (by omega) hz); (try have q2 : w.heap.size + 1 + 1 < _ := Nat.lt_of_lt_of_le (by omega) hz); (try have q3 : w.heap.size + 1 + 1 + 1 < _ := Nat.lt_of_lt_of_le (by omega) hz)) | (go_at_call 11; (with_reducible refine (PA2.out _ (by (repeat (first | (with_reducible assumption) | (with_reducible exact Below.refl _ _) | (with_reducible refine grow_alloc ?_ _) | (with_reducible refine grow_mix ?_ _) | (with_reducible refine grow_drew ?_) | (with_reducible refine grow_drewN ?_ _) | (with_reducible refine grow_set ?_ (by first | (simp; done) | (simp; omega) | omega) _))))).mono ?_); rintro e w' ⟨⟨v5, rfl, hp⟩, hb⟩; clear hp; have hz := hb.size; (first | (obtain ⟨x1, rfl⟩ := to_mix2 hb) | (obtain ⟨x1, rfl⟩ := to_mix hb)); clear hb; (try simp only [World.size_alloc, World.size_setCell, World.size_drew] at hz); (try have q0 : w.heap.size < _ := Nat.lt_of_lt_of_le (by omega) hz); (try have q1 : w.heap.size + 1 < _ := Nat.lt_of_lt_of_le (by omega) hz); (try have q2 : w.heap.size + 1 + 1 < _ := Nat.lt_of_lt_of_le (by omega) hz); (try have q3 : w.heap.size + 1 + 1 + 1 < _ := Nat.lt_of_lt_of_le (by omega) hz)) | (go_at_call 11; (with_reducible refine (PA3.out _ (by (repeat (first | (with_reducible assumption) | (with_reducible exact Below.refl _ _) | (with_reducible refine grow_alloc ?_ _) | (with_reducible refine grow_mix ?_ _) | (with_reducible refine grow_drew ?_) | (with_reducible refine grow_drewN ?_ _) | (with_reducible refine grow_set ?_ (by first | (simp; done) | (simp; omega) | omega) _))))).mono ?_); rintro e w' ⟨⟨v6, rfl, hp⟩, hb⟩; clear hp; have hz := hb.size; (first | (obtain ⟨x1, rfl⟩ := to_mix2 hb) | (obtain ⟨x1, rfl⟩ := to_mix hb)); clear hb; (try simp only [World.size_alloc, World.size_setCell, World.size_drew] at hz); (try have q0 : w.heap.size < _ := Nat.lt_of_lt_of_le (by omega) hz); (try have q1 : w.heap.size + 1 < _ := Nat.lt_of_lt_of_le (by omega) hz); (try have q2 : w.heap.size + 1 + 1 < _ := Nat.lt_of_lt_of_le (by omega) hz); (try have q3 : w.heap.size + 1 + 1 + 1 < _ := Nat.lt_of_lt_of_le (by omega) hz)) | (go_at_call 13; (with_reducible refine (DE3.out _).mono ?_); rintro e w' ⟨⟨v7, rfl, hp⟩, hb⟩; clear hp; have hz := hb.size; (first | (obtain ⟨x1, rfl⟩ := to_mix2 hb) | (obtain ⟨x1, rfl⟩ := to_mix hb)); clear hb; (try simp only [World.size_alloc, World.size_setCell, World.size_drew] at hz); (try have q0 : w.heap.size < _ := Nat.lt_of_lt_of_le (by omega) hz); (try have q1 : w.heap.size + 1 < _ := Nat.lt_of_lt_of_le (by omega) hz); (try have q2 : w.heap.size + 1 + 1 < _ := Nat.lt_of_lt_of_le (by omega) hz); (try have q3 : w.heap.size + 1 + 1 + 1 < _ := Nat.lt_of_lt_of_le (by omega) hz)) | (go_at_call 13; (with_reducible refine (DE4.out _).mono ?_); rintro e w' ⟨⟨v8, rfl, hp⟩, hb⟩; clear hp; have hz := hb.size; (first | (obtain ⟨x1, rfl⟩ := to_mix2 hb) | (obtain ⟨x1, rfl⟩ := to_mix hb)); clear hb; (try simp only [World.size_alloc, World.size_setCell, World.size_drew] at hz); (try have q0 : w.heap.size < _ := Nat.lt_of_lt_of_le (by omega) hz); (try have q1 : w.heap.size + 1 < _ := Nat.lt_of_lt_of_le (by omega) hz); (try have q2 : w.heap.size + 1 + 1 < _ := Nat.lt_of_lt_of_le (by omega) hz); (try have q3 : w.heap.size + 1 + 1 + 1 < _ := Nat.lt_of_lt_of_le (by omega) hz)) | (go_at_call 17; (with_reducible refine (TX.out _ (by (repeat (first | (with_reducible assumption) | (with_reducible exact Below.refl _ _) | (with_reducible refine grow_alloc ?_ _) | (with_reducible refine grow_mix ?_ _) | (with_reducible refine grow_drew ?_) | (with_reducible refine grow_drewN ?_ _) | (with_reducible refine grow_set ?_ (by first | (simp; done) | (simp; omega) | omega) _))))).mono ?_); rintro e w' ⟨rfl, hb⟩; have hz := hb.size; (first | (obtain ⟨x1, rfl⟩ := to_mix2 hb) | (obtain ⟨x1, rfl⟩ := to_mix hb)); clear hb; (try simp only [World.size_alloc, World.size_setCell, World.size_drew] at hz); (try have q0 : w.heap.size < _ := Nat.lt_of_lt_of_le (by omega) hz); (try have q1 : w.heap.size + 1 < _ := Nat.lt_of_lt_of_le (by omega) hz); (try have q2 : w.heap.size + 1 + 1 < _ := Nat.lt_of_lt_of_le (by omega) hz); (try have q3 : w.heap.size + 1 + 1 + 1 < _ := Nat.lt_of_lt_of_le (by omega) hz)) | (go_at_call 17; (with_reducible refine (TN.out _ (by (repeat (first | (with_reducible assumption) | (with_reducible exact Below.refl _ _) | (with_reducible refine grow_alloc ?_ _) | (with_reducible refine grow_mix ?_ _) | (with_reducible refine grow_drew ?_) | (with_reducible refine grow_drewN ?_ _) | (with_reducible refine grow_set ?_ (by first | (simp; done) | (simp; omega) | omega) _))))).mono ?_); rintro e w' ⟨rfl, hb⟩; have hz := hb.size; (first | (obtain ⟨x1, rfl⟩ := to_mix2 hb) | (obtain ⟨x1, rfl⟩ := to_mix hb)); clear hb; (try simp only [World.size_alloc, World.size_setCell, World.size_drew] at hz); (try have q0 : w.heap.size < _ := Nat.lt_of_lt_of_le (by omega) hz); (try have q1 : w.heap.size + 1 < _ := Nat.lt_of_lt_of_le (by omega) hz); (try have q2 : w.heap.size + 1 + 1 < _ := Nat.lt_of_lt_of_le (by omega) hz); (try have q3 : w.heap.size + 1 + 1 + 1 < _ := Nat.lt_of_lt_of_le (by omega) hz)) | (go_at_call 24; (with_reducible refine (SA.out _ (by (repeat (first | (with_reducible assumption) | (with_reducible exact Below.refl _ _) | (with_reducible refine grow_alloc ?_ _) | (with_reducible refine grow_mix ?_ _) | (with_reducible refine grow_drew ?_) | (with_reducible refine grow_drewN ?_ _) | (with_reducible refine grow_set ?_ (by first | (simp; done) | (simp; omega) | omega) _))))).mono ?_); rintro e w' ⟨rfl, hb⟩; have hz := hb.size; (first | (obtain ⟨x1, rfl⟩ := to_mix2 hb) | (obtain ⟨x1, rfl⟩ := to_mix hb)); clear hb; (try simp only [World.size_alloc, World.size_setCell, World.size_drew] at hz); (try have q0 : w.heap.size < _ := Nat.lt_of_lt_of_le (by omega) hz); (try have q1 : w.heap.size + 1 < _ := Nat.lt_of_lt_of_le (by omega) hz); (try have q2 : w.heap.size + 1 + 1 < _ := Nat.lt_of_lt_of_le (by omega) hz); (try have q3 : w.heap.size + 1 + 1 + 1 < _ := Nat.lt_of_lt_of_le (by omega) hz)) | (go_at_call 24; (with_reducible refine (ST.out _ (by (repeat (first | (with_reducible assumption) | (with_reducible exact Below.refl _ _) | (with_reducible refine grow_alloc ?_ _) | (with_reducible refine grow_mix ?_ _) | (with_reducible refine grow_drew ?_) | (with_reducible refine grow_drewN ?_ _) | (with_reducible refine grow_set ?_ (by first | (simp; done) | (simp; omega) | omega) _))))).mono ?_); rintro e w' ⟨rfl, hb⟩; have hz := hb.size; (first | (obtain ⟨x1, rfl⟩ := to_mix2 hb) | (obtain ⟨x1, rfl⟩ := to_mix hb)); clear hb; (try simp only [World.size_alloc, World.size_setCell, World.size_drew] at hz); (try have q0 : w.heap.size < _ := Nat.lt_of_lt_of_le (by omega) hz); (try have q1 : w.heap.size + 1 < _ := Nat.lt_of_lt_of_le (by omega) hz); (try have q2 : w.heap.size + 1 + 1 < _ := Nat.lt_of_lt_of_le (by omega) hz); (try have q3 : w.heap.size + 1 + 1 + 1 < _ := Nat.lt_of_lt_of_le (by omega) hz)) | (go_at_call 15; (with_reducible refine (MA.out _ (by (repeat (first | (with_reducible assumption) | (with_reducible exact Below.refl _ _) | (with_reducible refine grow_alloc ?_ _) | (with_reducible refine grow_mix ?_ _) | (with_reducible refine grow_drew ?_) | (with_reducible refine grow_drewN ?_ _) | (with_reducible refine grow_set ?_ (by first | (simp; done) | (simp; omega) | omega) _))))).mono ?_); rintro e w' ⟨rfl, hb⟩; have hz := hb.size; (first | (obtain ⟨x1, rfl⟩ := to_mix2 hb) | (obtain ⟨x1, rfl⟩ := to_mix hb)); clear hb; (try simp only [World.size_alloc, World.size_setCell, World.size_drew] at hz); (try have q0 : w.heap.size < _ := Nat.lt_of_lt_of_le (by omega) hz); (try have q1 : w.heap.size + 1 < _ := Nat.lt_of_lt_of_le (by omega) hz); (try have q2 : w.heap.size + 1 + 1 < _ := Nat.lt_of_lt_of_le (by omega) hz); (try have q3 : w.heap.size + 1 + 1 + 1 < _ := Nat.lt_of_lt_of_le (by omega) hz)) | (go_at_call 15; (with_reducible refine (MN.out _).mono ?_); rintro e w' ⟨rfl, hb⟩; have hz := hb.size; (first | (obtain ⟨x1, rfl⟩ := to_mix2 hb) | (obtain ⟨x1, rfl⟩ := to_mix hb)); clear hb; (try simp only [World.size_alloc, World.size_setCell, World.size_drew] at hz); (try have q0 : w.heap.size < _ := Nat.lt_of_lt_of_le (by omega) hz); (try have q1 : w.heap.size + 1 < _ := Nat.lt_of_lt_of_le (by omega) hz); (try have q2 : w.heap.size + 1 + 1 < _ := Nat.lt_of_lt_of_le (by omega) hz); (try have q3 : w.heap.size + 1 + 1 + 1 < _ := Nat.lt_of_lt_of_le (by omega) hz)) | (go_at_call 21; (with_reducible refine (DG.out _ (by (repeat (first | (with_reducible assumption) | (with_reducible exact Below.refl _ _) | (with_reducible refine grow_alloc ?_ _) | (with_reducible refine grow_mix ?_ _) | (with_reducible refine grow_drew ?_) | (with_reducible refine grow_drewN ?_ _) | (with_reducible refine grow_set ?_ (by first | (simp; done) | (simp; omega) | omega) _))))).mono ?_); rintro e w' ⟨rfl, hb⟩; have hz := hb.size; (first | (obtain ⟨x1, rfl⟩ := to_mix2 hb) | (obtain ⟨x1, rfl⟩ := to_mix hb)); clear hb; (try simp only [World.size_alloc, World.size_setCell, World.size_drew] at hz); (try have q0 : w.heap.size < _ := Nat.lt_of_lt_of_le (by omega) hz); (try have q1 : w.heap.size + 1 < _ := Nat.lt_of_lt_of_le (by omega) hz); (try have q2 : w.heap.size + 1 + 1 < _ := Nat.lt_of_lt_of_le (by omega) hz); (try have q3 : w.heap.size + 1 + 1 + 1 < _ := Nat.lt_of_lt_of_le (by omega) hz)) | (go_at_call 22; (with_reducible refine (DR.out _ (by (repeat (first | (with_reducible assumption) | (with_reducible exact Below.refl _ _) | (with_reducible refine grow_alloc ?_ _) | (with_reducible refine grow_mix ?_ _) | (with_reducible refine grow_drew ?_) | (with_reducible refine grow_drewN ?_ _) | (with_reducible refine grow_set ?_ (by first | (simp; done) | (simp; omega) | omega) _))))).mono ?_); rintro e w' ⟨rfl, hb⟩; have hz := hb.size; (first | (obtain ⟨x1, rfl⟩ := to_mix2 hb) | (obtain ⟨x1, rfl⟩ := to_mix hb)); clear hb; (try simp only [World.size_alloc, World.size_setCell, World.size_drew] at hz); (try have q0 : w.heap.size < _ := Nat.lt_of_lt_of_le (by omega) hz); (try have q1 : w.heap.size + 1 < _ := Nat.lt_of_lt_of_le (by omega) hz); (try have q2 : w.heap.size + 1 + 1 < _ := Nat.lt_of_lt_of_le (by omega) hz); (try have q3 : w.heap.size + 1 + 1 + 1 < _ := Nat.lt_of_lt_of_le (by omega) hz)))
  go_ret
  exact ⟨rfl, by (repeat (first | (with_reducible assumption) | (with_reducible exact Below.refl _ _) | (with_reducible refine grow_alloc ?_ _) | (with_reducible refine grow_mix ?_ _) | (with_reducible refine grow_drew ?_) | (with_reducible refine grow_drewN ?_ _) | (with_reducible refine grow_set ?_ (by first | (simp; done) | (simp; omega) | omega) _)))⟩
end Go.Proofs.YtedkfipjooafeaaGreatDoor.Code
