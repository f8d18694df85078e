/-
  Contracts of the reference's programs, told as data: a line laid onto a program. Contracts of the reference's programs, told as data: a line laid onto a program. Contracts of the reference's programs, told as data: a text read. Contracts of the reference's programs, told in the elder way. Walk of the law CodeTells.
-/
import Derived.Test.YtedkfipjooafeaaGreatDoorT4
import Derived.Test.YtedkfipjooafeaaGreatDoorT6
import Derived.Test.YtedkfipjooafeaaGreatDoorT7
import Derived.Test.YtedkfipjooafeaaGreatDoorT8
set_option linter.unusedSimpArgs false
set_option linter.unusedVariables false
set_option linter.unusedSimpArgs false
set_option linter.unusedVariables false
namespace Go.Proofs.YtedkfipjooafeaaGreatDoor.Ab
open Go Go.RowKit Go.Proofs.YtedkfipjooafeaaGreatDoor Go.Proofs.YtedkfipjooafeaaGreatDoor.Code Go.Proofs.YtedkfipjooafeaaGreatDoor.Op

abbrev nilA : AV := .im (.v (.slice none 0 0))
abbrev headR (f : Code.Fn) (x : AV) : List AV := [iA f.ar, iA f.lo, iA f.sl, x]
def rowsP (p : Pg) : List (List AV) := match p.getLast? with
  | none => []
  | some f => p.dropLast.map fnR ++ [headR f (.os 1 0 f.code.length)]
def codB (p : Pg) : Option Blk := match p.getLast? with
  | none => none
  | some f => some ⟨64, 3, f.code.map insR, false⟩
def layH (p : Pg) : List (Option Blk) := [some ⟨39, 4, rowsP p, false⟩, codB p]
def layT (p : Pg) : Lay → AT
  | .no => .u [.c (.os 0 0 p.length), bT false]
  | .fn _ => .u [.c (.os 2 0 (p.length + 1)), bT true]
  | .ins _ => .u [.c (.os 0 0 p.length), bT true]
def layHH (p : Pg) : Lay → List (Option Blk)
  | .no => layH p
  | .fn f => [none, codB p, some ⟨39, 4, rowsP p ++ [headR f nilA], false⟩]
  | .ins x => match p.getLast? with
    | none => layH p
    | some f => [some ⟨39, 4, p.dropLast.map fnR ++ [headR f (.os 2 0 (f.code.length + 1))], false⟩, none, some ⟨64, 3, (f.code ++ [x]).map insR, false⟩]
theorem rowsP_last (ps : Pg) (f : Code.Fn) : rowsP (ps ++ [f]) = ps.map fnR ++ [headR f (.os 1 0 f.code.length)] := by unfold rowsP; simp
theorem codB_last (ps : Pg) (f : Code.Fn) : codB (ps ++ [f]) = some ⟨64, 3, f.code.map insR, false⟩ := by unfold codB; simp
theorem lastN_last (ps : Pg) (f : Code.Fn) : lastN (ps ++ [f]) = f.code.length := by unfold lastN; simp
theorem fnR_im : ∀ y : Code.Fn, ∀ x ∈ fnR y, ∃ z, x = .im z := by simp [fnR]
theorem insR_im : ∀ y : Ins, ∀ x ∈ insR y, ∃ z, x = .im z := by simp [insR]
theorem headR_a (f : Code.Fn) : ACalls Tryz.prog 39 [.g [iA f.ar, iA f.lo, iA f.sl, nilA]] (bT (headB f)) :=
  acalls_plain (vs := [fnV f (.slice none 0 0)]) (r := .bool (headB f)) (by kernel_rfl) rfl (fun W => HeadR_calls f none 0 0 W)
theorem SplitR_at {s : B} {l : List B} {c : UInt8} (h : splitL c s = l) (hs : s.length ≤ 4294967296) : ACalls Tryz.prog 27 [.c (sA s), .c (.im (.v (.int .u8 c.toNat)))] (.c (strsA l)) := h ▸ SplitR_a s c hs
def lyF (n : Nat) (H : List (Option Blk)) (s w0 : B) (wt : List B) (k : Nat) : St :=
  ⟨tmpsOf 139 [(0, .c (.os 0 0 n)), (1, .c (sA s)), (6, .c (strsA (w0 :: wt))), (7, .c (.os 2 0 3)), (8, iT (k + 1 : Nat))], H ++ [some ⟨3, 1, [[iA (numK wt k 0)], [iA (numK wt k 1)], [iA (numK wt k 2)]], true⟩]⟩
set_option maxRecDepth 20000 in
set_option maxHeartbeats 16000000 in
theorem layR_last (ps : Pg) (f : Code.Fn) (s w0 : B) (wt : List B) (hw : splitL 32 s = w0 :: wt) (hs : s.length ≤ 4294967290) (hp16 : (ps.length + 1) ≤ 16) (hc : f.code.length ≤ 200) :
    ICalls Tryz.prog 28 [.c (.os 0 0 (ps.length + 1)), .c (sA s)] [some ⟨39, 4, ps.map fnR ++ [headR f (.os 1 0 f.code.length)], false⟩, some ⟨64, 3, f.code.map insR, false⟩] (layT (ps ++ [f]) (layO (ps ++ [f]) w0 wt)) (layHH (ps ++ [f]) (layO (ps ++ [f]) w0 wt)) := by
  have hwl : wt.length ≤ s.length := by have := split_len 32 s; rw [hw] at this; simpa using this
  have hwv : ∀ v ∈ wt, v.length ≤ s.length := fun v hv => split_small s v (by rw [hw]; simp [hv])
  refine icalls_w Tryz.func28 rfl (by decide) (fun E hn0 hm => ?_)
  simp only [Tryz.ntmps28, List.length_cons, List.length_nil, Nat.reduceAdd, Nat.reduceSub, List.replicate_succ, List.replicate_zero, List.cons_append, List.nil_append]
  have hb0 : ∀ b, b < E.n0 → b = 0 ∨ b = 1 := fun b hb => by rw [hn0] at hb; simp at hb; omega
  have h0 : ∀ {l : List (Option Nat)} b, b < E.n0 → (some 0 :: some 1 :: l)[b]? = some (some b) := fun b hb => by rcases hb0 b hb with rfl | rfl <;> rfl
  have q0 := tf9; have q1 := tf45; have q2 := tf3; have q3 := tf77; have q4 := tf23; have q5 := tf39; have q6 := tf37; have q7 := tf64
  repeat' (first | (refine r1_step rfl ?_) | (refine r1_guard hO rfl rfl (fun hb => ?_) (fun hb => ?_) <;> (first | (cases hb; done) | ((try simp only [Bool.not_true, Bool.not_false] at hb); (try simp only [hb]); first | (have hp := of_decide_eq_true hb; (try (exfalso; omega; done))) | (have hp := of_decide_eq_false hb; (try (exfalso; omega; done))) | skip))) | (refine r1_skip hO rfl rfl ?_) | ((try simp only [St.put, St.upd, St.new, St.app, killH, List.foldl_cons, List.foldl_nil, List.length_cons, List.length_nil, List.length_append, List.cons_append, List.nil_append, List.set_cons_succ, List.set_cons_zero, cast_succ, noFp, ba_size, List.length_map, Nat.reduceAdd, List.drop_zero, List.drop_succ_cons, List.map_cons, List.map_nil, Bool.not_true, Bool.not_false]); refine s1_next ?_) | (refine x1_move_c rfl rfl ?_) | (refine x1_assign_c rfl rfl ?_) | (refine x1_fld_o rfl (by assumption) rfl rfl (by decide) rfl ?_) | (refine x1_load_o rfl (by assumption) rfl rfl rfl rfl rfl ?_) | (refine x1_load_og rfl (by assumption) rfl rfl rfl rfl rfl ?_) | (refine x1_add rfl rfl rfl (by omega) (by omega) ?_) | (refine x1_pred rfl rfl rfl (by omega) ?_) | (refine x1_sub rfl rfl rfl (by omega) (by omega) ?_) | (refine x1_mul rfl rfl rfl (by omega) (by omega) ?_) | (refine x1_eqS rfl rfl rfl ?_) | (refine x1_neS rfl rfl rfl ?_) | (refine x1_bin rfl rfl rfl rfl ?_) | (refine x1_store rfl rfl (by assumption) rfl rfl rfl rfl rfl rfl ?_) | (refine x1_storeg rfl rfl (by assumption) rfl rfl rfl rfl rfl rfl ?_) | (refine x1_pick_t rfl rfl rfl ?_) | (refine x1_pick_f rfl rfl rfl ?_) | (refine x1_not rfl rfl ?_) | (refine x1_len rfl (by assumption) rfl rfl ?_) | (refine x1_ext_c rfl rfl rfl ?_) | (refine x1_ext_g rfl rfl rfl ?_) | (refine x1_move_g rfl rfl ?_) | (refine x1_move_u rfl rfl ?_) | (refine x1_assign_g rfl rfl ?_) | (refine x1_fld_i rfl (by assumption) rfl rfl (by decide) rfl ?_) | (refine x1_load_i rfl (by assumption) rfl rfl rfl ?_) | (refine x1_load_ig rfl (by assumption) rfl rfl rfl ?_) | (refine x1_call rfl rfl (SplitR_at (c := 32) hw (by omega)) rfl (by repeat' constructor) ?_) | (refine r1_nil ?_; clear hO; refine hK _ ?_; clear hK K) | (refine r1_nil ⟨(by rw [hO]; kernel_rfl), ?_⟩; clear hO; refine hK _ ?_; clear hK K) | (refine w1_seq fun K hK => ?_) | (refine w1_region rfl (by kernel_rfl) fun OPS hO => ?_) | (refine w1_draw (by kernel_rfl) rfl (by kernel_rfl) fun OPS hO => ?_) | (refine w1_ret ?_) | (refine w1_skip ?_; refine hK _ ?_; clear hK K) | (refine w1_cond _ rfl (fun hb => ?_) (fun hb => ?_) <;> (first | (cases hb; done) | ((try simp only [Bool.not_true, Bool.not_false] at hb); (try simp only [hb]); first | (have hp := of_decide_eq_true hb; (try (exfalso; omega; done))) | (have hp := of_decide_eq_false hb; (try (exfalso; omega; done))) | skip))) | (refine w1_block ?_) | (refine w1_exit ?_; simp only [thenA, blockA, eq_self, reduceIte, if_true]; first | (refine hK _ ?_; clear hK K) | (clear hK K; refine hK _ ?_; clear hK K) | (clear hK K; clear hK K; refine hK _ ?_; clear hK K) | (clear hK K; clear hK K; clear hK K; refine hK _ ?_; clear hK K)) | (refine r1_nil ?_; clear hO) | (refine X1.mk ?_; simp only [Ex, ExC, St.ev, St.put, St.new, St.upd, St.app, St.hp, killH, AT.ofValue, isOne, loadA, fieldA, partA, indexA, elemOf?, addOff, cut, cellsA, storeA, appA, rowsA, lenA, lenOk, binA, fillA, placeS, partsA, zeroL, splice, chunk, blkOf, tf9, tf45, tf3, tf77, tf23, tf39, tf37, tf64, List.getD_cons_succ, List.getD_cons_zero, List.getElem?_cons_succ, List.getElem?_cons_zero, List.set_cons_succ, List.set_cons_zero, List.length_cons, List.length_nil, List.map_cons, List.map_nil, List.append_nil, List.nil_append, List.cons_append, List.drop_zero, List.drop_succ_cons, List.take_succ_cons, List.take_zero, List.replicate_succ, List.replicate_zero, List.flatten_cons, List.flatten_nil, List.foldl_cons, List.foldl_nil, List.cons.injEq, ba_size, List.all_cons, List.all_nil, List.length_map, List.length_append, List.getElem?_map, Option.some.injEq, Option.map_some, Option.map_none, Option.join_some, Option.join_none, Option.isSome_some, Bool.and_self, AT.c.injEq, AT.u.injEq, AT.g.injEq, AV.im.injEq, IV.v.injEq, Value.bool.injEq, Value.int.injEq, TK.sl.injEq, Prod.mk.injEq, exists_eq_left', exists_eq_left, exists_eq', exists_and_left, and_assoc, ite_true, if_true, ite_false, if_false, Bool.false_eq_true, true_and, and_true, eq_self, reduceIte, Bool.and_true, Bool.true_and, Bool.not_true, Bool.not_false, Int.natCast_nonneg, Int.toNat_natCast, Int.reduceToNat, Int.reduceLE, Int.reduceLT, Nat.reduceAdd, Nat.reduceMul, Nat.reduceLT, Nat.reduceLeDiff, Nat.reduceEqDiff, Nat.lt_irrefl, Nat.le_refl, Nat.zero_le, Nat.zero_add, Nat.add_zero, Nat.zero_mul, Nat.succ_ne_zero]; refine s1_next ?_))
  refine w1_loop (α := {k : Nat // k ≤ wt.length ∧ k ≤ 3 ∧ ∀ j v, j < k → wt[j]? = some v → 0 ≤ numN v}) (fun x => lyF (ps.length + 1) [some ⟨39, 4, ps.map fnR ++ [headR f (.os 1 0 f.code.length)], false⟩, some ⟨64, 3, f.code.map insR, false⟩] s w0 wt x.1) (fun x => wt.length - x.1) ⟨0, by omega, by omega, fun j v h => by omega⟩ ?_ ?_
  · refine sub_in hm [some 0, some 1, some 2] rfl (by decide) h0 ?_ ?_
    · simp [lyF, tmpsOf, subTs, subT, subA, renL]
    · simp [lyF, subH, subR, subAs, subA, renL, St.hp, numK_zero]
      exact ⟨subR_app (subR_map fnR fnR_im ps) (by simp [subR, subAs, subA, renL]), subR_map insR insR_im f.code⟩
  rintro ⟨k, hk, hk3, hok⟩
  simp only [lyF, tmpsOf, List.foldl_cons, List.foldl_nil, List.replicate_succ, List.replicate_zero, List.set_cons_succ, List.set_cons_zero, List.cons_append, List.nil_append]
  by_cases hlt : k < wt.length
  · obtain ⟨v, hv⟩ : ∃ v, wt[k]? = some v := ⟨_, List.getElem?_eq_getElem hlt⟩
    have hvl := hwv v (List.mem_of_getElem? hv)
    have hN := NumberR_a v (by omega)
    have hix : ((w0 :: wt).map strI)[((k + 1 : Nat) : Int).toNat]? = some (strI v) := by rw [Int.toNat_natCast, List.map_cons, List.getElem?_cons_succ, List.getElem?_map, hv]; rfl
    have okS : 0 ≤ numN v → ∀ j v', j < k + 1 → wt[j]? = some v' → 0 ≤ numN v' := fun h j v' hj hv' => by
      rcases Nat.lt_or_ge j k with h1 | h1
      · exact hok j v' h1 hv'
      · obtain rfl : j = k := by omega
        rw [hv] at hv'
        injection hv' with e
        rwa [← e]
    have hcase : k = 0 ∨ k = 1 ∨ k = 2 ∨ k = 3 := by omega
    rcases hcase with rfl | rfl | rfl | rfl
    all_goals
      have q0 := tf9; have q1 := tf45; have q2 := tf3; have q3 := tf77; have q4 := tf23; have q5 := tf39; have q6 := tf37; have q7 := tf64
      repeat' (first | (refine r1_step rfl ?_) | (refine r1_guard hO rfl rfl (fun hb => ?_) (fun hb => ?_) <;> (first | (cases hb; done) | ((try simp only [Bool.not_true, Bool.not_false] at hb); (try simp only [hb]); first | (have hp := of_decide_eq_true hb; (try (exfalso; omega; done))) | (have hp := of_decide_eq_false hb; (try (exfalso; omega; done))) | skip))) | (refine r1_skip hO rfl rfl ?_) | ((try simp only [St.put, St.upd, St.new, St.app, killH, List.foldl_cons, List.foldl_nil, List.length_cons, List.length_nil, List.length_append, List.cons_append, List.nil_append, List.set_cons_succ, List.set_cons_zero, cast_succ, noFp, ba_size, List.length_map, Nat.reduceAdd, List.drop_zero, List.drop_succ_cons, List.map_cons, List.map_nil, Bool.not_true, Bool.not_false]); refine s1_next ?_) | (refine x1_move_c rfl rfl ?_) | (refine x1_assign_c rfl rfl ?_) | (refine x1_fld_o rfl (by assumption) rfl rfl (by decide) rfl ?_) | (refine x1_load_o rfl (by assumption) rfl rfl rfl rfl rfl ?_) | (refine x1_load_og rfl (by assumption) rfl rfl rfl rfl rfl ?_) | (refine x1_add rfl rfl rfl (by omega) (by omega) ?_) | (refine x1_pred rfl rfl rfl (by omega) ?_) | (refine x1_sub rfl rfl rfl (by omega) (by omega) ?_) | (refine x1_mul rfl rfl rfl (by omega) (by omega) ?_) | (refine x1_eqS rfl rfl rfl ?_) | (refine x1_neS rfl rfl rfl ?_) | (refine x1_bin rfl rfl rfl rfl ?_) | (refine x1_store rfl rfl (by assumption) rfl rfl rfl rfl rfl rfl ?_) | (refine x1_storeg rfl rfl (by assumption) rfl rfl rfl rfl rfl rfl ?_) | (refine x1_pick_t rfl rfl rfl ?_) | (refine x1_pick_f rfl rfl rfl ?_) | (refine x1_not rfl rfl ?_) | (refine x1_len rfl (by assumption) rfl rfl ?_) | (refine x1_ext_c rfl rfl rfl ?_) | (refine x1_ext_g rfl rfl rfl ?_) | (refine x1_move_g rfl rfl ?_) | (refine x1_move_u rfl rfl ?_) | (refine x1_assign_g rfl rfl ?_) | (refine x1_fld_i rfl (by assumption) rfl rfl (by decide) rfl ?_) | (refine x1_load_i rfl (by assumption) rfl rfl rfl ?_) | (refine x1_load_ig rfl (by assumption) rfl rfl rfl ?_) | (refine x1_ix_i rfl tf45 rfl tf9 rfl rfl rfl (by omega) hix ?_) | (refine x1_call rfl rfl hN rfl (by repeat' constructor) ?_) | (refine x1_ix_on rfl tf77 rfl tf3 rfl rfl rfl rfl (by omega) ?_) | (refine r1_nil ?_; clear hO; refine hK _ ?_; clear hK K) | (refine r1_nil ⟨(by rw [hO]; kernel_rfl), ?_⟩; clear hO; refine hK _ ?_; clear hK K) | (refine w1_seq fun K hK => ?_) | (refine w1_region rfl (by kernel_rfl) fun OPS hO => ?_) | (refine w1_draw (by kernel_rfl) rfl (by kernel_rfl) fun OPS hO => ?_) | (refine w1_ret ?_) | (refine w1_skip ?_; refine hK _ ?_; clear hK K) | (refine w1_cond _ rfl (fun hb => ?_) (fun hb => ?_) <;> (first | (cases hb; done) | ((try simp only [Bool.not_true, Bool.not_false] at hb); (try simp only [hb]); first | (have hp := of_decide_eq_true hb; (try (exfalso; omega; done))) | (have hp := of_decide_eq_false hb; (try (exfalso; omega; done))) | skip))) | (refine w1_block ?_) | (refine w1_exit ?_; simp only [thenA, blockA, eq_self, reduceIte, if_true]; first | (refine hK _ ?_; clear hK K) | (clear hK K; refine hK _ ?_; clear hK K) | (clear hK K; clear hK K; refine hK _ ?_; clear hK K) | (clear hK K; clear hK K; clear hK K; refine hK _ ?_; clear hK K)) | (refine r1_nil ?_; clear hO) | (refine X1.mk ?_; simp only [Ex, ExC, St.ev, St.put, St.new, St.upd, St.app, St.hp, killH, AT.ofValue, isOne, loadA, fieldA, partA, indexA, elemOf?, addOff, cut, cellsA, storeA, appA, rowsA, lenA, lenOk, binA, fillA, placeS, partsA, zeroL, splice, chunk, blkOf, tf9, tf45, tf3, tf77, tf23, tf39, tf37, tf64, List.getD_cons_succ, List.getD_cons_zero, List.getElem?_cons_succ, List.getElem?_cons_zero, List.set_cons_succ, List.set_cons_zero, List.length_cons, List.length_nil, List.map_cons, List.map_nil, List.append_nil, List.nil_append, List.cons_append, List.drop_zero, List.drop_succ_cons, List.take_succ_cons, List.take_zero, List.replicate_succ, List.replicate_zero, List.flatten_cons, List.flatten_nil, List.foldl_cons, List.foldl_nil, List.cons.injEq, ba_size, List.all_cons, List.all_nil, List.length_map, List.length_append, List.getElem?_map, Option.some.injEq, Option.map_some, Option.map_none, Option.join_some, Option.join_none, Option.isSome_some, Bool.and_self, AT.c.injEq, AT.u.injEq, AT.g.injEq, AV.im.injEq, IV.v.injEq, Value.bool.injEq, Value.int.injEq, TK.sl.injEq, Prod.mk.injEq, exists_eq_left', exists_eq_left, exists_eq', exists_and_left, and_assoc, ite_true, if_true, ite_false, if_false, Bool.false_eq_true, true_and, and_true, eq_self, reduceIte, Bool.and_true, Bool.true_and, Bool.not_true, Bool.not_false, Int.natCast_nonneg, Int.toNat_natCast, Int.reduceToNat, Int.reduceLE, Int.reduceLT, Nat.reduceAdd, Nat.reduceMul, Nat.reduceLT, Nat.reduceLeDiff, Nat.reduceEqDiff, Nat.lt_irrefl, Nat.le_refl, Nat.zero_le, Nat.zero_add, Nat.add_zero, Nat.zero_mul, Nat.succ_ne_zero]; refine s1_next ?_))
    · have hm' : wt.length - (0 + 1) < wt.length - 0 := by omega
      have q0 : numK wt 1 0 = numN v := numK_at hv
      have q1 : numK wt 1 1 = numK wt 0 1 := numK_ne wt 0 1 (by decide)
      have q2 : numK wt 1 2 = numK wt 0 2 := numK_ne wt 0 2 (by decide)
      refine ⟨⟨0 + 1, by omega, by omega, okS (by omega)⟩, hm', sub_in hm [some 0, some 1, some 2] rfl (by decide) h0 ?_ ?_⟩
      · simp [subTs, subT, subA, renL]
      · simp [subH, subR, subAs, subA, renL, St.hp, q0, q1, q2]
        exact ⟨subR_app (subR_map fnR fnR_im ps) (by simp [subR, subAs, subA, renL]), subR_map insR insR_im f.code⟩
    · have hno : layO (ps ++ [f]) w0 wt = .no := by unfold layO; rw [if_pos (.inr ⟨v, List.mem_of_getElem? hv, by omega⟩)]
      rw [hno]
      refine end_i ⟨tmpsOf 139 [(4, .c (.os 0 0 (ps.length + 1))), (5, bT false)], [some ⟨39, 4, ps.map fnR ++ [headR f (.os 1 0 f.code.length)], false⟩, some ⟨64, 3, f.code.map insR, false⟩]⟩ [.c (.os 0 0 (ps.length + 1)), bT false] (sub_in hm [some 0, some 1] rfl (by decide) h0 ?_ ?_) rfl (by simp [layT, layHH, layH, packA, rowsP_last, codB_last]) (by simp [layT, layHH, layH, packA, rowsP_last, codB_last])
      · simp [tmpsOf, subTs, subT, subA, renL]
      · simp [subH, subR, subAs, subA, renL, St.hp]
        exact ⟨subR_app (subR_map fnR fnR_im ps) (by simp [subR, subAs, subA, renL]), subR_map insR insR_im f.code⟩
    · have hm' : wt.length - (1 + 1) < wt.length - 1 := by omega
      have q0 : numK wt 2 0 = numK wt 1 0 := numK_ne wt 1 0 (by decide)
      have q1 : numK wt 2 1 = numN v := numK_at hv
      have q2 : numK wt 2 2 = numK wt 1 2 := numK_ne wt 1 2 (by decide)
      refine ⟨⟨1 + 1, by omega, by omega, okS (by omega)⟩, hm', sub_in hm [some 0, some 1, some 2] rfl (by decide) h0 ?_ ?_⟩
      · simp [subTs, subT, subA, renL]
      · simp [subH, subR, subAs, subA, renL, St.hp, q0, q1, q2]
        exact ⟨subR_app (subR_map fnR fnR_im ps) (by simp [subR, subAs, subA, renL]), subR_map insR insR_im f.code⟩
    · have hno : layO (ps ++ [f]) w0 wt = .no := by unfold layO; rw [if_pos (.inr ⟨v, List.mem_of_getElem? hv, by omega⟩)]
      rw [hno]
      refine end_i ⟨tmpsOf 139 [(4, .c (.os 0 0 (ps.length + 1))), (5, bT false)], [some ⟨39, 4, ps.map fnR ++ [headR f (.os 1 0 f.code.length)], false⟩, some ⟨64, 3, f.code.map insR, false⟩]⟩ [.c (.os 0 0 (ps.length + 1)), bT false] (sub_in hm [some 0, some 1] rfl (by decide) h0 ?_ ?_) rfl (by simp [layT, layHH, layH, packA, rowsP_last, codB_last]) (by simp [layT, layHH, layH, packA, rowsP_last, codB_last])
      · simp [tmpsOf, subTs, subT, subA, renL]
      · simp [subH, subR, subAs, subA, renL, St.hp]
        exact ⟨subR_app (subR_map fnR fnR_im ps) (by simp [subR, subAs, subA, renL]), subR_map insR insR_im f.code⟩
    · have hm' : wt.length - (2 + 1) < wt.length - 2 := by omega
      have q0 : numK wt 3 0 = numK wt 2 0 := numK_ne wt 2 0 (by decide)
      have q1 : numK wt 3 1 = numK wt 2 1 := numK_ne wt 2 1 (by decide)
      have q2 : numK wt 3 2 = numN v := numK_at hv
      refine ⟨⟨2 + 1, by omega, by omega, okS (by omega)⟩, hm', sub_in hm [some 0, some 1, some 2] rfl (by decide) h0 ?_ ?_⟩
      · simp [subTs, subT, subA, renL]
      · simp [subH, subR, subAs, subA, renL, St.hp, q0, q1, q2]
        exact ⟨subR_app (subR_map fnR fnR_im ps) (by simp [subR, subAs, subA, renL]), subR_map insR insR_im f.code⟩
    · have hno : layO (ps ++ [f]) w0 wt = .no := by unfold layO; rw [if_pos (.inr ⟨v, List.mem_of_getElem? hv, by omega⟩)]
      rw [hno]
      refine end_i ⟨tmpsOf 139 [(4, .c (.os 0 0 (ps.length + 1))), (5, bT false)], [some ⟨39, 4, ps.map fnR ++ [headR f (.os 1 0 f.code.length)], false⟩, some ⟨64, 3, f.code.map insR, false⟩]⟩ [.c (.os 0 0 (ps.length + 1)), bT false] (sub_in hm [some 0, some 1] rfl (by decide) h0 ?_ ?_) rfl (by simp [layT, layHH, layH, packA, rowsP_last, codB_last]) (by simp [layT, layHH, layH, packA, rowsP_last, codB_last])
      · simp [tmpsOf, subTs, subT, subA, renL]
      · simp [subH, subR, subAs, subA, renL, St.hp]
        exact ⟨subR_app (subR_map fnR fnR_im ps) (by simp [subR, subAs, subA, renL]), subR_map insR insR_im f.code⟩
    · have hno : layO (ps ++ [f]) w0 wt = .no := by unfold layO; rw [if_pos (.inl (by omega))]
      rw [hno]
      refine end_i ⟨tmpsOf 139 [(4, .c (.os 0 0 (ps.length + 1))), (5, bT false)], [some ⟨39, 4, ps.map fnR ++ [headR f (.os 1 0 f.code.length)], false⟩, some ⟨64, 3, f.code.map insR, false⟩]⟩ [.c (.os 0 0 (ps.length + 1)), bT false] (sub_in hm [some 0, some 1] rfl (by decide) h0 ?_ ?_) rfl (by simp [layT, layHH, layH, packA, rowsP_last, codB_last]) (by simp [layT, layHH, layH, packA, rowsP_last, codB_last])
      · simp [tmpsOf, subTs, subT, subA, renL]
      · simp [subH, subR, subAs, subA, renL, St.hp]
        exact ⟨subR_app (subR_map fnR fnR_im ps) (by simp [subR, subAs, subA, renL]), subR_map insR insR_im f.code⟩
    · have hno : layO (ps ++ [f]) w0 wt = .no := by unfold layO; rw [if_pos (.inr ⟨v, List.mem_of_getElem? hv, by omega⟩)]
      rw [hno]
      refine end_i ⟨tmpsOf 139 [(4, .c (.os 0 0 (ps.length + 1))), (5, bT false)], [some ⟨39, 4, ps.map fnR ++ [headR f (.os 1 0 f.code.length)], false⟩, some ⟨64, 3, f.code.map insR, false⟩]⟩ [.c (.os 0 0 (ps.length + 1)), bT false] (sub_in hm [some 0, some 1] rfl (by decide) h0 ?_ ?_) rfl (by simp [layT, layHH, layH, packA, rowsP_last, codB_last]) (by simp [layT, layHH, layH, packA, rowsP_last, codB_last])
      · simp [tmpsOf, subTs, subT, subA, renL]
      · simp [subH, subR, subAs, subA, renL, St.hp]
        exact ⟨subR_app (subR_map fnR fnR_im ps) (by simp [subR, subAs, subA, renL]), subR_map insR insR_im f.code⟩
  · obtain rfl : k = wt.length := by omega
    have hex : ¬ (3 < wt.length ∨ ∃ v ∈ wt, numN v < 0) := by
      rintro (h | ⟨v, hv, h⟩)
      · omega
      · obtain ⟨j, hj⟩ := List.getElem?_of_mem hv
        have := hok j v (List.getElem?_eq_some_iff.1 hj).1 hj
        omega
    have hfb : 0 ≤ opFields (findN w0) ∧ opFields (findN w0) ≤ 2 := by rcases fields_len (findN w0) with e | e | e <;> omega
    have hix0 : ((w0 :: wt).map strI)[(0 : Int).toNat]? = some (strI w0) := rfl
    have q0 := tf9; have q1 := tf45; have q2 := tf3; have q3 := tf77; have q4 := tf23; have q5 := tf39; have q6 := tf37; have q7 := tf64
    repeat' (first | (refine r1_step rfl ?_) | (refine r1_guard hO rfl rfl (fun hb => ?_) (fun hb => ?_) <;> (first | (cases hb; done) | ((try simp only [Bool.not_true, Bool.not_false] at hb); (try simp only [hb]); first | (have hp := of_decide_eq_true hb; (try (exfalso; omega; done))) | (have hp := of_decide_eq_false hb; (try (exfalso; omega; done))) | skip))) | (refine r1_skip hO rfl rfl ?_) | ((try simp only [St.put, St.upd, St.new, St.app, killH, List.foldl_cons, List.foldl_nil, List.length_cons, List.length_nil, List.length_append, List.cons_append, List.nil_append, List.set_cons_succ, List.set_cons_zero, cast_succ, noFp, ba_size, List.length_map, Nat.reduceAdd, List.drop_zero, List.drop_succ_cons, List.map_cons, List.map_nil, Bool.not_true, Bool.not_false]); refine s1_next ?_) | (refine x1_move_c rfl rfl ?_) | (refine x1_assign_c rfl rfl ?_) | (refine x1_fld_o rfl (by assumption) rfl rfl (by decide) rfl ?_) | (refine x1_load_o rfl (by assumption) rfl rfl rfl rfl rfl ?_) | (refine x1_load_og rfl (by assumption) rfl rfl rfl rfl rfl ?_) | (refine x1_add rfl rfl rfl (by omega) (by omega) ?_) | (refine x1_pred rfl rfl rfl (by omega) ?_) | (refine x1_sub rfl rfl rfl (by omega) (by omega) ?_) | (refine x1_mul rfl rfl rfl (by omega) (by omega) ?_) | (refine x1_eqS rfl rfl rfl ?_) | (refine x1_neS rfl rfl rfl ?_) | (refine x1_bin rfl rfl rfl rfl ?_) | (refine x1_store rfl rfl (by assumption) rfl rfl rfl rfl rfl rfl ?_) | (refine x1_storeg rfl rfl (by assumption) rfl rfl rfl rfl rfl rfl ?_) | (refine x1_pick_t rfl rfl rfl ?_) | (refine x1_pick_f rfl rfl rfl ?_) | (refine x1_not rfl rfl ?_) | (refine x1_len rfl (by assumption) rfl rfl ?_) | (refine x1_ext_c rfl rfl rfl ?_) | (refine x1_ext_g rfl rfl rfl ?_) | (refine x1_move_g rfl rfl ?_) | (refine x1_move_u rfl rfl ?_) | (refine x1_assign_g rfl rfl ?_) | (refine x1_fld_i rfl (by assumption) rfl rfl (by decide) rfl ?_) | (refine x1_load_i rfl (by assumption) rfl rfl rfl ?_) | (refine x1_load_ig rfl (by assumption) rfl rfl rfl ?_) | (refine x1_ix_i rfl tf45 rfl tf9 rfl rfl rfl (by omega) hix0 ?_) | (refine x1_ix_o rfl tf77 rfl tf3 rfl rfl rfl rfl (by omega) (by omega) ?_) | (refine x1_call rfl rfl (headR_a (layF wt)) rfl (by repeat' constructor) ?_) | (refine x1_call rfl rfl (FindR_a w0) rfl (by repeat' constructor) ?_) | (refine x1_call rfl rfl (mayIR_a (layX w0 wt)) rfl (by repeat' constructor) ?_) | (refine x1_call rfl rfl (fieldsR_a (findN w0)) rfl (by repeat' constructor) ?_) | (refine x1_ix_on rfl tf23 rfl tf39 rfl rfl rfl rfl (by omega) ?_) | (refine x1_load_o rfl tf37 rfl rfl rfl (get_last _ _ _) rfl ?_) | (refine x1_load_og rfl tf39 rfl rfl rfl (get_last _ _ _) rfl ?_) | (refine x1_storeg rfl rfl tf39 rfl rfl (get_last _ _ _) rfl rfl rfl ?_) | (refine x1_app_oo rfl tf23 rfl tf39 (by decide) rfl rfl rfl rfl rfl rfl rfl rfl (by simp) rfl (by simp <;> omega) (by simp <;> omega) ?_) | (refine x1_app_oo rfl tf37 rfl tf64 (by decide) rfl rfl rfl rfl rfl rfl rfl rfl (by simp) rfl (by simp <;> omega) (by simp <;> omega) ?_) | (refine r1_nil ?_; clear hO; refine hK _ ?_; clear hK K) | (refine r1_nil ⟨(by rw [hO]; kernel_rfl), ?_⟩; clear hO; refine hK _ ?_; clear hK K) | (refine w1_seq fun K hK => ?_) | (refine w1_region rfl (by kernel_rfl) fun OPS hO => ?_) | (refine w1_draw (by kernel_rfl) rfl (by kernel_rfl) fun OPS hO => ?_) | (refine w1_ret ?_) | (refine w1_skip ?_; refine hK _ ?_; clear hK K) | (refine w1_cond _ rfl (fun hb => ?_) (fun hb => ?_) <;> (first | (cases hb; done) | ((try simp only [Bool.not_true, Bool.not_false] at hb); (try simp only [hb]); first | (have hp := of_decide_eq_true hb; (try (exfalso; omega; done))) | (have hp := of_decide_eq_false hb; (try (exfalso; omega; done))) | skip))) | (refine w1_block ?_) | (refine w1_exit ?_; simp only [thenA, blockA, eq_self, reduceIte, if_true]; first | (refine hK _ ?_; clear hK K) | (clear hK K; refine hK _ ?_; clear hK K) | (clear hK K; clear hK K; refine hK _ ?_; clear hK K) | (clear hK K; clear hK K; clear hK K; refine hK _ ?_; clear hK K)) | (refine r1_nil ?_; clear hO) | (refine X1.mk ?_; simp only [Ex, ExC, St.ev, St.put, St.new, St.upd, St.app, St.hp, killH, AT.ofValue, isOne, loadA, fieldA, partA, indexA, elemOf?, addOff, cut, cellsA, storeA, appA, rowsA, lenA, lenOk, binA, fillA, placeS, partsA, zeroL, splice, chunk, blkOf, tf9, tf45, tf3, tf77, tf23, tf39, tf37, tf64, List.getD_cons_succ, List.getD_cons_zero, List.getElem?_cons_succ, List.getElem?_cons_zero, List.set_cons_succ, List.set_cons_zero, List.length_cons, List.length_nil, List.map_cons, List.map_nil, List.append_nil, List.nil_append, List.cons_append, List.drop_zero, List.drop_succ_cons, List.take_succ_cons, List.take_zero, List.replicate_succ, List.replicate_zero, List.flatten_cons, List.flatten_nil, List.foldl_cons, List.foldl_nil, List.cons.injEq, ba_size, List.all_cons, List.all_nil, List.length_map, List.length_append, List.getElem?_map, Option.some.injEq, Option.map_some, Option.map_none, Option.join_some, Option.join_none, Option.isSome_some, Bool.and_self, AT.c.injEq, AT.u.injEq, AT.g.injEq, AV.im.injEq, IV.v.injEq, Value.bool.injEq, Value.int.injEq, TK.sl.injEq, Prod.mk.injEq, exists_eq_left', exists_eq_left, exists_eq', exists_and_left, and_assoc, ite_true, if_true, ite_false, if_false, Bool.false_eq_true, true_and, and_true, eq_self, reduceIte, Bool.and_true, Bool.true_and, Bool.not_true, Bool.not_false, Int.natCast_nonneg, Int.toNat_natCast, Int.reduceToNat, Int.reduceLE, Int.reduceLT, Nat.reduceAdd, Nat.reduceMul, Nat.reduceLT, Nat.reduceLeDiff, Nat.reduceEqDiff, Nat.lt_irrefl, Nat.le_refl, Nat.zero_le, Nat.zero_add, Nat.add_zero, Nat.zero_mul, Nat.succ_ne_zero]; refine s1_next ?_))
    · have hno : layO (ps ++ [f]) w0 wt = .no := by unfold layO; rw [if_neg hex, if_pos (show w0 = funcB by assumption), if_pos (.inr (.inr (.inr (by simp; omega))))]
      rw [hno]
      refine end_i ⟨tmpsOf 139 [(4, .c (.os 0 0 (ps.length + 1))), (5, bT false)], [some ⟨39, 4, ps.map fnR ++ [headR f (.os 1 0 f.code.length)], false⟩, some ⟨64, 3, f.code.map insR, false⟩]⟩ [.c (.os 0 0 (ps.length + 1)), bT false] (sub_in hm [some 0, some 1] rfl (by decide) h0 ?_ ?_) rfl (by simp [layT, layHH, layH, packA, rowsP_last, codB_last]) (by simp [layT, layHH, layH, packA, rowsP_last, codB_last])
      · simp [tmpsOf, subTs, subT, subA, renL]
      · simp [subH, subR, subAs, subA, renL, St.hp]
        exact ⟨subR_app (subR_map fnR fnR_im ps) (by simp [subR, subAs, subA, renL]), subR_map insR insR_im f.code⟩
    · have hfn : layO (ps ++ [f]) w0 wt = .fn (layF wt) := by
        unfold layO
        rw [if_neg hex, if_pos (show w0 = funcB by assumption), if_neg]
        rintro (h | h | h | h)
        · omega
        · have hh : (!headB (layF wt)) = false := by assumption
          rw [h] at hh; cases hh
        · have := h.2
          rw [lastN_last] at this; omega
        · simp at h; omega
      rw [hfn]
      refine end_i ⟨tmpsOf 139 [(4, .c (.os 2 0 (ps.length + 1 + 1))), (5, bT true)], [none, some ⟨64, 3, f.code.map insR, false⟩, some ⟨39, 4, ps.map fnR ++ [headR f (.os 1 0 f.code.length)] ++ [headR (layF wt) nilA], false⟩]⟩ [.c (.os 2 0 (ps.length + 1 + 1)), bT true] (sub_in hm [some 0, some 1, some 5] rfl (by decide) h0 ?_ ?_) rfl (by simp [layT, layHH, layH, packA, rowsP_last, codB_last]) (by simp [layT, layHH, layH, packA, rowsP_last, codB_last])
      · simp [tmpsOf, subTs, subT, subA, renL]
      · have r1 : subR (renL [some 0, some 1, some 5]) (f.code.map insR) (f.code.map insR) := subR_map insR insR_im f.code
        have r2 : subR (renL [some 0, some 1, some 5]) (ps.map fnR ++ ([headR f (.os 1 0 f.code.length)] ++ [headR (layF wt) nilA])) (ps.map fnR ++ ([headR f (.os 1 0 f.code.length)] ++ [headR (layF wt) nilA])) := subR_app (subR_map fnR fnR_im ps) (by simp [subR, subAs, subA, renL])
        simp [subH, subA, renL, St.hp, layF] at r1 r2 ⊢
        exact ⟨r1, r2⟩
    · have hno : layO (ps ++ [f]) w0 wt = .no := by unfold layO; rw [if_neg hex, if_pos (show w0 = funcB by assumption), if_pos (.inr (.inr (.inl ⟨by simp, by rw [lastN_last]; omega⟩)))]
      rw [hno]
      refine end_i ⟨tmpsOf 139 [(4, .c (.os 0 0 (ps.length + 1))), (5, bT false)], [some ⟨39, 4, ps.map fnR ++ [headR f (.os 1 0 f.code.length)], false⟩, some ⟨64, 3, f.code.map insR, false⟩]⟩ [.c (.os 0 0 (ps.length + 1)), bT false] (sub_in hm [some 0, some 1] rfl (by decide) h0 ?_ ?_) rfl (by simp [layT, layHH, layH, packA, rowsP_last, codB_last]) (by simp [layT, layHH, layH, packA, rowsP_last, codB_last])
      · simp [tmpsOf, subTs, subT, subA, renL]
      · simp [subH, subR, subAs, subA, renL, St.hp]
        exact ⟨subR_app (subR_map fnR fnR_im ps) (by simp [subR, subAs, subA, renL]), subR_map insR insR_im f.code⟩
    · have hh : (!headB (layF wt)) = true := by assumption
      have hno : layO (ps ++ [f]) w0 wt = .no := by unfold layO; rw [if_neg hex, if_pos (show w0 = funcB by assumption), if_pos (.inr (.inl (by simpa using hh)))]
      rw [hno]
      refine end_i ⟨tmpsOf 139 [(4, .c (.os 0 0 (ps.length + 1))), (5, bT false)], [some ⟨39, 4, ps.map fnR ++ [headR f (.os 1 0 f.code.length)], false⟩, some ⟨64, 3, f.code.map insR, false⟩]⟩ [.c (.os 0 0 (ps.length + 1)), bT false] (sub_in hm [some 0, some 1] rfl (by decide) h0 ?_ ?_) rfl (by simp [layT, layHH, layH, packA, rowsP_last, codB_last]) (by simp [layT, layHH, layH, packA, rowsP_last, codB_last])
      · simp [tmpsOf, subTs, subT, subA, renL]
      · simp [subH, subR, subAs, subA, renL, St.hp]
        exact ⟨subR_app (subR_map fnR fnR_im ps) (by simp [subR, subAs, subA, renL]), subR_map insR insR_im f.code⟩
    · have hno : layO (ps ++ [f]) w0 wt = .no := by unfold layO; rw [if_neg hex, if_pos (show w0 = funcB by assumption), if_pos (.inl (by omega))]
      rw [hno]
      refine end_i ⟨tmpsOf 139 [(4, .c (.os 0 0 (ps.length + 1))), (5, bT false)], [some ⟨39, 4, ps.map fnR ++ [headR f (.os 1 0 f.code.length)], false⟩, some ⟨64, 3, f.code.map insR, false⟩]⟩ [.c (.os 0 0 (ps.length + 1)), bT false] (sub_in hm [some 0, some 1] rfl (by decide) h0 ?_ ?_) rfl (by simp [layT, layHH, layH, packA, rowsP_last, codB_last]) (by simp [layT, layHH, layH, packA, rowsP_last, codB_last])
      · simp [tmpsOf, subTs, subT, subA, renL]
      · simp [subH, subR, subAs, subA, renL, St.hp]
        exact ⟨subR_app (subR_map fnR fnR_im ps) (by simp [subR, subAs, subA, renL]), subR_map insR insR_im f.code⟩
    · have hno : layO (ps ++ [f]) w0 wt = .no := by unfold layO; rw [if_neg hex, if_neg (show ¬ w0 = funcB by assumption), if_pos (.inr (.inr (.inr (by rw [lastN_last]; omega))))]
      rw [hno]
      refine end_i ⟨tmpsOf 139 [(4, .c (.os 0 0 (ps.length + 1))), (5, bT false)], [some ⟨39, 4, ps.map fnR ++ [headR f (.os 1 0 f.code.length)], false⟩, some ⟨64, 3, f.code.map insR, false⟩]⟩ [.c (.os 0 0 (ps.length + 1)), bT false] (sub_in hm [some 0, some 1] rfl (by decide) h0 ?_ ?_) rfl (by simp [layT, layHH, layH, packA, rowsP_last, codB_last]) (by simp [layT, layHH, layH, packA, rowsP_last, codB_last])
      · simp [tmpsOf, subTs, subT, subA, renL]
      · simp [subH, subR, subAs, subA, renL, St.hp]
        exact ⟨subR_app (subR_map fnR fnR_im ps) (by simp [subR, subAs, subA, renL]), subR_map insR insR_im f.code⟩
    · have hin : layO (ps ++ [f]) w0 wt = .ins (layX w0 wt) := by
        unfold layO
        rw [if_neg hex, if_neg (show ¬ w0 = funcB by assumption), if_neg]
        rintro (h | h | h | h)
        · have hh : (!mayI (layX w0 wt)) = false := by assumption
          rw [h] at hh; cases hh
        · omega
        · simp at h
        · rw [lastN_last] at h; omega
      rw [hin]
      refine end_i ⟨tmpsOf 139 [(4, .c (.os 0 0 (ps.length + 1))), (5, bT true)], [some ⟨39, 4, ps.map fnR ++ [headR f (.os 2 0 (f.code.length + 1))], false⟩, none, some ⟨64, 3, (f.code ++ [layX w0 wt]).map insR, false⟩]⟩ [.c (.os 0 0 (ps.length + 1)), bT true] (sub_in hm [some 0, some 1, some 6] rfl (by decide) h0 ?_ ?_) rfl (by simp [layT, layHH, layH, packA, rowsP_last, codB_last]) (by simp [layT, layHH, layH, packA, rowsP_last, codB_last])
      · simp [tmpsOf, subTs, subT, subA, renL]
      · have r1 : subR (renL [some 0, some 1, some 6]) ((f.code ++ [layX w0 wt]).map insR) ((f.code ++ [layX w0 wt]).map insR) := subR_map insR insR_im _
        have r2 : subR (renL [some 0, some 1, some 6]) (ps.map fnR ++ [headR f (.os 6 0 (f.code.length + 1))]) (ps.map fnR ++ [headR f (.os 2 0 (f.code.length + 1))]) := subR_app (subR_map fnR fnR_im ps) (by simp [subR, subAs, subA, renL])
        simp [subH, subA, renL, St.hp, layX, insR, set_last] at r1 r2 ⊢
        exact ⟨r2, r1⟩
    · have hno : layO (ps ++ [f]) w0 wt = .no := by unfold layO; rw [if_neg hex, if_neg (show ¬ w0 = funcB by assumption), if_pos (.inr (.inl (by omega)))]
      rw [hno]
      refine end_i ⟨tmpsOf 139 [(4, .c (.os 0 0 (ps.length + 1))), (5, bT false)], [some ⟨39, 4, ps.map fnR ++ [headR f (.os 1 0 f.code.length)], false⟩, some ⟨64, 3, f.code.map insR, false⟩]⟩ [.c (.os 0 0 (ps.length + 1)), bT false] (sub_in hm [some 0, some 1] rfl (by decide) h0 ?_ ?_) rfl (by simp [layT, layHH, layH, packA, rowsP_last, codB_last]) (by simp [layT, layHH, layH, packA, rowsP_last, codB_last])
      · simp [tmpsOf, subTs, subT, subA, renL]
      · simp [subH, subR, subAs, subA, renL, St.hp]
        exact ⟨subR_app (subR_map fnR fnR_im ps) (by simp [subR, subAs, subA, renL]), subR_map insR insR_im f.code⟩
    · have hh : (!mayI (layX w0 wt)) = true := by assumption
      have hno : layO (ps ++ [f]) w0 wt = .no := by unfold layO; rw [if_neg hex, if_neg (show ¬ w0 = funcB by assumption), if_pos (.inl (by simpa using hh))]
      rw [hno]
      refine end_i ⟨tmpsOf 139 [(4, .c (.os 0 0 (ps.length + 1))), (5, bT false)], [some ⟨39, 4, ps.map fnR ++ [headR f (.os 1 0 f.code.length)], false⟩, some ⟨64, 3, f.code.map insR, false⟩]⟩ [.c (.os 0 0 (ps.length + 1)), bT false] (sub_in hm [some 0, some 1] rfl (by decide) h0 ?_ ?_) rfl (by simp [layT, layHH, layH, packA, rowsP_last, codB_last]) (by simp [layT, layHH, layH, packA, rowsP_last, codB_last])
      · simp [tmpsOf, subTs, subT, subA, renL]
      · simp [subH, subR, subAs, subA, renL, St.hp]
        exact ⟨subR_app (subR_map fnR fnR_im ps) (by simp [subR, subAs, subA, renL]), subR_map insR insR_im f.code⟩
end Go.Proofs.YtedkfipjooafeaaGreatDoor.Ab
set_option linter.unusedSimpArgs false
set_option linter.unusedVariables false
namespace Go.Proofs.YtedkfipjooafeaaGreatDoor.Ab
open Go Go.RowKit Go.Proofs.YtedkfipjooafeaaGreatDoor Go.Proofs.YtedkfipjooafeaaGreatDoor.Code Go.Proofs.YtedkfipjooafeaaGreatDoor.Op

set_option maxRecDepth 20000 in
set_option maxHeartbeats 16000000 in
theorem layR_nil (s w0 : B) (wt : List B) (hw : splitL 32 s = w0 :: wt) (hs : s.length ≤ 4294967290) (hp16 : 0 ≤ 16) :
    ICalls Tryz.prog 28 [.c (.os 0 0 0), .c (sA s)] [some ⟨39, 4, [], false⟩, none] (layT ([] : Pg) (layO ([] : Pg) w0 wt)) (layHH ([] : Pg) (layO ([] : Pg) w0 wt)) := by
  have hwl : wt.length ≤ s.length := by have := split_len 32 s; rw [hw] at this; simpa using this
  have hwv : ∀ v ∈ wt, v.length ≤ s.length := fun v hv => split_small s v (by rw [hw]; simp [hv])
  refine icalls_w Tryz.func28 rfl (by decide) (fun E hn0 hm => ?_)
  simp only [Tryz.ntmps28, List.length_cons, List.length_nil, Nat.reduceAdd, Nat.reduceSub, List.replicate_succ, List.replicate_zero, List.cons_append, List.nil_append]
  have hb0 : ∀ b, b < E.n0 → b = 0 ∨ b = 1 := fun b hb => by rw [hn0] at hb; simp at hb; omega
  have h0 : ∀ {l : List (Option Nat)} b, b < E.n0 → (some 0 :: some 1 :: l)[b]? = some (some b) := fun b hb => by rcases hb0 b hb with rfl | rfl <;> rfl
  have q0 := tf9; have q1 := tf45; have q2 := tf3; have q3 := tf77; have q4 := tf23; have q5 := tf39; have q6 := tf37; have q7 := tf64
  repeat' (first | (refine r1_step rfl ?_) | (refine r1_guard hO rfl rfl (fun hb => ?_) (fun hb => ?_) <;> (first | (cases hb; done) | ((try simp only [Bool.not_true, Bool.not_false] at hb); (try simp only [hb]); first | (have hp := of_decide_eq_true hb; (try (exfalso; omega; done))) | (have hp := of_decide_eq_false hb; (try (exfalso; omega; done))) | skip))) | (refine r1_skip hO rfl rfl ?_) | ((try simp only [St.put, St.upd, St.new, St.app, killH, List.foldl_cons, List.foldl_nil, List.length_cons, List.length_nil, List.length_append, List.cons_append, List.nil_append, List.set_cons_succ, List.set_cons_zero, cast_succ, noFp, ba_size, List.length_map, Nat.reduceAdd, List.drop_zero, List.drop_succ_cons, List.map_cons, List.map_nil, Bool.not_true, Bool.not_false]); refine s1_next ?_) | (refine x1_move_c rfl rfl ?_) | (refine x1_assign_c rfl rfl ?_) | (refine x1_fld_o rfl (by assumption) rfl rfl (by decide) rfl ?_) | (refine x1_load_o rfl (by assumption) rfl rfl rfl rfl rfl ?_) | (refine x1_load_og rfl (by assumption) rfl rfl rfl rfl rfl ?_) | (refine x1_add rfl rfl rfl (by omega) (by omega) ?_) | (refine x1_pred rfl rfl rfl (by omega) ?_) | (refine x1_sub rfl rfl rfl (by omega) (by omega) ?_) | (refine x1_mul rfl rfl rfl (by omega) (by omega) ?_) | (refine x1_eqS rfl rfl rfl ?_) | (refine x1_neS rfl rfl rfl ?_) | (refine x1_bin rfl rfl rfl rfl ?_) | (refine x1_store rfl rfl (by assumption) rfl rfl rfl rfl rfl rfl ?_) | (refine x1_storeg rfl rfl (by assumption) rfl rfl rfl rfl rfl rfl ?_) | (refine x1_pick_t rfl rfl rfl ?_) | (refine x1_pick_f rfl rfl rfl ?_) | (refine x1_not rfl rfl ?_) | (refine x1_len rfl (by assumption) rfl rfl ?_) | (refine x1_ext_c rfl rfl rfl ?_) | (refine x1_ext_g rfl rfl rfl ?_) | (refine x1_move_g rfl rfl ?_) | (refine x1_move_u rfl rfl ?_) | (refine x1_assign_g rfl rfl ?_) | (refine x1_fld_i rfl (by assumption) rfl rfl (by decide) rfl ?_) | (refine x1_load_i rfl (by assumption) rfl rfl rfl ?_) | (refine x1_load_ig rfl (by assumption) rfl rfl rfl ?_) | (refine x1_call rfl rfl (SplitR_at (c := 32) hw (by omega)) rfl (by repeat' constructor) ?_) | (refine r1_nil ?_; clear hO; refine hK _ ?_; clear hK K) | (refine r1_nil ⟨(by rw [hO]; kernel_rfl), ?_⟩; clear hO; refine hK _ ?_; clear hK K) | (refine w1_seq fun K hK => ?_) | (refine w1_region rfl (by kernel_rfl) fun OPS hO => ?_) | (refine w1_draw (by kernel_rfl) rfl (by kernel_rfl) fun OPS hO => ?_) | (refine w1_ret ?_) | (refine w1_skip ?_; refine hK _ ?_; clear hK K) | (refine w1_cond _ rfl (fun hb => ?_) (fun hb => ?_) <;> (first | (cases hb; done) | ((try simp only [Bool.not_true, Bool.not_false] at hb); (try simp only [hb]); first | (have hp := of_decide_eq_true hb; (try (exfalso; omega; done))) | (have hp := of_decide_eq_false hb; (try (exfalso; omega; done))) | skip))) | (refine w1_block ?_) | (refine w1_exit ?_; simp only [thenA, blockA, eq_self, reduceIte, if_true]; first | (refine hK _ ?_; clear hK K) | (clear hK K; refine hK _ ?_; clear hK K) | (clear hK K; clear hK K; refine hK _ ?_; clear hK K) | (clear hK K; clear hK K; clear hK K; refine hK _ ?_; clear hK K)) | (refine r1_nil ?_; clear hO) | (refine X1.mk ?_; simp only [Ex, ExC, St.ev, St.put, St.new, St.upd, St.app, St.hp, killH, AT.ofValue, isOne, loadA, fieldA, partA, indexA, elemOf?, addOff, cut, cellsA, storeA, appA, rowsA, lenA, lenOk, binA, fillA, placeS, partsA, zeroL, splice, chunk, blkOf, tf9, tf45, tf3, tf77, tf23, tf39, tf37, tf64, List.getD_cons_succ, List.getD_cons_zero, List.getElem?_cons_succ, List.getElem?_cons_zero, List.set_cons_succ, List.set_cons_zero, List.length_cons, List.length_nil, List.map_cons, List.map_nil, List.append_nil, List.nil_append, List.cons_append, List.drop_zero, List.drop_succ_cons, List.take_succ_cons, List.take_zero, List.replicate_succ, List.replicate_zero, List.flatten_cons, List.flatten_nil, List.foldl_cons, List.foldl_nil, List.cons.injEq, ba_size, List.all_cons, List.all_nil, List.length_map, List.length_append, List.getElem?_map, Option.some.injEq, Option.map_some, Option.map_none, Option.join_some, Option.join_none, Option.isSome_some, Bool.and_self, AT.c.injEq, AT.u.injEq, AT.g.injEq, AV.im.injEq, IV.v.injEq, Value.bool.injEq, Value.int.injEq, TK.sl.injEq, Prod.mk.injEq, exists_eq_left', exists_eq_left, exists_eq', exists_and_left, and_assoc, ite_true, if_true, ite_false, if_false, Bool.false_eq_true, true_and, and_true, eq_self, reduceIte, Bool.and_true, Bool.true_and, Bool.not_true, Bool.not_false, Int.natCast_nonneg, Int.toNat_natCast, Int.reduceToNat, Int.reduceLE, Int.reduceLT, Nat.reduceAdd, Nat.reduceMul, Nat.reduceLT, Nat.reduceLeDiff, Nat.reduceEqDiff, Nat.lt_irrefl, Nat.le_refl, Nat.zero_le, Nat.zero_add, Nat.add_zero, Nat.zero_mul, Nat.succ_ne_zero]; refine s1_next ?_))
  refine w1_loop (α := {k : Nat // k ≤ wt.length ∧ k ≤ 3 ∧ ∀ j v, j < k → wt[j]? = some v → 0 ≤ numN v}) (fun x => lyF 0 [some ⟨39, 4, [], false⟩, none] s w0 wt x.1) (fun x => wt.length - x.1) ⟨0, by omega, by omega, fun j v h => by omega⟩ ?_ ?_
  · refine sub_in hm [some 0, some 1, some 2] rfl (by decide) h0 ?_ ?_
    · simp [lyF, tmpsOf, subTs, subT, subA, renL]
    · simp [lyF, subH, subR, subAs, subA, renL, St.hp, numK_zero]
  rintro ⟨k, hk, hk3, hok⟩
  simp only [lyF, tmpsOf, List.foldl_cons, List.foldl_nil, List.replicate_succ, List.replicate_zero, List.set_cons_succ, List.set_cons_zero, List.cons_append, List.nil_append]
  by_cases hlt : k < wt.length
  · obtain ⟨v, hv⟩ : ∃ v, wt[k]? = some v := ⟨_, List.getElem?_eq_getElem hlt⟩
    have hvl := hwv v (List.mem_of_getElem? hv)
    have hN := NumberR_a v (by omega)
    have hix : ((w0 :: wt).map strI)[((k + 1 : Nat) : Int).toNat]? = some (strI v) := by rw [Int.toNat_natCast, List.map_cons, List.getElem?_cons_succ, List.getElem?_map, hv]; rfl
    have okS : 0 ≤ numN v → ∀ j v', j < k + 1 → wt[j]? = some v' → 0 ≤ numN v' := fun h j v' hj hv' => by
      rcases Nat.lt_or_ge j k with h1 | h1
      · exact hok j v' h1 hv'
      · obtain rfl : j = k := by omega
        rw [hv] at hv'
        injection hv' with e
        rwa [← e]
    have hcase : k = 0 ∨ k = 1 ∨ k = 2 ∨ k = 3 := by omega
    rcases hcase with rfl | rfl | rfl | rfl
    all_goals
      have q0 := tf9; have q1 := tf45; have q2 := tf3; have q3 := tf77; have q4 := tf23; have q5 := tf39; have q6 := tf37; have q7 := tf64
      repeat' (first | (refine r1_step rfl ?_) | (refine r1_guard hO rfl rfl (fun hb => ?_) (fun hb => ?_) <;> (first | (cases hb; done) | ((try simp only [Bool.not_true, Bool.not_false] at hb); (try simp only [hb]); first | (have hp := of_decide_eq_true hb; (try (exfalso; omega; done))) | (have hp := of_decide_eq_false hb; (try (exfalso; omega; done))) | skip))) | (refine r1_skip hO rfl rfl ?_) | ((try simp only [St.put, St.upd, St.new, St.app, killH, List.foldl_cons, List.foldl_nil, List.length_cons, List.length_nil, List.length_append, List.cons_append, List.nil_append, List.set_cons_succ, List.set_cons_zero, cast_succ, noFp, ba_size, List.length_map, Nat.reduceAdd, List.drop_zero, List.drop_succ_cons, List.map_cons, List.map_nil, Bool.not_true, Bool.not_false]); refine s1_next ?_) | (refine x1_move_c rfl rfl ?_) | (refine x1_assign_c rfl rfl ?_) | (refine x1_fld_o rfl (by assumption) rfl rfl (by decide) rfl ?_) | (refine x1_load_o rfl (by assumption) rfl rfl rfl rfl rfl ?_) | (refine x1_load_og rfl (by assumption) rfl rfl rfl rfl rfl ?_) | (refine x1_add rfl rfl rfl (by omega) (by omega) ?_) | (refine x1_pred rfl rfl rfl (by omega) ?_) | (refine x1_sub rfl rfl rfl (by omega) (by omega) ?_) | (refine x1_mul rfl rfl rfl (by omega) (by omega) ?_) | (refine x1_eqS rfl rfl rfl ?_) | (refine x1_neS rfl rfl rfl ?_) | (refine x1_bin rfl rfl rfl rfl ?_) | (refine x1_store rfl rfl (by assumption) rfl rfl rfl rfl rfl rfl ?_) | (refine x1_storeg rfl rfl (by assumption) rfl rfl rfl rfl rfl rfl ?_) | (refine x1_pick_t rfl rfl rfl ?_) | (refine x1_pick_f rfl rfl rfl ?_) | (refine x1_not rfl rfl ?_) | (refine x1_len rfl (by assumption) rfl rfl ?_) | (refine x1_ext_c rfl rfl rfl ?_) | (refine x1_ext_g rfl rfl rfl ?_) | (refine x1_move_g rfl rfl ?_) | (refine x1_move_u rfl rfl ?_) | (refine x1_assign_g rfl rfl ?_) | (refine x1_fld_i rfl (by assumption) rfl rfl (by decide) rfl ?_) | (refine x1_load_i rfl (by assumption) rfl rfl rfl ?_) | (refine x1_load_ig rfl (by assumption) rfl rfl rfl ?_) | (refine x1_ix_i rfl tf45 rfl tf9 rfl rfl rfl (by omega) hix ?_) | (refine x1_call rfl rfl hN rfl (by repeat' constructor) ?_) | (refine x1_ix_on rfl tf77 rfl tf3 rfl rfl rfl rfl (by omega) ?_) | (refine r1_nil ?_; clear hO; refine hK _ ?_; clear hK K) | (refine r1_nil ⟨(by rw [hO]; kernel_rfl), ?_⟩; clear hO; refine hK _ ?_; clear hK K) | (refine w1_seq fun K hK => ?_) | (refine w1_region rfl (by kernel_rfl) fun OPS hO => ?_) | (refine w1_draw (by kernel_rfl) rfl (by kernel_rfl) fun OPS hO => ?_) | (refine w1_ret ?_) | (refine w1_skip ?_; refine hK _ ?_; clear hK K) | (refine w1_cond _ rfl (fun hb => ?_) (fun hb => ?_) <;> (first | (cases hb; done) | ((try simp only [Bool.not_true, Bool.not_false] at hb); (try simp only [hb]); first | (have hp := of_decide_eq_true hb; (try (exfalso; omega; done))) | (have hp := of_decide_eq_false hb; (try (exfalso; omega; done))) | skip))) | (refine w1_block ?_) | (refine w1_exit ?_; simp only [thenA, blockA, eq_self, reduceIte, if_true]; first | (refine hK _ ?_; clear hK K) | (clear hK K; refine hK _ ?_; clear hK K) | (clear hK K; clear hK K; refine hK _ ?_; clear hK K) | (clear hK K; clear hK K; clear hK K; refine hK _ ?_; clear hK K)) | (refine r1_nil ?_; clear hO) | (refine X1.mk ?_; simp only [Ex, ExC, St.ev, St.put, St.new, St.upd, St.app, St.hp, killH, AT.ofValue, isOne, loadA, fieldA, partA, indexA, elemOf?, addOff, cut, cellsA, storeA, appA, rowsA, lenA, lenOk, binA, fillA, placeS, partsA, zeroL, splice, chunk, blkOf, tf9, tf45, tf3, tf77, tf23, tf39, tf37, tf64, List.getD_cons_succ, List.getD_cons_zero, List.getElem?_cons_succ, List.getElem?_cons_zero, List.set_cons_succ, List.set_cons_zero, List.length_cons, List.length_nil, List.map_cons, List.map_nil, List.append_nil, List.nil_append, List.cons_append, List.drop_zero, List.drop_succ_cons, List.take_succ_cons, List.take_zero, List.replicate_succ, List.replicate_zero, List.flatten_cons, List.flatten_nil, List.foldl_cons, List.foldl_nil, List.cons.injEq, ba_size, List.all_cons, List.all_nil, List.length_map, List.length_append, List.getElem?_map, Option.some.injEq, Option.map_some, Option.map_none, Option.join_some, Option.join_none, Option.isSome_some, Bool.and_self, AT.c.injEq, AT.u.injEq, AT.g.injEq, AV.im.injEq, IV.v.injEq, Value.bool.injEq, Value.int.injEq, TK.sl.injEq, Prod.mk.injEq, exists_eq_left', exists_eq_left, exists_eq', exists_and_left, and_assoc, ite_true, if_true, ite_false, if_false, Bool.false_eq_true, true_and, and_true, eq_self, reduceIte, Bool.and_true, Bool.true_and, Bool.not_true, Bool.not_false, Int.natCast_nonneg, Int.toNat_natCast, Int.reduceToNat, Int.reduceLE, Int.reduceLT, Nat.reduceAdd, Nat.reduceMul, Nat.reduceLT, Nat.reduceLeDiff, Nat.reduceEqDiff, Nat.lt_irrefl, Nat.le_refl, Nat.zero_le, Nat.zero_add, Nat.add_zero, Nat.zero_mul, Nat.succ_ne_zero]; refine s1_next ?_))
    · have hm' : wt.length - (0 + 1) < wt.length - 0 := by omega
      have q0 : numK wt 1 0 = numN v := numK_at hv
      have q1 : numK wt 1 1 = numK wt 0 1 := numK_ne wt 0 1 (by decide)
      have q2 : numK wt 1 2 = numK wt 0 2 := numK_ne wt 0 2 (by decide)
      refine ⟨⟨0 + 1, by omega, by omega, okS (by omega)⟩, hm', sub_in hm [some 0, some 1, some 2] rfl (by decide) h0 ?_ ?_⟩
      · simp [subTs, subT, subA, renL]
      · simp [subH, subR, subAs, subA, renL, St.hp, q0, q1, q2]
    · have hno : layO ([] : Pg) w0 wt = .no := by unfold layO; rw [if_pos (.inr ⟨v, List.mem_of_getElem? hv, by omega⟩)]
      rw [hno]
      refine end_i ⟨tmpsOf 139 [(4, .c (.os 0 0 0)), (5, bT false)], [some ⟨39, 4, [], false⟩, none]⟩ [.c (.os 0 0 0), bT false] (sub_in hm [some 0, some 1] rfl (by decide) h0 ?_ ?_) rfl (by simp [layT, layHH, layH, packA, rowsP, codB]) (by simp [layT, layHH, layH, packA, rowsP, codB])
      · simp [tmpsOf, subTs, subT, subA, renL]
      · simp [subH, subR, subAs, subA, renL, St.hp]
    · have hm' : wt.length - (1 + 1) < wt.length - 1 := by omega
      have q0 : numK wt 2 0 = numK wt 1 0 := numK_ne wt 1 0 (by decide)
      have q1 : numK wt 2 1 = numN v := numK_at hv
      have q2 : numK wt 2 2 = numK wt 1 2 := numK_ne wt 1 2 (by decide)
      refine ⟨⟨1 + 1, by omega, by omega, okS (by omega)⟩, hm', sub_in hm [some 0, some 1, some 2] rfl (by decide) h0 ?_ ?_⟩
      · simp [subTs, subT, subA, renL]
      · simp [subH, subR, subAs, subA, renL, St.hp, q0, q1, q2]
    · have hno : layO ([] : Pg) w0 wt = .no := by unfold layO; rw [if_pos (.inr ⟨v, List.mem_of_getElem? hv, by omega⟩)]
      rw [hno]
      refine end_i ⟨tmpsOf 139 [(4, .c (.os 0 0 0)), (5, bT false)], [some ⟨39, 4, [], false⟩, none]⟩ [.c (.os 0 0 0), bT false] (sub_in hm [some 0, some 1] rfl (by decide) h0 ?_ ?_) rfl (by simp [layT, layHH, layH, packA, rowsP, codB]) (by simp [layT, layHH, layH, packA, rowsP, codB])
      · simp [tmpsOf, subTs, subT, subA, renL]
      · simp [subH, subR, subAs, subA, renL, St.hp]
    · have hm' : wt.length - (2 + 1) < wt.length - 2 := by omega
      have q0 : numK wt 3 0 = numK wt 2 0 := numK_ne wt 2 0 (by decide)
      have q1 : numK wt 3 1 = numK wt 2 1 := numK_ne wt 2 1 (by decide)
      have q2 : numK wt 3 2 = numN v := numK_at hv
      refine ⟨⟨2 + 1, by omega, by omega, okS (by omega)⟩, hm', sub_in hm [some 0, some 1, some 2] rfl (by decide) h0 ?_ ?_⟩
      · simp [subTs, subT, subA, renL]
      · simp [subH, subR, subAs, subA, renL, St.hp, q0, q1, q2]
    · have hno : layO ([] : Pg) w0 wt = .no := by unfold layO; rw [if_pos (.inr ⟨v, List.mem_of_getElem? hv, by omega⟩)]
      rw [hno]
      refine end_i ⟨tmpsOf 139 [(4, .c (.os 0 0 0)), (5, bT false)], [some ⟨39, 4, [], false⟩, none]⟩ [.c (.os 0 0 0), bT false] (sub_in hm [some 0, some 1] rfl (by decide) h0 ?_ ?_) rfl (by simp [layT, layHH, layH, packA, rowsP, codB]) (by simp [layT, layHH, layH, packA, rowsP, codB])
      · simp [tmpsOf, subTs, subT, subA, renL]
      · simp [subH, subR, subAs, subA, renL, St.hp]
    · have hno : layO ([] : Pg) w0 wt = .no := by unfold layO; rw [if_pos (.inl (by omega))]
      rw [hno]
      refine end_i ⟨tmpsOf 139 [(4, .c (.os 0 0 0)), (5, bT false)], [some ⟨39, 4, [], false⟩, none]⟩ [.c (.os 0 0 0), bT false] (sub_in hm [some 0, some 1] rfl (by decide) h0 ?_ ?_) rfl (by simp [layT, layHH, layH, packA, rowsP, codB]) (by simp [layT, layHH, layH, packA, rowsP, codB])
      · simp [tmpsOf, subTs, subT, subA, renL]
      · simp [subH, subR, subAs, subA, renL, St.hp]
    · have hno : layO ([] : Pg) w0 wt = .no := by unfold layO; rw [if_pos (.inr ⟨v, List.mem_of_getElem? hv, by omega⟩)]
      rw [hno]
      refine end_i ⟨tmpsOf 139 [(4, .c (.os 0 0 0)), (5, bT false)], [some ⟨39, 4, [], false⟩, none]⟩ [.c (.os 0 0 0), bT false] (sub_in hm [some 0, some 1] rfl (by decide) h0 ?_ ?_) rfl (by simp [layT, layHH, layH, packA, rowsP, codB]) (by simp [layT, layHH, layH, packA, rowsP, codB])
      · simp [tmpsOf, subTs, subT, subA, renL]
      · simp [subH, subR, subAs, subA, renL, St.hp]
  · obtain rfl : k = wt.length := by omega
    have hex : ¬ (3 < wt.length ∨ ∃ v ∈ wt, numN v < 0) := by
      rintro (h | ⟨v, hv, h⟩)
      · omega
      · obtain ⟨j, hj⟩ := List.getElem?_of_mem hv
        have := hok j v (List.getElem?_eq_some_iff.1 hj).1 hj
        omega
    have hfb : 0 ≤ opFields (findN w0) ∧ opFields (findN w0) ≤ 2 := by rcases fields_len (findN w0) with e | e | e <;> omega
    have hix0 : ((w0 :: wt).map strI)[(0 : Int).toNat]? = some (strI w0) := rfl
    have q0 := tf9; have q1 := tf45; have q2 := tf3; have q3 := tf77; have q4 := tf23; have q5 := tf39; have q6 := tf37; have q7 := tf64
    repeat' (first | (refine r1_step rfl ?_) | (refine r1_guard hO rfl rfl (fun hb => ?_) (fun hb => ?_) <;> (first | (cases hb; done) | ((try simp only [Bool.not_true, Bool.not_false] at hb); (try simp only [hb]); first | (have hp := of_decide_eq_true hb; (try (exfalso; omega; done))) | (have hp := of_decide_eq_false hb; (try (exfalso; omega; done))) | skip))) | (refine r1_skip hO rfl rfl ?_) | ((try simp only [St.put, St.upd, St.new, St.app, killH, List.foldl_cons, List.foldl_nil, List.length_cons, List.length_nil, List.length_append, List.cons_append, List.nil_append, List.set_cons_succ, List.set_cons_zero, cast_succ, noFp, ba_size, List.length_map, Nat.reduceAdd, List.drop_zero, List.drop_succ_cons, List.map_cons, List.map_nil, Bool.not_true, Bool.not_false]); refine s1_next ?_) | (refine x1_move_c rfl rfl ?_) | (refine x1_assign_c rfl rfl ?_) | (refine x1_fld_o rfl (by assumption) rfl rfl (by decide) rfl ?_) | (refine x1_load_o rfl (by assumption) rfl rfl rfl rfl rfl ?_) | (refine x1_load_og rfl (by assumption) rfl rfl rfl rfl rfl ?_) | (refine x1_add rfl rfl rfl (by omega) (by omega) ?_) | (refine x1_pred rfl rfl rfl (by omega) ?_) | (refine x1_sub rfl rfl rfl (by omega) (by omega) ?_) | (refine x1_mul rfl rfl rfl (by omega) (by omega) ?_) | (refine x1_eqS rfl rfl rfl ?_) | (refine x1_neS rfl rfl rfl ?_) | (refine x1_bin rfl rfl rfl rfl ?_) | (refine x1_store rfl rfl (by assumption) rfl rfl rfl rfl rfl rfl ?_) | (refine x1_storeg rfl rfl (by assumption) rfl rfl rfl rfl rfl rfl ?_) | (refine x1_pick_t rfl rfl rfl ?_) | (refine x1_pick_f rfl rfl rfl ?_) | (refine x1_not rfl rfl ?_) | (refine x1_len rfl (by assumption) rfl rfl ?_) | (refine x1_ext_c rfl rfl rfl ?_) | (refine x1_ext_g rfl rfl rfl ?_) | (refine x1_move_g rfl rfl ?_) | (refine x1_move_u rfl rfl ?_) | (refine x1_assign_g rfl rfl ?_) | (refine x1_fld_i rfl (by assumption) rfl rfl (by decide) rfl ?_) | (refine x1_load_i rfl (by assumption) rfl rfl rfl ?_) | (refine x1_load_ig rfl (by assumption) rfl rfl rfl ?_) | (refine x1_ix_i rfl tf45 rfl tf9 rfl rfl rfl (by omega) hix0 ?_) | (refine x1_ix_o rfl tf77 rfl tf3 rfl rfl rfl rfl (by omega) (by omega) ?_) | (refine x1_call rfl rfl (headR_a (layF wt)) rfl (by repeat' constructor) ?_) | (refine x1_call rfl rfl (FindR_a w0) rfl (by repeat' constructor) ?_) | (refine x1_call rfl rfl (mayIR_a (layX w0 wt)) rfl (by repeat' constructor) ?_) | (refine x1_call rfl rfl (fieldsR_a (findN w0)) rfl (by repeat' constructor) ?_) | (refine x1_ix_on rfl tf23 rfl tf39 rfl rfl rfl rfl (by omega) ?_) | (refine x1_load_o rfl tf37 rfl rfl rfl (get_last _ _ _) rfl ?_) | (refine x1_load_og rfl tf39 rfl rfl rfl (get_last _ _ _) rfl ?_) | (refine x1_storeg rfl rfl tf39 rfl rfl (get_last _ _ _) rfl rfl rfl ?_) | (refine x1_app_oo rfl tf23 rfl tf39 (by decide) rfl rfl rfl rfl rfl rfl rfl rfl (by simp) rfl (by simp <;> omega) (by simp <;> omega) ?_) | (refine x1_app_oo rfl tf37 rfl tf64 (by decide) rfl rfl rfl rfl rfl rfl rfl rfl (by simp) rfl (by simp <;> omega) (by simp <;> omega) ?_) | (refine r1_nil ?_; clear hO; refine hK _ ?_; clear hK K) | (refine r1_nil ⟨(by rw [hO]; kernel_rfl), ?_⟩; clear hO; refine hK _ ?_; clear hK K) | (refine w1_seq fun K hK => ?_) | (refine w1_region rfl (by kernel_rfl) fun OPS hO => ?_) | (refine w1_draw (by kernel_rfl) rfl (by kernel_rfl) fun OPS hO => ?_) | (refine w1_ret ?_) | (refine w1_skip ?_; refine hK _ ?_; clear hK K) | (refine w1_cond _ rfl (fun hb => ?_) (fun hb => ?_) <;> (first | (cases hb; done) | ((try simp only [Bool.not_true, Bool.not_false] at hb); (try simp only [hb]); first | (have hp := of_decide_eq_true hb; (try (exfalso; omega; done))) | (have hp := of_decide_eq_false hb; (try (exfalso; omega; done))) | skip))) | (refine w1_block ?_) | (refine w1_exit ?_; simp only [thenA, blockA, eq_self, reduceIte, if_true]; first | (refine hK _ ?_; clear hK K) | (clear hK K; refine hK _ ?_; clear hK K) | (clear hK K; clear hK K; refine hK _ ?_; clear hK K) | (clear hK K; clear hK K; clear hK K; refine hK _ ?_; clear hK K)) | (refine r1_nil ?_; clear hO) | (refine X1.mk ?_; simp only [Ex, ExC, St.ev, St.put, St.new, St.upd, St.app, St.hp, killH, AT.ofValue, isOne, loadA, fieldA, partA, indexA, elemOf?, addOff, cut, cellsA, storeA, appA, rowsA, lenA, lenOk, binA, fillA, placeS, partsA, zeroL, splice, chunk, blkOf, tf9, tf45, tf3, tf77, tf23, tf39, tf37, tf64, List.getD_cons_succ, List.getD_cons_zero, List.getElem?_cons_succ, List.getElem?_cons_zero, List.set_cons_succ, List.set_cons_zero, List.length_cons, List.length_nil, List.map_cons, List.map_nil, List.append_nil, List.nil_append, List.cons_append, List.drop_zero, List.drop_succ_cons, List.take_succ_cons, List.take_zero, List.replicate_succ, List.replicate_zero, List.flatten_cons, List.flatten_nil, List.foldl_cons, List.foldl_nil, List.cons.injEq, ba_size, List.all_cons, List.all_nil, List.length_map, List.length_append, List.getElem?_map, Option.some.injEq, Option.map_some, Option.map_none, Option.join_some, Option.join_none, Option.isSome_some, Bool.and_self, AT.c.injEq, AT.u.injEq, AT.g.injEq, AV.im.injEq, IV.v.injEq, Value.bool.injEq, Value.int.injEq, TK.sl.injEq, Prod.mk.injEq, exists_eq_left', exists_eq_left, exists_eq', exists_and_left, and_assoc, ite_true, if_true, ite_false, if_false, Bool.false_eq_true, true_and, and_true, eq_self, reduceIte, Bool.and_true, Bool.true_and, Bool.not_true, Bool.not_false, Int.natCast_nonneg, Int.toNat_natCast, Int.reduceToNat, Int.reduceLE, Int.reduceLT, Nat.reduceAdd, Nat.reduceMul, Nat.reduceLT, Nat.reduceLeDiff, Nat.reduceEqDiff, Nat.lt_irrefl, Nat.le_refl, Nat.zero_le, Nat.zero_add, Nat.add_zero, Nat.zero_mul, Nat.succ_ne_zero]; refine s1_next ?_))
    · have hfn : layO ([] : Pg) w0 wt = .fn (layF wt) := by
        unfold layO
        rw [if_neg hex, if_pos (show w0 = funcB by assumption), if_neg]
        rintro (h | h | h | h)
        · omega
        · have hh : (!headB (layF wt)) = false := by assumption
          rw [h] at hh; cases hh
        · exact h.1 rfl
        · simp at h
      rw [hfn]
      refine end_i ⟨tmpsOf 139 [(4, .c (.os 2 0 1)), (5, bT true)], [none, none, some ⟨39, 4, [headR (layF wt) nilA], false⟩]⟩ [.c (.os 2 0 1), bT true] (sub_in hm [some 0, some 1, some 5] rfl (by decide) h0 ?_ ?_) rfl (by simp [layT, layHH, layH, packA, rowsP, codB]) (by simp [layT, layHH, layH, packA, rowsP, codB])
      · simp [tmpsOf, subTs, subT, subA, renL]
      · simp [subH, subR, subAs, subA, renL, St.hp, layF]
    · have hh : (!headB (layF wt)) = true := by assumption
      have hno : layO ([] : Pg) w0 wt = .no := by unfold layO; rw [if_neg hex, if_pos (show w0 = funcB by assumption), if_pos (.inr (.inl (by simpa using hh)))]
      rw [hno]
      refine end_i ⟨tmpsOf 139 [(4, .c (.os 0 0 0)), (5, bT false)], [some ⟨39, 4, [], false⟩, none]⟩ [.c (.os 0 0 0), bT false] (sub_in hm [some 0, some 1] rfl (by decide) h0 ?_ ?_) rfl (by simp [layT, layHH, layH, packA, rowsP, codB]) (by simp [layT, layHH, layH, packA, rowsP, codB])
      · simp [tmpsOf, subTs, subT, subA, renL]
      · simp [subH, subR, subAs, subA, renL, St.hp]
    · have hno : layO ([] : Pg) w0 wt = .no := by unfold layO; rw [if_neg hex, if_pos (show w0 = funcB by assumption), if_pos (.inl (by omega))]
      rw [hno]
      refine end_i ⟨tmpsOf 139 [(4, .c (.os 0 0 0)), (5, bT false)], [some ⟨39, 4, [], false⟩, none]⟩ [.c (.os 0 0 0), bT false] (sub_in hm [some 0, some 1] rfl (by decide) h0 ?_ ?_) rfl (by simp [layT, layHH, layH, packA, rowsP, codB]) (by simp [layT, layHH, layH, packA, rowsP, codB])
      · simp [tmpsOf, subTs, subT, subA, renL]
      · simp [subH, subR, subAs, subA, renL, St.hp]
    · have hno : layO ([] : Pg) w0 wt = .no := by unfold layO; rw [if_neg hex, if_neg (show ¬ w0 = funcB by assumption), if_pos (.inr (.inr (.inl rfl)))]
      rw [hno]
      refine end_i ⟨tmpsOf 139 [(4, .c (.os 0 0 0)), (5, bT false)], [some ⟨39, 4, [], false⟩, none]⟩ [.c (.os 0 0 0), bT false] (sub_in hm [some 0, some 1] rfl (by decide) h0 ?_ ?_) rfl (by simp [layT, layHH, layH, packA, rowsP, codB]) (by simp [layT, layHH, layH, packA, rowsP, codB])
      · simp [tmpsOf, subTs, subT, subA, renL]
      · simp [subH, subR, subAs, subA, renL, St.hp]
    · have hno : layO ([] : Pg) w0 wt = .no := by unfold layO; rw [if_neg hex, if_neg (show ¬ w0 = funcB by assumption), if_pos (.inr (.inr (.inl rfl)))]
      rw [hno]
      refine end_i ⟨tmpsOf 139 [(4, .c (.os 0 0 0)), (5, bT false)], [some ⟨39, 4, [], false⟩, none]⟩ [.c (.os 0 0 0), bT false] (sub_in hm [some 0, some 1] rfl (by decide) h0 ?_ ?_) rfl (by simp [layT, layHH, layH, packA, rowsP, codB]) (by simp [layT, layHH, layH, packA, rowsP, codB])
      · simp [tmpsOf, subTs, subT, subA, renL]
      · simp [subH, subR, subAs, subA, renL, St.hp]
    · have hno : layO ([] : Pg) w0 wt = .no := by unfold layO; rw [if_neg hex, if_neg (show ¬ w0 = funcB by assumption), if_pos (.inr (.inr (.inl rfl)))]
      rw [hno]
      refine end_i ⟨tmpsOf 139 [(4, .c (.os 0 0 0)), (5, bT false)], [some ⟨39, 4, [], false⟩, none]⟩ [.c (.os 0 0 0), bT false] (sub_in hm [some 0, some 1] rfl (by decide) h0 ?_ ?_) rfl (by simp [layT, layHH, layH, packA, rowsP, codB]) (by simp [layT, layHH, layH, packA, rowsP, codB])
      · simp [tmpsOf, subTs, subT, subA, renL]
      · simp [subH, subR, subAs, subA, renL, St.hp]
end Go.Proofs.YtedkfipjooafeaaGreatDoor.Ab
set_option linter.unusedSimpArgs false
set_option linter.unusedVariables false
namespace Go.Proofs.YtedkfipjooafeaaGreatDoor.Ab
open Go Go.RowKit Go.Proofs.YtedkfipjooafeaaGreatDoor Go.Proofs.YtedkfipjooafeaaGreatDoor.Code Go.Proofs.YtedkfipjooafeaaGreatDoor.Op

theorem nil_or_last (p : Pg) : p = [] ∨ ∃ ps f, p = ps ++ [f] := by
  rcases List.eq_nil_or_concat p with h | ⟨ps, f, h⟩
  · exact .inl h
  · exact .inr ⟨ps, f, by rw [h, List.concat_eq_append]⟩
theorem belowR_app {n : Nat} : ∀ {a b : List (List AV)}, belowR n a → belowR n b → belowR n (a ++ b)
  | [], _, _, h => h
  | x :: l, b, h, h2 => by
    unfold belowR at h
    rw [List.cons_append]
    unfold belowR
    exact ⟨h.1, belowR_app h.2 h2⟩
theorem belowAs_im {n : Nat} : ∀ (l : List AV), (∀ x ∈ l, ∃ z, x = .im z) → belowAs n l
  | [], _ => by unfold belowAs; trivial
  | x :: l, h => by
    obtain ⟨z, rfl⟩ := h x (by simp)
    unfold belowAs
    exact ⟨by unfold belowA; trivial, belowAs_im l fun y hy => h y (by simp [hy])⟩
theorem belowR_map {n : Nat} {α : Type} (g : α → List AV) (hg : ∀ y, ∀ x ∈ g y, ∃ z, x = .im z) : ∀ (l : List α), belowR n (l.map g)
  | [] => by simp [belowR]
  | y :: l => by
    rw [List.map_cons]
    unfold belowR
    exact ⟨belowAs_im _ (hg y), belowR_map g hg l⟩
theorem mayPR_a (p : Pg) (hb : BD p) : ACalls Tryz.prog 16 [.c (.im (progI p))] (bT (mayP p)) :=
  acalls_prog (p := p) (r := .bool (mayP p)) (by kernel_rfl) fun v w h => MayP_calls p v w h (by have := hb.1; omega) (fun f hf => by have := hb.2 f hf; omega)
theorem layO_len {p : Pg} {w0 : B} {wt : List B} : (∀ f, layO p w0 wt = .fn f → f = layF wt ∧ p.length < 16) ∧ ∀ x, layO p w0 wt = .ins x → p ≠ [] ∧ lastN p ≠ 200 := by
  unfold layO
  constructor
  · intro f h
    split at h
    · cases h
    · split at h
      · split at h
        · cases h
        · rename_i hn
          injection h with h
          exact ⟨h.symm, Nat.lt_of_not_le fun h => hn (.inr (.inr (.inr h)))⟩
      · split at h <;> cases h
  · intro x h
    split at h
    · cases h
    · split at h
      · split at h <;> cases h
      · split at h
        · cases h
        · rename_i hn
          exact ⟨fun h => hn (.inr (.inr (.inl h))), fun h => hn (.inr (.inr (.inr h)))⟩
structure Reading (ls : List B) (p : Pg) (i : Nat) : Prop where
  top : i + 1 ≤ ls.length
  bd : BD p
  on : runL ls [] 0 = runL (ls.drop i) p i
theorem Reading.none {ls : List B} {p : Pg} {i : Nat} {a : B} (h : Reading ls p i) (ha : ls[i]? = some a) (hi : i + 1 < ls.length) (hn : ∀ q, ¬ Code.Step p a q) : runL ls [] 0 = (none, i) := by
  have hl := (List.getElem?_eq_some_iff.1 ha).1
  rw [h.on, List.drop_eq_getElem_cons hl, (List.getElem?_eq_some_iff.1 ha).2]
  exact runL_none (by intro h; have := congrArg List.length h; simp at this; omega) hn
theorem Reading.next {ls : List B} {p q : Pg} {i : Nat} {a : B} (h : Reading ls p i) (ha : ls[i]? = some a) (hi : i + 1 < ls.length) (hs : Code.Step p a q) : Reading ls q (i + 1) := by
  have hl := (List.getElem?_eq_some_iff.1 ha).1
  refine ⟨by omega, h.bd.step hs, ?_⟩
  rw [h.on, List.drop_eq_getElem_cons hl, (List.getElem?_eq_some_iff.1 ha).2]
  exact runL_some1 (by intro h; have := congrArg List.length h; simp at this; omega) hs
theorem Reading.last {ls : List B} {p : Pg} {i : Nat} {a : B} (h : Reading ls p i) (ha : ls[i]? = some a) (hi : i + 1 = ls.length) : runL ls [] 0 = if a = [] ∧ mayP p = true then (some p, i) else (Option.none, i) := by
  have hl := (List.getElem?_eq_some_iff.1 ha).1
  rw [h.on, List.drop_eq_getElem_cons hl, (List.getElem?_eq_some_iff.1 ha).2, List.drop_eq_nil_of_le (by omega)]
  rfl
theorem lines_len {s : B} : ∀ a ∈ splitL 10 s, a.length ≤ s.length := by
  induction hn : s.length using Nat.strongRecOn generalizing s with
  | _ n ih =>
  rcases cut_cases 10 s with h | ⟨a, b, rfl, ha⟩
  · rw [splitL_one 10 s h]
    intro a ha
    rw [List.mem_singleton] at ha
    subst ha; omega
  · rw [splitL_cut 10 a b ha]
    intro x hx
    rw [List.mem_cons] at hx
    rw [← hn, List.length_append, List.length_cons]
    rcases hx with rfl | hx
    · omega
    · have := ih b.length (by rw [← hn]; simp; omega) rfl x hx
      omega
def parF (s : B) (ls : List B) (p : Pg) (i : Nat) : St :=
  ⟨tmpsOf 52 [(0, .c (sA s)), (5, .c (strsA ls)), (6, .c (.os 0 0 p.length)), (7, iT i)], layH p⟩
theorem layH_nil : layH [] = [some ⟨39, 4, [], false⟩, none] := rfl
theorem layH_last (ps : Pg) (f : Code.Fn) : layH (ps ++ [f]) = [some ⟨39, 4, ps.map fnR ++ [headR f (.os 1 0 f.code.length)], false⟩, some ⟨64, 3, f.code.map insR, false⟩] := by unfold layH; rw [rowsP_last, codB_last]
def parZ (s : B) (ls : List B) (p : Pg) (i : Nat) : St :=
  ⟨tmpsOf 52 [(0, .c (sA s)), (5, .c (strsA ls)), (6, .c (.im (progI p))), (7, iT i)], []⟩
theorem par_frz {E : Env} (hE : Base E) {s : B} {ls : List B} {p : Pg} {i : Nat} : Sub E (parF s ls p i) (parZ s ls p i) := by
  intro A W hG
  rcases nil_or_last p with rfl | ⟨ps, f0, rfl⟩
  · have hG1 := sub_freeze hE (b := 0) (rows := []) rfl (by simp [rowsP]) A W hG
    revert hG1
    refine sub_base hE [] rfl (by decide) ?_ ?_ A W
    · simp [parF, parZ, tmpsOf, subTs, subT, subA, renL, St.frz, frT, frA, progI]
    · simp [parZ, subH]
  · unfold parF at hG
    rw [layH_last] at hG
    have hG1 := sub_freeze hE (b := 1) (rows := f0.code.map insI) rfl (by simp [insI]) A W hG
    have hG2 := sub_freeze hE (b := 0) (rows := (ps ++ [f0]).map fnI) rfl (by simp [St.frz, frH, frB, frA, fnI, codeI]; exact List.take_of_length_le (by simp)) A W hG1
    revert hG2
    refine sub_base hE [] rfl (by decide) ?_ ?_ A W
    · simp [parZ, tmpsOf, subTs, subT, subA, renL, St.frz, frT, frA, progI]
      exact ⟨rfl, List.take_of_length_le (by simp)⟩
    · simp [parZ, subH]
set_option maxRecDepth 20000 in
set_option maxHeartbeats 16000000 in
theorem ParseR_a (s : B) (hs : s.length ≤ 4294967280) :
    ACalls Tryz.prog 12 [.c (sA s)] (.u [.c (.im (progI (parS s).1)), iT (parS s).2.1, iT (parS s).2.2]) := by
  obtain ⟨ls, hls⟩ : ∃ ls, splitL 10 s = ls := ⟨_, rfl⟩
  have hll : ls.length ≤ s.length + 1 := by rw [← hls]; exact split_len 10 s
  have hl0 : 1 ≤ ls.length := by rw [← hls]; exact List.length_pos_iff.2 (splitL_ne 10 s)
  have hlv : ∀ a ∈ ls, a.length ≤ s.length := by rw [← hls]; exact lines_len
  have hP : parseP s = runL ls [] 0 := by unfold parseP; rw [hls]
  refine acalls_w Tryz.func12 rfl (by decide) (fun E hE => ?_)
  simp only [Tryz.ntmps12, List.length_cons, List.length_nil, Nat.reduceAdd, Nat.reduceSub, List.replicate_succ, List.replicate_zero, List.cons_append, List.nil_append]
  have q0 := tf9; have q1 := tf45; have q2 := tf3; have q3 := tf23; have q4 := tf39; have q5 := tf37; have q6 := tf64; have q7 := tf5
  repeat' (first | (refine r1_step rfl ?_) | (refine r1_guard hO rfl rfl (fun hb => ?_) (fun hb => ?_) <;> (first | (cases hb; done) | ((try simp only [Bool.not_true, Bool.not_false] at hb); (try simp only [hb]); first | (have hp := of_decide_eq_true hb; (try (exfalso; omega; done))) | (have hp := of_decide_eq_false hb; (try (exfalso; omega; done))) | skip))) | (refine r1_skip hO rfl rfl ?_) | ((try simp only [St.put, St.upd, St.new, St.app, killH, List.foldl_cons, List.foldl_nil, List.length_cons, List.length_nil, List.length_append, List.cons_append, List.nil_append, List.set_cons_succ, List.set_cons_zero, cast_succ, noFp, ba_size, List.length_map, Nat.reduceAdd, List.drop_zero, List.drop_succ_cons, List.map_cons, List.map_nil, Bool.not_true, Bool.not_false]); refine s1_next ?_) | (refine x1_move_c rfl rfl ?_) | (refine x1_assign_c rfl rfl ?_) | (refine x1_fld_o rfl (by assumption) rfl rfl (by decide) rfl ?_) | (refine x1_load_o rfl (by assumption) rfl rfl rfl rfl rfl ?_) | (refine x1_load_og rfl (by assumption) rfl rfl rfl rfl rfl ?_) | (refine x1_add rfl rfl rfl (by omega) (by omega) ?_) | (refine x1_pred rfl rfl rfl (by omega) ?_) | (refine x1_sub rfl rfl rfl (by omega) (by omega) ?_) | (refine x1_mul rfl rfl rfl (by omega) (by omega) ?_) | (refine x1_eqS rfl rfl rfl ?_) | (refine x1_neS rfl rfl rfl ?_) | (refine x1_bin rfl rfl rfl rfl ?_) | (refine x1_store rfl rfl (by assumption) rfl rfl rfl rfl rfl rfl ?_) | (refine x1_storeg rfl rfl (by assumption) rfl rfl rfl rfl rfl rfl ?_) | (refine x1_pick_t rfl rfl rfl ?_) | (refine x1_pick_f rfl rfl rfl ?_) | (refine x1_not rfl rfl ?_) | (refine x1_len rfl (by assumption) rfl rfl ?_) | (refine x1_ext_c rfl rfl rfl ?_) | (refine x1_ext_g rfl rfl rfl ?_) | (refine x1_move_g rfl rfl ?_) | (refine x1_move_u rfl rfl ?_) | (refine x1_assign_g rfl rfl ?_) | (refine x1_fld_i rfl (by assumption) rfl rfl (by decide) rfl ?_) | (refine x1_load_i rfl (by assumption) rfl rfl rfl ?_) | (refine x1_load_ig rfl (by assumption) rfl rfl rfl ?_) | (refine x1_call rfl rfl (SplitR_at (c := 10) hls (by omega)) rfl (by repeat' constructor) ?_) | (refine r1_nil ?_; clear hO; refine hK _ ?_; clear hK K) | (refine r1_nil ⟨(by rw [hO]; kernel_rfl), ?_⟩; clear hO; refine hK _ ?_; clear hK K) | (refine w1_seq fun K hK => ?_) | (refine w1_region rfl (by kernel_rfl) fun OPS hO => ?_) | (refine w1_draw (by kernel_rfl) rfl (by kernel_rfl) fun OPS hO => ?_) | (refine w1_ret ?_) | (refine w1_skip ?_; refine hK _ ?_; clear hK K) | (refine w1_cond _ rfl (fun hb => ?_) (fun hb => ?_) <;> (first | (cases hb; done) | ((try simp only [Bool.not_true, Bool.not_false] at hb); (try simp only [hb]); first | (have hp := of_decide_eq_true hb; (try (exfalso; omega; done))) | (have hp := of_decide_eq_false hb; (try (exfalso; omega; done))) | skip))) | (refine w1_block ?_) | (refine w1_exit ?_; simp only [thenA, blockA, eq_self, reduceIte, if_true]; first | (refine hK _ ?_; clear hK K) | (clear hK K; refine hK _ ?_; clear hK K) | (clear hK K; clear hK K; refine hK _ ?_; clear hK K) | (clear hK K; clear hK K; clear hK K; refine hK _ ?_; clear hK K)) | (refine r1_nil ?_; clear hO) | (refine X1.mk ?_; simp only [Ex, ExC, St.ev, St.put, St.new, St.upd, St.app, St.hp, killH, AT.ofValue, isOne, loadA, fieldA, partA, indexA, elemOf?, addOff, cut, cellsA, storeA, appA, rowsA, lenA, lenOk, binA, fillA, placeS, partsA, zeroL, splice, chunk, blkOf, tf9, tf45, tf3, tf23, tf39, tf37, tf64, tf5, List.getD_cons_succ, List.getD_cons_zero, List.getElem?_cons_succ, List.getElem?_cons_zero, List.set_cons_succ, List.set_cons_zero, List.length_cons, List.length_nil, List.map_cons, List.map_nil, List.append_nil, List.nil_append, List.cons_append, List.drop_zero, List.drop_succ_cons, List.take_succ_cons, List.take_zero, List.replicate_succ, List.replicate_zero, List.flatten_cons, List.flatten_nil, List.foldl_cons, List.foldl_nil, List.cons.injEq, ba_size, List.all_cons, List.all_nil, List.length_map, List.length_append, List.getElem?_map, Option.some.injEq, Option.map_some, Option.map_none, Option.join_some, Option.join_none, Option.isSome_some, Bool.and_self, AT.c.injEq, AT.u.injEq, AT.g.injEq, AV.im.injEq, IV.v.injEq, Value.bool.injEq, Value.int.injEq, TK.sl.injEq, Prod.mk.injEq, exists_eq_left', exists_eq_left, exists_eq', exists_and_left, and_assoc, ite_true, if_true, ite_false, if_false, Bool.false_eq_true, true_and, and_true, eq_self, reduceIte, Bool.and_true, Bool.true_and, Bool.not_true, Bool.not_false, Int.natCast_nonneg, Int.toNat_natCast, Int.reduceToNat, Int.reduceLE, Int.reduceLT, Nat.reduceAdd, Nat.reduceMul, Nat.reduceLT, Nat.reduceLeDiff, Nat.reduceEqDiff, Nat.lt_irrefl, Nat.le_refl, Nat.zero_le, Nat.zero_add, Nat.add_zero, Nat.zero_mul, Nat.succ_ne_zero]; refine s1_next ?_))
  refine w1_loop (α := {x : Pg × Nat // Reading ls x.1 x.2}) (fun x => parF s ls x.1.1 x.1.2) (fun x => ls.length - x.1.2) ⟨([], 0), ⟨by omega, ⟨by simp, by simp⟩, rfl⟩⟩ ?_ ?_
  · refine sub_base hE [some 0, none] rfl (by decide) ?_ ?_
    · simp [parF, tmpsOf, subTs, subT, subA, renL]
    · simp [parF, layH_nil, subH, subR, subAs, subA, renL, St.hp]
  rintro ⟨⟨p, i⟩, hR⟩
  simp only at hR
  have hi := hR.top
  have hbd := hR.bd
  obtain ⟨a, ha⟩ : ∃ a, ls[i]? = some a := ⟨_, List.getElem?_eq_getElem (by omega)⟩
  have hal := hlv a (List.mem_of_getElem? ha)
  have hix : (ls.map strI)[((i : Nat) : Int).toNat]? = some (strI a) := by rw [Int.toNat_natCast, List.getElem?_map, ha]; rfl
  by_cases hlt : i + 1 < ls.length
  · obtain ⟨w0, wt, hw⟩ : ∃ w0 wt, splitL 32 a = w0 :: wt := by
      cases h : splitL 32 a with
      | nil => exact absurd h (splitL_ne 32 a)
      | cons w0 wt => exact ⟨w0, wt, rfl⟩
    have hm : ls.length - (i + 1) < ls.length - i := by omega
    rcases nil_or_last p with rfl | ⟨ps, f0, rfl⟩
    · have hI := layR_nil a w0 wt hw (by omega) (by omega)
      cases hO : layO [] w0 wt with
      | no =>
        rw [hO] at hI
        simp only [layT, layHH, layH_nil, List.length_nil] at hI
        simp only [parF, layH_nil, tmpsOf, List.foldl_cons, List.foldl_nil, List.replicate_succ, List.replicate_zero, List.set_cons_succ, List.set_cons_zero, List.length_nil]
        have q0 := tf9; have q1 := tf45; have q2 := tf3; have q3 := tf23; have q4 := tf39; have q5 := tf37; have q6 := tf64; have q7 := tf5
        repeat' (first | (refine r1_step rfl ?_) | (refine r1_guard hO rfl rfl (fun hb => ?_) (fun hb => ?_) <;> (first | (cases hb; done) | ((try simp only [Bool.not_true, Bool.not_false] at hb); (try simp only [hb]); first | (have hp := of_decide_eq_true hb; (try (exfalso; omega; done))) | (have hp := of_decide_eq_false hb; (try (exfalso; omega; done))) | skip))) | (refine r1_skip hO rfl rfl ?_) | ((try simp only [St.put, St.upd, St.new, St.app, killH, List.foldl_cons, List.foldl_nil, List.length_cons, List.length_nil, List.length_append, List.cons_append, List.nil_append, List.set_cons_succ, List.set_cons_zero, cast_succ, noFp, ba_size, List.length_map, Nat.reduceAdd, List.drop_zero, List.drop_succ_cons, List.map_cons, List.map_nil, Bool.not_true, Bool.not_false]); refine s1_next ?_) | (refine x1_move_c rfl rfl ?_) | (refine x1_assign_c rfl rfl ?_) | (refine x1_fld_o rfl (by assumption) rfl rfl (by decide) rfl ?_) | (refine x1_load_o rfl (by assumption) rfl rfl rfl rfl rfl ?_) | (refine x1_load_og rfl (by assumption) rfl rfl rfl rfl rfl ?_) | (refine x1_add rfl rfl rfl (by omega) (by omega) ?_) | (refine x1_pred rfl rfl rfl (by omega) ?_) | (refine x1_sub rfl rfl rfl (by omega) (by omega) ?_) | (refine x1_mul rfl rfl rfl (by omega) (by omega) ?_) | (refine x1_eqS rfl rfl rfl ?_) | (refine x1_neS rfl rfl rfl ?_) | (refine x1_bin rfl rfl rfl rfl ?_) | (refine x1_store rfl rfl (by assumption) rfl rfl rfl rfl rfl rfl ?_) | (refine x1_storeg rfl rfl (by assumption) rfl rfl rfl rfl rfl rfl ?_) | (refine x1_pick_t rfl rfl rfl ?_) | (refine x1_pick_f rfl rfl rfl ?_) | (refine x1_not rfl rfl ?_) | (refine x1_len rfl (by assumption) rfl rfl ?_) | (refine x1_ext_c rfl rfl rfl ?_) | (refine x1_ext_g rfl rfl rfl ?_) | (refine x1_move_g rfl rfl ?_) | (refine x1_move_u rfl rfl ?_) | (refine x1_assign_g rfl rfl ?_) | (refine x1_fld_i rfl (by assumption) rfl rfl (by decide) rfl ?_) | (refine x1_load_i rfl (by assumption) rfl rfl rfl ?_) | (refine x1_load_ig rfl (by assumption) rfl rfl rfl ?_) | (refine x1_ix_i rfl tf45 rfl tf9 rfl rfl rfl (by omega) hix ?_) | (refine x1_icall rfl rfl hI rfl rfl (by simp) (by simp [deadL]) (by simp [belowTs, belowT, belowA]) (by simp [belowH, belowR]) ?_) | (refine r1_nil ?_; clear hO; refine hK _ ?_; clear hK K) | (refine r1_nil ⟨(by rw [hO]; kernel_rfl), ?_⟩; clear hO; refine hK _ ?_; clear hK K) | (refine w1_seq fun K hK => ?_) | (refine w1_region rfl (by kernel_rfl) fun OPS hO => ?_) | (refine w1_draw (by kernel_rfl) rfl (by kernel_rfl) fun OPS hO => ?_) | (refine w1_ret ?_) | (refine w1_skip ?_; refine hK _ ?_; clear hK K) | (refine w1_cond _ rfl (fun hb => ?_) (fun hb => ?_) <;> (first | (cases hb; done) | ((try simp only [Bool.not_true, Bool.not_false] at hb); (try simp only [hb]); first | (have hp := of_decide_eq_true hb; (try (exfalso; omega; done))) | (have hp := of_decide_eq_false hb; (try (exfalso; omega; done))) | skip))) | (refine w1_block ?_) | (refine w1_exit ?_; simp only [thenA, blockA, eq_self, reduceIte, if_true]; first | (refine hK _ ?_; clear hK K) | (clear hK K; refine hK _ ?_; clear hK K) | (clear hK K; clear hK K; refine hK _ ?_; clear hK K) | (clear hK K; clear hK K; clear hK K; refine hK _ ?_; clear hK K)) | (refine r1_nil ?_; clear hO) | (refine X1.mk ?_; simp only [Ex, ExC, St.ev, St.put, St.new, St.upd, St.app, St.hp, killH, AT.ofValue, isOne, loadA, fieldA, partA, indexA, elemOf?, addOff, cut, cellsA, storeA, appA, rowsA, lenA, lenOk, binA, fillA, placeS, partsA, zeroL, splice, chunk, blkOf, tf9, tf45, tf3, tf23, tf39, tf37, tf64, tf5, List.getD_cons_succ, List.getD_cons_zero, List.getElem?_cons_succ, List.getElem?_cons_zero, List.set_cons_succ, List.set_cons_zero, List.length_cons, List.length_nil, List.map_cons, List.map_nil, List.append_nil, List.nil_append, List.cons_append, List.drop_zero, List.drop_succ_cons, List.take_succ_cons, List.take_zero, List.replicate_succ, List.replicate_zero, List.flatten_cons, List.flatten_nil, List.foldl_cons, List.foldl_nil, List.cons.injEq, ba_size, List.all_cons, List.all_nil, List.length_map, List.length_append, List.getElem?_map, Option.some.injEq, Option.map_some, Option.map_none, Option.join_some, Option.join_none, Option.isSome_some, Bool.and_self, AT.c.injEq, AT.u.injEq, AT.g.injEq, AV.im.injEq, IV.v.injEq, Value.bool.injEq, Value.int.injEq, TK.sl.injEq, Prod.mk.injEq, exists_eq_left', exists_eq_left, exists_eq', exists_and_left, and_assoc, ite_true, if_true, ite_false, if_false, Bool.false_eq_true, true_and, and_true, eq_self, reduceIte, Bool.and_true, Bool.true_and, Bool.not_true, Bool.not_false, Int.natCast_nonneg, Int.toNat_natCast, Int.reduceToNat, Int.reduceLE, Int.reduceLT, Nat.reduceAdd, Nat.reduceMul, Nat.reduceLT, Nat.reduceLeDiff, Nat.reduceEqDiff, Nat.lt_irrefl, Nat.le_refl, Nat.zero_le, Nat.zero_add, Nat.add_zero, Nat.zero_mul, Nat.succ_ne_zero]; refine s1_next ?_))
        · have hPS : parS s = ([], i, 70) := by unfold parS; rw [hP, hR.none ha hlt (lay_none hw (by rw [hO]; rfl))]; rfl
          rw [hPS]
          exact end_sub (sub_nil 2 4 rfl) (end_ret (rs := [.c (.im (.sl 4 [])), iT i, iT 70]) rfl rfl (by repeat' constructor))
      | fn f =>
        rw [hO] at hI
        simp only [layT, layHH, layH_nil, List.length_nil, Nat.zero_add, show rowsP [] = [] from rfl, show codB [] = none from rfl, List.nil_append] at hI
        have hn := hR.next ha hlt (lay_step hw (by rw [hO]; rfl))
        have hf := (layO_len.1 f hO).1
        simp only [parF, layH_nil, tmpsOf, List.foldl_cons, List.foldl_nil, List.replicate_succ, List.replicate_zero, List.set_cons_succ, List.set_cons_zero, List.length_nil]
        have q0 := tf9; have q1 := tf45; have q2 := tf3; have q3 := tf23; have q4 := tf39; have q5 := tf37; have q6 := tf64; have q7 := tf5
        repeat' (first | (refine r1_step rfl ?_) | (refine r1_guard hO rfl rfl (fun hb => ?_) (fun hb => ?_) <;> (first | (cases hb; done) | ((try simp only [Bool.not_true, Bool.not_false] at hb); (try simp only [hb]); first | (have hp := of_decide_eq_true hb; (try (exfalso; omega; done))) | (have hp := of_decide_eq_false hb; (try (exfalso; omega; done))) | skip))) | (refine r1_skip hO rfl rfl ?_) | ((try simp only [St.put, St.upd, St.new, St.app, killH, List.foldl_cons, List.foldl_nil, List.length_cons, List.length_nil, List.length_append, List.cons_append, List.nil_append, List.set_cons_succ, List.set_cons_zero, cast_succ, noFp, ba_size, List.length_map, Nat.reduceAdd, List.drop_zero, List.drop_succ_cons, List.map_cons, List.map_nil, Bool.not_true, Bool.not_false]); refine s1_next ?_) | (refine x1_move_c rfl rfl ?_) | (refine x1_assign_c rfl rfl ?_) | (refine x1_fld_o rfl (by assumption) rfl rfl (by decide) rfl ?_) | (refine x1_load_o rfl (by assumption) rfl rfl rfl rfl rfl ?_) | (refine x1_load_og rfl (by assumption) rfl rfl rfl rfl rfl ?_) | (refine x1_add rfl rfl rfl (by omega) (by omega) ?_) | (refine x1_pred rfl rfl rfl (by omega) ?_) | (refine x1_sub rfl rfl rfl (by omega) (by omega) ?_) | (refine x1_mul rfl rfl rfl (by omega) (by omega) ?_) | (refine x1_eqS rfl rfl rfl ?_) | (refine x1_neS rfl rfl rfl ?_) | (refine x1_bin rfl rfl rfl rfl ?_) | (refine x1_store rfl rfl (by assumption) rfl rfl rfl rfl rfl rfl ?_) | (refine x1_storeg rfl rfl (by assumption) rfl rfl rfl rfl rfl rfl ?_) | (refine x1_pick_t rfl rfl rfl ?_) | (refine x1_pick_f rfl rfl rfl ?_) | (refine x1_not rfl rfl ?_) | (refine x1_len rfl (by assumption) rfl rfl ?_) | (refine x1_ext_c rfl rfl rfl ?_) | (refine x1_ext_g rfl rfl rfl ?_) | (refine x1_move_g rfl rfl ?_) | (refine x1_move_u rfl rfl ?_) | (refine x1_assign_g rfl rfl ?_) | (refine x1_fld_i rfl (by assumption) rfl rfl (by decide) rfl ?_) | (refine x1_load_i rfl (by assumption) rfl rfl rfl ?_) | (refine x1_load_ig rfl (by assumption) rfl rfl rfl ?_) | (refine x1_ix_i rfl tf45 rfl tf9 rfl rfl rfl (by omega) hix ?_) | (refine x1_icall rfl rfl hI rfl rfl (by simp) (by simp [deadL]) (by simp [belowTs, belowT, belowA]) (by simp [belowH, belowR]) ?_) | (refine r1_nil ?_; clear hO; refine hK _ ?_; clear hK K) | (refine r1_nil ⟨(by rw [hO]; kernel_rfl), ?_⟩; clear hO; refine hK _ ?_; clear hK K) | (refine w1_seq fun K hK => ?_) | (refine w1_region rfl (by kernel_rfl) fun OPS hO => ?_) | (refine w1_draw (by kernel_rfl) rfl (by kernel_rfl) fun OPS hO => ?_) | (refine w1_ret ?_) | (refine w1_skip ?_; refine hK _ ?_; clear hK K) | (refine w1_cond _ rfl (fun hb => ?_) (fun hb => ?_) <;> (first | (cases hb; done) | ((try simp only [Bool.not_true, Bool.not_false] at hb); (try simp only [hb]); first | (have hp := of_decide_eq_true hb; (try (exfalso; omega; done))) | (have hp := of_decide_eq_false hb; (try (exfalso; omega; done))) | skip))) | (refine w1_block ?_) | (refine w1_exit ?_; simp only [thenA, blockA, eq_self, reduceIte, if_true]; first | (refine hK _ ?_; clear hK K) | (clear hK K; refine hK _ ?_; clear hK K) | (clear hK K; clear hK K; refine hK _ ?_; clear hK K) | (clear hK K; clear hK K; clear hK K; refine hK _ ?_; clear hK K)) | (refine r1_nil ?_; clear hO) | (refine X1.mk ?_; simp only [Ex, ExC, St.ev, St.put, St.new, St.upd, St.app, St.hp, killH, AT.ofValue, isOne, loadA, fieldA, partA, indexA, elemOf?, addOff, cut, cellsA, storeA, appA, rowsA, lenA, lenOk, binA, fillA, placeS, partsA, zeroL, splice, chunk, blkOf, tf9, tf45, tf3, tf23, tf39, tf37, tf64, tf5, List.getD_cons_succ, List.getD_cons_zero, List.getElem?_cons_succ, List.getElem?_cons_zero, List.set_cons_succ, List.set_cons_zero, List.length_cons, List.length_nil, List.map_cons, List.map_nil, List.append_nil, List.nil_append, List.cons_append, List.drop_zero, List.drop_succ_cons, List.take_succ_cons, List.take_zero, List.replicate_succ, List.replicate_zero, List.flatten_cons, List.flatten_nil, List.foldl_cons, List.foldl_nil, List.cons.injEq, ba_size, List.all_cons, List.all_nil, List.length_map, List.length_append, List.getElem?_map, Option.some.injEq, Option.map_some, Option.map_none, Option.join_some, Option.join_none, Option.isSome_some, Bool.and_self, AT.c.injEq, AT.u.injEq, AT.g.injEq, AV.im.injEq, IV.v.injEq, Value.bool.injEq, Value.int.injEq, TK.sl.injEq, Prod.mk.injEq, exists_eq_left', exists_eq_left, exists_eq', exists_and_left, and_assoc, ite_true, if_true, ite_false, if_false, Bool.false_eq_true, true_and, and_true, eq_self, reduceIte, Bool.and_true, Bool.true_and, Bool.not_true, Bool.not_false, Int.natCast_nonneg, Int.toNat_natCast, Int.reduceToNat, Int.reduceLE, Int.reduceLT, Nat.reduceAdd, Nat.reduceMul, Nat.reduceLT, Nat.reduceLeDiff, Nat.reduceEqDiff, Nat.lt_irrefl, Nat.le_refl, Nat.zero_le, Nat.zero_add, Nat.add_zero, Nat.zero_mul, Nat.succ_ne_zero]; refine s1_next ?_))
        · refine ⟨⟨([] ++ [f], i + 1), hn⟩, hm, sub_base hE [some 2, none] rfl (by decide) ?_ ?_⟩
          · simp [subTs, subT, subA, renL]
          · show subH _ _ 0 (layH ([] ++ [f]))
            rw [layH_last, hf]
            simp [subH, subR, subAs, subA, renL, St.hp, layF]
      | ins x => exact absurd rfl (layO_len.2 x hO).1
    · have hlen := hbd.1
      have hc0 := hbd.2 f0 (by simp)
      simp only [List.length_append, List.length_cons, List.length_nil, Nat.zero_add] at hlen
      have hI := layR_last ps f0 a w0 wt hw (by omega) (by omega) hc0
      have hBH : belowH 2 ([some ⟨39, 4, ps.map fnR ++ [headR f0 (.os 1 0 f0.code.length)], false⟩, some ⟨64, 3, f0.code.map insR, false⟩] : List (Option Blk)) := by
        simp only [belowH]
        exact ⟨belowR_app (belowR_map fnR fnR_im ps) (by simp [belowR, belowAs, belowA]), belowR_map insR insR_im _, trivial⟩
      cases hO : layO (ps ++ [f0]) w0 wt with
      | no =>
        rw [hO] at hI
        simp only [layT, layHH, layH_last, List.length_append, List.length_cons, List.length_nil, Nat.zero_add] at hI
        simp only [parF, layH_last, tmpsOf, List.foldl_cons, List.foldl_nil, List.replicate_succ, List.replicate_zero, List.set_cons_succ, List.set_cons_zero, List.length_append, List.length_cons, List.length_nil, Nat.zero_add]
        have q0 := tf9; have q1 := tf45; have q2 := tf3; have q3 := tf23; have q4 := tf39; have q5 := tf37; have q6 := tf64; have q7 := tf5
        repeat' (first | (refine r1_step rfl ?_) | (refine r1_guard hO rfl rfl (fun hb => ?_) (fun hb => ?_) <;> (first | (cases hb; done) | ((try simp only [Bool.not_true, Bool.not_false] at hb); (try simp only [hb]); first | (have hp := of_decide_eq_true hb; (try (exfalso; omega; done))) | (have hp := of_decide_eq_false hb; (try (exfalso; omega; done))) | skip))) | (refine r1_skip hO rfl rfl ?_) | ((try simp only [St.put, St.upd, St.new, St.app, killH, List.foldl_cons, List.foldl_nil, List.length_cons, List.length_nil, List.length_append, List.cons_append, List.nil_append, List.set_cons_succ, List.set_cons_zero, cast_succ, noFp, ba_size, List.length_map, Nat.reduceAdd, List.drop_zero, List.drop_succ_cons, List.map_cons, List.map_nil, Bool.not_true, Bool.not_false]); refine s1_next ?_) | (refine x1_move_c rfl rfl ?_) | (refine x1_assign_c rfl rfl ?_) | (refine x1_fld_o rfl (by assumption) rfl rfl (by decide) rfl ?_) | (refine x1_load_o rfl (by assumption) rfl rfl rfl rfl rfl ?_) | (refine x1_load_og rfl (by assumption) rfl rfl rfl rfl rfl ?_) | (refine x1_add rfl rfl rfl (by omega) (by omega) ?_) | (refine x1_pred rfl rfl rfl (by omega) ?_) | (refine x1_sub rfl rfl rfl (by omega) (by omega) ?_) | (refine x1_mul rfl rfl rfl (by omega) (by omega) ?_) | (refine x1_eqS rfl rfl rfl ?_) | (refine x1_neS rfl rfl rfl ?_) | (refine x1_bin rfl rfl rfl rfl ?_) | (refine x1_store rfl rfl (by assumption) rfl rfl rfl rfl rfl rfl ?_) | (refine x1_storeg rfl rfl (by assumption) rfl rfl rfl rfl rfl rfl ?_) | (refine x1_pick_t rfl rfl rfl ?_) | (refine x1_pick_f rfl rfl rfl ?_) | (refine x1_not rfl rfl ?_) | (refine x1_len rfl (by assumption) rfl rfl ?_) | (refine x1_ext_c rfl rfl rfl ?_) | (refine x1_ext_g rfl rfl rfl ?_) | (refine x1_move_g rfl rfl ?_) | (refine x1_move_u rfl rfl ?_) | (refine x1_assign_g rfl rfl ?_) | (refine x1_fld_i rfl (by assumption) rfl rfl (by decide) rfl ?_) | (refine x1_load_i rfl (by assumption) rfl rfl rfl ?_) | (refine x1_load_ig rfl (by assumption) rfl rfl rfl ?_) | (refine x1_ix_i rfl tf45 rfl tf9 rfl rfl rfl (by omega) hix ?_) | (refine x1_icall rfl rfl hI rfl rfl (by simp) (by simp [deadL]) (by simp [belowTs, belowT, belowA]) hBH ?_) | (refine r1_nil ?_; clear hO; refine hK _ ?_; clear hK K) | (refine r1_nil ⟨(by rw [hO]; kernel_rfl), ?_⟩; clear hO; refine hK _ ?_; clear hK K) | (refine w1_seq fun K hK => ?_) | (refine w1_region rfl (by kernel_rfl) fun OPS hO => ?_) | (refine w1_draw (by kernel_rfl) rfl (by kernel_rfl) fun OPS hO => ?_) | (refine w1_ret ?_) | (refine w1_skip ?_; refine hK _ ?_; clear hK K) | (refine w1_cond _ rfl (fun hb => ?_) (fun hb => ?_) <;> (first | (cases hb; done) | ((try simp only [Bool.not_true, Bool.not_false] at hb); (try simp only [hb]); first | (have hp := of_decide_eq_true hb; (try (exfalso; omega; done))) | (have hp := of_decide_eq_false hb; (try (exfalso; omega; done))) | skip))) | (refine w1_block ?_) | (refine w1_exit ?_; simp only [thenA, blockA, eq_self, reduceIte, if_true]; first | (refine hK _ ?_; clear hK K) | (clear hK K; refine hK _ ?_; clear hK K) | (clear hK K; clear hK K; refine hK _ ?_; clear hK K) | (clear hK K; clear hK K; clear hK K; refine hK _ ?_; clear hK K)) | (refine r1_nil ?_; clear hO) | (refine X1.mk ?_; simp only [Ex, ExC, St.ev, St.put, St.new, St.upd, St.app, St.hp, killH, AT.ofValue, isOne, loadA, fieldA, partA, indexA, elemOf?, addOff, cut, cellsA, storeA, appA, rowsA, lenA, lenOk, binA, fillA, placeS, partsA, zeroL, splice, chunk, blkOf, tf9, tf45, tf3, tf23, tf39, tf37, tf64, tf5, List.getD_cons_succ, List.getD_cons_zero, List.getElem?_cons_succ, List.getElem?_cons_zero, List.set_cons_succ, List.set_cons_zero, List.length_cons, List.length_nil, List.map_cons, List.map_nil, List.append_nil, List.nil_append, List.cons_append, List.drop_zero, List.drop_succ_cons, List.take_succ_cons, List.take_zero, List.replicate_succ, List.replicate_zero, List.flatten_cons, List.flatten_nil, List.foldl_cons, List.foldl_nil, List.cons.injEq, ba_size, List.all_cons, List.all_nil, List.length_map, List.length_append, List.getElem?_map, Option.some.injEq, Option.map_some, Option.map_none, Option.join_some, Option.join_none, Option.isSome_some, Bool.and_self, AT.c.injEq, AT.u.injEq, AT.g.injEq, AV.im.injEq, IV.v.injEq, Value.bool.injEq, Value.int.injEq, TK.sl.injEq, Prod.mk.injEq, exists_eq_left', exists_eq_left, exists_eq', exists_and_left, and_assoc, ite_true, if_true, ite_false, if_false, Bool.false_eq_true, true_and, and_true, eq_self, reduceIte, Bool.and_true, Bool.true_and, Bool.not_true, Bool.not_false, Int.natCast_nonneg, Int.toNat_natCast, Int.reduceToNat, Int.reduceLE, Int.reduceLT, Nat.reduceAdd, Nat.reduceMul, Nat.reduceLT, Nat.reduceLeDiff, Nat.reduceEqDiff, Nat.lt_irrefl, Nat.le_refl, Nat.zero_le, Nat.zero_add, Nat.add_zero, Nat.zero_mul, Nat.succ_ne_zero]; refine s1_next ?_))
        · have hPS : parS s = ([], i, 70) := by unfold parS; rw [hP, hR.none ha hlt (lay_none hw (by rw [hO]; rfl))]; rfl
          rw [hPS]
          exact end_sub (sub_nil 2 4 rfl) (end_ret (rs := [.c (.im (.sl 4 [])), iT i, iT 70]) rfl rfl (by repeat' constructor))
      | fn f =>
        rw [hO] at hI
        simp only [layT, layHH, rowsP_last, codB_last, List.length_append, List.length_cons, List.length_nil, Nat.zero_add] at hI
        have hn := hR.next ha hlt (lay_step hw (by rw [hO]; rfl))
        have hf := (layO_len.1 f hO).1
        simp only [parF, layH_last, tmpsOf, List.foldl_cons, List.foldl_nil, List.replicate_succ, List.replicate_zero, List.set_cons_succ, List.set_cons_zero, List.length_append, List.length_cons, List.length_nil, Nat.zero_add]
        have q0 := tf9; have q1 := tf45; have q2 := tf3; have q3 := tf23; have q4 := tf39; have q5 := tf37; have q6 := tf64; have q7 := tf5
        repeat' (first | (refine r1_step rfl ?_) | (refine r1_guard hO rfl rfl (fun hb => ?_) (fun hb => ?_) <;> (first | (cases hb; done) | ((try simp only [Bool.not_true, Bool.not_false] at hb); (try simp only [hb]); first | (have hp := of_decide_eq_true hb; (try (exfalso; omega; done))) | (have hp := of_decide_eq_false hb; (try (exfalso; omega; done))) | skip))) | (refine r1_skip hO rfl rfl ?_) | ((try simp only [St.put, St.upd, St.new, St.app, killH, List.foldl_cons, List.foldl_nil, List.length_cons, List.length_nil, List.length_append, List.cons_append, List.nil_append, List.set_cons_succ, List.set_cons_zero, cast_succ, noFp, ba_size, List.length_map, Nat.reduceAdd, List.drop_zero, List.drop_succ_cons, List.map_cons, List.map_nil, Bool.not_true, Bool.not_false]); refine s1_next ?_) | (refine x1_move_c rfl rfl ?_) | (refine x1_assign_c rfl rfl ?_) | (refine x1_fld_o rfl (by assumption) rfl rfl (by decide) rfl ?_) | (refine x1_load_o rfl (by assumption) rfl rfl rfl rfl rfl ?_) | (refine x1_load_og rfl (by assumption) rfl rfl rfl rfl rfl ?_) | (refine x1_add rfl rfl rfl (by omega) (by omega) ?_) | (refine x1_pred rfl rfl rfl (by omega) ?_) | (refine x1_sub rfl rfl rfl (by omega) (by omega) ?_) | (refine x1_mul rfl rfl rfl (by omega) (by omega) ?_) | (refine x1_eqS rfl rfl rfl ?_) | (refine x1_neS rfl rfl rfl ?_) | (refine x1_bin rfl rfl rfl rfl ?_) | (refine x1_store rfl rfl (by assumption) rfl rfl rfl rfl rfl rfl ?_) | (refine x1_storeg rfl rfl (by assumption) rfl rfl rfl rfl rfl rfl ?_) | (refine x1_pick_t rfl rfl rfl ?_) | (refine x1_pick_f rfl rfl rfl ?_) | (refine x1_not rfl rfl ?_) | (refine x1_len rfl (by assumption) rfl rfl ?_) | (refine x1_ext_c rfl rfl rfl ?_) | (refine x1_ext_g rfl rfl rfl ?_) | (refine x1_move_g rfl rfl ?_) | (refine x1_move_u rfl rfl ?_) | (refine x1_assign_g rfl rfl ?_) | (refine x1_fld_i rfl (by assumption) rfl rfl (by decide) rfl ?_) | (refine x1_load_i rfl (by assumption) rfl rfl rfl ?_) | (refine x1_load_ig rfl (by assumption) rfl rfl rfl ?_) | (refine x1_ix_i rfl tf45 rfl tf9 rfl rfl rfl (by omega) hix ?_) | (refine x1_icall rfl rfl hI rfl rfl (by simp) (by simp [deadL]) (by simp [belowTs, belowT, belowA]) hBH ?_) | (refine r1_nil ?_; clear hO; refine hK _ ?_; clear hK K) | (refine r1_nil ⟨(by rw [hO]; kernel_rfl), ?_⟩; clear hO; refine hK _ ?_; clear hK K) | (refine w1_seq fun K hK => ?_) | (refine w1_region rfl (by kernel_rfl) fun OPS hO => ?_) | (refine w1_draw (by kernel_rfl) rfl (by kernel_rfl) fun OPS hO => ?_) | (refine w1_ret ?_) | (refine w1_skip ?_; refine hK _ ?_; clear hK K) | (refine w1_cond _ rfl (fun hb => ?_) (fun hb => ?_) <;> (first | (cases hb; done) | ((try simp only [Bool.not_true, Bool.not_false] at hb); (try simp only [hb]); first | (have hp := of_decide_eq_true hb; (try (exfalso; omega; done))) | (have hp := of_decide_eq_false hb; (try (exfalso; omega; done))) | skip))) | (refine w1_block ?_) | (refine w1_exit ?_; simp only [thenA, blockA, eq_self, reduceIte, if_true]; first | (refine hK _ ?_; clear hK K) | (clear hK K; refine hK _ ?_; clear hK K) | (clear hK K; clear hK K; refine hK _ ?_; clear hK K) | (clear hK K; clear hK K; clear hK K; refine hK _ ?_; clear hK K)) | (refine r1_nil ?_; clear hO) | (refine X1.mk ?_; simp only [Ex, ExC, St.ev, St.put, St.new, St.upd, St.app, St.hp, killH, AT.ofValue, isOne, loadA, fieldA, partA, indexA, elemOf?, addOff, cut, cellsA, storeA, appA, rowsA, lenA, lenOk, binA, fillA, placeS, partsA, zeroL, splice, chunk, blkOf, tf9, tf45, tf3, tf23, tf39, tf37, tf64, tf5, List.getD_cons_succ, List.getD_cons_zero, List.getElem?_cons_succ, List.getElem?_cons_zero, List.set_cons_succ, List.set_cons_zero, List.length_cons, List.length_nil, List.map_cons, List.map_nil, List.append_nil, List.nil_append, List.cons_append, List.drop_zero, List.drop_succ_cons, List.take_succ_cons, List.take_zero, List.replicate_succ, List.replicate_zero, List.flatten_cons, List.flatten_nil, List.foldl_cons, List.foldl_nil, List.cons.injEq, ba_size, List.all_cons, List.all_nil, List.length_map, List.length_append, List.getElem?_map, Option.some.injEq, Option.map_some, Option.map_none, Option.join_some, Option.join_none, Option.isSome_some, Bool.and_self, AT.c.injEq, AT.u.injEq, AT.g.injEq, AV.im.injEq, IV.v.injEq, Value.bool.injEq, Value.int.injEq, TK.sl.injEq, Prod.mk.injEq, exists_eq_left', exists_eq_left, exists_eq', exists_and_left, and_assoc, ite_true, if_true, ite_false, if_false, Bool.false_eq_true, true_and, and_true, eq_self, reduceIte, Bool.and_true, Bool.true_and, Bool.not_true, Bool.not_false, Int.natCast_nonneg, Int.toNat_natCast, Int.reduceToNat, Int.reduceLE, Int.reduceLT, Nat.reduceAdd, Nat.reduceMul, Nat.reduceLT, Nat.reduceLeDiff, Nat.reduceEqDiff, Nat.lt_irrefl, Nat.le_refl, Nat.zero_le, Nat.zero_add, Nat.add_zero, Nat.zero_mul, Nat.succ_ne_zero]; refine s1_next ?_))
        · refine ⟨⟨((ps ++ [f0]) ++ [f], i + 1), hn⟩, hm, fun A W hG => ?_⟩
          have hG1 := sub_freeze hE (b := 1) (rows := f0.code.map insI) rfl (by simp [insI]) A W hG
          revert hG1
          refine sub_base hE [some 2, none] rfl (by decide) ?_ ?_ A W
          · simp [subTs, subT, subA, renL, St.frz, frT, frA]
          · show subH _ _ 0 (layH ((ps ++ [f0]) ++ [f]))
            rw [layH_last, hf]
            have r1 : subR (renL [some 2, none]) ((ps ++ [f0]).map fnR ++ [headR (layF wt) nilA]) ((ps ++ [f0]).map fnR ++ [headR (layF wt) (.os 1 0 0)]) := subR_app (subR_map fnR fnR_im _) (by simp [subR, subAs, subA, renL])
            simp [subH, subA, renL, St.hp, St.frz, frH, frB, frA, layF] at r1 ⊢
            have e1 : List.map ((fun x => List.map (frA 1 3 (List.map insI f0.code)) x) ∘ fnR) ps = List.map fnR ps := List.map_congr_left fun _ _ => by simp [fnR, frA]
            have e2 : List.take f0.code.length (List.map insI f0.code) = List.map insI f0.code := List.take_of_length_le (by simp)
            rw [e1, e2]
            exact r1
      | ins x =>
        rw [hO] at hI
        simp only [layT, layHH, List.getLast?_append, List.getLast?_singleton, Option.some_or, List.dropLast_concat, List.length_append, List.length_cons, List.length_nil, Nat.zero_add] at hI
        have hn := hR.next ha hlt (lay_step hw (by rw [hO]; rfl))
        rw [addI_last] at hn
        simp only [parF, layH_last, tmpsOf, List.foldl_cons, List.foldl_nil, List.replicate_succ, List.replicate_zero, List.set_cons_succ, List.set_cons_zero, List.length_append, List.length_cons, List.length_nil, Nat.zero_add]
        have q0 := tf9; have q1 := tf45; have q2 := tf3; have q3 := tf23; have q4 := tf39; have q5 := tf37; have q6 := tf64; have q7 := tf5
        repeat' (first | (refine r1_step rfl ?_) | (refine r1_guard hO rfl rfl (fun hb => ?_) (fun hb => ?_) <;> (first | (cases hb; done) | ((try simp only [Bool.not_true, Bool.not_false] at hb); (try simp only [hb]); first | (have hp := of_decide_eq_true hb; (try (exfalso; omega; done))) | (have hp := of_decide_eq_false hb; (try (exfalso; omega; done))) | skip))) | (refine r1_skip hO rfl rfl ?_) | ((try simp only [St.put, St.upd, St.new, St.app, killH, List.foldl_cons, List.foldl_nil, List.length_cons, List.length_nil, List.length_append, List.cons_append, List.nil_append, List.set_cons_succ, List.set_cons_zero, cast_succ, noFp, ba_size, List.length_map, Nat.reduceAdd, List.drop_zero, List.drop_succ_cons, List.map_cons, List.map_nil, Bool.not_true, Bool.not_false]); refine s1_next ?_) | (refine x1_move_c rfl rfl ?_) | (refine x1_assign_c rfl rfl ?_) | (refine x1_fld_o rfl (by assumption) rfl rfl (by decide) rfl ?_) | (refine x1_load_o rfl (by assumption) rfl rfl rfl rfl rfl ?_) | (refine x1_load_og rfl (by assumption) rfl rfl rfl rfl rfl ?_) | (refine x1_add rfl rfl rfl (by omega) (by omega) ?_) | (refine x1_pred rfl rfl rfl (by omega) ?_) | (refine x1_sub rfl rfl rfl (by omega) (by omega) ?_) | (refine x1_mul rfl rfl rfl (by omega) (by omega) ?_) | (refine x1_eqS rfl rfl rfl ?_) | (refine x1_neS rfl rfl rfl ?_) | (refine x1_bin rfl rfl rfl rfl ?_) | (refine x1_store rfl rfl (by assumption) rfl rfl rfl rfl rfl rfl ?_) | (refine x1_storeg rfl rfl (by assumption) rfl rfl rfl rfl rfl rfl ?_) | (refine x1_pick_t rfl rfl rfl ?_) | (refine x1_pick_f rfl rfl rfl ?_) | (refine x1_not rfl rfl ?_) | (refine x1_len rfl (by assumption) rfl rfl ?_) | (refine x1_ext_c rfl rfl rfl ?_) | (refine x1_ext_g rfl rfl rfl ?_) | (refine x1_move_g rfl rfl ?_) | (refine x1_move_u rfl rfl ?_) | (refine x1_assign_g rfl rfl ?_) | (refine x1_fld_i rfl (by assumption) rfl rfl (by decide) rfl ?_) | (refine x1_load_i rfl (by assumption) rfl rfl rfl ?_) | (refine x1_load_ig rfl (by assumption) rfl rfl rfl ?_) | (refine x1_ix_i rfl tf45 rfl tf9 rfl rfl rfl (by omega) hix ?_) | (refine x1_icall rfl rfl hI rfl rfl (by simp) (by simp [deadL]) (by simp [belowTs, belowT, belowA]) hBH ?_) | (refine r1_nil ?_; clear hO; refine hK _ ?_; clear hK K) | (refine r1_nil ⟨(by rw [hO]; kernel_rfl), ?_⟩; clear hO; refine hK _ ?_; clear hK K) | (refine w1_seq fun K hK => ?_) | (refine w1_region rfl (by kernel_rfl) fun OPS hO => ?_) | (refine w1_draw (by kernel_rfl) rfl (by kernel_rfl) fun OPS hO => ?_) | (refine w1_ret ?_) | (refine w1_skip ?_; refine hK _ ?_; clear hK K) | (refine w1_cond _ rfl (fun hb => ?_) (fun hb => ?_) <;> (first | (cases hb; done) | ((try simp only [Bool.not_true, Bool.not_false] at hb); (try simp only [hb]); first | (have hp := of_decide_eq_true hb; (try (exfalso; omega; done))) | (have hp := of_decide_eq_false hb; (try (exfalso; omega; done))) | skip))) | (refine w1_block ?_) | (refine w1_exit ?_; simp only [thenA, blockA, eq_self, reduceIte, if_true]; first | (refine hK _ ?_; clear hK K) | (clear hK K; refine hK _ ?_; clear hK K) | (clear hK K; clear hK K; refine hK _ ?_; clear hK K) | (clear hK K; clear hK K; clear hK K; refine hK _ ?_; clear hK K)) | (refine r1_nil ?_; clear hO) | (refine X1.mk ?_; simp only [Ex, ExC, St.ev, St.put, St.new, St.upd, St.app, St.hp, killH, AT.ofValue, isOne, loadA, fieldA, partA, indexA, elemOf?, addOff, cut, cellsA, storeA, appA, rowsA, lenA, lenOk, binA, fillA, placeS, partsA, zeroL, splice, chunk, blkOf, tf9, tf45, tf3, tf23, tf39, tf37, tf64, tf5, List.getD_cons_succ, List.getD_cons_zero, List.getElem?_cons_succ, List.getElem?_cons_zero, List.set_cons_succ, List.set_cons_zero, List.length_cons, List.length_nil, List.map_cons, List.map_nil, List.append_nil, List.nil_append, List.cons_append, List.drop_zero, List.drop_succ_cons, List.take_succ_cons, List.take_zero, List.replicate_succ, List.replicate_zero, List.flatten_cons, List.flatten_nil, List.foldl_cons, List.foldl_nil, List.cons.injEq, ba_size, List.all_cons, List.all_nil, List.length_map, List.length_append, List.getElem?_map, Option.some.injEq, Option.map_some, Option.map_none, Option.join_some, Option.join_none, Option.isSome_some, Bool.and_self, AT.c.injEq, AT.u.injEq, AT.g.injEq, AV.im.injEq, IV.v.injEq, Value.bool.injEq, Value.int.injEq, TK.sl.injEq, Prod.mk.injEq, exists_eq_left', exists_eq_left, exists_eq', exists_and_left, and_assoc, ite_true, if_true, ite_false, if_false, Bool.false_eq_true, true_and, and_true, eq_self, reduceIte, Bool.and_true, Bool.true_and, Bool.not_true, Bool.not_false, Int.natCast_nonneg, Int.toNat_natCast, Int.reduceToNat, Int.reduceLE, Int.reduceLT, Nat.reduceAdd, Nat.reduceMul, Nat.reduceLT, Nat.reduceLeDiff, Nat.reduceEqDiff, Nat.lt_irrefl, Nat.le_refl, Nat.zero_le, Nat.zero_add, Nat.add_zero, Nat.zero_mul, Nat.succ_ne_zero]; refine s1_next ?_))
        · refine ⟨⟨(ps ++ [{ f0 with code := f0.code ++ [x] }], i + 1), hn⟩, hm, sub_base hE [some 0, some 2] rfl (by decide) ?_ ?_⟩
          · simp [subTs, subT, subA, renL]
          · show subH _ _ 0 (layH (ps ++ [{ f0 with code := f0.code ++ [x] }]))
            rw [layH_last]
            have r1 : subR (renL [some 0, some 2]) ((f0.code ++ [x]).map insR) ((f0.code ++ [x]).map insR) := subR_map insR insR_im _
            have r2 : subR (renL [some 0, some 2]) (ps.map fnR ++ [headR f0 (.os 2 0 (f0.code.length + 1))]) (ps.map fnR ++ [headR f0 (.os 1 0 (f0.code.length + 1))]) := subR_app (subR_map fnR fnR_im ps) (by simp [subR, subAs, subA, renL])
            simp [subH, subA, renL, St.hp] at r1 r2 ⊢
            exact ⟨r2, r1⟩
  · refine w1_sub (par_frz hE) ?_
    have hie : (i : Int) = (ls.length : Int) - 1 := by omega
    have hixe : (ls.map strI)[((ls.length : Int) - 1).toNat]? = some (strI a) := by rw [← hie]; exact hix
    simp only [parZ, tmpsOf, List.foldl_cons, List.foldl_nil, List.replicate_succ, List.replicate_zero, List.set_cons_succ, List.set_cons_zero]
    have q0 := tf9; have q1 := tf45; have q2 := tf3; have q3 := tf23; have q4 := tf39; have q5 := tf37; have q6 := tf64; have q7 := tf5
    repeat' (first | (refine r1_step rfl ?_) | (refine r1_guard hO rfl rfl (fun hb => ?_) (fun hb => ?_) <;> (first | (cases hb; done) | ((try simp only [Bool.not_true, Bool.not_false] at hb); (try simp only [hb]); first | (have hp := of_decide_eq_true hb; (try (exfalso; omega; done))) | (have hp := of_decide_eq_false hb; (try (exfalso; omega; done))) | skip))) | (refine r1_skip hO rfl rfl ?_) | ((try simp only [St.put, St.upd, St.new, St.app, killH, List.foldl_cons, List.foldl_nil, List.length_cons, List.length_nil, List.length_append, List.cons_append, List.nil_append, List.set_cons_succ, List.set_cons_zero, cast_succ, noFp, ba_size, List.length_map, Nat.reduceAdd, List.drop_zero, List.drop_succ_cons, List.map_cons, List.map_nil, Bool.not_true, Bool.not_false]); refine s1_next ?_) | (refine x1_move_c rfl rfl ?_) | (refine x1_assign_c rfl rfl ?_) | (refine x1_fld_o rfl (by assumption) rfl rfl (by decide) rfl ?_) | (refine x1_load_o rfl (by assumption) rfl rfl rfl rfl rfl ?_) | (refine x1_load_og rfl (by assumption) rfl rfl rfl rfl rfl ?_) | (refine x1_add rfl rfl rfl (by omega) (by omega) ?_) | (refine x1_pred rfl rfl rfl (by omega) ?_) | (refine x1_sub rfl rfl rfl (by omega) (by omega) ?_) | (refine x1_mul rfl rfl rfl (by omega) (by omega) ?_) | (refine x1_eqS rfl rfl rfl ?_) | (refine x1_neS rfl rfl rfl ?_) | (refine x1_bin rfl rfl rfl rfl ?_) | (refine x1_store rfl rfl (by assumption) rfl rfl rfl rfl rfl rfl ?_) | (refine x1_storeg rfl rfl (by assumption) rfl rfl rfl rfl rfl rfl ?_) | (refine x1_pick_t rfl rfl rfl ?_) | (refine x1_pick_f rfl rfl rfl ?_) | (refine x1_not rfl rfl ?_) | (refine x1_len rfl (by assumption) rfl rfl ?_) | (refine x1_ext_c rfl rfl rfl ?_) | (refine x1_ext_g rfl rfl rfl ?_) | (refine x1_move_g rfl rfl ?_) | (refine x1_move_u rfl rfl ?_) | (refine x1_assign_g rfl rfl ?_) | (refine x1_fld_i rfl (by assumption) rfl rfl (by decide) rfl ?_) | (refine x1_load_i rfl (by assumption) rfl rfl rfl ?_) | (refine x1_load_ig rfl (by assumption) rfl rfl rfl ?_) | (refine x1_ix_i rfl tf45 rfl tf9 rfl rfl rfl (by omega) hixe ?_) | (refine x1_call rfl rfl (mayPR_a p hbd) rfl (by repeat' constructor) ?_) | (refine r1_nil ?_; clear hO; refine hK _ ?_; clear hK K) | (refine r1_nil ⟨(by rw [hO]; kernel_rfl), ?_⟩; clear hO; refine hK _ ?_; clear hK K) | (refine w1_seq fun K hK => ?_) | (refine w1_region rfl (by kernel_rfl) fun OPS hO => ?_) | (refine w1_draw (by kernel_rfl) rfl (by kernel_rfl) fun OPS hO => ?_) | (refine w1_ret ?_) | (refine w1_skip ?_; refine hK _ ?_; clear hK K) | (refine w1_cond _ rfl (fun hb => ?_) (fun hb => ?_) <;> (first | (cases hb; done) | ((try simp only [Bool.not_true, Bool.not_false] at hb); (try simp only [hb]); first | (have hp := of_decide_eq_true hb; (try (exfalso; omega; done))) | (have hp := of_decide_eq_false hb; (try (exfalso; omega; done))) | skip))) | (refine w1_block ?_) | (refine w1_exit ?_; simp only [thenA, blockA, eq_self, reduceIte, if_true]; first | (refine hK _ ?_; clear hK K) | (clear hK K; refine hK _ ?_; clear hK K) | (clear hK K; clear hK K; refine hK _ ?_; clear hK K) | (clear hK K; clear hK K; clear hK K; refine hK _ ?_; clear hK K)) | (refine r1_nil ?_; clear hO) | (refine X1.mk ?_; simp only [Ex, ExC, St.ev, St.put, St.new, St.upd, St.app, St.hp, killH, AT.ofValue, isOne, loadA, fieldA, partA, indexA, elemOf?, addOff, cut, cellsA, storeA, appA, rowsA, lenA, lenOk, binA, fillA, placeS, partsA, zeroL, splice, chunk, blkOf, tf9, tf45, tf3, tf23, tf39, tf37, tf64, tf5, List.getD_cons_succ, List.getD_cons_zero, List.getElem?_cons_succ, List.getElem?_cons_zero, List.set_cons_succ, List.set_cons_zero, List.length_cons, List.length_nil, List.map_cons, List.map_nil, List.append_nil, List.nil_append, List.cons_append, List.drop_zero, List.drop_succ_cons, List.take_succ_cons, List.take_zero, List.replicate_succ, List.replicate_zero, List.flatten_cons, List.flatten_nil, List.foldl_cons, List.foldl_nil, List.cons.injEq, ba_size, List.all_cons, List.all_nil, List.length_map, List.length_append, List.getElem?_map, Option.some.injEq, Option.map_some, Option.map_none, Option.join_some, Option.join_none, Option.isSome_some, Bool.and_self, AT.c.injEq, AT.u.injEq, AT.g.injEq, AV.im.injEq, IV.v.injEq, Value.bool.injEq, Value.int.injEq, TK.sl.injEq, Prod.mk.injEq, exists_eq_left', exists_eq_left, exists_eq', exists_and_left, and_assoc, ite_true, if_true, ite_false, if_false, Bool.false_eq_true, true_and, and_true, eq_self, reduceIte, Bool.and_true, Bool.true_and, Bool.not_true, Bool.not_false, Int.natCast_nonneg, Int.toNat_natCast, Int.reduceToNat, Int.reduceLE, Int.reduceLT, Nat.reduceAdd, Nat.reduceMul, Nat.reduceLT, Nat.reduceLeDiff, Nat.reduceEqDiff, Nat.lt_irrefl, Nat.le_refl, Nat.zero_le, Nat.zero_add, Nat.add_zero, Nat.zero_mul, Nat.succ_ne_zero]; refine s1_next ?_))
    all_goals rw [← hie]
    · have hPS : parS s = ([], i, 70) := by
        have h1 : (!mayP p) = true := by assumption
        have h3 : ¬ (a = [] ∧ mayP p = true) := fun h => by rw [h.2] at h1; cases h1
        unfold parS
        rw [hP, hR.last ha (by omega), if_neg h3]; rfl
      rw [hPS]
      exact end_sub (sub_nil 2 4 rfl) (end_ret (rs := [.c (.im (.sl 4 [])), iT i, iT 70]) rfl rfl (by repeat' constructor))
    · have hPS : parS s = (p, i, 0) := by
        have h1 : (!decide (a = [])) = false := by assumption
        have h2 : (!mayP p) = false := by assumption
        have h3 : a = [] ∧ mayP p = true := ⟨by simpa using h1, by simpa using h2⟩
        unfold parS
        rw [hP, hR.last ha (by omega), if_pos h3]; rfl
      rw [hPS]
      exact end_ret (rs := [.c (.im (progI p)), iT i, iT 0]) rfl rfl (by repeat' constructor)
    · have hPS : parS s = ([], i, 70) := by
        have h1 : (!decide (a = [])) = true := by assumption
        have h3 : ¬ (a = [] ∧ mayP p = true) := fun h => by rw [h.1] at h1; cases h1
        unfold parS
        rw [hP, hR.last ha (by omega), if_neg h3]; rfl
      rw [hPS]
      exact end_sub (sub_nil 2 4 rfl) (end_ret (rs := [.c (.im (.sl 4 [])), iT i, iT 70]) rfl rfl (by repeat' constructor))
end Go.Proofs.YtedkfipjooafeaaGreatDoor.Ab
set_option linter.unusedSimpArgs false
set_option linter.unusedVariables false
namespace Go.Proofs.YtedkfipjooafeaaGreatDoor.Ab
open Go Go.RowKit Go.Proofs.YtedkfipjooafeaaGreatDoor Go.Proofs.YtedkfipjooafeaaGreatDoor.Code Go.Proofs.YtedkfipjooafeaaGreatDoor.Op

theorem SameR_calls (p q : Pg) (v u : Value) (w : World) (h : ProgAt w w.heap.size v p) (h' : ProgAt w w.heap.size u q) (hp : p.length ≤ 9223372036854775) (hq : q.length ≤ 9223372036854775) (hpc : ∀ f ∈ p, f.code.length ≤ 9223372036854775) (hqc : ∀ f ∈ q, f.code.length ≤ 9223372036854775) :
    Calls Tryz.prog 23 #[v, u] w fun e w' => e = .returned (.bool (decide (p = q))) ∧ Below w.heap.size w w' := by
  have hv : isOne v = true := by obtain ⟨A, c, rfl⟩ := h.form; rfl
  have hu : isOne u = true := by obtain ⟨A, c, rfl⟩ := h'.form; rfl
  refine ((SameR_a p q hp hq hpc hqc).2 (fun _ => False) w #[v, u] (fun k h => h.elim) rfl fun j x hj y hy => ?_).mono fun e w' ⟨r, h1, h2, h3⟩ => ?_
  · match j with
    | 0 => injection hj with hj; injection hy with hy; subst hj hy; exact .c (.im (repN_prog h)) hv
    | 1 => injection hj with hj; injection hy with hy; subst hj hy; exact .c (.im (repN_prog h')) hu
    | j + 2 => simp at hj
  · exact ⟨by rw [h1, rep_v h3], h2⟩
theorem rep_u {O : Nat → Prop} {m : Nat → Option Loc} {w : World} {xs : List AT} {v : Value} (h : RepT O m w (.u xs) v) : ∃ us : Array Value, v = .tuple us ∧ us.size = xs.length ∧ ∀ (j : Nat) x, xs[j]? = some x → ∀ u, us[j]? = some u → RepT O m w x u := by
  cases h with
  | @u _ us hl hh => exact ⟨us, rfl, hl, hh⟩
theorem one_str {s : B} {O : Nat → Prop} {m : Nat → Option Loc} {w : World} : ∀ (j : Nat) x, [AT.c (sA s)][j]? = some x → ∀ v, (#[str s] : Array Value)[j]? = some v → RepT O m w x v := fun j x hj v hv => by
  match j with
  | 0 => injection hj with hj; injection hv with hv; subst hj hv; exact .c (.im (.v _)) rfl
  | j + 1 => simp at hj
theorem ParseR_calls (s : B) (hs : s.length ≤ 4294967280) (w : World) :
    Calls Tryz.prog 12 #[str s] w fun e w' => (∃ v, e = .returned (.tuple #[v, .int .i64 (parS s).2.1, .int .i64 (parS s).2.2]) ∧ ProgAt w' w'.heap.size v (parS s).1) ∧ Below w.heap.size w w' := by
  refine ((ParseR_a s hs).2 (fun _ => False) w #[str s] (fun k h => h.elim) rfl one_str).mono fun e w' ⟨r, h1, h2, h3⟩ => ⟨?_, h2⟩
  obtain ⟨us, rfl, hl, hh⟩ := rep_u h3
  match us, hl, hh with
  | ⟨[v, n, e']⟩, _, hh =>
    have h4 := hh 0 _ rfl v rfl
    have h5 := rep_v (hh 1 _ rfl n rfl)
    have h6 := rep_v (hh 2 _ rfl e' rfl)
    subst h5 h6
    refine ⟨v, h1, ?_⟩
    cases h4 with
    | c h4 _ => cases h4 with | im h4 => exact progAt_of h4
theorem DecodeR_calls (s : B) (hs : s.length ≤ 9223372036854775000) (w : World) :
    Calls Tryz.prog 14 #[str s] w fun e w' => (∃ v, e = .returned (.tuple #[v, .int .i64 (decS s).2]) ∧ ProgAt w' w'.heap.size v (decS s).1) ∧ Below w.heap.size w w' := by
  refine ((DecodeR_a s hs).2 (fun _ => False) w #[str s] (fun k h => h.elim) rfl one_str).mono fun e w' ⟨r, h1, h2, h3⟩ => ⟨?_, h2⟩
  obtain ⟨us, rfl, hl, hh⟩ := rep_u h3
  match us, hl, hh with
  | ⟨[v, e']⟩, _, hh =>
    have h4 := hh 0 _ rfl v rfl
    have h6 := rep_v (hh 1 _ rfl e' rfl)
    subst h6
    refine ⟨v, h1, ?_⟩
    cases h4 with
    | c h4 _ => cases h4 with | im h4 => exact progAt_of h4
end Go.Proofs.YtedkfipjooafeaaGreatDoor.Ab
set_option linter.unusedSimpArgs false
set_option linter.unusedVariables false
namespace Go.Proofs.YtedkfipjooafeaaGreatDoor.Code
open Go Go.RowKit Go.Proofs.YtedkfipjooafeaaGreatDoor Go.Proofs.YtedkfipjooafeaaGreatDoor.Op Go.Proofs.YtedkfipjooafeaaGreatDoor.Wire

section
variable {w : World} {v u : Value} {p q : Pg}
theorem mayR_at {b : Bool} (h : ProgAt w w.heap.size v p) (hf : Fine p) (hb : mayP p = b) : ∀ W, Below w.heap.size w W → Calls Tryz.prog 16 #[v] W fun e w' => e = .returned (.bool b) ∧ Below W.heap.size W w' :=
  fun W hW => by subst hb; exact MayP_calls p v W (h.stays W hW) (by have := hf.1; omega) (fun f hm => by have := hf.2 f hm; omega)
theorem textR_at {t : B} (h : ProgAt w w.heap.size v p) (hf : Fine p) (ht : textP p = t) : ∀ W, Below w.heap.size w W → Calls Tryz.prog 18 #[v] W fun e w' => e = .returned (str t) ∧ Below W.heap.size W w' :=
  fun W hW => by subst ht; exact TextR_calls p v W (h.stays W hW) (by have := hf.1; omega) (fun f hm => by have := hf.2 f hm; omega)
theorem encR_at {t : B} (h : ProgAt w w.heap.size v p) (hf : Fine p) (ht : encP p = t) : ∀ W, Below w.heap.size w W → Calls Tryz.prog 20 #[v] W fun e w' => e = .returned (str t) ∧ Below W.heap.size W w' :=
  fun W hW => by subst ht; exact EncodeR_calls p v W (h.stays W hW) (by have := hf.1; omega) (fun f hm => by have := hf.2 f hm; omega)
theorem digR_at {d : Nat} (h : ProgAt w w.heap.size v p) (hf : Fine p) (hd : Crc.crcOf (encP p) = d) : ∀ W, Below w.heap.size w W → Calls Tryz.prog 22 #[v] W fun e w' => e = .returned (.int .i64 d) ∧ Below W.heap.size W w' :=
  fun W hW => by subst hd; exact DigestR_calls p v W (h.stays W hW) (by have := hf.1; omega) (fun f hm => by have := hf.2 f hm; omega)
theorem sameR_at {b : Bool} (h : ProgAt w w.heap.size v p) (h' : ProgAt w w.heap.size u q) (hf : Fine p) (hf' : Fine q) (hb : decide (p = q) = b) : ∀ W, Below w.heap.size w W → Calls Tryz.prog 23 #[v, u] W fun e w' => e = .returned (.bool b) ∧ Below W.heap.size W w' :=
  fun W hW => by subst hb; exact Ab.SameR_calls p q v u W (h.stays W hW) (h'.stays W hW) hf.1 hf'.1 hf.2 hf'.2
theorem parseR_at {s : B} {x : Pg × Nat × Int} (hs : s.length < 4294967280) (hx : parS s = x) : ∀ W, Calls Tryz.prog 12 #[str s] W fun e w' => (∃ v, e = .returned (.tuple #[v, .int .i64 x.2.1, .int .i64 x.2.2]) ∧ ProgAt w' w'.heap.size v x.1) ∧ Below W.heap.size W w' :=
  fun W => by subst hx; exact Ab.ParseR_calls s (by omega) W
theorem decR_at {s : B} {x : Pg × Int} (hs : s.length ≤ 9223372036854775000) (hx : decS s = x) : ∀ W, Calls Tryz.prog 14 #[str s] W fun r w' => (∃ v, r = .returned (.tuple #[v, .int .i64 x.2]) ∧ ProgAt w' w'.heap.size v x.1) ∧ Below W.heap.size W w' :=
  fun W => by subst hx; exact Ab.DecodeR_calls s hs W
end
theorem fine_nil : Fine [] := ⟨by simp, by simp⟩
set_option maxRecDepth 100000 in
set_option maxHeartbeats 16000000 in
theorem tells_walk (p : Pg) (v : Value) (s b : B) (w : World) (hg : Glob w) (h8 : 8 ≤ w.heap.size) (hp : ProgAt w w.heap.size v p) (hf : Fine p) (hs : s.length ≤ 9223372036854775000) (hb : b.length ≤ 9223372036854775000) :
    Calls Tryz.prog 3 #[v, str s, str b] w fun e w' => e = .returned (.bool true) ∧ Below w.heap.size w w' := by
  have FX := Lib.hid (fixed_at hg h8)
  obtain ⟨A, c, rfl⟩ := hp.form
  have HG := Lib.hid hg
  have HF := Lib.hid hf
  obtain ⟨sm, hsm⟩ : ∃ x, smallP p 300 = x := ⟨_, rfl⟩
  have SM := Lib.hid (small_at hp hf hsm)
  obtain ⟨tp, htp⟩ : ∃ x, textP p = x := ⟨_, rfl⟩
  obtain ⟨ep, hep⟩ : ∃ x, encP p = x := ⟨_, rfl⟩
  obtain ⟨mp, hmp⟩ : ∃ x, mayP p = x := ⟨_, rfl⟩
  obtain ⟨dp, hdp⟩ : ∃ x, Crc.crcOf (encP p) = x := ⟨_, rfl⟩
  have MP := Lib.hid (may_at hp hf hmp)
  have MR := Lib.hid (mayR_at hp hf hmp)
  have TP := Lib.hid (text_at hp hf hg h8 htp)
  have TR := Lib.hid (textR_at hp hf htp)
  have EP := Lib.hid (enc_at hp hf hep)
  have ER := Lib.hid (encR_at hp hf hep)
  have DP := Lib.hid (dig_at hp hf hdp)
  have DRR := Lib.hid (digR_at hp hf hdp)
  have HP := Lib.hid hp
  clear hp hg hf hsm htp hep hmp hdp
  cases sm
  ·
    go_enter Tryz.func3, Tryz.ntmps3
    go_wp2_with (first | (go_at_call 10; (with_reducible refine (FX.out _ (by (repeat (first | (with_reducible assumption) | (with_reducible exact Below.refl _ _) | (with_reducible refine grow_alloc ?_ _) | (with_reducible refine grow_mix ?_ _) | (with_reducible refine grow_drew ?_) | (with_reducible refine grow_drewN ?_ _) | (with_reducible refine grow_set ?_ (by first | (simp; done) | (simp; omega) | omega) _))))).mono ?_); rintro e w' ⟨rfl, hb⟩; have hz := hb.size; (first | (obtain ⟨x1, rfl⟩ := to_mix2 hb) | (obtain ⟨x1, rfl⟩ := to_mix hb)); clear hb; (try simp only [World.size_alloc, World.size_setCell, World.size_drew] at hz); (try have q0 : w.heap.size < _ := Nat.lt_of_lt_of_le (by omega) hz); (try have q1 : w.heap.size + 1 < _ := Nat.lt_of_lt_of_le (by omega) hz); (try have q2 : w.heap.size + 1 + 1 < _ := Nat.lt_of_lt_of_le (by omega) hz); (try have q3 : w.heap.size + 1 + 1 + 1 < _ := Nat.lt_of_lt_of_le (by omega) hz)) | (go_at_call 9; (with_reducible refine (SM.out _ (by (repeat (first | (with_reducible assumption) | (with_reducible exact Below.refl _ _) | (with_reducible refine grow_alloc ?_ _) | (with_reducible refine grow_mix ?_ _) | (with_reducible refine grow_drew ?_) | (with_reducible refine grow_drewN ?_ _) | (with_reducible refine grow_set ?_ (by first | (simp; done) | (simp; omega) | omega) _))))).mono ?_); rintro e w' ⟨rfl, hb⟩; have hz := hb.size; (first | (obtain ⟨x1, rfl⟩ := to_mix2 hb) | (obtain ⟨x1, rfl⟩ := to_mix hb)); clear hb; (try simp only [World.size_alloc, World.size_setCell, World.size_drew] at hz); (try have q0 : w.heap.size < _ := Nat.lt_of_lt_of_le (by omega) hz); (try have q1 : w.heap.size + 1 < _ := Nat.lt_of_lt_of_le (by omega) hz); (try have q2 : w.heap.size + 1 + 1 < _ := Nat.lt_of_lt_of_le (by omega) hz); (try have q3 : w.heap.size + 1 + 1 + 1 < _ := Nat.lt_of_lt_of_le (by omega) hz)))
    go_ret
    exact ⟨rfl, by (repeat (first | (with_reducible assumption) | (with_reducible exact Below.refl _ _) | (with_reducible refine grow_alloc ?_ _) | (with_reducible refine grow_mix ?_ _) | (with_reducible refine grow_drew ?_) | (with_reducible refine grow_drewN ?_ _) | (with_reducible refine grow_set ?_ (by first | (simp; done) | (simp; omega) | omega) _)))⟩
  by_cases hs15 : 1500 < s.length
  ·
    go_enter Tryz.func3, Tryz.ntmps3
    go_wp2_with (first | (go_at_call 10; (with_reducible refine (FX.out _ (by (repeat (first | (with_reducible assumption) | (with_reducible exact Below.refl _ _) | (with_reducible refine grow_alloc ?_ _) | (with_reducible refine grow_mix ?_ _) | (with_reducible refine grow_drew ?_) | (with_reducible refine grow_drewN ?_ _) | (with_reducible refine grow_set ?_ (by first | (simp; done) | (simp; omega) | omega) _))))).mono ?_); rintro e w' ⟨rfl, hb⟩; have hz := hb.size; (first | (obtain ⟨x1, rfl⟩ := to_mix2 hb) | (obtain ⟨x1, rfl⟩ := to_mix hb)); clear hb; (try simp only [World.size_alloc, World.size_setCell, World.size_drew] at hz); (try have q0 : w.heap.size < _ := Nat.lt_of_lt_of_le (by omega) hz); (try have q1 : w.heap.size + 1 < _ := Nat.lt_of_lt_of_le (by omega) hz); (try have q2 : w.heap.size + 1 + 1 < _ := Nat.lt_of_lt_of_le (by omega) hz); (try have q3 : w.heap.size + 1 + 1 + 1 < _ := Nat.lt_of_lt_of_le (by omega) hz)) | (go_at_call 9; (with_reducible refine (SM.out _ (by (repeat (first | (with_reducible assumption) | (with_reducible exact Below.refl _ _) | (with_reducible refine grow_alloc ?_ _) | (with_reducible refine grow_mix ?_ _) | (with_reducible refine grow_drew ?_) | (with_reducible refine grow_drewN ?_ _) | (with_reducible refine grow_set ?_ (by first | (simp; done) | (simp; omega) | omega) _))))).mono ?_); rintro e w' ⟨rfl, hb⟩; have hz := hb.size; (first | (obtain ⟨x1, rfl⟩ := to_mix2 hb) | (obtain ⟨x1, rfl⟩ := to_mix hb)); clear hb; (try simp only [World.size_alloc, World.size_setCell, World.size_drew] at hz); (try have q0 : w.heap.size < _ := Nat.lt_of_lt_of_le (by omega) hz); (try have q1 : w.heap.size + 1 < _ := Nat.lt_of_lt_of_le (by omega) hz); (try have q2 : w.heap.size + 1 + 1 < _ := Nat.lt_of_lt_of_le (by omega) hz); (try have q3 : w.heap.size + 1 + 1 + 1 < _ := Nat.lt_of_lt_of_le (by omega) hz)))
    go_ret
    exact ⟨rfl, by (repeat (first | (with_reducible assumption) | (with_reducible exact Below.refl _ _) | (with_reducible refine grow_alloc ?_ _) | (with_reducible refine grow_mix ?_ _) | (with_reducible refine grow_drew ?_) | (with_reducible refine grow_drewN ?_ _) | (with_reducible refine grow_set ?_ (by first | (simp; done) | (simp; omega) | omega) _)))⟩
  by_cases hs14 : 300 < b.length
  ·
    go_enter Tryz.func3, Tryz.ntmps3
    go_wp2_with (first | (go_at_call 10; (with_reducible refine (FX.out _ (by (repeat (first | (with_reducible assumption) | (with_reducible exact Below.refl _ _) | (with_reducible refine grow_alloc ?_ _) | (with_reducible refine grow_mix ?_ _) | (with_reducible refine grow_drew ?_) | (with_reducible refine grow_drewN ?_ _) | (with_reducible refine grow_set ?_ (by first | (simp; done) | (simp; omega) | omega) _))))).mono ?_); rintro e w' ⟨rfl, hb⟩; have hz := hb.size; (first | (obtain ⟨x1, rfl⟩ := to_mix2 hb) | (obtain ⟨x1, rfl⟩ := to_mix hb)); clear hb; (try simp only [World.size_alloc, World.size_setCell, World.size_drew] at hz); (try have q0 : w.heap.size < _ := Nat.lt_of_lt_of_le (by omega) hz); (try have q1 : w.heap.size + 1 < _ := Nat.lt_of_lt_of_le (by omega) hz); (try have q2 : w.heap.size + 1 + 1 < _ := Nat.lt_of_lt_of_le (by omega) hz); (try have q3 : w.heap.size + 1 + 1 + 1 < _ := Nat.lt_of_lt_of_le (by omega) hz)) | (go_at_call 9; (with_reducible refine (SM.out _ (by (repeat (first | (with_reducible assumption) | (with_reducible exact Below.refl _ _) | (with_reducible refine grow_alloc ?_ _) | (with_reducible refine grow_mix ?_ _) | (with_reducible refine grow_drew ?_) | (with_reducible refine grow_drewN ?_ _) | (with_reducible refine grow_set ?_ (by first | (simp; done) | (simp; omega) | omega) _))))).mono ?_); rintro e w' ⟨rfl, hb⟩; have hz := hb.size; (first | (obtain ⟨x1, rfl⟩ := to_mix2 hb) | (obtain ⟨x1, rfl⟩ := to_mix hb)); clear hb; (try simp only [World.size_alloc, World.size_setCell, World.size_drew] at hz); (try have q0 : w.heap.size < _ := Nat.lt_of_lt_of_le (by omega) hz); (try have q1 : w.heap.size + 1 < _ := Nat.lt_of_lt_of_le (by omega) hz); (try have q2 : w.heap.size + 1 + 1 < _ := Nat.lt_of_lt_of_le (by omega) hz); (try have q3 : w.heap.size + 1 + 1 + 1 < _ := Nat.lt_of_lt_of_le (by omega) hz)))
    go_ret
    exact ⟨rfl, by (repeat (first | (with_reducible assumption) | (with_reducible exact Below.refl _ _) | (with_reducible refine grow_alloc ?_ _) | (with_reducible refine grow_mix ?_ _) | (with_reducible refine grow_drew ?_) | (with_reducible refine grow_drewN ?_ _) | (with_reducible refine grow_set ?_ (by first | (simp; done) | (simp; omega) | omega) _)))⟩
  have hs' : s.length ≤ 1500 := by omega
  have hb' : b.length ≤ 300 := by omega
  have hbase : ∀ W, Below w.heap.size w W → Glob W ∧ 8 ≤ W.heap.size := fun W hW => ⟨HG.out.base hW h8, Nat.le_trans h8 hW.size⟩
  have HB := Lib.hid hbase
  clear hbase
  have key : ∀ (q : Pg) (n : Nat) (x : Int) (d : Pg) (y : Int), parS s = (q, n, x) → decS b = (d, y) → Fine q → Fine d →
      Calls Tryz.prog 3 #[.slice A p.length c, str s, str b] w fun e w' => e = .returned (.bool true) ∧ Below w.heap.size w w' := by
    intro q n x d y hpar hdec hx hy
    obtain ⟨is, his⟩ : ∃ x, decide (p = q) = x := ⟨_, rfl⟩
    have PA := Lib.hid (parse_at (HB.out w (Below.refl _ _)).1 h8 (by omega) hpar)
    have PR := Lib.hid (parseR_at (by omega) hpar)
    have DE := Lib.hid (dec_at (by omega) hdec)
    have DR := Lib.hid (decR_at (by omega) hdec)
    have HQ := Lib.hid (And.intro hx hy)
    clear hpar hdec hx hy
    have HI := Lib.hid his
    clear his
    go_enter Tryz.func3, Tryz.ntmps3
    go_wp2_with (first | (go_at_call 10; (with_reducible refine (FX.out _ (by (repeat (first | (with_reducible assumption) | (with_reducible exact Below.refl _ _) | (with_reducible refine grow_alloc ?_ _) | (with_reducible refine grow_mix ?_ _) | (with_reducible refine grow_drew ?_) | (with_reducible refine grow_drewN ?_ _) | (with_reducible refine grow_set ?_ (by first | (simp; done) | (simp; omega) | omega) _))))).mono ?_); rintro e w' ⟨rfl, hb⟩; have hz := hb.size; (first | (obtain ⟨x1, rfl⟩ := to_mix2 hb) | (obtain ⟨x1, rfl⟩ := to_mix hb)); clear hb; (try simp only [World.size_alloc, World.size_setCell, World.size_drew] at hz); (try have q0 : w.heap.size < _ := Nat.lt_of_lt_of_le (by omega) hz); (try have q1 : w.heap.size + 1 < _ := Nat.lt_of_lt_of_le (by omega) hz); (try have q2 : w.heap.size + 1 + 1 < _ := Nat.lt_of_lt_of_le (by omega) hz); (try have q3 : w.heap.size + 1 + 1 + 1 < _ := Nat.lt_of_lt_of_le (by omega) hz)) | (go_at_call 9; (with_reducible refine (SM.out _ (by (repeat (first | (with_reducible assumption) | (with_reducible exact Below.refl _ _) | (with_reducible refine grow_alloc ?_ _) | (with_reducible refine grow_mix ?_ _) | (with_reducible refine grow_drew ?_) | (with_reducible refine grow_drewN ?_ _) | (with_reducible refine grow_set ?_ (by first | (simp; done) | (simp; omega) | omega) _))))).mono ?_); rintro e w' ⟨rfl, hb⟩; have hz := hb.size; (first | (obtain ⟨x1, rfl⟩ := to_mix2 hb) | (obtain ⟨x1, rfl⟩ := to_mix hb)); clear hb; (try simp only [World.size_alloc, World.size_setCell, World.size_drew] at hz); (try have q0 : w.heap.size < _ := Nat.lt_of_lt_of_le (by omega) hz); (try have q1 : w.heap.size + 1 < _ := Nat.lt_of_lt_of_le (by omega) hz); (try have q2 : w.heap.size + 1 + 1 < _ := Nat.lt_of_lt_of_le (by omega) hz); (try have q3 : w.heap.size + 1 + 1 + 1 < _ := Nat.lt_of_lt_of_le (by omega) hz)) | (go_at_call 11; (with_reducible refine (PA.out _ (by (repeat (first | (with_reducible assumption) | (with_reducible exact Below.refl _ _) | (with_reducible refine grow_alloc ?_ _) | (with_reducible refine grow_mix ?_ _) | (with_reducible refine grow_drew ?_) | (with_reducible refine grow_drewN ?_ _) | (with_reducible refine grow_set ?_ (by first | (simp; done) | (simp; omega) | omega) _))))).mono ?_); rintro e w1 ⟨⟨v1, rfl, hp1, hcap⟩, hb⟩; have hw_w1 : Below w.heap.size w w1 := ((show Below w.heap.size w _ by (repeat (first | (with_reducible assumption) | (with_reducible exact Below.refl _ _) | (with_reducible refine grow_alloc ?_ _) | (with_reducible refine grow_mix ?_ _) | (with_reducible refine grow_drew ?_) | (with_reducible refine grow_drewN ?_ _) | (with_reducible refine grow_set ?_ (by first | (simp; done) | (simp; omega) | omega) _))))).trans (hb.mono (Below.size (show Below w.heap.size w _ by (repeat (first | (with_reducible assumption) | (with_reducible exact Below.refl _ _) | (with_reducible refine grow_alloc ?_ _) | (with_reducible refine grow_mix ?_ _) | (with_reducible refine grow_drew ?_) | (with_reducible refine grow_drewN ?_ _) | (with_reducible refine grow_set ?_ (by first | (simp; done) | (simp; omega) | omega) _)))))); clear hcap; obtain ⟨A1, c1, rfl⟩ := hp1.form; have hz_w1 := hw_w1.size; have HP1 := Lib.hid hp1; have S3 := Lib.hid (same_at (p := p) (q := q) (HP.out.stays _ hw_w1) hp1 HF.out HQ.out.1 HI.out); have S4 := Lib.hid (sameR_at (p := p) (q := q) (HP.out.stays _ hw_w1) hp1 HF.out HQ.out.1 HI.out); clear hp1 hb) | (go_at_call 12; (with_reducible refine (PR.out _).mono ?_); rintro e w2 ⟨⟨v2, rfl, hp2⟩, hb⟩; have hw_w2 : Below w.heap.size w w2 := ((show Below w.heap.size w _ by (repeat (first | (with_reducible assumption) | (with_reducible exact Below.refl _ _) | (with_reducible refine grow_alloc ?_ _) | (with_reducible refine grow_mix ?_ _) | (with_reducible refine grow_drew ?_) | (with_reducible refine grow_drewN ?_ _) | (with_reducible refine grow_set ?_ (by first | (simp; done) | (simp; omega) | omega) _))))).trans (hb.mono (Below.size (show Below w.heap.size w _ by (repeat (first | (with_reducible assumption) | (with_reducible exact Below.refl _ _) | (with_reducible refine grow_alloc ?_ _) | (with_reducible refine grow_mix ?_ _) | (with_reducible refine grow_drew ?_) | (with_reducible refine grow_drewN ?_ _) | (with_reducible refine grow_set ?_ (by first | (simp; done) | (simp; omega) | omega) _)))))); obtain ⟨A2, c2, rfl⟩ := hp2.form; have hw_12 : Below w1.heap.size w1 w2 := hb; have S1 := Lib.hid (sameR_at (p := q) (q := q) (HP1.out.stays _ hw_12) hp2 HQ.out.1 HQ.out.1 (decide_eq_true rfl)); have hz_w2 := hw_w2.size; have hz_12 := hw_12.size; clear hp2 hb) | (go_at_call 13; (with_reducible refine (DE.out _).mono ?_); rintro e w3 ⟨⟨v3, rfl, hp3⟩, hb⟩; have hw_w3 : Below w.heap.size w w3 := ((show Below w.heap.size w _ by (repeat (first | (with_reducible assumption) | (with_reducible exact Below.refl _ _) | (with_reducible refine grow_alloc ?_ _) | (with_reducible refine grow_mix ?_ _) | (with_reducible refine grow_drew ?_) | (with_reducible refine grow_drewN ?_ _) | (with_reducible refine grow_set ?_ (by first | (simp; done) | (simp; omega) | omega) _))))).trans (hb.mono (Below.size (show Below w.heap.size w _ by (repeat (first | (with_reducible assumption) | (with_reducible exact Below.refl _ _) | (with_reducible refine grow_alloc ?_ _) | (with_reducible refine grow_mix ?_ _) | (with_reducible refine grow_drew ?_) | (with_reducible refine grow_drewN ?_ _) | (with_reducible refine grow_set ?_ (by first | (simp; done) | (simp; omega) | omega) _)))))); obtain ⟨A3, c3, rfl⟩ := hp3.form; have hw_23 : Below w2.heap.size w2 w3 := hb; have hw_13 : Below w1.heap.size w1 w3 := hw_12.trans (hw_23.mono hw_12.size); have hz_w3 := hw_w3.size; have hz_23 := hw_23.size; have hz_13 := hw_13.size; have HP3 := Lib.hid hp3; clear hp3 hb) | (go_at_call 14; (with_reducible refine (DR.out _).mono ?_); rintro e w4 ⟨⟨v4, rfl, hp4⟩, hb⟩; have hw_w4 : Below w.heap.size w w4 := ((show Below w.heap.size w _ by (repeat (first | (with_reducible assumption) | (with_reducible exact Below.refl _ _) | (with_reducible refine grow_alloc ?_ _) | (with_reducible refine grow_mix ?_ _) | (with_reducible refine grow_drew ?_) | (with_reducible refine grow_drewN ?_ _) | (with_reducible refine grow_set ?_ (by first | (simp; done) | (simp; omega) | omega) _))))).trans (hb.mono (Below.size (show Below w.heap.size w _ by (repeat (first | (with_reducible assumption) | (with_reducible exact Below.refl _ _) | (with_reducible refine grow_alloc ?_ _) | (with_reducible refine grow_mix ?_ _) | (with_reducible refine grow_drew ?_) | (with_reducible refine grow_drewN ?_ _) | (with_reducible refine grow_set ?_ (by first | (simp; done) | (simp; omega) | omega) _)))))); obtain ⟨A4, c4, rfl⟩ := hp4.form; have hw_34 : Below w3.heap.size w3 w4 := hb; have hw_24 : Below w2.heap.size w2 w4 := hw_23.trans (hw_34.mono hw_23.size); have hw_14 : Below w1.heap.size w1 w4 := hw_13.trans (hw_34.mono hw_13.size); have S2 := Lib.hid (sameR_at (p := d) (q := d) (HP3.out.stays _ hw_34) hp4 HQ.out.2 HQ.out.2 (decide_eq_true rfl)); have hz_w4 := hw_w4.size; have hz_34 := hw_34.size; have hz_24 := hw_24.size; have hz_14 := hw_14.size; clear hp4 hb) | (go_at_call 15; (with_reducible refine (MP.out _ (by (repeat (first | (with_reducible assumption) | (with_reducible exact Below.refl _ _) | (with_reducible refine grow_alloc ?_ _) | (with_reducible refine grow_mix ?_ _) | (with_reducible refine grow_drew ?_) | (with_reducible refine grow_drewN ?_ _) | (with_reducible refine grow_set ?_ (by first | (simp; done) | (simp; omega) | omega) _))))).mono ?_); rintro e w' ⟨rfl, hb⟩; have hz := hb.size; (first | (obtain ⟨x1, rfl⟩ := to_mix2 hb) | (obtain ⟨x1, rfl⟩ := to_mix hb)); clear hb; (try simp only [World.size_alloc, World.size_setCell, World.size_drew] at hz); (try have q0 : w.heap.size < _ := Nat.lt_of_lt_of_le (by omega) hz); (try have q1 : w.heap.size + 1 < _ := Nat.lt_of_lt_of_le (by omega) hz); (try have q2 : w.heap.size + 1 + 1 < _ := Nat.lt_of_lt_of_le (by omega) hz); (try have q3 : w.heap.size + 1 + 1 + 1 < _ := Nat.lt_of_lt_of_le (by omega) hz)) | (go_at_call 16; (with_reducible refine (MR.out _ (by (repeat (first | (with_reducible assumption) | (with_reducible exact Below.refl _ _) | (with_reducible refine grow_alloc ?_ _) | (with_reducible refine grow_mix ?_ _) | (with_reducible refine grow_drew ?_) | (with_reducible refine grow_drewN ?_ _) | (with_reducible refine grow_set ?_ (by first | (simp; done) | (simp; omega) | omega) _))))).mono ?_); rintro e w' ⟨rfl, hb⟩; have hz := hb.size; (first | (obtain ⟨x1, rfl⟩ := to_mix2 hb) | (obtain ⟨x1, rfl⟩ := to_mix hb)); clear hb; (try simp only [World.size_alloc, World.size_setCell, World.size_drew] at hz); (try have q0 : w.heap.size < _ := Nat.lt_of_lt_of_le (by omega) hz); (try have q1 : w.heap.size + 1 < _ := Nat.lt_of_lt_of_le (by omega) hz); (try have q2 : w.heap.size + 1 + 1 < _ := Nat.lt_of_lt_of_le (by omega) hz); (try have q3 : w.heap.size + 1 + 1 + 1 < _ := Nat.lt_of_lt_of_le (by omega) hz)) | (go_at_call 17; (with_reducible refine (TP.out _ (by (repeat (first | (with_reducible assumption) | (with_reducible exact Below.refl _ _) | (with_reducible refine grow_alloc ?_ _) | (with_reducible refine grow_mix ?_ _) | (with_reducible refine grow_drew ?_) | (with_reducible refine grow_drewN ?_ _) | (with_reducible refine grow_set ?_ (by first | (simp; done) | (simp; omega) | omega) _))))).mono ?_); rintro e w' ⟨rfl, hb⟩; have hz := hb.size; (first | (obtain ⟨x1, rfl⟩ := to_mix2 hb) | (obtain ⟨x1, rfl⟩ := to_mix hb)); clear hb; (try simp only [World.size_alloc, World.size_setCell, World.size_drew] at hz); (try have q0 : w.heap.size < _ := Nat.lt_of_lt_of_le (by omega) hz); (try have q1 : w.heap.size + 1 < _ := Nat.lt_of_lt_of_le (by omega) hz); (try have q2 : w.heap.size + 1 + 1 < _ := Nat.lt_of_lt_of_le (by omega) hz); (try have q3 : w.heap.size + 1 + 1 + 1 < _ := Nat.lt_of_lt_of_le (by omega) hz)) | (go_at_call 18; (with_reducible refine (TR.out _ (by (repeat (first | (with_reducible assumption) | (with_reducible exact Below.refl _ _) | (with_reducible refine grow_alloc ?_ _) | (with_reducible refine grow_mix ?_ _) | (with_reducible refine grow_drew ?_) | (with_reducible refine grow_drewN ?_ _) | (with_reducible refine grow_set ?_ (by first | (simp; done) | (simp; omega) | omega) _))))).mono ?_); rintro e w' ⟨rfl, hb⟩; have hz := hb.size; (first | (obtain ⟨x1, rfl⟩ := to_mix2 hb) | (obtain ⟨x1, rfl⟩ := to_mix hb)); clear hb; (try simp only [World.size_alloc, World.size_setCell, World.size_drew] at hz); (try have q0 : w.heap.size < _ := Nat.lt_of_lt_of_le (by omega) hz); (try have q1 : w.heap.size + 1 < _ := Nat.lt_of_lt_of_le (by omega) hz); (try have q2 : w.heap.size + 1 + 1 < _ := Nat.lt_of_lt_of_le (by omega) hz); (try have q3 : w.heap.size + 1 + 1 + 1 < _ := Nat.lt_of_lt_of_le (by omega) hz)) | (go_at_call 19; (with_reducible refine (EP.out _ (by (repeat (first | (with_reducible assumption) | (with_reducible exact Below.refl _ _) | (with_reducible refine grow_alloc ?_ _) | (with_reducible refine grow_mix ?_ _) | (with_reducible refine grow_drew ?_) | (with_reducible refine grow_drewN ?_ _) | (with_reducible refine grow_set ?_ (by first | (simp; done) | (simp; omega) | omega) _))))).mono ?_); rintro e w' ⟨rfl, hb⟩; have hz := hb.size; (first | (obtain ⟨x1, rfl⟩ := to_mix2 hb) | (obtain ⟨x1, rfl⟩ := to_mix hb)); clear hb; (try simp only [World.size_alloc, World.size_setCell, World.size_drew] at hz); (try have q0 : w.heap.size < _ := Nat.lt_of_lt_of_le (by omega) hz); (try have q1 : w.heap.size + 1 < _ := Nat.lt_of_lt_of_le (by omega) hz); (try have q2 : w.heap.size + 1 + 1 < _ := Nat.lt_of_lt_of_le (by omega) hz); (try have q3 : w.heap.size + 1 + 1 + 1 < _ := Nat.lt_of_lt_of_le (by omega) hz)) | (go_at_call 20; (with_reducible refine (ER.out _ (by (repeat (first | (with_reducible assumption) | (with_reducible exact Below.refl _ _) | (with_reducible refine grow_alloc ?_ _) | (with_reducible refine grow_mix ?_ _) | (with_reducible refine grow_drew ?_) | (with_reducible refine grow_drewN ?_ _) | (with_reducible refine grow_set ?_ (by first | (simp; done) | (simp; omega) | omega) _))))).mono ?_); rintro e w' ⟨rfl, hb⟩; have hz := hb.size; (first | (obtain ⟨x1, rfl⟩ := to_mix2 hb) | (obtain ⟨x1, rfl⟩ := to_mix hb)); clear hb; (try simp only [World.size_alloc, World.size_setCell, World.size_drew] at hz); (try have q0 : w.heap.size < _ := Nat.lt_of_lt_of_le (by omega) hz); (try have q1 : w.heap.size + 1 < _ := Nat.lt_of_lt_of_le (by omega) hz); (try have q2 : w.heap.size + 1 + 1 < _ := Nat.lt_of_lt_of_le (by omega) hz); (try have q3 : w.heap.size + 1 + 1 + 1 < _ := Nat.lt_of_lt_of_le (by omega) hz)) | (go_at_call 21; (with_reducible refine (DP.out _ (by (repeat (first | (with_reducible assumption) | (with_reducible exact Below.refl _ _) | (with_reducible refine grow_alloc ?_ _) | (with_reducible refine grow_mix ?_ _) | (with_reducible refine grow_drew ?_) | (with_reducible refine grow_drewN ?_ _) | (with_reducible refine grow_set ?_ (by first | (simp; done) | (simp; omega) | omega) _))))).mono ?_); rintro e w' ⟨rfl, hb⟩; have hz := hb.size; (first | (obtain ⟨x1, rfl⟩ := to_mix2 hb) | (obtain ⟨x1, rfl⟩ := to_mix hb)); clear hb; (try simp only [World.size_alloc, World.size_setCell, World.size_drew] at hz); (try have q0 : w.heap.size < _ := Nat.lt_of_lt_of_le (by omega) hz); (try have q1 : w.heap.size + 1 < _ := Nat.lt_of_lt_of_le (by omega) hz); (try have q2 : w.heap.size + 1 + 1 < _ := Nat.lt_of_lt_of_le (by omega) hz); (try have q3 : w.heap.size + 1 + 1 + 1 < _ := Nat.lt_of_lt_of_le (by omega) hz)) | (go_at_call 22; (with_reducible refine (DRR.out _ (by (repeat (first | (with_reducible assumption) | (with_reducible exact Below.refl _ _) | (with_reducible refine grow_alloc ?_ _) | (with_reducible refine grow_mix ?_ _) | (with_reducible refine grow_drew ?_) | (with_reducible refine grow_drewN ?_ _) | (with_reducible refine grow_set ?_ (by first | (simp; done) | (simp; omega) | omega) _))))).mono ?_); rintro e w' ⟨rfl, hb⟩; have hz := hb.size; (first | (obtain ⟨x1, rfl⟩ := to_mix2 hb) | (obtain ⟨x1, rfl⟩ := to_mix hb)); clear hb; (try simp only [World.size_alloc, World.size_setCell, World.size_drew] at hz); (try have q0 : w.heap.size < _ := Nat.lt_of_lt_of_le (by omega) hz); (try have q1 : w.heap.size + 1 < _ := Nat.lt_of_lt_of_le (by omega) hz); (try have q2 : w.heap.size + 1 + 1 < _ := Nat.lt_of_lt_of_le (by omega) hz); (try have q3 : w.heap.size + 1 + 1 + 1 < _ := Nat.lt_of_lt_of_le (by omega) hz)) | (go_at_call 23; (with_reducible refine (S1.out _ (by (repeat (first | (with_reducible assumption) | (with_reducible exact Below.refl _ _) | (with_reducible refine grow_alloc ?_ _) | (with_reducible refine grow_mix ?_ _) | (with_reducible refine grow_drew ?_) | (with_reducible refine grow_drewN ?_ _) | (with_reducible refine grow_set ?_ (by first | (simp; done) | (simp; omega) | omega) _))))).mono ?_); rintro e w' ⟨rfl, hb⟩; have hz := hb.size; (first | (obtain ⟨x1, rfl⟩ := to_mix2 hb) | (obtain ⟨x1, rfl⟩ := to_mix hb)); clear hb; (try simp only [World.size_alloc, World.size_setCell, World.size_drew] at hz); (try have q0 : w.heap.size < _ := Nat.lt_of_lt_of_le (by omega) hz); (try have q1 : w.heap.size + 1 < _ := Nat.lt_of_lt_of_le (by omega) hz); (try have q2 : w.heap.size + 1 + 1 < _ := Nat.lt_of_lt_of_le (by omega) hz); (try have q3 : w.heap.size + 1 + 1 + 1 < _ := Nat.lt_of_lt_of_le (by omega) hz)) | (go_at_call 23; (with_reducible refine (S2.out _ (by (repeat (first | (with_reducible assumption) | (with_reducible exact Below.refl _ _) | (with_reducible refine grow_alloc ?_ _) | (with_reducible refine grow_mix ?_ _) | (with_reducible refine grow_drew ?_) | (with_reducible refine grow_drewN ?_ _) | (with_reducible refine grow_set ?_ (by first | (simp; done) | (simp; omega) | omega) _))))).mono ?_); rintro e w' ⟨rfl, hb⟩; have hz := hb.size; (first | (obtain ⟨x1, rfl⟩ := to_mix2 hb) | (obtain ⟨x1, rfl⟩ := to_mix hb)); clear hb; (try simp only [World.size_alloc, World.size_setCell, World.size_drew] at hz); (try have q0 : w.heap.size < _ := Nat.lt_of_lt_of_le (by omega) hz); (try have q1 : w.heap.size + 1 < _ := Nat.lt_of_lt_of_le (by omega) hz); (try have q2 : w.heap.size + 1 + 1 < _ := Nat.lt_of_lt_of_le (by omega) hz); (try have q3 : w.heap.size + 1 + 1 + 1 < _ := Nat.lt_of_lt_of_le (by omega) hz)) | (go_at_call 24; (with_reducible refine (S3.out _ (by (repeat (first | (with_reducible assumption) | (with_reducible exact Below.refl _ _) | (with_reducible refine grow_alloc ?_ _) | (with_reducible refine grow_mix ?_ _) | (with_reducible refine grow_drew ?_) | (with_reducible refine grow_drewN ?_ _) | (with_reducible refine grow_set ?_ (by first | (simp; done) | (simp; omega) | omega) _))))).mono ?_); rintro e w' ⟨rfl, hb⟩; have hz := hb.size; (first | (obtain ⟨x1, rfl⟩ := to_mix2 hb) | (obtain ⟨x1, rfl⟩ := to_mix hb)); clear hb; (try simp only [World.size_alloc, World.size_setCell, World.size_drew] at hz); (try have q0 : w.heap.size < _ := Nat.lt_of_lt_of_le (by omega) hz); (try have q1 : w.heap.size + 1 < _ := Nat.lt_of_lt_of_le (by omega) hz); (try have q2 : w.heap.size + 1 + 1 < _ := Nat.lt_of_lt_of_le (by omega) hz); (try have q3 : w.heap.size + 1 + 1 + 1 < _ := Nat.lt_of_lt_of_le (by omega) hz)) | (go_at_call 23; (with_reducible refine (S4.out _ (by (repeat (first | (with_reducible assumption) | (with_reducible exact Below.refl _ _) | (with_reducible refine grow_alloc ?_ _) | (with_reducible refine grow_mix ?_ _) | (with_reducible refine grow_drew ?_) | (with_reducible refine grow_drewN ?_ _) | (with_reducible refine grow_set ?_ (by first | (simp; done) | (simp; omega) | omega) _))))).mono ?_); rintro e w' ⟨rfl, hb⟩; have hz := hb.size; (first | (obtain ⟨x1, rfl⟩ := to_mix2 hb) | (obtain ⟨x1, rfl⟩ := to_mix hb)); clear hb; (try simp only [World.size_alloc, World.size_setCell, World.size_drew] at hz); (try have q0 : w.heap.size < _ := Nat.lt_of_lt_of_le (by omega) hz); (try have q1 : w.heap.size + 1 < _ := Nat.lt_of_lt_of_le (by omega) hz); (try have q2 : w.heap.size + 1 + 1 < _ := Nat.lt_of_lt_of_le (by omega) hz); (try have q3 : w.heap.size + 1 + 1 + 1 < _ := Nat.lt_of_lt_of_le (by omega) hz)))
    go_ret
    exact ⟨rfl, by (repeat (first | (with_reducible assumption) | (with_reducible exact Below.refl _ _) | (with_reducible refine grow_alloc ?_ _) | (with_reducible refine grow_mix ?_ _) | (with_reducible refine grow_drew ?_) | (with_reducible refine grow_drewN ?_ _) | (with_reducible refine grow_set ?_ (by first | (simp; done) | (simp; omega) | omega) _)))⟩
  have fine_of : ∀ q : Pg, mayP q = true → Fine q := fun q h => fine_of_may h
  rcases par_cases s with ⟨q, n, hq, hqm, hqt, hqn⟩ | ⟨n, hq⟩
  · rcases dec_cases b with ⟨d, hd, hdm, hde⟩ | ⟨d, e, hd, hne, rfl⟩
    · exact key q n 0 d 0 hq hd (fine_of_may hqm) (fine_of_may hdm)
    · exact key q n 0 [] e hq hd (fine_of_may hqm) fine_nil
  · rcases dec_cases b with ⟨d, hd, hdm, hde⟩ | ⟨d, e, hd, hne, rfl⟩
    · exact key [] n 70 d 0 hq hd fine_nil (fine_of_may hdm)
    · exact key [] n 70 [] e hq hd fine_nil fine_nil
end Go.Proofs.YtedkfipjooafeaaGreatDoor.Code
