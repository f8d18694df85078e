/-
  Contracts of what writes a program as a text. Contract of a program's text. Texts cut at a byte, as the library cuts them; numbers as the library reads them. Texts read as programs, in plain words: what a line does is told by what it is; a program's text is read as it was; what is read has that text. What the rows of the laws on programs read, as data; what the library reads is laid. Worlds that are as they were but for one block, and new ones. Contracts of bytes read as a number. Contracts of what takes numbers from bytes. Contract of what takes an operation's byte. Contract of what takes an instruction. Contract of what takes a function. Contract of what reads a program of bytes. Contracts of what writes a program as bytes. Contract of a program's bytes.
-/
import Derived.Lib.ItoaLen
import Derived.Lib.SplitLaws
import Derived.Lib.AtoiAll
import Derived.Lib.SmallJoins
import Derived.Shelf.Vars
import Derived.Lib.EndianBits
import Derived.Test.YtedkfipjooafeaaGreatDoorT1
import Derived.Test.YtedkfipjooafeaaGreatDoorT2
set_option linter.unusedSimpArgs false
set_option linter.unusedVariables false
set_option linter.unusedSimpArgs false
set_option linter.unusedVariables false
namespace Go.Proofs.YtedkfipjooafeaaGreatDoor.Code
open Go Go.RowKit Go.Proofs.YtedkfipjooafeaaGreatDoor Go.Proofs.YtedkfipjooafeaaGreatDoor.Op

def Two (B : Nat) (a b : Int) (v : Value) (w : World) : Prop := ∃ g, v = .slice (some ⟨g, 0, none⟩) 2 2 ∧ Has w g #[.int .i64 a, .int .i64 b] 3 ∧ B ≤ g
theorem Two.mono {B : Nat} {a b : Int} : Mono (Two B a b) := fun _ _ _ hb ⟨g, h1, h2, h3⟩ => ⟨g, h1, h2.below hb h2.lt, h3⟩
def NumsAt (w : World) (B : Nat) (v : Value) (l : List Int) : Prop := Reads w B 1 v l.length (l.map (Value.int .i64))
theorem nums_of_has {w : World} {g : Nat} {cs : List Value} {l : List Int} {c : Nat} (h : Has w g cs.toArray 3) (hc : cs.take l.length = l.map (Value.int .i64)) : NumsAt w w.heap.size (.slice (some ⟨g, 0, none⟩) l.length c) l := by
  refine ⟨by simp, _, c, rfl, fun _ => ⟨_, rfl, h.lt, fun j u hu => ?_⟩⟩
  have : (⟨g, 0, none⟩ : Addr).add j = ⟨g, j, none⟩ := by unfold Addr.add; by_cases e : j = 0 <;> simp [e]
  rw [this, h.cell]
  rw [← hc] at hu
  rw [List.getElem?_take] at hu
  split at hu
  · simpa using hu
  · cases hu
theorem grow_val {P : Program} {o : Oper} {a : Act} {w w' : World} {φ : Value → World → Prop} {v : Value} (hrun : (execOp a.eval o).run P w = .ok (.value v) w') (hb : Below w.heap.size w w') (hφ : φ v w') (hn : ∀ v, ownOf o.op v = none) : GrowAt P o a w φ := by
  unfold GrowAt
  rw [hrun]
  exact ⟨hb, hφ, fun b hb => by rw [hn] at hb; cases hb⟩
set_option maxRecDepth 20000 in
set_option maxHeartbeats 1000000 in
theorem fields_at (x : Ins) (n : Nat) (hn : n ≤ 2) (e : opFields x.op = n) (w : World) :
    Calls Tryz.prog 49 #[insV x] w fun e w' => (∃ g, e = .returned (.slice (some ⟨g, 0, none⟩) n 2) ∧ Has w' g #[.int .i64 x.a, .int .i64 x.b] 3) ∧ Below w.heap.size w w' := by
  have E : ∀ W, Calls Tryz.prog 76 #[.int .i64 x.op] W fun e w' => e = .returned (.int .i64 n) ∧ Below W.heap.size W w' := fun W => by
    have := Fields_calls x.op W; rw [e] at this; exact this
  have E := Lib.hid E
  clear e
  go_enter Tryz.func49, Tryz.ntmps49
  go_wp2
  refine wp_flow [true, true, true, true, false, true, true, true] [(4, Two (w.heap.size + 1) x.a x.b)] [] (by kernel_rfl) (by kernel_rfl) (by kernel_rfl) (by kernel_rfl) (by kernel_rfl) (fun _ _ d _ _ h => by cases d <;> exact h) (by kernel_rfl) ⟨(by first | exact New.mono | exact Two.mono | exact nums_mono _ | exact RowN.mono | assumption), trivial⟩ ?_
  apply Exists.intro
  refine ⟨fun yq => ?_, ⟨fun yq o ho => ?_, trivial⟩, trivial, fun yq => ?_⟩
  · simp only [headQ]
    repeat (go_big_quiet_step ((go_at_call 76; (with_reducible exact mix_call (E.out _)))))
    exact wpQuiet_nil rfl
  ·
    have ho' := Option.some.inj ho
    subst ho'
    have hWs : w.heap.size + 1 ≤ (mix (w.alloc (.cells #[.int .i64 x.op, .int .i64 x.a, .int .i64 x.b] 64)) yq).heap.size := by simp
    revert hWs
    generalize mix (w.alloc (.cells #[.int .i64 x.op, .int .i64 x.a, .int .i64 x.b] 64)) yq = W
    intro hWs
    refine grow_val (v := .slice (some ⟨W.heap.size, 0, none⟩) 2 2) (w' := W.alloc (.cells #[.int .i64 x.a, .int .i64 x.b] 3)) ?_ ?_ ?_ ?_
    · go_simp
    · exact (Below.refl _ _).alloc (Nat.le_refl _) _
    · exact ⟨_, rfl, Has.new _ _ _, hWs⟩
    · exact fun _ => rfl
  ·
    simp only [FlowEnd, List.getElem?_toArray, List.getElem?_cons_succ, List.getElem?_cons_zero, Option.bind_some, Act.put, List.setIfInBounds_toArray, List.set_cons_succ, List.set_cons_zero, List.drop_succ_cons, List.drop_zero, List.length_cons, List.length_nil]
    intro v4 h_v4 n_v4
    obtain ⟨g, rfl, H4, hb4⟩ := h_v4
    have hcases : n = 0 ∨ n = 1 ∨ n = 2 := by omega
    rcases hcases with rfl | rfl | rfl
    all_goals
      go_wp2
      go_ret
      exact ⟨⟨g, rfl, by (repeat (first | (with_reducible assumption) | (with_reducible exact Has.new _ _ _) | (with_reducible exact Has.new' (by first | rfl | (simp; done) | (simp; omega)) _ _) | (with_reducible apply Has.alloc) | (with_reducible apply Has.mix) | (with_reducible apply Has.drew) | (with_reducible apply Has.drewN) | (with_reducible apply Has.set_same) | (with_reducible apply Has.set_other (hp := (by first | (simp; done) | (simp; omega) | omega))) | (with_reducible rfl) | rfl))⟩, by (repeat (first | (with_reducible assumption) | (with_reducible exact Below.refl _ _) | (with_reducible refine grow_alloc ?_ _) | (with_reducible refine grow_mix ?_ _) | (with_reducible refine grow_drew ?_) | (with_reducible refine grow_drewN ?_ _) | (with_reducible refine grow_set ?_ (by first | (simp; done) | (simp; omega) | omega) _)))⟩
theorem fields_calls (x : Ins) (w : World) :
    Calls Tryz.prog 49 #[insV x] w fun e w' => (∃ v, e = .returned v ∧ NumsAt w' w'.heap.size v (fieldsB x)) ∧ Below w.heap.size w w' := by
  have hn : 0 ≤ opFields x.op ∧ opFields x.op ≤ 2 := by rcases fields_len x.op with h | h | h <;> rw [h] <;> decide
  refine (fields_at x (opFields x.op).toNat (by omega) (by omega) w).mono ?_
  rintro e w' ⟨⟨g, rfl, h⟩, hb⟩
  refine ⟨⟨_, rfl, ?_⟩, hb⟩
  have e1 : (fieldsB x).length = (opFields x.op).toNat := by unfold fieldsB; simp; omega
  have := nums_of_has (l := fieldsB x) (c := 2) h (by rw [e1]; unfold fieldsB; rw [List.map_take]; rfl)
  rw [e1] at this
  exact this
theorem join_line (word : B) (l : List Int) : Lib.join (word :: l.map Lib.itoa) [32] = lineB word l := by
  rw [Lib.join_cons]
  unfold Lib.joinTail lineB
  rw [List.flatMap_def, List.map_map]
  rfl
theorem line_len (word : B) (l : List Int) (hl : ∀ n ∈ l, -9223372036854775808 ≤ n ∧ n ≤ 9223372036854775807) : (lineB word l).length ≤ word.length + 22 * l.length := by
  unfold lineB
  rw [List.length_append]
  have : (l.flatMap fun n => 32 :: Lib.itoa n).length ≤ 22 * l.length := by
    induction l with
    | nil => simp
    | cons x l ih =>
      have h1 := Lib.itoa_length_le x (hl x (by simp)).1 (hl x (by simp)).2
      have h2 := ih (fun n hn => hl n (by simp [hn]))
      rw [List.flatMap_cons, List.length_append, List.length_cons, List.length_cons]
      omega
  omega
def wordsK (word : B) (l : List Int) (k : Nat) : List B := word :: (l.take k).map Lib.itoa
theorem wordsK_next (word : B) (l : List Int) (k : Nat) (h : k < l.length) : (wordsK word l (k + 1)).map str = (wordsK word l k).map str ++ [str (Lib.itoa l[k])] := by
  unfold wordsK
  rw [List.take_add_one, List.getElem?_eq_getElem h, Option.toList_some, List.map_append, ← List.cons_append, List.map_append]
  rfl
theorem NumsAt.at_ {w w' : World} {B : Nat} {v : Value} {l : List Int} (h : NumsAt w B v l) (hb : Below B w w') {k : Nat} (hk : k < l.length) :
    ∃ (a : Addr) (c : Nat), v = .slice (some a) l.length c ∧ a.block < B ∧ w'.cell? (a.add k) = some (.int .i64 l[k]) := by
  obtain ⟨hl, A, c, rfl, hc⟩ := h
  obtain ⟨a, rfl, hb', hu⟩ := hc (by omega)
  exact ⟨a, c, rfl, hb', (hb.cell (by rw [add_block]; exact hb')).trans (hu k _ (by rw [List.getElem?_map, List.getElem?_eq_getElem hk]; rfl))⟩

set_option maxRecDepth 20000 in
set_option maxHeartbeats 2000000 in
theorem line_calls (word : B) (l : List Int) (v : Value) (w : World) (h : NumsAt w w.heap.size v l) (hw : word.length ≤ 1000) (hl : l.length ≤ 3) (hi : ∀ n ∈ l, -9223372036854775808 ≤ n ∧ n ≤ 9223372036854775807) (hg : Glob w) :
    Calls Tryz.prog 72 #[str word, v] w fun e w' => e = .returned (str (lineB word l)) ∧ Below w.heap.size w w' := by
  obtain ⟨_, A, c, rfl, _⟩ := id h
  have HN := Lib.hid h
  have HI := Lib.hid hi
  have HG := Lib.hid hg
  clear h hi hg
  go_enter Tryz.func72, Tryz.ntmps72
  go_wp2
  go_loopw [5, 12] (fun v i wr => ∃ k : Nat, k ≤ l.length ∧ i = .int .i64 k ∧ Hid (wr.ownsRow w.heap.size 9 1 v (k + 1) ((wordsK word l k).map str)) ∧ Below w.heap.size w wr) (fun _ i _ => l.length - (intOf i).toNat)
  case atStart => exact ⟨0, Nat.zero_le _, rfl, Lib.hid (own_new w w.heap.size _ 1 [str word] 1 rfl (Nat.le_refl _) (by decide)), by (repeat (first | (with_reducible assumption) | (with_reducible exact Below.refl _ _) | (with_reducible refine grow_alloc ?_ _) | (with_reducible refine grow_mix ?_ _) | (with_reducible refine grow_drew ?_) | (with_reducible refine grow_drewN ?_ _) | (with_reducible refine grow_set ?_ (by first | (simp; done) | (simp; omega) | omega) _)))⟩
  case round =>
    obtain ⟨k, hk, rfl, HO, hb⟩ := hrel
    by_cases hlt : k < l.length
    · obtain ⟨a, c', e, hab, c0⟩ := HN.out.at_ hb hlt
      injection e with e1 e2 e3
      subst e1 e3
      have hm := HI.out l[k] (List.getElem_mem hlt)
      obtain ⟨n, hn⟩ : ∃ n, l[k] = n := ⟨_, rfl⟩
      rw [hn] at c0 hm
      have HX := Lib.hid hn
      clear hn
      have D := Lib.hid (fun (y : World) (hy : Below w.heap.size w y) => Itoa_calls n hm.1 hm.2 y (HG.out.below hy))
      go_wp2_with (first | (go_at_call 89; (with_reducible refine (D.out _ (by (repeat (first | (with_reducible assumption) | (with_reducible exact Below.refl _ _) | (with_reducible refine grow_alloc ?_ _) | (with_reducible refine grow_mix ?_ _) | (with_reducible refine grow_drew ?_) | (with_reducible refine grow_drewN ?_ _) | (with_reducible refine grow_set ?_ (by first | (simp; done) | (simp; omega) | omega) _))))).mono ?_); rintro e w' ⟨rfl, hb⟩; have hz := hb.size; (first | (obtain ⟨x1, rfl⟩ := to_mix2 hb) | (obtain ⟨x1, rfl⟩ := to_mix hb)); clear hb; (try simp only [World.size_alloc, World.size_setCell, World.size_drew] at hz); (try have q0 : w.heap.size < _ := Nat.lt_of_lt_of_le (by omega) hz); (try have q1 : w.heap.size + 1 < _ := Nat.lt_of_lt_of_le (by omega) hz); (try have q2 : w.heap.size + 1 + 1 < _ := Nat.lt_of_lt_of_le (by omega) hz); (try have q3 : w.heap.size + 1 + 1 + 1 < _ := Nat.lt_of_lt_of_le (by omega) hz)) | (at_builtin; refine wpList_app rfl (.tmp 16) (.tmp 19) 45 rfl w.heap.size 9 1 16 _ Tryz.underlying45 strRow rfl (by decide) _ (k + 1) _ rfl ((own_below HO.out (by (repeat (first | (with_reducible assumption) | (with_reducible exact Below.refl _ _) | (with_reducible refine grow_alloc ?_ _) | (with_reducible refine grow_mix ?_ _) | (with_reducible refine grow_drew ?_) | (with_reducible refine grow_drewN ?_ _) | (with_reducible refine grow_set ?_ (by first | (simp; done) | (simp; omega) | omega) _))))).alloc _) ⟨_, 0, none⟩ 1 1 [str (Lib.itoa n)] rfl rfl (news_at _ [str (Lib.itoa n)] _) (one_str _) (by unfold maxLen; omega) (by omega) (by have := hb.size; (first | (simp; done) | (simp; omega))) ?_; intro v' w1 hown' hgrow hblk))
      have HR := Lib.hid (And.intro hown' (own_grow ((own_below HO.out (by (repeat (first | (with_reducible assumption) | (with_reducible exact Below.refl _ _) | (with_reducible refine grow_alloc ?_ _) | (with_reducible refine grow_mix ?_ _) | (with_reducible refine grow_drew ?_) | (with_reducible refine grow_drewN ?_ _) | (with_reducible refine grow_set ?_ (by first | (simp; done) | (simp; omega) | omega) _))))).alloc _) (by (repeat (first | (with_reducible assumption) | (with_reducible exact Below.refl _ _) | (with_reducible refine grow_alloc ?_ _) | (with_reducible refine grow_mix ?_ _) | (with_reducible refine grow_drew ?_) | (with_reducible refine grow_drewN ?_ _) | (with_reducible refine grow_set ?_ (by first | (simp; done) | (simp; omega) | omega) _)))) hgrow))
      clear hown' hgrow hblk
      go_roundw
      case rel => exact ⟨k + 1, by omega, by go_num, Lib.hid (by rw [wordsK_next word l k hlt, HX.out]; exact HR.out.1), HR.out.2⟩
      case measure => simp [intOf]; omega
    · have hk' : k = l.length := by omega
      subst hk'
      have ew : wordsK word l l.length = word :: l.map Lib.itoa := by unfold wordsK; rw [List.take_length]
      have hlen := line_len word l HI.out
      have J := Lib.hid (Join_own wr w.heap.size _ (word :: l.map Lib.itoa) [32] (by have := HO.out; rw [ew] at this; simpa using this) (by simp) (by rw [join_line]; omega) (by simp; omega))
      clear ew hlen
      go_wp2_with (first | (go_at_call 90; (with_reducible refine (J.out).mono ?_); rintro e w' ⟨rfl, hb⟩; have hz := hb.size; (first | (obtain ⟨x1, rfl⟩ := to_mix2 hb) | (obtain ⟨x1, rfl⟩ := to_mix hb)); clear hb; (try simp only [World.size_alloc, World.size_setCell, World.size_drew] at hz); (try have q0 : w.heap.size < _ := Nat.lt_of_lt_of_le (by omega) hz); (try have q1 : w.heap.size + 1 < _ := Nat.lt_of_lt_of_le (by omega) hz); (try have q2 : w.heap.size + 1 + 1 < _ := Nat.lt_of_lt_of_le (by omega) hz); (try have q3 : w.heap.size + 1 + 1 + 1 < _ := Nat.lt_of_lt_of_le (by omega) hz)))
      go_ret
      exact ⟨by rw [← join_line]; rfl, by (repeat (first | (with_reducible assumption) | (with_reducible exact Below.refl _ _) | (with_reducible refine grow_alloc ?_ _) | (with_reducible refine grow_mix ?_ _) | (with_reducible refine grow_drew ?_) | (with_reducible refine grow_drewN ?_ _) | (with_reducible refine grow_set ?_ (by first | (simp; done) | (simp; omega) | omega) _)))⟩
theorem fields_bd {x : Ins} (h : ∀ n ∈ [x.a, x.b], -9223372036854775808 ≤ n ∧ n ≤ 9223372036854775807) : ∀ n ∈ fieldsB x, -9223372036854775808 ≤ n ∧ n ≤ 9223372036854775807 := fun n hn => h n (List.mem_of_mem_take hn)
theorem nums_mono (l : List Int) : Mono (fun v W => NumsAt W W.heap.size v l) := fun _ _ _ hb h => (Reads.below h hb).more hb.size
theorem grow_call {P : Program} {o : Oper} {a : Act} {w : World} {φ : Value → World → Prop} {f : FuncId} {args : Array Value} (hrun : (execOp a.eval o).run P w = .ok (.enter f args) w) (hn : ∀ v, ownOf o.op v = none)
    (hc : Calls P f args w (fun e w'' => ∃ v, e = .returned v ∧ Below w.heap.size w w'' ∧ φ v w'')) : GrowAt P o a w φ := by
  unfold GrowAt
  rw [hrun]
  exact ⟨rfl, hn, hc⟩
set_option maxRecDepth 20000 in
set_option maxHeartbeats 2000000 in
theorem written_calls (x : Ins) (w : World) (hx : ∀ n ∈ [x.a, x.b], -9223372036854775808 ≤ n ∧ n ≤ 9223372036854775807) (hg : Glob w) :
    Calls Tryz.prog 42 #[insV x] w fun e w' => e = .returned (str (writtenB x)) ∧ Below w.heap.size w w' := by
  have hf := fields_bd hx
  have hn : (opName x.op).length ≤ 1000 := by
    unfold opName
    split
    · have h : ∀ l ∈ names, l.length ≤ 1000 := by decide
      by_cases hn : x.op.toNat < names.length
      · rw [List.getD_eq_getElem?_getD, List.getElem?_eq_getElem hn, Option.getD_some]
        exact h _ (List.getElem_mem hn)
      · rw [List.getD_eq_getElem?_getD, List.getElem?_eq_none (by omega)]
        decide
    · decide
  have hl : (fieldsB x).length ≤ 3 := by unfold fieldsB; simp; omega
  have L := Lib.hid (fun (v : Value) (W : World) (h : NumsAt W W.heap.size v (fieldsB x)) (hw : Below w.heap.size w W) => line_calls (opName x.op) (fieldsB x) v W h hn hl hf (hg.below hw))
  clear hf hn hl hx hg
  go_enter Tryz.func42, Tryz.ntmps42
  go_wp2
  refine wp_flow [true, true, true, true, false] [(4, (fun v W => NumsAt W W.heap.size v (fieldsB x)))] [] (by kernel_rfl) (by kernel_rfl) (by kernel_rfl) (by kernel_rfl) (by kernel_rfl) (fun _ _ d _ _ h => by cases d <;> exact h) (by kernel_rfl) ⟨(by first | exact New.mono | exact Two.mono | exact nums_mono _ | exact RowN.mono | assumption), trivial⟩ ?_
  apply Exists.intro
  refine ⟨fun yq => ?_, ⟨fun yq o ho => ?_, trivial⟩, trivial, fun yq => ?_⟩
  · simp only [headQ]
    repeat (go_big_quiet_step ((go_at_call 73; (with_reducible exact mix_call (Name_calls _ _)))))
    exact wpQuiet_nil rfl
  ·
    have ho' := Option.some.inj ho
    subst ho'
    refine grow_call (f := 49) (args := #[insV x]) ?_ ?_ ?_
    · go_simp
    · exact fun _ => rfl
    · exact (fields_calls x _).mono fun e w' ⟨⟨v, he, hv⟩, hb⟩ => ⟨v, he, hb, hv⟩
  ·
    simp only [FlowEnd, List.getElem?_toArray, List.getElem?_cons_succ, List.getElem?_cons_zero, Option.bind_some, Act.put, List.setIfInBounds_toArray, List.set_cons_succ, List.set_cons_zero, List.drop_succ_cons, List.drop_zero, List.length_cons, List.length_nil]
    intro v4 h_v4 n_v4
    obtain ⟨_, A, c, rfl, _⟩ := id h_v4
    have H4 := Lib.hid h_v4
    clear h_v4
    go_wp2_with (first | (go_at_call 72; (with_reducible refine (L.out _ _ H4.out (by (repeat (first | (with_reducible assumption) | (with_reducible exact Below.refl _ _) | (with_reducible refine grow_alloc ?_ _) | (with_reducible refine grow_mix ?_ _) | (with_reducible refine grow_drew ?_) | (with_reducible refine grow_drewN ?_ _) | (with_reducible refine grow_set ?_ (by first | (simp; done) | (simp; omega) | omega) _))))).mono ?_); rintro e w' ⟨rfl, hb⟩; have hz := hb.size; (first | (obtain ⟨x1, rfl⟩ := to_mix2 hb) | (obtain ⟨x1, rfl⟩ := to_mix hb)); clear hb; (try simp only [World.size_alloc, World.size_setCell, World.size_drew] at hz); (try have q0 : w.heap.size < _ := Nat.lt_of_lt_of_le (by omega) hz); (try have q1 : w.heap.size + 1 < _ := Nat.lt_of_lt_of_le (by omega) hz); (try have q2 : w.heap.size + 1 + 1 < _ := Nat.lt_of_lt_of_le (by omega) hz); (try have q3 : w.heap.size + 1 + 1 + 1 < _ := Nat.lt_of_lt_of_le (by omega) hz)))
    go_ret
    exact ⟨rfl, by (repeat (first | (with_reducible assumption) | (with_reducible exact Below.refl _ _) | (with_reducible refine grow_alloc ?_ _) | (with_reducible refine grow_mix ?_ _) | (with_reducible refine grow_drew ?_) | (with_reducible refine grow_drewN ?_ _) | (with_reducible refine grow_set ?_ (by first | (simp; done) | (simp; omega) | omega) _)))⟩
set_option maxRecDepth 20000 in
set_option maxHeartbeats 2000000 in
theorem headed_calls (f : Fn) (v : Value) (w : World) (hx : ∀ n ∈ [f.ar, f.lo, f.sl], -9223372036854775808 ≤ n ∧ n ≤ 9223372036854775807) (hg : Glob w) :
    Calls Tryz.prog 41 #[fnV f v] w fun e w' => e = .returned (str (headedB f)) ∧ Below w.heap.size w w' := by
  have L := Lib.hid (fun (v : Value) (W : World) (h : NumsAt W W.heap.size v [f.ar, f.lo, f.sl]) (hw : Below w.heap.size w W) => line_calls [102, 117, 110, 99] [f.ar, f.lo, f.sl] v W h (by decide) (by simp) hx (hg.below hw))
  clear hx hg
  go_enter Tryz.func41, Tryz.ntmps41
  have X := Lib.hid (L.out (.slice (some ⟨w.heap.size + 1, 0, none⟩) 3 3) ((w.alloc (Obj.cells #[Value.int IntKind.i64 f.ar, Value.int IntKind.i64 f.lo, Value.int IntKind.i64 f.sl, v] 39)).alloc (Obj.cells #[Value.int IntKind.i64 f.ar, Value.int IntKind.i64 f.lo, Value.int IntKind.i64 f.sl] 3)) (nums_of_has (cs := [.int .i64 f.ar, .int .i64 f.lo, .int .i64 f.sl]) (Has.new' (by simp) _ _) rfl) (by (repeat (first | (with_reducible assumption) | (with_reducible exact Below.refl _ _) | (with_reducible refine grow_alloc ?_ _) | (with_reducible refine grow_mix ?_ _) | (with_reducible refine grow_drew ?_) | (with_reducible refine grow_drewN ?_ _) | (with_reducible refine grow_set ?_ (by first | (simp; done) | (simp; omega) | omega) _)))))
  clear L
  go_wp2_with (first | (go_at_call 72; (with_reducible refine (X.out).mono ?_); rintro e w' ⟨rfl, hb⟩; have hz := hb.size; (first | (obtain ⟨x1, rfl⟩ := to_mix2 hb) | (obtain ⟨x1, rfl⟩ := to_mix hb)); clear hb; (try simp only [World.size_alloc, World.size_setCell, World.size_drew] at hz); (try have q0 : w.heap.size < _ := Nat.lt_of_lt_of_le (by omega) hz); (try have q1 : w.heap.size + 1 < _ := Nat.lt_of_lt_of_le (by omega) hz); (try have q2 : w.heap.size + 1 + 1 < _ := Nat.lt_of_lt_of_le (by omega) hz); (try have q3 : w.heap.size + 1 + 1 + 1 < _ := Nat.lt_of_lt_of_le (by omega) hz)))
  go_ret
  exact ⟨rfl, by (repeat (first | (with_reducible assumption) | (with_reducible exact Below.refl _ _) | (with_reducible refine grow_alloc ?_ _) | (with_reducible refine grow_mix ?_ _) | (with_reducible refine grow_drew ?_) | (with_reducible refine grow_drewN ?_ _) | (with_reducible refine grow_set ?_ (by first | (simp; done) | (simp; omega) | omega) _)))⟩
end Go.Proofs.YtedkfipjooafeaaGreatDoor.Code
set_option linter.unusedSimpArgs false
set_option linter.unusedVariables false
namespace Go.Proofs.YtedkfipjooafeaaGreatDoor.Code
open Go Go.RowKit Go.Proofs.YtedkfipjooafeaaGreatDoor Go.Proofs.YtedkfipjooafeaaGreatDoor.Op Go.Proofs.YtedkfipjooafeaaGreatDoor.Bld

theorem inB_bd {n lo hi : Int} (h : inB n lo hi = true) : lo ≤ n ∧ n ≤ hi := by unfold inB at h; simpa using h
theorem mayI_bd {x : Ins} (h : mayI x = true) : 0 ≤ x.op ∧ x.op < 17 ∧ 0 ≤ x.a ∧ x.a ≤ 255 ∧ 0 ≤ x.b ∧ x.b ≤ 255 := by
  unfold mayI at h
  simp only [Bool.and_eq_true] at h
  obtain ⟨h0, h1, h2⟩ := h
  unfold isOp at h0
  unfold spanHas at h1 h2
  simp only [decide_eq_true_eq] at h0 h1 h2
  have hA : 0 ≤ (spanA x.op).1 ∧ (spanA x.op).2 ≤ 255 := by unfold spanA; repeat' split
                                                            all_goals decide
  have hB : 0 ≤ (spanB x.op).1 ∧ (spanB x.op).2 ≤ 255 := by unfold spanB; repeat' split
                                                            all_goals decide
  omega
theorem mayF_parts {f : Fn} (h : mayF f = true) : (0 ≤ f.ar ∧ f.ar ≤ 16) ∧ (0 ≤ f.lo ∧ f.lo ≤ 16) ∧ (0 ≤ f.sl ∧ f.sl ≤ 8) ∧ 1 ≤ f.code.length ∧ f.code.length ≤ 200 ∧ f.code.all mayI = true := by
  unfold mayF headB at h
  simp only [Bool.and_eq_true] at h
  obtain ⟨⟨h1, h2, h3⟩, h4, h5⟩ := h
  have := inB_bd h4
  exact ⟨inB_bd h1, inB_bd h2, inB_bd h3, by omega, by omega, h5⟩
theorem mayP_parts {p : Pg} (h : mayP p = true) : (∀ f ∈ p, mayF f = true) ∧ 1 ≤ p.length ∧ p.length ≤ 16 := by
  unfold mayP at h
  simp only [Bool.and_eq_true] at h
  have := inB_bd h.2
  exact ⟨List.all_eq_true.1 h.1, by omega, by omega⟩
theorem name_len (n : Int) : (opName n).length ≤ 5 := by
  unfold opName
  split
  · have h : ∀ l ∈ names, l.length ≤ 5 := by decide
    by_cases hn : n.toNat < names.length
    · rw [List.getD_eq_getElem?_getD, List.getElem?_eq_getElem hn, Option.getD_some]
      exact h _ (List.getElem_mem hn)
    · rw [List.getD_eq_getElem?_getD, List.getElem?_eq_none (by omega)]
      decide
  · decide
theorem ins_ints {x : Ins} (h : mayI x = true) : ∀ n ∈ [x.a, x.b], -9223372036854775808 ≤ n ∧ n ≤ 9223372036854775807 := by
  have := mayI_bd h
  intro n hn
  simp only [List.mem_cons, List.not_mem_nil, or_false] at hn
  rcases hn with rfl | rfl <;> omega
theorem fn_ints {f : Fn} (h : mayF f = true) : ∀ n ∈ [f.ar, f.lo, f.sl], -9223372036854775808 ≤ n ∧ n ≤ 9223372036854775807 := by
  have := mayF_parts h
  intro n hn
  simp only [List.mem_cons, List.not_mem_nil, or_false] at hn
  rcases hn with rfl | rfl | rfl <;> omega
theorem written_len {x : Ins} (h : mayI x = true) : (writtenB x).length ≤ 100 := by
  have h1 := line_len (opName x.op) (fieldsB x) (fields_bd (ins_ints h))
  have h2 := name_len x.op
  have h3 : (fieldsB x).length ≤ 2 := by unfold fieldsB; simp; omega
  unfold writtenB
  omega
theorem headed_len {f : Fn} (h : mayF f = true) : (headedB f).length ≤ 100 := by
  have h1 := line_len funcB [f.ar, f.lo, f.sl] (fn_ints h)
  have h2 : funcB.length = 4 := rfl
  unfold headedB
  simp only [List.length_cons, List.length_nil] at h1
  omega
def codeText (l : List Ins) : B := l.flatMap fun x => writtenB x ++ [10]
theorem codeText_len {l : List Ins} (h : l.all mayI = true) : (codeText l).length ≤ 101 * l.length := by
  unfold codeText
  induction l with
  | nil => simp
  | cons x l ih =>
    simp only [List.all_cons, Bool.and_eq_true] at h
    have h1 := written_len h.1
    have h2 := ih h.2
    rw [List.flatMap_cons, List.length_append, List.length_append, List.length_cons, List.length_cons, List.length_nil]
    omega
theorem textF_eq (f : Fn) : textF f = headedB f ++ [10] ++ codeText f.code := by unfold textF codeText; simp
theorem textF_len {f : Fn} (h : mayF f = true) : (textF f).length ≤ 20400 := by
  have h1 := headed_len h
  have h2 := mayF_parts h
  have h3 := codeText_len h2.2.2.2.2.2
  rw [textF_eq, List.length_append, List.length_append, List.length_singleton]
  omega
theorem texts_len {p : Pg} (h : ∀ f ∈ p, mayF f = true) : (p.flatMap textF).length ≤ 20400 * p.length := by
  induction p with
  | nil => simp
  | cons f p ih =>
    have h1 := textF_len (h f (by simp))
    have h2 := ih (fun g hg => h g (by simp [hg]))
    rw [List.flatMap_cons, List.length_append, List.length_cons]
    omega
theorem flat_next {α β : Type} (f : α → List β) (l : List α) (k : Nat) (x : α) (h : l[k]? = some x) : (l.take (k + 1)).flatMap f = (l.take k).flatMap f ++ f x := by
  rw [List.take_add_one, h, Option.toList_some, List.flatMap_append]; simp
theorem may_calls_at (p : Pg) (v : Value) (b : Bool) (hb : mayP p = b) (w : World) (h : ProgAt w w.heap.size v p) (hl : p.length ≤ 9223372036854775000) (hc : ∀ f ∈ p, f.code.length ≤ 9223372036854775000) :
    Calls Tryz.prog 15 #[v] w fun e w' => e = .returned (.bool b) ∧ Below w.heap.size w w' := by
  subst hb; exact May_calls p v w h hl hc

theorem Text_no (p : Pg) (v : Value) (w : World) (hm : mayP p = false) (h : ProgAt w w.heap.size v p) (hl : p.length ≤ 9223372036854775000) (hc : ∀ f ∈ p, f.code.length ≤ 9223372036854775000) :
    Calls Tryz.prog 17 #[v] w fun e w' => e = .returned (str []) ∧ Below w.heap.size w w' := by
  have M := Lib.hid (may_calls_at p v false hm w h hl hc)
  obtain ⟨A, c, rfl⟩ := h.form
  clear h hc hm
  go_enter Tryz.func17, Tryz.ntmps17
  go_wp2_with (first | (go_at_call 15; (with_reducible refine (M.out).mono ?_); rintro e w' ⟨rfl, hb⟩; have hz := hb.size; (first | (obtain ⟨x1, rfl⟩ := to_mix2 hb) | (obtain ⟨x1, rfl⟩ := to_mix hb)); clear hb; (try simp only [World.size_alloc, World.size_setCell, World.size_drew] at hz); (try have q0 : w.heap.size < _ := Nat.lt_of_lt_of_le (by omega) hz); (try have q1 : w.heap.size + 1 < _ := Nat.lt_of_lt_of_le (by omega) hz); (try have q2 : w.heap.size + 1 + 1 < _ := Nat.lt_of_lt_of_le (by omega) hz); (try have q3 : w.heap.size + 1 + 1 + 1 < _ := Nat.lt_of_lt_of_le (by omega) hz)))
  go_ret
  exact ⟨rfl, by (repeat (first | (with_reducible assumption) | (with_reducible exact Below.refl _ _) | (with_reducible refine grow_alloc ?_ _) | (with_reducible refine grow_mix ?_ _) | (with_reducible refine grow_drew ?_) | (with_reducible refine grow_drewN ?_ _) | (with_reducible refine grow_set ?_ (by first | (simp; done) | (simp; omega) | omega) _)))⟩

set_option maxRecDepth 20000 in
set_option maxHeartbeats 4000000 in
theorem Text_yes (p : Pg) (v : Value) (w : World) (hm : mayP p = true) (h : ProgAt w w.heap.size v p) (hg : Glob w) :
    Calls Tryz.prog 17 #[v] w fun e w' => e = .returned (str (p.flatMap textF)) ∧ Below w.heap.size w w' := by
  have PM := Lib.hid (mayP_parts hm)
  have M := Lib.hid (may_calls_at p v true hm w h (by have := PM.out.2.2; omega) (fun f hf => by have := mayF_parts (PM.out.1 f hf); omega))
  obtain ⟨A, c, rfl⟩ := h.form
  have HC := Lib.hid h
  have HG := Lib.hid hg
  have hp16 : p.length ≤ 16 := PM.out.2.2
  clear h hm hg
  go_enter Tryz.func17, Tryz.ntmps17
  go_wp2_with (first | (go_at_call 15; (with_reducible refine (M.out).mono ?_); rintro e w' ⟨rfl, hb⟩; have hz := hb.size; (first | (obtain ⟨x1, rfl⟩ := to_mix2 hb) | (obtain ⟨x1, rfl⟩ := to_mix hb)); clear hb; (try simp only [World.size_alloc, World.size_setCell, World.size_drew] at hz); (try have q0 : w.heap.size < _ := Nat.lt_of_lt_of_le (by omega) hz); (try have q1 : w.heap.size + 1 < _ := Nat.lt_of_lt_of_le (by omega) hz); (try have q2 : w.heap.size + 1 + 1 < _ := Nat.lt_of_lt_of_le (by omega) hz); (try have q3 : w.heap.size + 1 + 1 + 1 < _ := Nat.lt_of_lt_of_le (by omega) hz)))
  have hb1 : Below w.heap.size w (mix w x1) := by (repeat (first | (with_reducible assumption) | (with_reducible exact Below.refl _ _) | (with_reducible refine grow_alloc ?_ _) | (with_reducible refine grow_mix ?_ _) | (with_reducible refine grow_drew ?_) | (with_reducible refine grow_drewN ?_ _) | (with_reducible refine grow_set ?_ (by first | (simp; done) | (simp; omega) | omega) _)))
  generalize mix w x1 = w1 at hb1 hz ⊢
  clear M
  have hz1 : w.heap.size ≤ w1.heap.size := hb1.size
  go_loopw [13] (fun i wr => ∃ k : Nat, k ≤ p.length ∧ i = .int .i64 k ∧ Below w.heap.size w wr ∧ Hid (IsB w.heap.size w1.heap.size ((p.take k).flatMap textF) wr)) (fun i _ => p.length - (intOf i).toNat)
  case atStart => exact ⟨0, Nat.zero_le _, rfl, by (repeat (first | (with_reducible assumption) | (with_reducible exact Below.refl _ _) | (with_reducible refine grow_alloc ?_ _) | (with_reducible refine grow_mix ?_ _) | (with_reducible refine grow_drew ?_) | (with_reducible refine grow_drewN ?_ _) | (with_reducible refine grow_set ?_ (by first | (simp; done) | (simp; omega) | omega) _))), Lib.hid (IsB.new w1 w.heap.size hz1)⟩
  case round =>
    obtain ⟨k, hk, rfl, hb, HB⟩ := hrel
    by_cases hlt : k < p.length
    · obtain ⟨a, c', u, e, hab, c0, c1, c2, c3, hcd⟩ := HC.out.at2 hb hlt
      injection e with e1 e2 e3
      subst e1 e3
      obtain ⟨A', c', rfl⟩ := hcd.form
      have hx : p[k]? = some p[k] := List.getElem?_eq_getElem hlt
      have hmf := PM.out.1 p[k] (List.getElem_mem hlt)
      obtain ⟨f, hf⟩ : ∃ f, p[k] = f := ⟨_, rfl⟩
      rw [hf] at c0 c1 c2 c3 hcd hx hmf
      have hn200 : f.code.length ≤ 200 := (mayF_parts hmf).2.2.2.2.1
      have hhl := headed_len hmf
      have hal : ((p.take k).flatMap textF).length ≤ 326400 := by
        have := texts_len (p := p.take k) (fun g hg => PM.out.1 g (List.mem_of_mem_take hg))
        have h2 : (p.take k).length ≤ 16 := by rw [List.length_take]; omega
        omega
      have HF := Lib.hid (And.intro hf (And.intro hx hmf))
      have HCD := Lib.hid hcd
      have H1 := Lib.hid (fun (W : World) (hW : Below w.heap.size w W) => headed_calls f (.slice A' f.code.length c') W (fn_ints hmf) (HG.out.below hW))
      have WS := Lib.hid (fun (W : World) (hw : Below wr.heap.size wr W) => WriteString_calls w.heap.size w1.heap.size ((p.take k).flatMap textF) (headedB f ++ [10]) W (HB.out.keep hw) (by rw [List.length_append, List.length_singleton]; omega) (Nat.le_trans hb.size hw.size))
      have hbl := HB.out.lt
      have BA := ba_append (headedB f) [10]
      clear hf hx hcd hmf hal
      go_wp2_with (first | (go_at_call 41; (with_reducible refine (H1.out _ (by (repeat (first | (with_reducible assumption) | (with_reducible exact Below.refl _ _) | (with_reducible refine grow_alloc ?_ _) | (with_reducible refine grow_mix ?_ _) | (with_reducible refine grow_drew ?_) | (with_reducible refine grow_drewN ?_ _) | (with_reducible refine grow_set ?_ (by first | (simp; done) | (simp; omega) | omega) _))))).mono ?_); rintro e w' ⟨rfl, hb⟩; have hz := hb.size; (first | (obtain ⟨x1, rfl⟩ := to_mix2 hb) | (obtain ⟨x1, rfl⟩ := to_mix hb)); clear hb; (try simp only [World.size_alloc, World.size_setCell, World.size_drew] at hz); (try have q0 : w.heap.size < _ := Nat.lt_of_lt_of_le (by omega) hz); (try have q1 : w.heap.size + 1 < _ := Nat.lt_of_lt_of_le (by omega) hz); (try have q2 : w.heap.size + 1 + 1 < _ := Nat.lt_of_lt_of_le (by omega) hz); (try have q3 : w.heap.size + 1 + 1 + 1 < _ := Nat.lt_of_lt_of_le (by omega) hz)) | (go_at_call 40; (with_reducible refine (WS.out _ (by (repeat (first | (with_reducible assumption) | (with_reducible exact Below.refl _ _) | (with_reducible refine grow_alloc ?_ _) | (with_reducible refine grow_mix ?_ _) | (with_reducible refine grow_drew ?_) | (with_reducible refine grow_drewN ?_ _) | (with_reducible refine grow_set ?_ (by first | (simp; done) | (simp; omega) | omega) _))))).mono ?_); rintro e w2 ⟨rfl, q1, q2, q3⟩; have HB2 := Lib.hid q1; have hf2 : Has w2 wr.heap.size #[.int .i64 f.ar, .int .i64 f.lo, .int .i64 f.sl, .slice A' f.code.length c'] 39 := Kept.has q3 (by (repeat (first | (with_reducible assumption) | (with_reducible exact Has.new _ _ _) | (with_reducible exact Has.new' (by first | rfl | (simp; done) | (simp; omega)) _ _) | (with_reducible apply Has.alloc) | (with_reducible apply Has.mix) | (with_reducible apply Has.drew) | (with_reducible apply Has.drewN) | (with_reducible apply Has.set_same) | (with_reducible apply Has.set_other (hp := (by first | (simp; done) | (simp; omega) | omega))) | (with_reducible rfl) | rfl))) (by omega) (by decide); have hw2 : Below w.heap.size w w2 := Below.trans (by (repeat (first | (with_reducible assumption) | (with_reducible exact Below.refl _ _) | (with_reducible refine grow_alloc ?_ _) | (with_reducible refine grow_mix ?_ _) | (with_reducible refine grow_drew ?_) | (with_reducible refine grow_drewN ?_ _) | (with_reducible refine grow_set ?_ (by first | (simp; done) | (simp; omega) | omega) _)))) q2; have hs2 := q2.size; clear q1 q2 q3; have hf2c := hf2.cell 3))
      clear H1 WS BA c0 c1 c2 c3 hf2 hf2c
      go_loopw [24] (fun i wi => ∃ m : Nat, m ≤ f.code.length ∧ i = .int .i64 m ∧ Below w.heap.size w wi ∧ Hid (IsB w.heap.size w1.heap.size ((p.take k).flatMap textF ++ (headedB f ++ [10]) ++ codeText (f.code.take m)) wi)) (fun i _ => f.code.length - (intOf i).toNat)
      case atStart => exact ⟨0, Nat.zero_le _, rfl, hw2, Lib.hid (by simpa [codeText] using HB2.out)⟩
      case round =>
        obtain ⟨m, hm, rfl, hbi, HBi⟩ := hrel
        by_cases hmt : m < f.code.length
        · obtain ⟨ai, ci, e, habi, d0, d1, d2⟩ := HCD.out.at2 hbi hmt
          injection e with e1 e2 e3
          subst e1 e3
          have hxi : f.code[m]? = some f.code[m] := List.getElem?_eq_getElem hmt
          have hmi : mayI f.code[m] = true := List.all_eq_true.1 (mayF_parts HF.out.2.2).2.2.2.2.2 _ (List.getElem_mem hmt)
          obtain ⟨x, hxe⟩ : ∃ x, f.code[m] = x := ⟨_, rfl⟩
          rw [hxe] at d0 d1 d2 hxi hmi
          have hwl := written_len hmi
          have hwl2 : (writtenB x ++ [10]).length ≤ 101 := by rw [List.length_append, List.length_singleton]; omega
          have hall : ((p.take k).flatMap textF ++ (headedB f ++ [10]) ++ codeText (f.code.take m)).length ≤ 400000 := by
            have h1 := texts_len (p := p.take k) (fun g hg => PM.out.1 g (List.mem_of_mem_take hg))
            have h2 : (p.take k).length ≤ 16 := by rw [List.length_take]; omega
            have h3 := codeText_len (l := f.code.take m) (List.all_eq_true.2 fun y hy => List.all_eq_true.1 (mayF_parts HF.out.2.2).2.2.2.2.2 y (List.mem_of_mem_take hy))
            have h4 : (f.code.take m).length ≤ 200 := by rw [List.length_take]; omega
            rw [List.length_append, List.length_append, List.length_append, List.length_singleton]
            omega
          have W1 := Lib.hid (fun (W : World) (hW : Below w.heap.size w W) => written_calls x W (ins_ints hmi) (HG.out.below hW))
          have WS := Lib.hid (fun (W : World) (hw : Below wr.heap.size wr W) => WriteString_calls w.heap.size w1.heap.size _ (writtenB x ++ [10]) W (HBi.out.keep hw) (by omega) (Nat.le_trans hbi.size hw.size))
          have HX := Lib.hid hxi
          have BA := ba_append (writtenB x) [10]
          clear hxi hxe hmi hall hwl2
          go_wp2_with (first | (go_at_call 42; (with_reducible refine (W1.out _ (by (repeat (first | (with_reducible assumption) | (with_reducible exact Below.refl _ _) | (with_reducible refine grow_alloc ?_ _) | (with_reducible refine grow_mix ?_ _) | (with_reducible refine grow_drew ?_) | (with_reducible refine grow_drewN ?_ _) | (with_reducible refine grow_set ?_ (by first | (simp; done) | (simp; omega) | omega) _))))).mono ?_); rintro e w' ⟨rfl, hb⟩; have hz := hb.size; (first | (obtain ⟨x1, rfl⟩ := to_mix2 hb) | (obtain ⟨x1, rfl⟩ := to_mix hb)); clear hb; (try simp only [World.size_alloc, World.size_setCell, World.size_drew] at hz); (try have q0 : w.heap.size < _ := Nat.lt_of_lt_of_le (by omega) hz); (try have q1 : w.heap.size + 1 < _ := Nat.lt_of_lt_of_le (by omega) hz); (try have q2 : w.heap.size + 1 + 1 < _ := Nat.lt_of_lt_of_le (by omega) hz); (try have q3 : w.heap.size + 1 + 1 + 1 < _ := Nat.lt_of_lt_of_le (by omega) hz)) | (go_at_call 40; (with_reducible refine (WS.out _ (by (repeat (first | (with_reducible assumption) | (with_reducible exact Below.refl _ _) | (with_reducible refine grow_alloc ?_ _) | (with_reducible refine grow_mix ?_ _) | (with_reducible refine grow_drew ?_) | (with_reducible refine grow_drewN ?_ _) | (with_reducible refine grow_set ?_ (by first | (simp; done) | (simp; omega) | omega) _))))).mono ?_); rintro e w3 ⟨rfl, q1, q2, q3⟩; have HB3 := Lib.hid q1; have hw3 : Below w.heap.size w w3 := Below.trans (by (repeat (first | (with_reducible assumption) | (with_reducible exact Below.refl _ _) | (with_reducible refine grow_alloc ?_ _) | (with_reducible refine grow_mix ?_ _) | (with_reducible refine grow_drew ?_) | (with_reducible refine grow_drewN ?_ _) | (with_reducible refine grow_set ?_ (by first | (simp; done) | (simp; omega) | omega) _)))) q2; clear q1 q2 q3))
          go_roundw
          case rel => exact ⟨m + 1, by omega, by go_num, hw3, Lib.hid (by unfold codeText; rw [flat_next _ _ _ _ HX.out, ← List.append_assoc]; exact HB3.out)⟩
          case measure => simp [intOf]; omega
        · have hm' : m = f.code.length := by omega
          subst hm'
          go_wp2
          go_roundw
          case rel => exact ⟨k + 1, by omega, by go_num, hbi, Lib.hid (by rw [flat_next _ _ _ _ HF.out.2.1, textF_eq, ← List.append_assoc]; have := HBi.out; rw [List.take_length] at this; exact this)⟩
          case measure => simp [intOf]; omega
    · have hk' : k = p.length := by omega
      subst hk'
      have S := Lib.hid (String_calls w.heap.size w1.heap.size (p.flatMap textF) wr (by have := HB.out; rwa [List.take_length] at this) hb.size)
      go_wp2_with (first | (go_at_call 43; (with_reducible refine (S.out).mono ?_); rintro e w3 ⟨rfl, q1⟩))
      go_ret
      exact ⟨rfl, hb.trans q1⟩
end Go.Proofs.YtedkfipjooafeaaGreatDoor.Code
set_option linter.unusedSimpArgs false
set_option linter.unusedVariables false
namespace Go.Proofs.YtedkfipjooafeaaGreatDoor.Code
open Go Go.RowKit Go.Proofs.YtedkfipjooafeaaGreatDoor Go.Proofs.YtedkfipjooafeaaGreatDoor.Op

theorem idx_cons (c x : UInt8) (l : B) : Lib.index (x :: l) [c] = if x = c then 0 else if Lib.index l [c] = -1 then -1 else Lib.index l [c] + 1 := by
  rw [Lib.index]
  by_cases h : x = c
  · simp [h, List.isPrefixOf]
  · have h' : ¬ c = x := fun e => h e.symm
    simp [h, h', List.isPrefixOf]
theorem idx_clean (c : UInt8) (a : B) (h : ∀ y ∈ a, y ≠ c) : Lib.index a [c] = -1 := by
  induction a with
  | nil => rfl
  | cons x a ih => rw [idx_cons, if_neg (h x (by simp)), ih (fun y hy => h y (by simp [hy]))]; rfl
theorem idx_cut (c : UInt8) (a b : B) (h : ∀ y ∈ a, y ≠ c) : Lib.index (a ++ c :: b) [c] = a.length := by
  induction a with
  | nil => rw [List.nil_append, idx_cons, if_pos rfl]; rfl
  | cons x a ih =>
    rw [List.cons_append, idx_cons, if_neg (h x (by simp)), ih (fun y hy => h y (by simp [hy])), if_neg (by omega)]
    simp
theorem splitK_eq (c : UInt8) (s : B) : Lib.splitK [c] 0 (s.count c) s = splitL c s := by
  induction hn : s.length using Nat.strongRecOn generalizing s with
  | _ n ih =>
  rcases cut_cases c s with h | ⟨a, b, rfl, ha⟩
  · have h0 : s.count c = 0 := List.count_eq_zero.2 (fun hc => h c hc rfl)
    rw [h0, splitL_one c s h]
    rfl
  · have h0 : a.count c = 0 := List.count_eq_zero.2 (fun hc => ha c hc rfl)
    have h1 : (a ++ c :: b).count c = b.count c + 1 := by rw [List.count_append, h0, List.count_cons_self, Nat.zero_add]
    rw [h1, splitL_cut c a b ha]
    unfold Lib.splitK
    rw [idx_cut c a b ha]
    have h2 : ((a.length : Int) == -1) = false := by (first | (simp; done) | (simp; omega))
    simp only [h2, Bool.false_eq_true, if_false, Int.toNat_natCast, List.length_singleton, Nat.add_zero]
    rw [List.take_left, show a.length + 1 = (a ++ [c]).length by simp, show a ++ c :: b = (a ++ [c]) ++ b by simp, List.drop_left]
    rw [ih b.length (by rw [← hn]; simp; omega) b rfl]
theorem cut_clean (c : UInt8) (s : B) (h : ∀ y ∈ s, y ≠ c) : Lib.cut s [c] = (s, [], false) := by
  unfold Lib.cut
  rw [idx_clean c s h]
  rfl
theorem cut_cut (c : UInt8) (a b : B) (h : ∀ y ∈ a, y ≠ c) : Lib.cut (a ++ c :: b) [c] = (a, b, true) := by
  unfold Lib.cut
  rw [idx_cut c a b h, if_pos (by omega)]
  simp only [Int.toNat_natCast, List.length_singleton]
  rw [List.take_left, show a.length + 1 = (a ++ [c]).length by simp, show a ++ c :: b = (a ++ [c]) ++ b by simp, List.drop_left]

def atoiV (l : B) : Int := match Lib.atoiAll l with
  | .ok v => v
  | .syntax => 0
  | .range => Lib.atoiSat l
theorem Atoi_calls (l : B) (hl : l.length ≤ 281474976710656) (w : World) (hg : Glob w) :
    Calls Tryz.prog 81 #[str l] w fun e w' => (∃ v, e = .returned (.tuple #[.int .i64 (atoiV l), v]) ∧ v.oneCell' = true) ∧ Below w.heap.size w w' := by
  unfold atoiV
  have hsz : (⟨l.toArray⟩ : ByteArray).size = l.length := by simp [ByteArray.size]
  have hd : (⟨l.toArray⟩ : ByteArray).data.toList = l := by simp
  cases h : Lib.atoiAll l with
  | ok v =>
    refine (Tryz.strconv_Atoi_ok ⟨l.toArray⟩ (by rw [hsz]; omega) v (by rw [hd]; exact h) w).mono ?_
    rintro e w' ⟨rfl, hw⟩
    refine ⟨⟨_, rfl, rfl⟩, ?_⟩
    rcases hw with rfl | ⟨t, rfl⟩
    · exact Below.refl _ _
    · exact Joins.below_bytesWorld _ _ _ _ (Nat.le_refl _)
  | «syntax» =>
    obtain ⟨ev, h1, h2⟩ := hg.syn
    refine (Tryz.strconv_Atoi_syntax ⟨l.toArray⟩ (by rw [hsz]; omega) (by rw [hd]; exact h) ev w h1 h2).mono ?_
    rintro e w' ⟨N, rfl, _, _, hb⟩
    exact ⟨⟨_, rfl, rfl⟩, hb⟩
  | range =>
    obtain ⟨ev, h1, h2⟩ := hg.ran
    refine (Tryz.strconv_Atoi_range ⟨l.toArray⟩ (by rw [hsz]; omega) (by rw [hd]; exact h) ev w h1 h2).mono ?_
    rintro e w' ⟨N, rfl, _, _, hb⟩
    exact ⟨⟨_, by rw [hd], rfl⟩, hb⟩
theorem Split_calls (s : B) (c : UInt8) (hs : s.length < 4294967281) (w : World) (hg : Glob w) :
    Calls Tryz.prog 80 #[str s, str [c]] w fun e w' => e = .returned (.slice (some ⟨w.heap.size, 0, none⟩) (splitL c s).length (splitL c s).length) ∧ w' = w.alloc (.cells ((splitL c s).map str).toArray 9) := by
  obtain ⟨m, hm⟩ := hg.len
  have hsz : (⟨s.toArray⟩ : ByteArray).size = s.length := by simp [ByteArray.size]
  refine (Tryz.strings_Split ⟨s.toArray⟩ ⟨#[c]⟩ m w (by rw [hsz]; exact hs) hm (Nat.le_refl 1)).mono ?_
  have hcnt : Lib.countB ⟨s.toArray⟩ ⟨#[c]⟩ = s.count c := by
    have := Lib.count_one c s
    simpa using this
  have hspl : (Lib.splitB ⟨#[c]⟩ 0 (Lib.countB ⟨s.toArray⟩ ⟨#[c]⟩) ⟨s.toArray⟩).map (·.data.toList) = splitL c s := by
    rw [Lib.splitB_data, hcnt]
    simpa using splitK_eq c s
  have hlen := Lib.splitB_all ⟨#[c]⟩ (Nat.le_refl 1) 0 _ ⟨s.toArray⟩ rfl
  have hl2 : (splitL c s).length = Lib.countB ⟨s.toArray⟩ ⟨#[c]⟩ + 1 := by rw [← hspl, List.length_map, hlen]
  have hm2 : (Lib.splitB ⟨#[c]⟩ 0 (Lib.countB ⟨s.toArray⟩ ⟨#[c]⟩) ⟨s.toArray⟩).map Value.string = (splitL c s).map str := by
    rw [← hspl, List.map_map]
    apply List.map_congr_left
    intro x _
    rfl
  rintro e w' ⟨rfl, rfl⟩
  exact ⟨by rw [hl2], by rw [hm2]⟩
theorem Cut_calls (s : B) (c : UInt8) (hs : s.length < 4294967281) (w : World) (hg : Glob w) :
    Calls Tryz.prog 25 #[str s, str [c]] w fun e w' => e = .returned (.tuple #[str (Lib.cut s [c]).1, str (Lib.cut s [c]).2.1, .bool (Lib.cut s [c]).2.2]) ∧ Below w.heap.size w w' := by
  obtain ⟨m, hm⟩ := hg.len
  have hsz : (⟨s.toArray⟩ : ByteArray).size = s.length := by simp [ByteArray.size]
  refine (Tryz.strings_Cut ⟨s.toArray⟩ ⟨#[c]⟩ m w (by rw [hsz]; exact hs) hm).mono ?_
  rintro e w' ⟨rfl, n, rfl⟩
  exact ⟨by simp, ⟨rfl, rfl, rfl, Nat.le_refl _, fun _ _ => rfl⟩⟩
end Go.Proofs.YtedkfipjooafeaaGreatDoor.Code
set_option linter.unusedSimpArgs false
set_option linter.unusedVariables false
namespace Go.Proofs.YtedkfipjooafeaaGreatDoor.Code
open Go Go.RowKit Go.Proofs.YtedkfipjooafeaaGreatDoor Go.Proofs.YtedkfipjooafeaaGreatDoor.Op

/-! ### Lines are apart -/
theorem head_inj {f g : Fn} (hf : f.code = []) (hg : g.code = []) (h : headedB f = headedB g) : f = g := by
  have := (line_inj (fun y hy => (func_clean y hy).1) (fun y hy => (func_clean y hy).1) h).2
  obtain ⟨a, b, c, d⟩ := f
  obtain ⟨a', b', c', d'⟩ := g
  simp only at hf hg
  simp only [List.cons.injEq, and_true] at this
  obtain ⟨rfl, rfl, rfl⟩ := this
  rw [hf, hg]
theorem isOp_of_may {x : Ins} (h : mayI x = true) : isOp x.op = true := by
  unfold mayI at h
  simp only [Bool.and_eq_true] at h
  exact h.1
theorem may_zero {x : Ins} (h : mayI x = true) : (opFields x.op < 1 → x.a = 0) ∧ (opFields x.op < 2 → x.b = 0) := by
  have hb := mayI_bd h
  unfold mayI at h
  simp only [Bool.and_eq_true] at h
  obtain ⟨_, h1, h2⟩ := h
  unfold spanHas at h1 h2
  simp only [decide_eq_true_eq] at h1 h2
  have hc : x.op = 0 ∨ x.op = 1 ∨ x.op = 2 ∨ x.op = 3 ∨ x.op = 4 ∨ x.op = 5 ∨ x.op = 6 ∨ x.op = 7 ∨ x.op = 8 ∨ x.op = 9 ∨ x.op = 10 ∨ x.op = 11 ∨ x.op = 12 ∨ x.op = 13 ∨ x.op = 14 ∨ x.op = 15 ∨ x.op = 16 := by omega
  obtain ⟨o, a, b⟩ := x
  simp only at *
  rcases hc with rfl | rfl | rfl | rfl | rfl | rfl | rfl | rfl | rfl | rfl | rfl | rfl | rfl | rfl | rfl | rfl | rfl <;>
    (simp [spanA, spanB, opFields, fieldsL, isOp] at h1 h2 ⊢; try omega)
theorem written_inj {x y : Ins} (hx : mayI x = true) (hy : mayI y = true) (h : writtenB x = writtenB y) : x = y := by
  have := line_inj (fun z hz => (name_clean _ z hz).1) (fun z hz => (name_clean _ z hz).1) h
  have ho := name_inj (isOp_of_may hx) this.1
  have hzx := may_zero hx
  have hzy := may_zero hy
  have hf := this.2
  obtain ⟨o, a, b⟩ := x
  obtain ⟨o', a', b'⟩ := y
  simp only at ho
  subst ho
  unfold fieldsB at hf
  simp only at hf hzx hzy
  rcases fields_len o with e | e | e
  · rw [hzx.1 (by omega), hzx.2 (by omega), hzy.1 (by omega), hzy.2 (by omega)]
  · rw [e] at hf
    simp at hf
    rw [hf, hzx.2 (by omega), hzy.2 (by omega)]
  · rw [e] at hf
    simp at hf
    rw [hf.1, hf.2]
theorem head_not_ins {f : Fn} {x : Ins} (h : headedB f = writtenB x) : False := by
  have := line_inj (fun y hy => (func_clean y hy).1) (fun z hz => (name_clean _ z hz).1) h
  exact func_none x.op this.1.symm
theorem step_one {p q q' : Pg} {s : B} (h : Step p s q) (h' : Step p s q') : q = q' := by
  rcases h with ⟨f, h1, h2, h3, _, _⟩ | ⟨x, h1, h3, _, _⟩ <;> rcases h' with ⟨g, g1, g2, g3, _, _⟩ | ⟨y, g1, g3, _, _⟩
  · rw [head_inj h2 g2 (h3.trans g3.symm)]
  · exact (head_not_ins (h3.trans g3.symm)).elim
  · exact (head_not_ins (g3.trans h3.symm)).elim
  · rw [written_inj h1 g1 (h3.trans g3.symm)]

/-! ### A text read, line by line -/
open Classical in
noncomputable def readP (p : Pg) (s : B) : Option Pg := if h : ∃ q, Step p s q then some h.choose else none
theorem readP_some {p q : Pg} {s : B} (h : Step p s q) : readP p s = some q := by
  have hex : ∃ q, Step p s q := ⟨q, h⟩
  unfold readP
  rw [dif_pos hex]
  exact congrArg some (step_one hex.choose_spec h)
theorem readP_none {p : Pg} {s : B} (h : ∀ q, ¬ Step p s q) : readP p s = none := by
  unfold readP
  rw [dif_neg (fun ⟨q, hq⟩ => h q hq)]
theorem step_of_read {p q : Pg} {s : B} (h : readP p s = some q) : Step p s q := by
  unfold readP at h
  split at h
  · rename_i hex
    injection h with h
    subst h
    exact hex.choose_spec
  · cases h
noncomputable def runL : List B → Pg → Nat → Option Pg × Nat
  | [], _, n => (none, n)
  | l :: ls, p, n =>
    match ls with
    | [] => if l = [] ∧ mayP p = true then (some p, n) else (none, n)
    | m :: r => match readP p l with
      | none => (none, n)
      | some q => runL (m :: r) q (n + 1)
noncomputable def parseP (s : B) : Option Pg × Nat := runL (splitL 10 s) [] 0

/-! ### The lines of a program -/
def linesF (f : Fn) : List B := headedB f :: f.code.map writtenB
def linesP (p : Pg) : List B := p.flatMap linesF
theorem joined_text (p : Pg) : p.flatMap textF = (linesP p).flatMap fun l => l ++ [10] := by
  induction p with
  | nil => rfl
  | cons f p ih =>
    unfold linesP at *
    rw [List.flatMap_cons, List.flatMap_cons, List.flatMap_append, ← ih]
    congr 1
    unfold textF linesF
    rw [List.flatMap_cons, List.flatMap_map]
    simp
theorem itoa_clean10 (n : Int) : ∀ y ∈ Lib.itoa n, y ≠ 10 := itoa_clean n 10 (by decide)
theorem line_clean (w : B) (l : List Int) (hw : ∀ y ∈ w, y ≠ 10) : ∀ y ∈ lineB w l, y ≠ 10 := by
  intro y hy
  unfold lineB at hy
  rw [List.mem_append, List.mem_flatMap] at hy
  rcases hy with hy | ⟨n, _, hy⟩
  · exact hw y hy
  · rw [List.mem_cons] at hy
    rcases hy with rfl | hy
    · decide
    · exact itoa_clean10 n y hy
theorem lines_clean (p : Pg) : ∀ l ∈ linesP p, ∀ y ∈ l, y ≠ 10 := by
  intro l hl y hy
  unfold linesP at hl
  rw [List.mem_flatMap] at hl
  obtain ⟨f, _, hl⟩ := hl
  unfold linesF at hl
  rw [List.mem_cons, List.mem_map] at hl
  rcases hl with rfl | ⟨x, _, rfl⟩
  · exact line_clean _ _ (fun z hz => (func_clean z hz).2) y hy
  · exact line_clean _ _ (fun z hz => (name_clean _ z hz).2) y hy
theorem split_lines (ls : List B) (t : B) (h : ∀ l ∈ ls, ∀ y ∈ l, y ≠ 10) : splitL 10 ((ls.flatMap fun l => l ++ [10]) ++ t) = ls ++ splitL 10 t := by
  induction ls with
  | nil => rfl
  | cons l ls ih =>
    rw [List.flatMap_cons, List.append_assoc, List.append_assoc, List.singleton_append, splitL_cut 10 l _ (h l (by simp)), ih (fun m hm => h m (by simp [hm]))]
    rfl
inductive Steps : Pg → List B → Pg → Prop
  | nil (p : Pg) : Steps p [] p
  | cons {p q r : Pg} {l : B} {ls : List B} (h : Step p l q) (t : Steps q ls r) : Steps p (l :: ls) r
theorem Steps.app {p q r : Pg} {a b : List B} (h : Steps p a q) (h' : Steps q b r) : Steps p (a ++ b) r := by
  induction h with
  | nil p => exact h'
  | cons h _ ih => exact .cons h (ih h')
theorem runL_steps {p q : Pg} {a : List B} {ls : List B} {n : Nat} (h : Steps p a q) (hne : ls ≠ []) : runL (a ++ ls) p n = runL ls q (n + a.length) := by
  induction h generalizing n with
  | nil p => rfl
  | @cons p q r l t hs _ ih =>
    rw [List.cons_append]
    cases ht : t ++ ls with
    | nil => simp at ht; exact absurd ht.2 hne
    | cons m k =>
      rw [runL, readP_some hs, ← ht]
      show runL (t ++ ls) q (n + 1) = _
      rw [ih, List.length_cons]
      congr 1
      omega
theorem addI_last (p : Pg) (f : Fn) (x : Ins) : addI (p ++ [f]) x = p ++ [{ f with code := f.code ++ [x] }] := by
  induction p with
  | nil => rfl
  | cons g p ih =>
    cases p with
    | nil => rfl
    | cons h r =>
      rw [List.cons_append, List.cons_append, addI, ← List.cons_append, ih]
      rfl
theorem lastN_app (p : Pg) (f : Fn) : lastN (p ++ [f]) = f.code.length := by unfold lastN; simp
theorem steps_code (p : Pg) (f : Fn) (l : List Ins) (h : l.all mayI = true) (hn : f.code.length + l.length ≤ 200) : Steps (p ++ [f]) (l.map writtenB) (p ++ [{ f with code := f.code ++ l }]) := by
  induction l generalizing f with
  | nil => rw [List.append_nil]; exact .nil _
  | cons x l ih =>
    simp only [List.all_cons, Bool.and_eq_true] at h
    rw [List.length_cons] at hn
    refine .cons (.ins x h.1 rfl (by simp) (by rw [lastN_app]; omega)) ?_
    rw [addI_last]
    have := ih { f with code := f.code ++ [x] } h.2 (by simp; omega)
    simpa using this
theorem steps_fn (p : Pg) (f : Fn) (h : mayF f = true) (hp : p.length < 16) (hl : p = [] ∨ lastN p ≠ 0) : Steps p (linesF f) (p ++ [f]) := by
  have hm := mayF_parts h
  have hh : headB f = true := by unfold mayF at h; simp only [Bool.and_eq_true] at h; exact h.1
  refine .cons (.head ⟨f.ar, f.lo, f.sl, []⟩ hh rfl rfl hp hl) ?_
  have := steps_code p ⟨f.ar, f.lo, f.sl, []⟩ f.code hm.2.2.2.2.2 (by simp; omega)
  simpa using this
theorem steps_prog (p q : Pg) (h : ∀ f ∈ q, mayF f = true) (hn : p.length + q.length ≤ 16) (hp : p = [] ∨ lastN p ≠ 0) : Steps p (linesP q) (p ++ q) := by
  induction q generalizing p with
  | nil => rw [List.append_nil]; exact .nil _
  | cons f q ih =>
    rw [List.length_cons] at hn
    have h1 := steps_fn p f (h f (by simp)) (by omega) hp
    have hm := mayF_parts (h f (by simp))
    have h2 := ih (p ++ [f]) (fun g hg => h g (by simp [hg])) (by simp; omega) (.inr (by rw [lastN_app]; omega))
    have := h1.app h2
    rw [List.append_assoc, List.singleton_append] at this
    exact this
theorem parse_text {p : Pg} (h : mayP p = true) : parseP (textP p) = (some p, (linesP p).length) := by
  have hm := mayP_parts h
  unfold parseP textP
  rw [if_pos h, joined_text]
  have e : ((linesP p).flatMap fun l => l ++ [10]) = ((linesP p).flatMap fun l => l ++ [10]) ++ [] := by simp
  rw [e, split_lines _ _ (lines_clean p), runL_steps (steps_prog [] p hm.1 (by simpa using hm.2.2) (.inl rfl)) (by simp [splitL])]
  rw [List.nil_append, Nat.zero_add]
  show runL [[]] p _ = _
  rw [runL, if_pos ⟨rfl, h⟩]
/-! ### The other way -/
theorem runL_some {ls : List B} {p q : Pg} {n m : Nat} (h : runL ls p n = (some q, m)) : ∃ a, ls = a ++ [[]] ∧ Steps p a q ∧ mayP q = true ∧ m = n + a.length := by
  induction ls generalizing p n with
  | nil => simp [runL] at h
  | cons l ls ih =>
    cases ls with
    | nil =>
      rw [runL] at h
      split at h
      · rename_i hc
        simp only [Prod.mk.injEq, Option.some.injEq] at h
        obtain ⟨rfl, rfl⟩ := h
        exact ⟨[], by rw [hc.1]; rfl, .nil _, hc.2, rfl⟩
      · simp at h
    | cons k r =>
      rw [runL] at h
      cases hr : readP p l with
      | none => rw [hr] at h; simp at h
      | some p2 =>
        rw [hr] at h
        obtain ⟨a, h1, h2, h3, h4⟩ := ih h
        exact ⟨l :: a, by rw [h1]; rfl, .cons (step_of_read hr) h2, h3, by rw [h4, List.length_cons]; omega⟩
theorem linesP_app (p q : Pg) : linesP (p ++ q) = linesP p ++ linesP q := by unfold linesP; rw [List.flatMap_append]
theorem linesP_one (f : Fn) : linesP [f] = linesF f := by unfold linesP; simp
theorem step_lines {p q : Pg} {l : B} (h : Step p l q) : linesP q = linesP p ++ [l] := by
  rcases h with ⟨f, h1, h2, h3, _, _⟩ | ⟨x, h1, h3, hp, _⟩
  · rw [linesP_app, linesP_one]
    unfold linesF
    rw [h2, ← h3]; rfl
  · obtain ⟨r, f, rfl⟩ : ∃ r f, p = r ++ [f] := ⟨p.dropLast, p.getLast hp, (List.dropLast_concat_getLast hp).symm⟩
    rw [addI_last, linesP_app, linesP_app, linesP_one, linesP_one]
    unfold linesF
    simp [h3]
    rfl
theorem steps_lines {p q : Pg} {a : List B} (h : Steps p a q) : linesP q = linesP p ++ a := by
  induction h with
  | nil p => simp
  | cons h _ ih => rw [ih, step_lines h]; simp
theorem join_lines (a : List B) : joinL 10 (a ++ [[]]) = a.flatMap fun l => l ++ [10] := by
  induction a with
  | nil => rfl
  | cons l a ih => rw [List.cons_append, cons_join 10 l (by simp), ih, List.flatMap_cons]; simp
theorem text_parse {s : B} {p : Pg} {n : Nat} (h : parseP s = (some p, n)) : textP p = s ∧ mayP p = true ∧ n = (linesP p).length := by
  obtain ⟨a, h1, h2, h3, h4⟩ := runL_some h
  have hl := steps_lines h2
  have e0 : linesP ([] : Pg) = [] := rfl
  rw [e0, List.nil_append] at hl
  refine ⟨?_, h3, by rw [hl, h4]; omega⟩
  unfold textP
  rw [if_pos h3, joined_text, hl, ← join_lines, ← h1, join_split]

/-! ### Two programs' lines -/
/-! ### A blank more; the last byte less -/
end Go.Proofs.YtedkfipjooafeaaGreatDoor.Code
set_option linter.unusedSimpArgs false
set_option linter.unusedVariables false
namespace Go.Proofs.YtedkfipjooafeaaGreatDoor.Laws
open Go Go.ChangeShapes Go.WideShapes Go.ChangeAt Go.RowKit Go.Joins Go.Proofs.YtedkfipjooafeaaGreatDoor Go.Proofs.YtedkfipjooafeaaGreatDoor.Code Go.Proofs.YtedkfipjooafeaaGreatDoor.Op

def codIns : Cod Ins := codIso (codPair codInt (codPair codInt (codPair codInt codUnit))) (fun x => (x.op, x.a, x.b, ()))
def codFn : Cod Code.Fn := codIso (codPair codInt (codPair codInt (codPair codInt (codPair (codSlice codIns) codUnit)))) (fun f => (f.ar, f.lo, f.sl, f.code, ()))
theorem opn_ins : Opn Tryz.prog 64 codIns (fun _ => True) :=
  opn_weaken (opn_iso (fun x => ⟨x.1, x.2.1, x.2.2.1⟩) (fun _ => rfl) (opn_struct Tryz.underlying64 (by kernel_rfl)
    (opn_cons rfl (by kernel_rfl) (opn_int Tryz.underlying3) (opn_cons rfl (by kernel_rfl) (opn_int Tryz.underlying3) (opn_cons rfl (by kernel_rfl) (opn_int Tryz.underlying3) opn_nil))))) (fun _ _ => trivial)
def OkF (f : Code.Fn) : Prop := f.code.length ≤ 9223372036854775
def OkP (p : Pg) : Prop := p.length ≤ 9223372036854775 ∧ ∀ f ∈ p, OkF f
theorem opn_fn : Opn Tryz.prog 39 codFn OkF :=
  opn_weaken (opn_iso (fun x => ⟨x.1, x.2.1, x.2.2.1, x.2.2.2.1⟩) (fun _ => rfl) (opn_struct Tryz.underlying39 (by kernel_rfl)
    (opn_cons rfl (by kernel_rfl) (opn_int Tryz.underlying3) (opn_cons rfl (by kernel_rfl) (opn_int Tryz.underlying3) (opn_cons rfl (by kernel_rfl) (opn_int Tryz.underlying3)
      (opn_cons rfl (by kernel_rfl) (opn_slice 24 Tryz.underlying37 (by kernel_rfl) (by decide) (by kernel_rfl) opn_ins) opn_nil)))))) (fun f h => by
      have := h.2.2.2.1.1
      unfold OkF
      simp only [reachBytes] at this
      omega)
theorem opn_prog : Opn Tryz.prog 23 (codSlice codFn) OkP :=
  opn_weaken (opn_slice 48 Tryz.underlying23 (by kernel_rfl) (by decide) (by kernel_rfl) opn_fn) (fun p h => ⟨by
      have := h.1
      simp only [reachBytes] at this
      omega, h.2⟩)
theorem css_map {α : Type} {l : List α} {css : List (List Value)} {F : α → List Value} (hl : css.length = l.length) (h : ∀ (i : Nat) a xs, l[i]? = some a → css[i]? = some xs → xs = F a) : css = l.map F := by
  refine List.ext_getElem? fun i => ?_
  rw [List.getElem?_map]
  cases ha : l[i]? with
  | none => rw [List.getElem?_eq_none (by rw [hl]; exact List.getElem?_eq_none_iff.1 ha)]; rfl
  | some a =>
    have hlt := (List.getElem?_eq_some_iff.1 ha).1
    have hx : css[i]? = some (css[i]'(by omega)) := List.getElem?_eq_getElem _
    rw [hx, Option.map_some, h i a _ ha hx]
theorem ins_rep {w : World} {B : Nat} {x : Ins} {cs : List Value} (h : codIns.rep w B x cs) : cs = insL x := by
  obtain ⟨xs, ys, rfl, rfl, ⟨xs2, ys2, rfl, rfl, ⟨xs3, ys3, rfl, rfl, rfl⟩⟩⟩ := h
  rfl
theorem code_rep {w : World} {B : Nat} {l : List Ins} {cs : List Value} (h : (codSlice codIns).rep w B l cs) : ∃ v, cs = [v] ∧ CodeAt w B v l := by
  obtain ⟨v, css, rfl, hl, hr, hi⟩ := h
  refine ⟨v, rfl, ?_⟩
  have e := css_map (F := insL) hl (fun i a xs ha hx => ins_rep (hi i a xs ha hx))
  rw [e, ← List.flatMap_def] at hr
  exact hr
theorem fn_rep {w : World} {B : Nat} {f : Code.Fn} {cs : List Value} (h : codFn.rep w B f cs) : ∃ u, cs = fnL f u ∧ CodeAt w B u f.code := by
  obtain ⟨xs, ys, rfl, rfl, ⟨xs2, ys2, rfl, rfl, ⟨xs3, ys3, rfl, rfl, ⟨xs4, ys4, rfl, h4, rfl⟩⟩⟩⟩ := h
  obtain ⟨u, rfl, hu⟩ := code_rep h4
  exact ⟨u, rfl, hu⟩
theorem prog_rep {w : World} {B : Nat} {p : Pg} {cs : List Value} (h : (codSlice codFn).rep w B p cs) : ∃ v, cs = [v] ∧ ProgAt w B v p := by
  obtain ⟨v, css, rfl, hl, hr, hi⟩ := h
  refine ⟨v, rfl, ?_⟩
  obtain ⟨vs, hvl, hvs⟩ := choose_list (n := p.length) (p := fun i u => ∃ f cs, p[i]? = some f ∧ css[i]? = some cs ∧ cs = fnL f u ∧ CodeAt w B u f.code) (fun i hip => by
    have hf : p[i]? = some p[i] := List.getElem?_eq_getElem hip
    have hx : css[i]? = some (css[i]'(by omega)) := List.getElem?_eq_getElem _
    obtain ⟨u, h1, h2⟩ := fn_rep (hi i _ _ hf hx)
    exact ⟨u, _, _, hf, hx, h1, h2⟩)
  refine ⟨vs, hvl, ?_, ?_⟩
  · have e := css_map (l := p.zip vs) (css := css) (F := fun x => fnL x.1 x.2) (by rw [hl, List.length_zip]; omega) (fun i a xs ha hx => by
      rw [List.getElem?_zip_eq_some] at ha
      obtain ⟨f, cs, h1, h2, h3, h4⟩ := hvs i a.2 ha.2
      rw [ha.1] at h1
      injection h1 with h1
      rw [hx] at h2
      injection h2 with h2
      rw [h2, h3, h1])
    rw [e, ← List.flatMap_def] at hr
    exact hr
  · intro i f u hf hu
    obtain ⟨f', cs, h1, h2, h3, h4⟩ := hvs i u hu
    rw [hf] at h1
    injection h1 with h1
    rw [h1]; exact h4
set_option maxRecDepth 100000 in
theorem open_prog {H : Type} {enc : TypeId × Value → H} {W : World} {base : Nat} {v : Value} {d : DataW H} {pl : List MemPlace} {b : Nat} {sp : Nat → Bool} {hd : Bool} (hv : Value.okWide Tryz.prog W .any base 23 v)
    (h : DataW.Trod enc Tryz.prog W b sp hd 23 v d pl) (hp : ∀ p ∈ pl, p.block < W.heap.size) (hw : ∀ k ∈ d.weights Tryz.prog 23, k ≤ reachBytes) : ∃ p : Pg, ProgAt W W.heap.size v p ∧ OkP p := by
  obtain ⟨fuel, hf⟩ := h
  obtain ⟨p, hr, hok⟩ := opn_prog.op hf hp hw
  obtain ⟨u, hu, hpa⟩ := prog_rep hr
  refine ⟨p, ?_, hok⟩
  obtain ⟨A, c, e⟩ := hpa.form
  have hs : v.cells.toList = [v] := by
    have := okWide_slice Tryz.underlying23 hv
    rcases this with ⟨_, _, _, rfl⟩ <;> rfl
  rw [hs] at hu
  injection hu with hu
  rw [hu]; exact hpa
theorem gPow : Tryz.prog.globalNamed "internal/strconv.uint64pow10" = some 3 := by kernel_rfl
theorem gPowType : (Tryz.prog.globals[3]?).map (·.type) = some 165 := by kernel_rfl
theorem gSyn : Tryz.prog.globalNamed "strconv.ErrSyntax" = some 1 := by kernel_rfl
theorem gSynType : (Tryz.prog.globals[1]?).map (·.type) = some 71 := by kernel_rfl
theorem gRan : Tryz.prog.globalNamed "strconv.ErrRange" = some 2 := by kernel_rfl
theorem gRanType : (Tryz.prog.globals[2]?).map (·.type) = some 71 := by kernel_rfl
theorem cellsErr : Tryz.prog.cellsOf 163 = 1 := by kernel_rfl
theorem cellsStr : Tryz.prog.cellsOf 9 = 1 := by kernel_rfl
theorem cellsArr : Tryz.prog.cellsOf 165 = 20 := by kernel_rfl
theorem cellsU64 : Tryz.prog.cellsOf 147 = 1 := by kernel_rfl
theorem star : "*" ++ "errors.errorString" = "*errors.errorString" := by decide
theorem rowErr (u : TypeId) (h : Tryz.prog.typeName? 3 u = some "*errors.errorString") : u = 161 :=
  typeName_ptr_named (nm := "errors.errorString") (by rw [star]; kernel_rfl) (by kernel_rfl) (by decide) u (by rw [star]; exact h)
theorem glob_of {W : World} (h : laidMetH Tryz.prog Rows.codeBackRow.laid W) (hs : W.ShapedOpen Tryz.prog) : Glob W := by
  have h0 : laidMet Tryz.prog Rows.codeBackRow.laid W := h
  have h3 : laidMet Tryz.prog [("internal/strconv.uint64pow10", Lib.tabData .u64 Lib.pow10Tab), ("unicode/utf8.acceptRanges", Rows.laid_unicode_utf8_acceptRanges), ("strconv.ErrRange", Rows.laid_strconv_ErrRange), ("strconv.ErrSyntax", Rows.laid_strconv_ErrSyntax), ("unicode/utf8.first", Rows.laid_unicode_utf8_first)] W := laidMet.tail (laidMet.tail h0)
  have hR : laidMet Tryz.prog [("strconv.ErrRange", Rows.laid_strconv_ErrRange), ("strconv.ErrSyntax", Rows.laid_strconv_ErrSyntax), ("unicode/utf8.first", Rows.laid_unicode_utf8_first)] W := laidMet.tail (laidMet.tail h3)
  have hS : laidMet Tryz.prog [("strconv.ErrSyntax", Rows.laid_strconv_ErrSyntax), ("unicode/utf8.first", Rows.laid_unicode_utf8_first)] W := laidMet.tail hR
  refine ⟨?_, ?_, ?_, ?_⟩
  · exact Lib.tabIs_of_head (rest := [("unicode/utf8.acceptRanges", Rows.laid_unicode_utf8_acceptRanges), ("strconv.ErrRange", Rows.laid_strconv_ErrRange), ("strconv.ErrSyntax", Rows.laid_strconv_ErrSyntax), ("unicode/utf8.first", Rows.laid_unicode_utf8_first)]) gPow gPowType Tryz.underlying165 Tryz.underlying147 cellsU64 cellsArr h3
  · exact Go.Proofs.cell_of_shapedOpen_int (zero := #[.int .i64 0]) (t := 3) hs (of_decide_eq_true (by kernel_rfl)) (by kernel_rfl) rfl (by kernel_rfl) (by kernel_rfl) Tryz.underlying3
  · obtain ⟨a0, s0, hv0, -, -, -⟩ := laid_sentinel hS gSyn gSynType Tryz.underlying71 rowErr Tryz.underlying161 Tryz.underlying163 rfl rfl Tryz.underlying9 cellsErr cellsStr
    have h1 := World.var?_cell gSyn hv0 0
    exact ⟨_, by simpa using h1, .inr ⟨_, _, rfl⟩⟩
  · obtain ⟨a0, s0, hv0, -, -, -⟩ := laid_sentinel hR gRan gRanType Tryz.underlying71 rowErr Tryz.underlying161 Tryz.underlying163 rfl rfl Tryz.underlying9 cellsErr cellsStr
    have h1 := World.var?_cell gRan hv0 0
    exact ⟨_, by simpa using h1, .inr ⟨_, _, rfl⟩⟩
theorem heap8 {W : World} (hs : W.ShapedOpen Tryz.prog) : 8 ≤ W.heap.size := by
  have h : (((begin Tryz.prog (fun _ _ => 0) default).world.heap[7]?).bind Obj.row?).isSome = true := by kernel_rfl
  obtain ⟨⟨z, t⟩, h0⟩ := Option.isSome_iff_exists.1 h
  obtain ⟨cs, hh, _⟩ := hs.1 7 z t (of_decide_eq_true (by kernel_rfl)) h0
  exact (Array.getElem?_eq_some_iff.1 hh).1
end Go.Proofs.YtedkfipjooafeaaGreatDoor.Laws
set_option linter.unusedSimpArgs false
set_option linter.unusedVariables false
namespace Go.Proofs.YtedkfipjooafeaaGreatDoor.Code
open Go Go.RowKit Go.Proofs.YtedkfipjooafeaaGreatDoor Go.Proofs.YtedkfipjooafeaaGreatDoor.Op

structure But (b : Nat) (w w' : World) : Prop where
  below : Below b w w'
  grown : w.heap.size ≤ w'.heap.size
  block : ∀ i, i < w.heap.size → i ≠ b → w'.heap[i]? = w.heap[i]?
section
variable {b g : Nat} {w w' w'' : World} {cs : Array Value} {t : TypeId}
theorem But.refl (b : Nat) (w : World) : But b w w := ⟨Below.refl _ _, Nat.le_refl _, fun _ _ _ => rfl⟩
theorem But.trans (h : But b w w') (h' : But b w' w'') : But b w w'' :=
  ⟨h.below.trans h'.below, Nat.le_trans h.grown h'.grown, fun i hi hb => (h'.block i (Nat.lt_of_lt_of_le hi h.grown) hb).trans (h.block i hi hb)⟩
theorem But.of_below (hb : b ≤ w.heap.size) (h : Below w.heap.size w w') : But b w w' := ⟨h.mono hb, h.size, fun i hi _ => h.block i hi⟩
theorem But.then (h : But b w w') (hb : b ≤ w'.heap.size) (h' : Below w'.heap.size w' w'') : But b w w'' := h.trans (But.of_below hb h')
theorem But.set (h : But b w w') (i : Nat) (v : Value) : But b w (w'.setCell ⟨b, i, none⟩ v) :=
  ⟨h.below.setCell (p := ⟨b, i, none⟩) (Nat.le_refl _) v, by simpa using h.grown, fun j hj hne => by
    rw [← h.block j hj hne]
    show (w'.heap.modify b _)[j]? = _
    rw [Array.getElem?_modify, if_neg (fun e => hne e.symm)]⟩
theorem But.has (h : But b w w') (hh : Has w g cs t) (hne : g ≠ b) : Has w' g cs t := (h.block g hh.lt hne).trans hh
theorem But.own {base : Nat} {e : TypeId} {size n : Nat} {v : Value} {xs : List Value} (h : But b w w') (ho : w.ownsRow base e size v n xs) (hne : v.ownBlock ≠ some b) : w'.ownsRow base e size v n xs := by
  obtain ⟨h1, h2⟩ := ho
  refine ⟨h1, ?_⟩
  rcases h2 with h2 | ⟨g, cap, cur, hv, hg, hh, h3⟩
  · exact .inl h2
  · have hlt : g < w.heap.size := by
      rcases Nat.lt_or_ge g w.heap.size with h' | h'
      · exact h'
      · rw [Array.getElem?_eq_none h'] at hh; cases hh
    refine .inr ⟨g, cap, cur, hv, hg, (h.block g hlt (fun e => hne ?_)).trans hh, h3⟩
    subst e
    rw [hv]; rfl
theorem own_ne {base : Nat} {e : TypeId} {size n : Nat} {v : Value} {xs : List Value} (ho : w.ownsRow base e size v n xs) (hh : Has w g cs t) (hne : e ≠ t) : v.ownBlock ≠ some g := by
  rcases ho.2 with ⟨rfl, _⟩ | ⟨g', cap, cur, rfl, _, hh', _⟩
  · simp [Value.ownBlock]
  · intro he
    have : g' = g := by simpa [Value.ownBlock] using he
    subst this
    unfold Has at hh
    rw [hh'] at hh
    injection hh with hh
    injection hh with _ hh
    exact hne hh
theorem has_ne {g' : Nat} {cs' : Array Value} {t' : TypeId} (h : Has w g cs t) (h' : Has w g' cs' t') (hne : t ≠ t') : g ≠ g' := by
  rintro rfl
  unfold Has at h h'
  rw [h] at h'
  injection h' with h'
  injection h' with _ h'
  exact hne h'
end
end Go.Proofs.YtedkfipjooafeaaGreatDoor.Code
set_option linter.unusedSimpArgs false
set_option linter.unusedVariables false
namespace Go.Proofs.YtedkfipjooafeaaGreatDoor.Wire
open Go Go.RowKit Go.Proofs.YtedkfipjooafeaaGreatDoor Go.Proofs.YtedkfipjooafeaaGreatDoor.Op

def getA : List UInt8 → Nat → Nat → Except Int (Nat × Nat)
  | [], _, _ => .error 10
  | c :: r, k, acc =>
    if 7 ≤ k ∨ (k = 6 ∧ c.toNat < 128 ∧ 63 < c.toNat) then .error 11
    else if c.toNat < 128 then (if c.toNat = 0 ∧ 0 < k then .error 12 else .ok (acc + c.toNat * 128 ^ k, k + 1))
    else getA r (k + 1) (acc + (c.toNat % 128) * 128 ^ k)
def endV (at_ : Nat) : Except Int (Nat × Nat) → Value
  | .error e => .tuple #[.int .i64 0, .int .i64 at_, .int .i64 e]
  | .ok (n, k) => .tuple #[.int .i64 n, .int .i64 (at_ + k : Nat), .int .i64 0]

theorem wrap_i64_small (n : Int) (h0 : 0 ≤ n) (h : n < 2 ^ 62) : IntKind.i64.wrap n = n := by
  have e : n % 2 ^ 64 = n := Int.emod_eq_of_lt h0 (by omega)
  simp only [IntKind.wrap, IntKind.bits, IntKind.signed, e]
  rw [if_neg]
  simp
  omega
theorem and127 (x : Int) (h0 : 0 ≤ x) (h1 : x < 256) : bits .and .i64 x 127 = x % 128 := bits_mask .i64 62 (by decide) wrap_i64_small 7 (by decide) x h0 (by omega)
theorem or_low (i : Nat) (hi : i ≤ 61) (y x : Int) (hy₀ : 0 ≤ y) (hy : y < 2 ^ i) (hx₀ : 0 ≤ x) (hx : x % 2 ^ i = 0) (hx₁ : x < 2 ^ 62) : bits .or .i64 y x = y + x :=
  bits_join_low .i64 62 (by decide) wrap_i64_small i y x hy₀ hy (Int.lt_of_lt_of_le hy (by exact_mod_cast Nat.pow_le_pow_right (by decide) (by omega))) hx₀ hx hx₁
theorem and128 (x : Nat) (h1 : x < 256) : bits .and .i64 (x : Int) 128 = if x < 128 then 0 else 128 := by
  have key : ∀ y : Fin 256, bits .and .i64 ((y : Nat) : Int) 128 = if (y : Nat) < 128 then 0 else 128 := by decide +kernel
  exact key ⟨x, h1⟩

set_option maxHeartbeats 400000 in
theorem place_in (l : List UInt8) (at_ : Nat) (h : at_ ≤ l.length) (w : World) :
    Calls Tryz.prog 86 #[str l, .int .i64 at_] w fun e w' => e = .returned (.bool true) ∧ w = w' := by
  go_enter Tryz.func86, Tryz.ntmps86
  go_wp2
  go_ret
  exact ⟨rfl, rfl⟩

def GetRel (l : List UInt8) (at_ k acc : Nat) : Prop := at_ + k ≤ l.length ∧ k ≤ 7 ∧ acc < 128 ^ k ∧ getA (l.drop (at_ + k)) k acc = getA (l.drop at_) 0 0
def GetJ (l : List UInt8) (at_ : Nat) (w0 : World) (a : Act) (w : World) : Prop :=
  ∃ (k acc : Nat) (u10 u11 u12 u13 u14 u15 u16 u17 u18 u19 u20 u21 u22 u23 u24 u25 u26 u27 u28 u29 u30 u31 u32 u33 u34 u35 u36 u37 u38 u39 u40 u41 u42 u43 u44 u45 u46 u47 u48 u49 u50 u51 u52 u53 u54 u55 u56 u57 u58 u59 u60 u61 u62 u63 : Value),
    a = { tmps := #[str l, .int .i64 at_, undef, undef, .int .i64 0, .int .i64 0, .int .i64 0, .int .i64 acc, .int .i64 (7 * (k : Int)), .int .i64 (at_ + k : Nat), u10, u11, u12, u13, u14, u15, u16, u17, u18, u19, u20, u21, u22, u23, u24, u25, u26, u27, u28, u29, u30, u31, u32, u33, u34, u35, u36, u37, u38, u39, u40, u41, u42, u43, u44, u45, u46, u47, u48, u49, u50, u51, u52, u53, u54, u55, u56, u57, u58, u59, u60, u61, u62, u63], defers := [] } ∧ GetRel l at_ k acc ∧ w0 = w


theorem ba_get (l : List UInt8) (i : Nat) (h : i < l.length) : (⟨l.toArray⟩ : ByteArray)[i]'h = l[i] := rfl
theorem wrap_byte (c : UInt8) : wrap64 (c.toNat : Int) = c.toNat := by
  have : c.toNat < 256 := c.toNat_lt
  unfold wrap64
  omega
theorem wrap64_id {x : Int} (h0 : 0 ≤ x) (h1 : x < 9223372036854775808) : wrap64 x = x := by
  unfold wrap64
  omega
theorem getA_at {l : List UInt8} {i : Nat} (h : i < l.length) (k acc : Nat) : getA (l.drop i) k acc =
    if 7 ≤ k ∨ (k = 6 ∧ l[i].toNat < 128 ∧ 63 < l[i].toNat) then .error 11
    else if l[i].toNat < 128 then (if l[i].toNat = 0 ∧ 0 < k then .error 12 else .ok (acc + l[i].toNat * 128 ^ k, k + 1))
    else getA (l.drop (i + 1)) (k + 1) (acc + (l[i].toNat % 128) * 128 ^ k) := by
  rw [List.drop_eq_getElem_cons h]
  rfl
theorem getA_none {l : List UInt8} {i : Nat} (h : l.length ≤ i) (k acc : Nat) : getA (l.drop i) k acc = .error 10 := by
  rw [List.drop_eq_nil_of_le h]; rfl

theorem or_group (acc k c : Nat) (h3 : acc < 128 ^ k) (hk : k ≤ 6) (hc : c < 256) : bits .or .i64 (acc : Int) (wrap64 ((c : Int) % 128 * 2 ^ (7 * k))) = ((acc + c % 128 * 128 ^ k : Nat) : Int) := by
  have hcases : k = 0 ∨ k = 1 ∨ k = 2 ∨ k = 3 ∨ k = 4 ∨ k = 5 ∨ k = 6 := by omega
  rcases hcases with rfl | rfl | rfl | rfl | rfl | rfl | rfl
  all_goals
    simp only [Nat.reduceMul, Nat.reducePow, Int.reducePow, Int.mul_one, Nat.mul_one, Nat.reducePow] at h3 ⊢
    rw [show wrap64 _ = _ from wrap64_id (by omega) (by omega)]
  · rw [or_low 0 (by decide) _ _ (by omega) (by omega) (by omega) (by omega) (by omega)]; omega
  · rw [or_low 7 (by decide) _ _ (by omega) (by omega) (by omega) (by omega) (by omega)]; omega
  · rw [or_low 14 (by decide) _ _ (by omega) (by omega) (by omega) (by omega) (by omega)]; omega
  · rw [or_low 21 (by decide) _ _ (by omega) (by omega) (by omega) (by omega) (by omega)]; omega
  · rw [or_low 28 (by decide) _ _ (by omega) (by omega) (by omega) (by omega) (by omega)]; omega
  · rw [or_low 35 (by decide) _ _ (by omega) (by omega) (by omega) (by omega) (by omega)]; omega
  · rw [or_low 42 (by decide) _ _ (by omega) (by omega) (by omega) (by omega) (by omega)]; omega

set_option maxRecDepth 100000 in
set_option maxHeartbeats 2000000 in
theorem Get_in (l : List UInt8) (at_ : Nat) (h : at_ ≤ l.length) (hl : l.length ≤ 9223372036854775000) (w : World) :
    Calls Tryz.prog 62 #[str l, .int .i64 at_] w fun e w' => e = .returned (endV at_ (getA (l.drop at_) 0 0)) ∧ w = w' := by
  go_enter Tryz.func62, Tryz.ntmps62
  go_wp2_with fail
  refine wp_scope_goto2 0 (GetJ l at_ w) (fun a' _ => 1000 - (Go.RowKit.intOf (a'.tmps.getD 8 undef)).toNat) rfl ?_ ?_
  · go_wp2_with (first | (go_at_call 86; refine (place_in _ _ h _).mono ?_; rintro e w' ⟨rfl, rfl⟩))
    exact ⟨0, 0, _, _, _, _, _, _, _, _, _, _, _, _, _, _, _, _, _, _, _, _, _, _, _, _, _, _, _, _, _, _, _, _, _, _, _, _, _, _, _, _, _, _, _, _, _, _, _, _, _, _, _, _, _, _, rfl, ⟨h, by omega, by decide, rfl⟩, rfl⟩
  · rintro a' w' ⟨k, acc, u10, u11, u12, u13, u14, u15, u16, u17, u18, u19, u20, u21, u22, u23, u24, u25, u26, u27, u28, u29, u30, u31, u32, u33, u34, u35, u36, u37, u38, u39, u40, u41, u42, u43, u44, u45, u46, u47, u48, u49, u50, u51, u52, u53, u54, u55, u56, u57, u58, u59, u60, u61, u62, u63, rfl, hrel, rfl⟩
    obtain ⟨r1, r2, r3, r4⟩ := hrel
    have E := Lib.hid r4
    clear r4
    by_cases he : at_ + k = l.length
    · go_wp2
      simp only [Exit.jump]
      go_ret3
      exact ⟨by rw [← E.out, getA_none (by omega)]; rfl, rfl⟩
    · have hlt : at_ + k < l.length := by omega
      have G := Lib.hid (E.out.symm.trans (getA_at hlt k acc))
      clear E
      obtain ⟨c, hc⟩ : ∃ c, l[at_ + k] = c := ⟨_, rfl⟩
      rw [hc] at G
      have hcb : c.toNat < 256 := c.toNat_lt
      have hb := ba_get l (at_ + k) hlt
      rw [hc] at hb
      have hw := wrap_byte c
      by_cases h7 : k = 7
      · subst h7
        go_wp2
        simp only [Exit.jump]
        go_ret3
        exact ⟨by rw [G.out, if_pos (.inl (by omega))]; rfl, rfl⟩
      · have hk : k ≤ 6 := by omega
        have e1 : bits .and .i64 (c.toNat : Int) 127 = ((c.toNat % 128 : Nat) : Int) := by rw [and127 _ (by omega) (by omega)]; omega
        have ha := and128 c.toNat hcb
        have eo := or_group acc k c.toNat r3 hk hcb
        obtain ⟨m, hm⟩ : ∃ m : Nat, acc + c.toNat % 128 * 128 ^ k = m := ⟨_, rfl⟩
        rw [hm] at eo
        have eo6 : 7 * (k : Int) = 42 → bits .or .i64 (acc : Int) ((c.toNat : Int) % 128 * 4398046511104) = (m : Int) := by
          intro h
          have h6 : k = 6 := by omega
          subst h6
          simp only [Nat.reduceMul, Int.reducePow] at eo
          rw [wrap64_id (by omega) (by omega)] at eo
          exact eo
        have hpm : c.toNat % 128 * 128 ^ k ≤ 127 * 128 ^ k := Nat.mul_le_mul_right _ (by omega)
        have HM := Lib.hid (And.intro hm hpm)
        clear hm hpm
        by_cases hc1 : c.toNat < 128
        · rw [if_pos hc1] at ha
          by_cases h6 : k = 6 ∧ 63 < c.toNat
          · obtain ⟨h6a, h6b⟩ := h6
            have h42 : 7 * (k : Int) = 42 := by omega
            have GG := Lib.hid (G.out.trans (if_pos (.inr ⟨h6a, hc1, h6b⟩)))
            clear h6a G
            go_wp2
            simp only [Exit.jump]
            go_ret3
            exact ⟨by rw [GG.out]; rfl, rfl⟩
          · have h6' : k = 6 → ¬ 63 < c.toNat := fun a b => h6 ⟨a, b⟩
            have GG := Lib.hid (G.out.trans (if_neg (by omega)) |>.trans (if_pos hc1))
            clear G h6
            by_cases h0 : c.toNat = 0 ∧ 0 < k
            · have GH := Lib.hid (GG.out.trans (if_pos h0))
              clear GG
              obtain ⟨h0, hk0⟩ := h0
              go_wp2
              all_goals
                simp only [Exit.jump]
                go_ret3
                exact ⟨by rw [GH.out]; rfl, rfl⟩
            · have GH := Lib.hid (GG.out.trans (if_neg h0))
              clear GG
              have h0' : c.toNat = 0 → ¬ 0 < k := fun a b => h0 ⟨a, b⟩
              clear h0
              go_wp2
              all_goals
                simp only [Exit.jump]
                go_ret3
                refine ⟨?_, rfl⟩
                have hmod : c.toNat % 128 = c.toNat := Nat.mod_eq_of_lt hc1
                rw [GH.out, ← HM.out.1, hmod]
                first | rfl | (simp [endV]; omega)
        · rw [if_neg hc1] at ha
          have GH := Lib.hid (G.out.trans (if_neg (by omega)) |>.trans (if_neg hc1))
          clear G
          have hp : m < 128 ^ (k + 1) := by
            rw [Nat.pow_succ, ← HM.out.1]
            have h1 := HM.out.2
            omega
          go_wp2
          all_goals
            go_step3
            have e4 : (at_ : Int) + k + 1 = ((at_ + (k + 1) : Nat) : Int) := by omega
            rw [e4]
            have e3 : 7 * (k : Int) + 7 = 7 * ((k + 1 : Nat) : Int) := by omega
            (first | rw [e3] | (have e3' : (49 : Int) = 7 * ((k + 1 : Nat) : Int) := (by omega); rw [e3']))
            exact ⟨rfl, ⟨k + 1, _, _, _, _, _, _, _, _, _, _, _, _, _, _, _, _, _, _, _, _, _, _, _, _, _, _, _, _, _, _, _, _, _, _, _, _, _, _, _, _, _, _, _, _, _, _, _, _, _, _, _, _, _, _, _, rfl, ⟨by omega, by omega, hp, by rw [GH.out, HM.out.1, Nat.add_assoc]⟩, rfl⟩, by simp [Go.RowKit.intOf]; omega⟩
end Go.Proofs.YtedkfipjooafeaaGreatDoor.Wire
set_option linter.unusedSimpArgs false
set_option linter.unusedVariables false
namespace Go.Proofs.YtedkfipjooafeaaGreatDoor.Code
open Go Go.RowKit Go.Proofs.YtedkfipjooafeaaGreatDoor Go.Proofs.YtedkfipjooafeaaGreatDoor.Op Go.Proofs.YtedkfipjooafeaaGreatDoor.Wire

abbrev tkL (s : B) (i : Nat) (e : Int) : Array Value := #[str s, .int .i64 i, .int .i64 e]
def mustE (e : Int) (holds : Bool) : Int := if e = 0 ∧ holds = false then 71 else e
set_option maxHeartbeats 1000000 in
theorem must_calls (b : Nat) (s : B) (i : Nat) (e : Int) (holds : Bool) (w : World) (h : Has w b (tkL s i e) 51) :
    Calls Tryz.prog 63 #[.pointer (some ⟨b, 0, none⟩), .bool holds] w fun r w' => r = .returned (.tuple #[]) ∧ Has w' b (tkL s i (mustE e holds)) 51 ∧ But b w w' := by
  have h0 := h
  have HT := Lib.hid h0
  clear h0
  have h_c0 := h.cell 0
  have h_c1 := h.cell 1
  have h_c2 := h.cell 2
  have h_f := h.frozen
  have h_l := h.lt
  simp only [List.size_toArray, List.length_cons, List.length_nil, Nat.reduceAdd, Nat.zero_lt_succ, Nat.one_lt_succ_succ, Nat.reduceLT, getElem?_pos, List.getElem_toArray, List.getElem_cons_zero, List.getElem_cons_succ] at h_c0 h_c1 h_c2
  by_cases he : e = 0
  · have hb : (e == 0) = true := by simpa using he
    cases holds
    · have E := Lib.hid (show mustE e false = 71 from if_pos ⟨he, rfl⟩)
      clear he
      go_enter Tryz.func63, Tryz.ntmps63
      go_wp2
      refine bodyPost_end (v := .tuple #[]) (by first | rfl | (simp [results, Tryz.results63]; done)) rfl ?_
      refine ⟨rfl, ?_, (But.refl _ _).set _ _⟩
      rw [E.out]
      exact HT.out.set_same rfl
    · have E := Lib.hid (show mustE e true = e from if_neg (by simp))
      clear he
      go_enter Tryz.func63, Tryz.ntmps63
      go_wp2
      refine bodyPost_end (v := .tuple #[]) (by first | rfl | (simp [results, Tryz.results63]; done)) rfl ?_
      refine ⟨rfl, ?_, But.refl _ _⟩
      rw [E.out]
      exact HT.out
  · have hb : (e == 0) = false := by simpa using he
    have E := Lib.hid (show mustE e holds = e from if_neg (by simp [he]))
    clear he
    go_enter Tryz.func63, Tryz.ntmps63
    go_wp2
    refine bodyPost_end (v := .tuple #[]) (by first | rfl | (simp [results, Tryz.results63]; done)) rfl ?_
    refine ⟨rfl, ?_, But.refl _ _⟩
    rw [E.out]
    exact HT.out

def numS (s : B) (lo hi : Int) (i : Nat) (e : Int) : Int × Nat × Int :=
  if e ≠ 0 then (0, i, e) else
    match getA (s.drop i) 0 0 with
    | .error x => (0, i, mustE x (inB 0 lo hi))
    | .ok (n, k) => (n, i + k, mustE 0 (inB n lo hi))
theorem endV_at (i : Nat) (r : Except Int (Nat × Nat)) : ∃ (n e : Int) (j : Nat), endV i r = .tuple #[.int .i64 n, .int .i64 j, .int .i64 e] ∧ (∀ s lo hi, getA (s.drop i) 0 0 = r → numS s lo hi i 0 = (n, j, mustE e (inB n lo hi))) := by
  rcases r with x | ⟨n, k⟩
  · refine ⟨0, x, i, rfl, fun s lo hi h => ?_⟩
    unfold numS
    rw [if_neg (by simp), h]
  · refine ⟨n, 0, i + k, rfl, fun s lo hi h => ?_⟩
    unfold numS
    rw [if_neg (by simp), h]
theorem getA_len : ∀ (l : B) (k acc n j : Nat), getA l k acc = .ok (n, j) → k ≤ j ∧ j ≤ k + l.length
  | [], k, acc, n, j, h => by simp [getA] at h
  | c :: r, k, acc, n, j, h => by
    unfold getA at h
    split at h
    · cases h
    · split at h
      · split at h
        · cases h
        · injection h with h
          injection h with _ h
          simp; omega
      · have := getA_len r _ _ _ _ h
        simp; omega
theorem numS_le {s : B} {lo hi : Int} {i : Nat} {e : Int} (h : i ≤ s.length) : (numS s lo hi i e).2.1 ≤ s.length := by
  unfold numS
  split
  · exact h
  · split
    · exact h
    · rename_i n k hg
      have := getA_len _ _ _ _ _ hg
      rw [List.length_drop] at this
      simp only
      omega

set_option maxRecDepth 20000 in
set_option maxHeartbeats 2000000 in
theorem number_calls (b : Nat) (s : B) (i : Nat) (e lo hi : Int) (hi' : i ≤ s.length) (hs : s.length ≤ 9223372036854775000) (w : World) (h : Has w b (tkL s i e) 51) :
    Calls Tryz.prog 29 #[.pointer (some ⟨b, 0, none⟩), .int .i64 lo, .int .i64 hi] w fun r w' =>
      r = .returned (.int .i64 (numS s lo hi i e).1) ∧ Has w' b (tkL s (numS s lo hi i e).2.1 (numS s lo hi i e).2.2) 51 ∧ But b w w' := by
  have h0 := h
  have HT := Lib.hid h0
  clear h0
  have h_c0 := h.cell 0
  have h_c1 := h.cell 1
  have h_c2 := h.cell 2
  have h_f := h.frozen
  have h_l := h.lt
  simp only [List.size_toArray, List.length_cons, List.length_nil, Nat.reduceAdd, Nat.zero_lt_succ, Nat.one_lt_succ_succ, Nat.reduceLT, getElem?_pos, List.getElem_toArray, List.getElem_cons_zero, List.getElem_cons_succ] at h_c0 h_c1 h_c2
  by_cases he : e = 0
  · have hb : (e != 0) = false := by simpa using he
    obtain ⟨n, x, j, hv, hn⟩ := endV_at i (getA (s.drop i) 0 0)
    have HN := Lib.hid (show numS s lo hi i e = (n, j, mustE x (inB n lo hi)) by rw [he]; exact hn s lo hi rfl)
    have G : ∀ W, Calls Tryz.prog 62 #[str s, .int .i64 i] W fun e w' => e = .returned (.tuple #[.int .i64 n, .int .i64 j, .int .i64 x]) ∧ W = w' := fun W => by
      have := Get_in s i hi' hs W
      rw [hv] at this
      exact this
    have G := Lib.hid G
    clear he hv hn
    go_enter Tryz.func29, Tryz.ntmps29
    go_wp2
    refine wp_region_mix 15 (by kernel_rfl) (by kernel_rfl) ?_
    simp only [List.take_succ_cons, List.take_zero, List.drop_succ_cons, List.drop_zero]
    repeat (go_big_quiet_step (((go_at_call 62; (with_reducible exact mix_call_same (G.out _))))))
    refine wpQuiet_nil ?_
    intro _ hmix
    (try (with_reducible replace hmix := mix_flat hmix))
    obtain ⟨x1, hmix'⟩ := hmix
    have hz := mix_size' hmix'
    subst hmix'
    (try simp only [World.size_alloc, World.size_setCell, World.size_drew] at hz); (try have q0 : w.heap.size < _ := Nat.lt_of_lt_of_le (by omega) hz); (try have q1 : w.heap.size + 1 < _ := Nat.lt_of_lt_of_le (by omega) hz); (try have q2 : w.heap.size + 1 + 1 < _ := Nat.lt_of_lt_of_le (by omega) hz); (try have q3 : w.heap.size + 1 + 1 + 1 < _ := Nat.lt_of_lt_of_le (by omega) hz)
    have HT1 := HT.out.mix x1
    have hl1 := HT1.lt
    have HS := Lib.hid ((HT1.set_same (i := 1) (v := .int .i64 j) rfl).set_same (i := 2) (v := .int .i64 x) rfl)
    have HB := Lib.hid (((But.of_below (Nat.le_of_lt h_l) (below_mix w x1)).set 1 (.int .i64 j)).set 2 (.int .i64 x))
    have IN := Lib.hid (in_calls n lo hi)
    have HT1 := Lib.hid HT1
    go_wp2_with (first | (go_at_call 34; (with_reducible refine (IN.out _).mono ?_); rintro e w' ⟨rfl, hb⟩; have hz := hb.size; (first | (obtain ⟨x1, rfl⟩ := to_mix2 hb) | (obtain ⟨x1, rfl⟩ := to_mix hb)); clear hb; (try simp only [World.size_alloc, World.size_setCell, World.size_drew] at hz); (try have q0 : w.heap.size < _ := Nat.lt_of_lt_of_le (by omega) hz); (try have q1 : w.heap.size + 1 < _ := Nat.lt_of_lt_of_le (by omega) hz); (try have q2 : w.heap.size + 1 + 1 < _ := Nat.lt_of_lt_of_le (by omega) hz); (try have q3 : w.heap.size + 1 + 1 + 1 < _ := Nat.lt_of_lt_of_le (by omega) hz)) | (go_at_call 63; (with_reducible refine (must_calls b s j x (inB n lo hi) _ (HS.out.mix _)).mono ?_); rintro r w2 ⟨rfl, q1, q2⟩; have HQ := Lib.hid (And.intro q1 ((HB.out.then (by have := HS.out.lt; omega) (below_mix _ _)).trans q2)); clear q1 q2))
    go_ret
    exact ⟨by rw [HN.out]; rfl, by rw [HN.out]; exact HQ.out.1, HQ.out.2⟩
  · have hb : (e != 0) = true := by simpa using he
    have HN := Lib.hid (show numS s lo hi i e = (0, i, e) from if_pos he)
    clear he
    go_enter Tryz.func29, Tryz.ntmps29
    go_wp2
    go_ret
    exact ⟨by rw [HN.out]; rfl, by rw [HN.out]; exact HT.out, But.refl _ _⟩
end Go.Proofs.YtedkfipjooafeaaGreatDoor.Code
set_option linter.unusedSimpArgs false
set_option linter.unusedVariables false
namespace Go.Proofs.YtedkfipjooafeaaGreatDoor.Code
open Go Go.RowKit Go.Proofs.YtedkfipjooafeaaGreatDoor Go.Proofs.YtedkfipjooafeaaGreatDoor.Op Go.Proofs.YtedkfipjooafeaaGreatDoor.Wire

def opS (s : B) (i : Nat) (e : Int) : Int × Nat × Int :=
  if e ≠ 0 then (0, i, e) else
    match s[i]? with
    | none => (0, i, 10)
    | some c => (c.toNat, i + 1, if c.toNat < 17 then 0 else 71)
theorem opS_le {s : B} {i : Nat} {e : Int} (h : i ≤ s.length) : (opS s i e).2.1 ≤ s.length := by
  unfold opS
  split
  · exact h
  · split
    · exact h
    · rename_i c hc
      have := (List.getElem?_eq_some_iff.1 hc).1
      exact this
set_option maxRecDepth 20000 in
set_option maxHeartbeats 2000000 in
theorem operation_calls (b : Nat) (s : B) (i : Nat) (e : Int) (hi' : i ≤ s.length) (hs : s.length ≤ 9223372036854775000) (w : World) (h : Has w b (tkL s i e) 51) :
    Calls Tryz.prog 87 #[.pointer (some ⟨b, 0, none⟩)] w fun r w' =>
      r = .returned (.int .i64 (opS s i e).1) ∧ Has w' b (tkL s (opS s i e).2.1 (opS s i e).2.2) 51 ∧ But b w w' := by
  have h0 := h
  have HT := Lib.hid h0
  clear h0
  have h_c0 := h.cell 0
  have h_c1 := h.cell 1
  have h_c2 := h.cell 2
  have h_f := h.frozen
  have h_l := h.lt
  simp only [List.size_toArray, List.length_cons, List.length_nil, Nat.reduceAdd, Nat.zero_lt_succ, Nat.one_lt_succ_succ, Nat.reduceLT, getElem?_pos, List.getElem_toArray, List.getElem_cons_zero, List.getElem_cons_succ] at h_c0 h_c1 h_c2
  by_cases he : e = 0
  · have hb : (e != 0) = false := by simpa using he
    have HE := Lib.hid he
    clear he
    by_cases hlt : i < s.length
    · have hb2 : ((i : Int) == (s.length : Int)) = false := by simp; omega
      obtain ⟨c, hc⟩ : ∃ c, s[i] = c := ⟨_, rfl⟩
      have hcb : c.toNat < 256 := c.toNat_lt
      have hg := Wire.ba_get s i hlt
      rw [hc] at hg
      have hw := Wire.wrap_byte c
      have HN := Lib.hid (show opS s i e = ((c.toNat : Int), i + 1, mustE e (decide ((c.toNat : Int) < 17))) by
        unfold opS
        rw [HE.out, if_neg (by simp), List.getElem?_eq_getElem hlt, hc]
        by_cases h17 : c.toNat < 17
        · have : ((c.toNat : Int) < 17) := by omega
          simp [mustE, h17, this]
        · have : ¬ ((c.toNat : Int) < 17) := by omega
          simp [mustE, h17, this])
      have HM := Lib.hid (fun (x : World) => must_calls b s (i + 1) e (decide ((c.toNat : Int) < 17)) ((mix w x).setCell ⟨b, 1, none⟩ (.int .i64 ((i : Int) + 1))) ((HT.out.mix x).set_same (i := 1) (v := .int .i64 ((i : Int) + 1)) (cs' := tkL s (i + 1) e) (by simp)))
      clear hc
      go_enter Tryz.func87, Tryz.ntmps87
      go_wp2
      refine wp_region_mix 9 (by kernel_rfl) (by kernel_rfl) ?_
      simp only [List.take_succ_cons, List.take_zero, List.drop_succ_cons, List.drop_zero]
      repeat (go_big_quiet_step ((fail)))
      refine wpQuiet_nil ?_
      intro _ hmix
      (try (with_reducible replace hmix := mix_flat hmix))
      obtain ⟨x1, hmix'⟩ := hmix
      have hz := mix_size' hmix'
      subst hmix'
      (try simp only [World.size_alloc, World.size_setCell, World.size_drew] at hz); (try have q0 : w.heap.size < _ := Nat.lt_of_lt_of_le (by omega) hz); (try have q1 : w.heap.size + 1 < _ := Nat.lt_of_lt_of_le (by omega) hz); (try have q2 : w.heap.size + 1 + 1 < _ := Nat.lt_of_lt_of_le (by omega) hz); (try have q3 : w.heap.size + 1 + 1 + 1 < _ := Nat.lt_of_lt_of_le (by omega) hz)
      go_wp2
      refine wp_region_mix 8 (by kernel_rfl) (by kernel_rfl) ?_
      simp only [List.take_succ_cons, List.take_zero, List.drop_succ_cons, List.drop_zero]
      repeat (go_big_quiet_step ((fail)))
      refine wpQuiet_nil ?_
      intro _ hmix
      (try (with_reducible replace hmix := mix_flat hmix))
      obtain ⟨x1, hmix'⟩ := hmix
      have hz := mix_size' hmix'
      subst hmix'
      (try simp only [World.size_alloc, World.size_setCell, World.size_drew] at hz); (try have q0 : w.heap.size < _ := Nat.lt_of_lt_of_le (by omega) hz); (try have q1 : w.heap.size + 1 < _ := Nat.lt_of_lt_of_le (by omega) hz); (try have q2 : w.heap.size + 1 + 1 < _ := Nat.lt_of_lt_of_le (by omega) hz); (try have q3 : w.heap.size + 1 + 1 + 1 < _ := Nat.lt_of_lt_of_le (by omega) hz)
      go_wp2_with (first | (go_at_call 63; (with_reducible refine (HM.out _).mono ?_); rintro r w2 ⟨rfl, q1, q2⟩; have HQ := Lib.hid (And.intro q1 (((But.of_below (Nat.le_of_lt h_l) (below_mix w _)).set 1 _).trans q2)); clear q1 q2))
      go_ret
      exact ⟨by rw [HN.out]; rfl, by rw [HN.out]; exact HQ.out.1, HQ.out.2⟩
    · have hi2 : i = s.length := by omega
      have HN := Lib.hid (show opS s i e = (0, i, 10) by
        unfold opS
        rw [HE.out, if_neg (by simp), List.getElem?_eq_none (by omega)])
      have hb2 : ((i : Int) == (s.length : Int)) = true := by simp; omega
      clear hi2
      go_enter Tryz.func87, Tryz.ntmps87
      go_wp2
      refine wp_region_mix 9 (by kernel_rfl) (by kernel_rfl) ?_
      simp only [List.take_succ_cons, List.take_zero, List.drop_succ_cons, List.drop_zero]
      repeat (go_big_quiet_step ((fail)))
      refine wpQuiet_nil ?_
      intro _ hmix
      (try (with_reducible replace hmix := mix_flat hmix))
      obtain ⟨x1, hmix'⟩ := hmix
      have hz := mix_size' hmix'
      subst hmix'
      (try simp only [World.size_alloc, World.size_setCell, World.size_drew] at hz); (try have q0 : w.heap.size < _ := Nat.lt_of_lt_of_le (by omega) hz); (try have q1 : w.heap.size + 1 < _ := Nat.lt_of_lt_of_le (by omega) hz); (try have q2 : w.heap.size + 1 + 1 < _ := Nat.lt_of_lt_of_le (by omega) hz); (try have q3 : w.heap.size + 1 + 1 + 1 < _ := Nat.lt_of_lt_of_le (by omega) hz)
      have HT1 := Lib.hid (HT.out.mix x1)
      have hq : b < (mix w x1).heap.size := HT1.out.lt
      go_wp2
      go_ret
      exact ⟨by rw [HN.out]; rfl, by rw [HN.out]; exact HT1.out.set_same rfl, (But.of_below (Nat.le_of_lt h_l) (below_mix w x1)).set _ _⟩
  · have hb : (e != 0) = true := by simpa using he
    have HN := Lib.hid (show opS s i e = (0, i, e) from if_pos he)
    clear he
    go_enter Tryz.func87, Tryz.ntmps87
    go_wp2
    go_ret
    exact ⟨by rw [HN.out]; rfl, by rw [HN.out]; exact HT.out, But.refl _ _⟩
end Go.Proofs.YtedkfipjooafeaaGreatDoor.Code
set_option linter.unusedSimpArgs false
set_option linter.unusedVariables false
namespace Go.Proofs.YtedkfipjooafeaaGreatDoor.Code
open Go Go.RowKit Go.Proofs.YtedkfipjooafeaaGreatDoor Go.Proofs.YtedkfipjooafeaaGreatDoor.Op Go.Proofs.YtedkfipjooafeaaGreatDoor.Wire

def putF (x : Ins) (k : Nat) (n : Int) : Ins := if k = 0 then { x with a := n } else { x with b := n }
def fieldS (s : B) (k : Nat) (st : Ins × Nat × Int) : Ins × Nat × Int :=
  if (k : Int) < opFields st.1.op then (putF st.1 k (numS s 0 281474976710655 st.2.1 st.2.2).1, (numS s 0 281474976710655 st.2.1 st.2.2).2.1, (numS s 0 281474976710655 st.2.1 st.2.2).2.2) else st
def stepS (s : B) (k : Nat) (st : Ins × Nat × Int) : Ins × Nat × Int := ((fieldS s k st).1, (fieldS s k st).2.1, mustE (fieldS s k st).2.2 (mayI (fieldS s k st).1))
def iterS (s : B) : Nat → Ins × Nat × Int → Ins × Nat × Int
  | 0, st => st
  | k + 1, st => stepS s k (iterS s k st)
def insS (s : B) (i : Nat) (e : Int) : Ins × Nat × Int := iterS s 2 (⟨(opS s i e).1, 0, 0⟩, (opS s i e).2.1, (opS s i e).2.2)
theorem stepS_le {s : B} {k : Nat} {st : Ins × Nat × Int} (h : st.2.1 ≤ s.length) : (stepS s k st).2.1 ≤ s.length := by
  unfold stepS fieldS
  split
  · exact numS_le h
  · exact h
theorem insS_le {s : B} {i : Nat} {e : Int} (h : i ≤ s.length) : (insS s i e).2.1 ≤ s.length := by
  unfold insS
  exact stepS_le (stepS_le (opS_le h))
abbrev insA (x : Ins) : Array Value := #[.int .i64 x.op, .int .i64 x.a, .int .i64 x.b]

theorem fields_num (o nf : Int) (h : opFields o = nf) (w : World) : Calls Tryz.prog 76 #[.int .i64 o] w fun e w' => e = .returned (.int .i64 nf) ∧ Below w.heap.size w w' := by
  subst h; exact Fields_calls o w
theorem But.set_new {b g : Nat} {w w' : World} (h : But b w w') (hw : w.heap.size ≤ g) (hb : b ≤ g) (i : Nat) (v : Value) : But b w (w'.setCell ⟨g, i, none⟩ v) :=
  ⟨h.below.setCell (p := ⟨g, i, none⟩) hb v, by simpa using h.grown, fun j hj hne => by
    rw [← h.block j hj hne]
    show (w'.heap.modify g _)[j]? = _
    rw [Array.getElem?_modify, if_neg (by omega)]⟩
set_option maxRecDepth 20000 in
set_option maxHeartbeats 4000000 in
theorem instr_calls (b : Nat) (s : B) (i : Nat) (e : Int) (hi' : i ≤ s.length) (hs : s.length ≤ 9223372036854775000) (w : World) (h : Has w b (tkL s i e) 51) :
    Calls Tryz.prog 64 #[.pointer (some ⟨b, 0, none⟩)] w fun r w' =>
      r = .returned (insV (insS s i e).1) ∧ Has w' b (tkL s (insS s i e).2.1 (insS s i e).2.2) 51 ∧ But b w w' := by
  have hbl := h.lt
  have O := Lib.hid (operation_calls b s i e hi' hs (w.alloc (.cells #[.int .i64 0, .int .i64 0, .int .i64 0] 64)) (h.alloc _))
  obtain ⟨o, i1, e1, ho⟩ : ∃ o i1 e1, opS s i e = (o, i1, e1) := ⟨_, _, _, rfl⟩
  have hi1 : i1 ≤ s.length := by have := opS_le (e := e) hi'; rw [ho] at this; exact this
  have HI := Lib.hid (show insS s i e = iterS s 2 (⟨o, 0, 0⟩, i1, e1) by unfold insS; rw [ho])
  have O := Lib.hid (by have := O.out; rw [ho] at this; exact this)
  clear ho h
  go_enter Tryz.func64, Tryz.ntmps64
  go_wp2_with (first | (go_at_call 87; (with_reducible refine (O.out).mono ?_); rintro r w1 ⟨rfl, q1, q2⟩; have HO := Lib.hid (And.intro q1 q2); have hw1 : w.heap.size + 1 ≤ w1.heap.size := by (have := q2.grown); simpa using this))
  obtain ⟨c3, hc3⟩ : ∃ c3, w1.heap.size = c3 := ⟨_, rfl⟩
  have HO2 := HO.out
  have hO1 := HO2.1
  have hO2 := HO2.2
  clear HO2 q1 q2
  have n1 : b ≠ c3 := by have := hO1.lt; omega
  have n2 : b ≠ w.heap.size := by omega
  have n3 : c3 ≠ w.heap.size := by omega
  have n4 : c3 + 1 ≠ b := by omega
  have hB0 : But b w ((w1.alloc (.cells #[.int .i64 o, .int .i64 0, .int .i64 0] 64)).alloc (.cells #[.pointer (some ⟨c3, 1, none⟩), .pointer (some ⟨c3, 2, none⟩)] 121)) :=
    (But.of_below (Nat.le_of_lt hbl) (by (repeat (first | (with_reducible assumption) | (with_reducible exact Below.refl _ _) | (with_reducible refine grow_alloc ?_ _) | (with_reducible refine grow_mix ?_ _) | (with_reducible refine grow_drew ?_) | (with_reducible refine grow_drewN ?_ _) | (with_reducible refine grow_set ?_ (by first | (simp; done) | (simp; omega) | omega) _))))).trans (hO2.then (by omega) (by rw [hc3]; exact ((Below.refl _ _).alloc (by omega) _).alloc (by simp; omega) _))
  have hZ : Has w1 w.heap.size (insA ⟨0, 0, 0⟩) 64 := hO2.has (Has.new _ _ _) (fun e => n2 e.symm)
  have hR0 := Lib.hid (show Has ((w1.alloc (.cells #[.int .i64 o, .int .i64 0, .int .i64 0] 64)).alloc (.cells #[.pointer (some ⟨c3, 1, none⟩), .pointer (some ⟨c3, 2, none⟩)] 121)) b (tkL s i1 e1) 51 ∧
      Has ((w1.alloc (.cells #[.int .i64 o, .int .i64 0, .int .i64 0] 64)).alloc (.cells #[.pointer (some ⟨c3, 1, none⟩), .pointer (some ⟨c3, 2, none⟩)] 121)) c3 (insA ⟨o, 0, 0⟩) 64 ∧
      Has ((w1.alloc (.cells #[.int .i64 o, .int .i64 0, .int .i64 0] 64)).alloc (.cells #[.pointer (some ⟨c3, 1, none⟩), .pointer (some ⟨c3, 2, none⟩)] 121)) (c3 + 1) #[.pointer (some ⟨c3, 1, none⟩), .pointer (some ⟨c3, 2, none⟩)] 121 ∧
      Has ((w1.alloc (.cells #[.int .i64 o, .int .i64 0, .int .i64 0] 64)).alloc (.cells #[.pointer (some ⟨c3, 1, none⟩), .pointer (some ⟨c3, 2, none⟩)] 121)) w.heap.size (insA ⟨0, 0, 0⟩) 64 from
    ⟨(hO1.alloc _).alloc _, (Has.new' hc3.symm _ _).alloc _, Has.new' (by simp; omega) _ _, (hZ.alloc _).alloc _⟩)
  rw [hc3]
  go_loopw [13] (fun c wr => ∃ (k : Nat) (st : Ins × Nat × Int), k ≤ 2 ∧ c = .int .i64 k ∧ But b w wr ∧ st.2.1 ≤ s.length ∧ st = iterS s k (⟨o, 0, 0⟩, i1, e1) ∧ Hid (Has wr b (tkL s st.2.1 st.2.2) 51 ∧ Has wr c3 (insA st.1) 64 ∧ Has wr (c3 + 1) #[.pointer (some ⟨c3, 1, none⟩), .pointer (some ⟨c3, 2, none⟩)] 121 ∧ Has wr w.heap.size (insA ⟨0, 0, 0⟩) 64)) (fun c _ => 2 - (intOf c).toNat)
  case atStart => exact ⟨0, (⟨o, 0, 0⟩, i1, e1), by omega, rfl, hB0, hi1, rfl, hR0⟩
  case round =>
    obtain ⟨k, ⟨x, j, f⟩, hk, rfl, hB, hj, hst, HR⟩ := hrel
    have HS := Lib.hid hst
    clear hst
    have hT := HR.out.1
    have hX := HR.out.2.1
    have hP := HR.out.2.2.1
    have hbl2 := hT.lt
    have hxl2 := hX.lt
    have hZ' := HR.out.2.2.2
    simp only at hj hT hX
    have hT_c0 := hT.cell 0
    have hX_c0 := hX.cell 0
    have hX_c1 := hX.cell 1
    have hX_c2 := hX.cell 2
    have hP_c0 := hP.cell 0
    have hP_c1 := hP.cell 1
    have hpl2 := hP.lt
    have hX_f := hX.frozen
    have hwc : w.heap.size ≤ c3 := by omega
    have hbc : b ≤ c3 := by omega
    by_cases hlt : k < 2
    · have hcases : k = 0 ∨ k = 1 := by omega
      rcases hcases with rfl | rfl
      · by_cases hl : ((0 : Nat) : Int) < opFields x.op
        ·
          have HL := Lib.hid hl
          obtain ⟨nf, hnf⟩ : ∃ nf, opFields x.op = nf := ⟨_, rfl⟩
          rw [hnf] at hl
          have F := Lib.hid (fun (W : World) => fields_num x.op nf hnf W)
          clear hnf
          obtain ⟨n, j2, f2, hr⟩ : ∃ n j2 f2, numS s 0 281474976710655 j f = (n, j2, f2) := ⟨_, _, _, rfl⟩
          have hj2 : j2 ≤ s.length := by have := numS_le (s := s) (lo := 0) (hi := 281474976710655) (i := j) (e := f) hj; rw [hr] at this; exact this
          have N := Lib.hid (fun (W : World) (hW : Has W b (tkL s j f) 51) => by have := number_calls b s j f 0 281474976710655 hj hs W hW; rw [hr] at this; exact this)
          have HR2 := Lib.hid hr
          clear hr
          have M := Lib.hid (fun (W : World) => Op.May_calls ⟨x.op, n, x.b⟩ W)
          have MU := Lib.hid (fun (W : World) (hW : Has W b (tkL s j2 f2) 51) => must_calls b s j2 f2 (mayI ⟨x.op, n, x.b⟩) W hW)
          go_wp2_with (first | (go_at_call 76; (with_reducible refine (F.out _).mono ?_); rintro e w' ⟨rfl, hb⟩; have hz := hb.size; (first | (obtain ⟨x1, rfl⟩ := to_mix2 hb) | (obtain ⟨x1, rfl⟩ := to_mix hb)); clear hb; (try simp only [World.size_alloc, World.size_setCell, World.size_drew] at hz); (try have q0 : w.heap.size < _ := Nat.lt_of_lt_of_le (by omega) hz); (try have q1 : w.heap.size + 1 < _ := Nat.lt_of_lt_of_le (by omega) hz); (try have q2 : w.heap.size + 1 + 1 < _ := Nat.lt_of_lt_of_le (by omega) hz); (try have q3 : w.heap.size + 1 + 1 + 1 < _ := Nat.lt_of_lt_of_le (by omega) hz)) | (go_at_call 29; (with_reducible refine (N.out _ (hT.mix _)).mono ?_); rintro r w2 ⟨rfl, q1, q2⟩; have hT2 := q1; have hX2 := q2.has (hX.mix _) (fun e => n1 e.symm); have hP2 := q2.has (hP.mix _) n4; have hZ2 := q2.has (hZ'.mix _) (fun e => n2 e.symm); have hB2 := (hB.then (Nat.le_of_lt hbl2) (below_mix _ _)).trans q2; have hX2_c0 := hX2.cell 0; have hX2_c1 := hX2.cell 1; have hX2_c2 := hX2.cell 2; have hX2_f := hX2.frozen; have hX2_l := hX2.lt; have hT2_l := hT2.lt; have hT2' := Lib.hid hT2; have hB2' := Lib.hid hB2; clear q1 q2) | (go_at_call 37; refine (M.out _).mono ?_; rintro e w' ⟨rfl, hb⟩; have hz := hb.size; (obtain ⟨x1, rfl⟩ := to_mix hb); clear hb) | (go_at_call 63; (with_reducible refine (MU.out _ ((hT2.set_other (p := ⟨c3, 1, none⟩) n1).mix _)).mono ?_); rintro r w3 ⟨rfl, q1, q2⟩; have hT3 := q1; have hX3 := q2.has ((hX2.set_same (i := 1) (v := .int .i64 n) (cs' := insA ⟨x.op, n, x.b⟩) rfl).mix _) (fun e => n1 e.symm); have hP3 := q2.has ((hP2.set_other (p := ⟨c3, 1, none⟩) (by simp)).mix _) n4; have hZ3 := q2.has ((hZ2.set_other (p := ⟨c3, 1, none⟩) (fun e => n3 e.symm)).mix _) (fun e => n2 e.symm); have hB3 := Lib.hid (((hB2'.out.set_new hwc hbc _ _).then (by simp; omega) (below_mix _ _)).trans q2); clear q1 q2))
          go_roundw
          case rel =>
            have hst : (⟨x.op, n, x.b⟩, j2, mustE f2 (mayI ⟨x.op, n, x.b⟩)) = iterS s (0 + 1) (⟨o, 0, 0⟩, i1, e1) := by
              show _ = stepS s 0 (iterS s 0 _)
              rw [← HS.out]
              unfold stepS fieldS
              rw [if_pos HL.out, HR2.out]
              rfl
            exact ⟨1, (⟨x.op, n, x.b⟩, j2, mustE f2 (mayI ⟨x.op, n, x.b⟩)), by omega, by go_num, hB3.out, hj2, hst, Lib.hid ⟨hT3, hX3, hP3, hZ3⟩⟩
          case measure => simp [intOf]
        ·
          have HL := Lib.hid hl
          obtain ⟨nf, hnf⟩ : ∃ nf, opFields x.op = nf := ⟨_, rfl⟩
          rw [hnf] at hl
          have F := Lib.hid (fun (W : World) => fields_num x.op nf hnf W)
          clear hnf
          have M := Lib.hid (fun (W : World) => Op.May_calls x W)
          have MU := Lib.hid (fun (W : World) (hW : Has W b (tkL s j f) 51) => must_calls b s j f (mayI x) W hW)
          go_wp2_with (first | (go_at_call 76; (with_reducible refine (F.out _).mono ?_); rintro e w' ⟨rfl, hb⟩; have hz := hb.size; (first | (obtain ⟨x1, rfl⟩ := to_mix2 hb) | (obtain ⟨x1, rfl⟩ := to_mix hb)); clear hb; (try simp only [World.size_alloc, World.size_setCell, World.size_drew] at hz); (try have q0 : w.heap.size < _ := Nat.lt_of_lt_of_le (by omega) hz); (try have q1 : w.heap.size + 1 < _ := Nat.lt_of_lt_of_le (by omega) hz); (try have q2 : w.heap.size + 1 + 1 < _ := Nat.lt_of_lt_of_le (by omega) hz); (try have q3 : w.heap.size + 1 + 1 + 1 < _ := Nat.lt_of_lt_of_le (by omega) hz)) | (go_at_call 37; refine (M.out _).mono ?_; rintro e w' ⟨rfl, hb⟩; have hz := hb.size; (obtain ⟨x1, rfl⟩ := to_mix hb); clear hb) | (go_at_call 63; (with_reducible refine (MU.out _ ((hT.mix _).mix _)).mono ?_); rintro r w3 ⟨rfl, q1, q2⟩; have hT3 := q1; have hX3 := q2.has ((hX.mix _).mix _) (fun e => n1 e.symm); have hP3 := q2.has ((hP.mix _).mix _) n4; have hZ3 := q2.has ((hZ'.mix _).mix _) (fun e => n2 e.symm); have hB3 := Lib.hid (((hB.then (Nat.le_of_lt hbl2) (below_mix _ _)).then (Nat.le_of_lt (hT.mix _).lt) (below_mix _ _)).trans q2); clear q1 q2))
          go_roundw
          case rel =>
            have hst : (x, j, mustE f (mayI x)) = iterS s (0 + 1) (⟨o, 0, 0⟩, i1, e1) := by
              show _ = stepS s 0 (iterS s 0 _)
              rw [← HS.out]
              unfold stepS fieldS
              rw [if_neg (Int.not_lt.2 HL.out)]
            exact ⟨1, (x, j, mustE f (mayI x)), by omega, by go_num, hB3.out, hj, hst, Lib.hid ⟨hT3, hX3, hP3, hZ3⟩⟩
          case measure => simp [intOf]
      · by_cases hl : ((1 : Nat) : Int) < opFields x.op
        ·
          have HL := Lib.hid hl
          obtain ⟨nf, hnf⟩ : ∃ nf, opFields x.op = nf := ⟨_, rfl⟩
          rw [hnf] at hl
          have F := Lib.hid (fun (W : World) => fields_num x.op nf hnf W)
          clear hnf
          obtain ⟨n, j2, f2, hr⟩ : ∃ n j2 f2, numS s 0 281474976710655 j f = (n, j2, f2) := ⟨_, _, _, rfl⟩
          have hj2 : j2 ≤ s.length := by have := numS_le (s := s) (lo := 0) (hi := 281474976710655) (i := j) (e := f) hj; rw [hr] at this; exact this
          have N := Lib.hid (fun (W : World) (hW : Has W b (tkL s j f) 51) => by have := number_calls b s j f 0 281474976710655 hj hs W hW; rw [hr] at this; exact this)
          have HR2 := Lib.hid hr
          clear hr
          have M := Lib.hid (fun (W : World) => Op.May_calls ⟨x.op, x.a, n⟩ W)
          have MU := Lib.hid (fun (W : World) (hW : Has W b (tkL s j2 f2) 51) => must_calls b s j2 f2 (mayI ⟨x.op, x.a, n⟩) W hW)
          go_wp2_with (first | (go_at_call 76; (with_reducible refine (F.out _).mono ?_); rintro e w' ⟨rfl, hb⟩; have hz := hb.size; (first | (obtain ⟨x1, rfl⟩ := to_mix2 hb) | (obtain ⟨x1, rfl⟩ := to_mix hb)); clear hb; (try simp only [World.size_alloc, World.size_setCell, World.size_drew] at hz); (try have q0 : w.heap.size < _ := Nat.lt_of_lt_of_le (by omega) hz); (try have q1 : w.heap.size + 1 < _ := Nat.lt_of_lt_of_le (by omega) hz); (try have q2 : w.heap.size + 1 + 1 < _ := Nat.lt_of_lt_of_le (by omega) hz); (try have q3 : w.heap.size + 1 + 1 + 1 < _ := Nat.lt_of_lt_of_le (by omega) hz)) | (go_at_call 29; (with_reducible refine (N.out _ (hT.mix _)).mono ?_); rintro r w2 ⟨rfl, q1, q2⟩; have hT2 := q1; have hX2 := q2.has (hX.mix _) (fun e => n1 e.symm); have hP2 := q2.has (hP.mix _) n4; have hZ2 := q2.has (hZ'.mix _) (fun e => n2 e.symm); have hB2 := (hB.then (Nat.le_of_lt hbl2) (below_mix _ _)).trans q2; have hX2_c0 := hX2.cell 0; have hX2_c1 := hX2.cell 1; have hX2_c2 := hX2.cell 2; have hX2_f := hX2.frozen; have hX2_l := hX2.lt; have hT2_l := hT2.lt; have hT2' := Lib.hid hT2; have hB2' := Lib.hid hB2; clear q1 q2) | (go_at_call 37; refine (M.out _).mono ?_; rintro e w' ⟨rfl, hb⟩; have hz := hb.size; (obtain ⟨x1, rfl⟩ := to_mix hb); clear hb) | (go_at_call 63; (with_reducible refine (MU.out _ ((hT2.set_other (p := ⟨c3, 2, none⟩) n1).mix _)).mono ?_); rintro r w3 ⟨rfl, q1, q2⟩; have hT3 := q1; have hX3 := q2.has ((hX2.set_same (i := 2) (v := .int .i64 n) (cs' := insA ⟨x.op, x.a, n⟩) rfl).mix _) (fun e => n1 e.symm); have hP3 := q2.has ((hP2.set_other (p := ⟨c3, 2, none⟩) (by simp)).mix _) n4; have hZ3 := q2.has ((hZ2.set_other (p := ⟨c3, 2, none⟩) (fun e => n3 e.symm)).mix _) (fun e => n2 e.symm); have hB3 := Lib.hid (((hB2'.out.set_new hwc hbc _ _).then (by simp; omega) (below_mix _ _)).trans q2); clear q1 q2))
          go_roundw
          case rel =>
            have hst : (⟨x.op, x.a, n⟩, j2, mustE f2 (mayI ⟨x.op, x.a, n⟩)) = iterS s (1 + 1) (⟨o, 0, 0⟩, i1, e1) := by
              show _ = stepS s 1 (iterS s 1 _)
              rw [← HS.out]
              unfold stepS fieldS
              rw [if_pos HL.out, HR2.out]
              rfl
            exact ⟨2, (⟨x.op, x.a, n⟩, j2, mustE f2 (mayI ⟨x.op, x.a, n⟩)), by omega, by go_num, hB3.out, hj2, hst, Lib.hid ⟨hT3, hX3, hP3, hZ3⟩⟩
          case measure => simp [intOf]
        ·
          have HL := Lib.hid hl
          obtain ⟨nf, hnf⟩ : ∃ nf, opFields x.op = nf := ⟨_, rfl⟩
          rw [hnf] at hl
          have F := Lib.hid (fun (W : World) => fields_num x.op nf hnf W)
          clear hnf
          have M := Lib.hid (fun (W : World) => Op.May_calls x W)
          have MU := Lib.hid (fun (W : World) (hW : Has W b (tkL s j f) 51) => must_calls b s j f (mayI x) W hW)
          go_wp2_with (first | (go_at_call 76; (with_reducible refine (F.out _).mono ?_); rintro e w' ⟨rfl, hb⟩; have hz := hb.size; (first | (obtain ⟨x1, rfl⟩ := to_mix2 hb) | (obtain ⟨x1, rfl⟩ := to_mix hb)); clear hb; (try simp only [World.size_alloc, World.size_setCell, World.size_drew] at hz); (try have q0 : w.heap.size < _ := Nat.lt_of_lt_of_le (by omega) hz); (try have q1 : w.heap.size + 1 < _ := Nat.lt_of_lt_of_le (by omega) hz); (try have q2 : w.heap.size + 1 + 1 < _ := Nat.lt_of_lt_of_le (by omega) hz); (try have q3 : w.heap.size + 1 + 1 + 1 < _ := Nat.lt_of_lt_of_le (by omega) hz)) | (go_at_call 37; refine (M.out _).mono ?_; rintro e w' ⟨rfl, hb⟩; have hz := hb.size; (obtain ⟨x1, rfl⟩ := to_mix hb); clear hb) | (go_at_call 63; (with_reducible refine (MU.out _ ((hT.mix _).mix _)).mono ?_); rintro r w3 ⟨rfl, q1, q2⟩; have hT3 := q1; have hX3 := q2.has ((hX.mix _).mix _) (fun e => n1 e.symm); have hP3 := q2.has ((hP.mix _).mix _) n4; have hZ3 := q2.has ((hZ'.mix _).mix _) (fun e => n2 e.symm); have hB3 := Lib.hid (((hB.then (Nat.le_of_lt hbl2) (below_mix _ _)).then (Nat.le_of_lt (hT.mix _).lt) (below_mix _ _)).trans q2); clear q1 q2))
          go_roundw
          case rel =>
            have hst : (x, j, mustE f (mayI x)) = iterS s (1 + 1) (⟨o, 0, 0⟩, i1, e1) := by
              show _ = stepS s 1 (iterS s 1 _)
              rw [← HS.out]
              unfold stepS fieldS
              rw [if_neg (Int.not_lt.2 HL.out)]
            exact ⟨2, (x, j, mustE f (mayI x)), by omega, by go_num, hB3.out, hj, hst, Lib.hid ⟨hT3, hX3, hP3, hZ3⟩⟩
          case measure => simp [intOf]
    · have hk2 : k = 2 := by omega
      subst hk2
      have HE := Lib.hid (show insS s i e = (x, j, f) by rw [HI.out, ← HS.out])
      have hZ_c0 := hZ'.cell 0
      have hZ_c1 := hZ'.cell 1
      have hZ_c2 := hZ'.cell 2
      have hZ_f := hZ'.frozen
      have hzl := hZ'.lt
      go_wp2
      refine ret_cell (cs := [.int .i64 x.op, .int .i64 x.a, .int .i64 x.b]) (t' := 64) Tryz.results64 rfl Tryz.isAgg64 Tryz.sizeOf64 rfl ?_ ⟨by rw [HE.out], ?_, ?_⟩
      · exact (((hZ'.set_same (i := 0) (v := .int .i64 x.op) rfl).set_same (i := 1) (v := .int .i64 x.a) rfl).set_same (i := 2) (v := .int .i64 x.b) rfl)
      · rw [HE.out]
        exact ((hT.set_other (p := ⟨w.heap.size, 0, none⟩) n2).set_other (p := ⟨w.heap.size, 1, none⟩) n2).set_other (p := ⟨w.heap.size, 2, none⟩) n2
      · exact ((hB.set_new (Nat.le_refl _) (by omega) 0 _).set_new (Nat.le_refl _) (by omega) 1 _).set_new (Nat.le_refl _) (by omega) 2 _
end Go.Proofs.YtedkfipjooafeaaGreatDoor.Code
set_option linter.unusedSimpArgs false
set_option linter.unusedVariables false
namespace Go.Proofs.YtedkfipjooafeaaGreatDoor.Code
open Go Go.RowKit Go.Proofs.YtedkfipjooafeaaGreatDoor Go.Proofs.YtedkfipjooafeaaGreatDoor.Op Go.Proofs.YtedkfipjooafeaaGreatDoor.Wire

def codeS (s : B) : Nat → List Ins × Nat × Int → List Ins × Nat × Int
  | 0, st => st
  | m + 1, st => if st.2.2 = 0 then codeS s m (st.1 ++ [(insS s st.2.1 st.2.2).1], (insS s st.2.1 st.2.2).2.1, (insS s st.2.1 st.2.2).2.2) else st
def funS (s : B) (i : Nat) (e : Int) : Fn × Nat × Int :=
  let r1 := numS s 0 16 i e
  let r2 := numS s 0 16 r1.2.1 r1.2.2
  let r3 := numS s 0 8 r2.2.1 r2.2.2
  let r4 := numS s 1 200 r3.2.1 r3.2.2
  let st := codeS s r4.1.toNat ([], r4.2.1, r4.2.2)
  (⟨r1.1, r2.1, r3.1, st.1⟩, st.2.1, st.2.2)
theorem numS_nat (s : B) (lo hi : Int) (i : Nat) (e : Int) : 0 ≤ (numS s lo hi i e).1 := by
  unfold numS
  split
  · exact Int.le_refl _
  · split <;> simp
theorem numS_ok {s : B} {lo hi : Int} {i : Nat} {e : Int} (h : (numS s lo hi i e).2.2 = 0) : e = 0 ∧ inB (numS s lo hi i e).1 lo hi = true := by
  unfold numS at *
  split at h
  · rename_i he; exact absurd h he
  · rename_i he
    rw [if_neg he]
    refine ⟨by simpa using he, ?_⟩
    split at h
    · rename_i x hx
      have : x ≠ 0 := by
        have key : ∀ (l : B) (k acc : Nat) (x : Int), getA l k acc = .error x → x ≠ 0 := by
          intro l
          induction l with
          | nil => intro k acc x h; simp [getA] at h; omega
          | cons c r ih =>
            intro k acc x h
            unfold getA at h
            split at h
            · injection h with h; omega
            · split at h
              · split at h
                · injection h with h; omega
                · cases h
              · exact ih _ _ _ h
        exact key _ _ _ _ hx
      simp only [mustE] at h
      split at h <;> omega
    · rename_i n k hx
      simp only [mustE] at h
      show inB n lo hi = true
      cases hb : inB n lo hi
      · rw [hb] at h; simp at h
      · rfl
theorem codeS_le {s : B} : ∀ (m : Nat) {st : List Ins × Nat × Int}, st.2.1 ≤ s.length → (codeS s m st).2.1 ≤ s.length
  | 0, _, h => h
  | m + 1, st, h => by
    unfold codeS
    split
    · exact codeS_le m (insS_le h)
    · exact h
theorem funS_le {s : B} {i : Nat} {e : Int} (h : i ≤ s.length) : (funS s i e).2.1 ≤ s.length := by
  unfold funS
  exact codeS_le _ (numS_le (numS_le (numS_le (numS_le h))))
theorem Has.grown {w w' : World} {g : Nat} {cs : Array Value} {t : TypeId} {row : Option Nat} (h : Has w g cs t) (hg : w.grownBy w' row) (hne : row ≠ some g) : Has w' g cs t := (hg.block g h.lt (fun e => hne e.symm)).trans h
theorem But.grownBy {b : Nat} {w w' w'' : World} {row : Option Nat} (h : But b w w') (hg : w'.grownBy w'' row) (hb : b ≤ w'.heap.size) (hr : ∀ g, row = some g → w.heap.size ≤ g ∧ b ≤ g) : But b w w'' :=
  ⟨h.below.grown hg hb (fun k hk => (hr k hk).2), Nat.le_trans h.grown hg.size, fun i hi hne => (hg.block i (Nat.lt_of_lt_of_le hi h.grown) (fun e => by have := (hr i e.symm).1; omega)).trans (h.block i hi hne)⟩

theorem grownBy_set (w : World) (g i : Nat) (v : Value) : w.grownBy (w.setCell ⟨g, i, none⟩ v) (some g) :=
  ⟨rfl, rfl, rfl, by simp, fun k _ hne => by
    show (w.heap.modify g _)[k]? = _
    rw [Array.getElem?_modify, if_neg (fun e => hne (by rw [e]))]⟩
theorem own_set {w : World} {g : Nat} {base : Nat} {e : TypeId} {size n : Nat} {v : Value} {xs : List Value} (h : w.ownsRow base e size v n xs) (hne : v.ownBlock ≠ some g) (i : Nat) (u : Value) : (w.setCell ⟨g, i, none⟩ u).ownsRow base e size v n xs :=
  h.kept (grownBy_set w g i u) (.inr hne)
theorem own_form {w : World} {base : Nat} {e : TypeId} {size n : Nat} {v : Value} {xs : List Value} (h : w.ownsRow base e size v n xs) : ∃ A c, v = .slice A n c := by
  rcases h.2 with ⟨rfl, rfl⟩ | ⟨g, cap, cur, rfl, _⟩
  · exact ⟨none, 0, rfl⟩
  · exact ⟨_, _, rfl⟩
theorem ins_one (x : Ins) : ∀ u ∈ insL x, u.oneCell' = true := by
  intro u hu
  simp only [insL, List.mem_cons, List.not_mem_nil, or_false] at hu
  rcases hu with rfl | rfl | rfl <;> rfl
theorem codeS_step {s : B} {m : Nat} {xs : List Ins} {j : Nat} {f : Int} {x : Ins} {j2 : Nat} {f2 : Int} (hf : f = 0) (hi : insS s j f = (x, j2, f2)) : codeS s (m + 1) (xs, j, f) = codeS s m (xs ++ [x], j2, f2) := by
  rw [codeS, if_pos hf]
  simp only [hi]
theorem fun_rel {b c3 : Nat} {w w5 w6 : World} {tk zs : Array Value} {xs : List Ins} {x : Ins} {A A' : Option Addr} {c c' : Nat} {o : Obj} {a1 a2 a3 : Int}
    (hB : But b w w5) (hT : Has w5 b tk 51) (hX : Has w5 c3 #[.int .i64 a1, .int .i64 a2, .int .i64 a3, .slice A xs.length c] 39) (hZ : Has w5 w.heap.size zs 39) (hO : w5.ownsRow w.heap.size 64 3 (.slice A xs.length c) xs.length (xs.flatMap insL))
    (hg : (w5.alloc o).grownBy w6 (Value.slice A xs.length c).ownBlock) (ho : w6.ownsRow w.heap.size 64 3 (.slice A' (xs.length + 1) c') (xs.length + 1) (xs.flatMap insL ++ insL x))
    (nb : (Value.slice A xs.length c).ownBlock ≠ some b) (nx : (Value.slice A xs.length c).ownBlock ≠ some c3) (nz : (Value.slice A xs.length c).ownBlock ≠ some w.heap.size) (hwc : w.heap.size < c3) (hb : b < w.heap.size) :
    But b w (w6.setCell ⟨c3, 3, none⟩ (.slice A' (xs.length + 1) c')) ∧ Has (w6.setCell ⟨c3, 3, none⟩ (.slice A' (xs.length + 1) c')) b tk 51 ∧
      Has (w6.setCell ⟨c3, 3, none⟩ (.slice A' (xs.length + 1) c')) c3 #[.int .i64 a1, .int .i64 a2, .int .i64 a3, .slice A' (xs.length + 1) c'] 39 ∧ Has (w6.setCell ⟨c3, 3, none⟩ (.slice A' (xs.length + 1) c')) w.heap.size zs 39 ∧
      (w6.setCell ⟨c3, 3, none⟩ (.slice A' (xs.length + 1) c')).ownsRow w.heap.size 64 3 (.slice A' (xs.length + 1) c') (xs ++ [x]).length ((xs ++ [x]).flatMap insL) := by
  have hX6 := Has.grown (hX.alloc o) hg nx
  have hB6 := (hB.then (Nat.le_trans (Nat.le_of_lt hb) hB.grown) ((Below.refl _ _).alloc (Nat.le_refl _) o)).grownBy hg (by have := hB.grown; simp; omega) (fun g e => by have := (hO.lt g e).1; omega)
  refine ⟨hB6.set_new (by omega) (by omega) 3 _, (Has.grown (hT.alloc o) hg nb).set_other (p := ⟨c3, 3, none⟩) (by show b ≠ c3; omega), hX6.set_same (i := 3) rfl, (Has.grown (hZ.alloc o) hg nz).set_other (p := ⟨c3, 3, none⟩) (by show w.heap.size ≠ c3; omega), ?_⟩
  rw [List.length_append, List.length_singleton, List.flatMap_append]
  have h1 := own_set ho (own_ne ho hX6 (by decide)) 3 (.slice A' (xs.length + 1) c')
  simpa using h1
set_option maxRecDepth 20000 in
set_option maxHeartbeats 8000000 in
theorem function_calls (b : Nat) (s : B) (i : Nat) (e : Int) (hi' : i ≤ s.length) (hs : s.length ≤ 9223372036854775000) (w : World) (h : Has w b (tkL s i e) 51) :
    Calls Tryz.prog 30 #[.pointer (some ⟨b, 0, none⟩)] w fun r w' =>
      (∃ v, r = .returned (fnV (funS s i e).1 v) ∧ w'.ownsRow w.heap.size 64 3 v (funS s i e).1.code.length ((funS s i e).1.code.flatMap insL)) ∧
        Has w' b (tkL s (funS s i e).2.1 (funS s i e).2.2) 51 ∧ But b w w' := by
  have hbl := h.lt
  obtain ⟨a1, i1, e1, h1⟩ : ∃ a i' e', numS s 0 16 i e = (a, i', e') := ⟨_, _, _, rfl⟩
  obtain ⟨a2, i2, e2, h2⟩ : ∃ a i' e', numS s 0 16 i1 e1 = (a, i', e') := ⟨_, _, _, rfl⟩
  obtain ⟨a3, i3, e3, h3⟩ : ∃ a i' e', numS s 0 8 i2 e2 = (a, i', e') := ⟨_, _, _, rfl⟩
  obtain ⟨a4, i4, e4, h4⟩ : ∃ a i' e', numS s 1 200 i3 e3 = (a, i', e') := ⟨_, _, _, rfl⟩
  have l1 : i1 ≤ s.length := by have := numS_le (s := s) (lo := 0) (hi := 16) (i := i) (e := e) hi'; rw [h1] at this; exact this
  have l2 : i2 ≤ s.length := by have := numS_le (s := s) (lo := 0) (hi := 16) (i := i1) (e := e1) l1; rw [h2] at this; exact this
  have l3 : i3 ≤ s.length := by have := numS_le (s := s) (lo := 0) (hi := 8) (i := i2) (e := e2) l2; rw [h3] at this; exact this
  have l4 : i4 ≤ s.length := by have := numS_le (s := s) (lo := 1) (hi := 200) (i := i3) (e := e3) l3; rw [h4] at this; exact this
  have p4 : 0 ≤ a4 := by have := numS_nat s 1 200 i3 e3; rw [h4] at this; exact this
  have k4 : e4 = 0 → 1 ≤ a4 ∧ a4 ≤ 200 := fun he => by have := numS_ok (s := s) (lo := 1) (hi := 200) (i := i3) (e := e3) (by rw [h4]; exact he); rw [h4] at this; exact inB_bd this.2
  have HF := Lib.hid (show funS s i e = (⟨a1, a2, a3, (codeS s a4.toNat ([], i4, e4)).1⟩, (codeS s a4.toNat ([], i4, e4)).2.1, (codeS s a4.toNat ([], i4, e4)).2.2) by unfold funS; simp only [h1, h2, h3, h4])
  have N1 := Lib.hid (fun (W : World) (hW : Has W b (tkL s i e) 51) => by have := number_calls b s i e 0 16 hi' hs W hW; rw [h1] at this; exact this)
  have N2 := Lib.hid (fun (W : World) (hW : Has W b (tkL s i1 e1) 51) => by have := number_calls b s i1 e1 0 16 l1 hs W hW; rw [h2] at this; exact this)
  have N3 := Lib.hid (fun (W : World) (hW : Has W b (tkL s i2 e2) 51) => by have := number_calls b s i2 e2 0 8 l2 hs W hW; rw [h3] at this; exact this)
  have N4 := Lib.hid (fun (W : World) (hW : Has W b (tkL s i3 e3) 51) => by have := number_calls b s i3 e3 1 200 l3 hs W hW; rw [h4] at this; exact this)
  have K4 := Lib.hid k4
  have H0 := Lib.hid (h.alloc (.cells #[.int .i64 0, .int .i64 0, .int .i64 0, .slice none 0 0] 39))
  clear h1 h2 h3 h4 k4 h
  have nb : b ≠ w.heap.size := by omega
  go_enter Tryz.func30, Tryz.ntmps30
  go_wp2_with (first | (go_at_call 29; (with_reducible refine (N4.out _ (Q3.out.1.alloc _)).mono ?_); rintro r w4 ⟨rfl, q1, q2⟩; have Q4 := Lib.hid (And.intro q1 q2); clear q1 q2) | (go_at_call 29; (with_reducible refine (N3.out _ Q2.out.1).mono ?_); rintro r w3 ⟨rfl, q1, q2⟩; have Q3 := Lib.hid (And.intro q1 q2); clear q1 q2) | (go_at_call 29; (with_reducible refine (N2.out _ Q1.out.1).mono ?_); rintro r w2 ⟨rfl, q1, q2⟩; have Q2 := Lib.hid (And.intro q1 q2); clear q1 q2) | (go_at_call 29; (with_reducible refine (N1.out _ H0.out).mono ?_); rintro r w1 ⟨rfl, q1, q2⟩; have Q1 := Lib.hid (And.intro q1 q2); clear q1 q2))
  obtain ⟨c3, hc3⟩ : ∃ c3, w3.heap.size = c3 := ⟨_, rfl⟩
  have hl1 : w.heap.size + 1 ≤ w1.heap.size := by have := Q1.out.2.grown; simpa using this
  have hl2 := Q2.out.2.grown
  have hl3 := Q3.out.2.grown
  have hl4 : c3 + 1 ≤ w4.heap.size := by have := Q4.out.2.grown; rw [← hc3]; simpa using this
  have n1 : b ≠ c3 := by omega
  have n2 : w.heap.size ≠ b := by omega
  have n3 : c3 ≠ w.heap.size := by omega
  have hwc : w.heap.size < c3 := by omega
  have hB4 := Lib.hid (show But b w w4 from ((((But.of_below (Nat.le_of_lt hbl) ((Below.refl _ _).alloc (Nat.le_refl _) _)).trans Q1.out.2).trans Q2.out.2).trans Q3.out.2).trans ((But.of_below (by omega) ((Below.refl _ _).alloc (Nat.le_refl _) _)).trans Q4.out.2))
  have hZ4 : Has w4 w.heap.size #[.int .i64 0, .int .i64 0, .int .i64 0, .slice none 0 0] 39 := Q4.out.2.has ((Q3.out.2.has (Q2.out.2.has (Q1.out.2.has (Has.new _ _ _) n2) n2) n2).alloc _) n2
  have hX4 : Has w4 c3 #[.int .i64 a1, .int .i64 a2, .int .i64 a3, .slice none 0 0] 39 := Q4.out.2.has (Has.new' hc3.symm _ _) n1.symm
  have R4 := Lib.hid (And.intro Q4.out.1 (And.intro hX4 hZ4))
  clear hZ4 hX4
  rw [hc3]
  go_loopw [4] (fun c wr => ∃ (m : Nat) (xs : List Ins) (j : Nat) (f : Int) (v : Value), c = .int .i64 m ∧ But b w wr ∧ j ≤ s.length ∧ Hid (codeS s m (xs, j, f) = codeS s a4.toNat ([], i4, e4)) ∧ (f = 0 → m + xs.length ≤ 200) ∧
      Hid (Has wr b (tkL s j f) 51 ∧ Has wr c3 #[.int .i64 a1, .int .i64 a2, .int .i64 a3, v] 39 ∧ Has wr w.heap.size #[.int .i64 0, .int .i64 0, .int .i64 0, .slice none 0 0] 39 ∧ wr.ownsRow w.heap.size 64 3 v xs.length (xs.flatMap insL))) (fun c _ => (intOf c).toNat)
  case atStart => exact ⟨a4.toNat, [], i4, e4, .slice none 0 0, by congr 1; omega, hB4.out, l4, Lib.hid rfl, fun hf => by have := K4.out hf; simp; omega, Lib.hid ⟨R4.out.1, R4.out.2.1, R4.out.2.2, ⟨by simp, .inl ⟨rfl, rfl⟩⟩⟩⟩
  case round =>
    obtain ⟨m, xs, j, f, v, rfl, hB, hj, HS, hm, HR⟩ := hrel
    have hZ := HR.out.2.2.1
    obtain ⟨vA, vc, hv⟩ := own_form HR.out.2.2.2
    subst hv
    have hO := Lib.hid HR.out.2.2.2
    have hT := HR.out.1
    have hX := HR.out.2.1
    have nz : (Value.slice vA xs.length vc).ownBlock ≠ some w.heap.size := own_ne hO.out hZ (by decide)
    have nb2 : (Value.slice vA xs.length vc).ownBlock ≠ some b := own_ne hO.out hT (by decide)
    have nx : (Value.slice vA xs.length vc).ownBlock ≠ some c3 := own_ne hO.out hX (by decide)
    have hT_c2 := hT.cell 2
    have hX_c3 := hX.cell 3
    have HM := Lib.hid hm
    clear hm
    by_cases hf : f = 0
    · have hfb : (f == 0) = true := by simpa using hf
      have hm200 := HM.out hf
      have HFZ := Lib.hid hf
      clear hf
      by_cases hm0 : m = 0
      · have HE := Lib.hid (show funS s i e = (⟨a1, a2, a3, xs⟩, j, f) by rw [HF.out, ← HS.out, hm0]; rfl)
        have hX_c0 := hX.cell 0
        have hX_c1 := hX.cell 1
        have hX_c2 := hX.cell 2
        have hZ_c0 := hZ.cell 0
        have hZ_c1 := hZ.cell 1
        have hZ_c2 := hZ.cell 2
        have hZ_c3 := hZ.cell 3
        have hZ_f := hZ.frozen
        have hzl := hZ.lt
        go_wp2
        refine ret_cell (cs := [.int .i64 a1, .int .i64 a2, .int .i64 a3, .slice vA xs.length vc]) (t' := 39) Tryz.results30 rfl Tryz.isAgg39 Tryz.sizeOf39 rfl ?_ ⟨⟨_, by rw [HE.out], ?_⟩, ?_, ?_⟩
        · exact ((((hZ.set_same (i := 0) (v := .int .i64 a1) rfl).set_same (i := 1) (v := .int .i64 a2) rfl).set_same (i := 2) (v := .int .i64 a3) rfl).set_same (i := 3) (v := .slice vA xs.length vc) rfl)
        · rw [HE.out]
          exact own_set (own_set (own_set (own_set hO.out nz 0 _) nz 1 _) nz 2 _) nz 3 _
        · rw [HE.out]
          exact (((hT.set_other (p := ⟨w.heap.size, 0, none⟩) n2.symm).set_other (p := ⟨w.heap.size, 1, none⟩) n2.symm).set_other (p := ⟨w.heap.size, 2, none⟩) n2.symm).set_other (p := ⟨w.heap.size, 3, none⟩) n2.symm
        · exact (((hB.set_new (Nat.le_refl _) (by omega) 0 _).set_new (Nat.le_refl _) (by omega) 1 _).set_new (Nat.le_refl _) (by omega) 2 _).set_new (Nat.le_refl _) (by omega) 3 _
      · obtain ⟨m, rfl⟩ : ∃ m', m = m' + 1 := ⟨m - 1, by omega⟩
        obtain ⟨x, j2, f2, hxe⟩ : ∃ x j' f', insS s j f = (x, j', f') := ⟨_, _, _, rfl⟩
        have hj2 : j2 ≤ s.length := by have := insS_le (s := s) (e := f) hj; rw [hxe] at this; exact this
        have HN := Lib.hid ((codeS_step HFZ.out hxe).symm.trans HS.out)
        have I := Lib.hid (fun (W : World) (hW : Has W b (tkL s j f) 51) => by have := instr_calls b s j f hj hs W hW; rw [hxe] at this; exact this)
        clear hxe
        have hbl' : b ≤ w.heap.size := by omega
        go_wp2_with fail
        refine wp_region_ord (by kernel_rfl) ?_
        show wpAny _ _ _ _ (7 + 1) _ _ _
        refine any_first (i := 0) rfl (by kernel_rfl) (fun _ _ _ _ h => h) rfl ?_
        apply Exists.intro
        refine And.intro (fun _ => ?_) ?_
        · first | (go_simp; rfl) | rfl
        show wpAny _ _ _ _ (6 + 1) _ _ _
        refine any_first (i := 2) rfl (by kernel_rfl) (fun _ _ _ _ h => h) rfl ?_
        apply Exists.intro
        refine And.intro (fun _ => ?_) ?_
        · first | (go_simp; rfl) | rfl
        show wpAny _ _ _ _ (5 + 1) _ _ _
        refine any_two (i := 1) (k := 3) (by kernel_rfl) rfl rfl ?_ ?_
        ·
          go_wp2_with (first | (go_at_call 64; (with_reducible refine (I.out _ (Has.drew hT)).mono ?_); rintro r w5 ⟨rfl, q1, q2⟩; have hT5 := Lib.hid q1; have hX5 := q2.has (Has.drew hX) n1.symm; have hZ5 := Lib.hid (q2.has (Has.drew hZ) n2); have hO5 := Lib.hid (q2.own (w := wr.drew) hO.out nb2); have hB5 := Lib.hid ((hB.then (Nat.le_of_lt hT.lt) ((Below.refl _ _).drew)).trans q2); have hX5_c3 := hX5.cell 3; have hX5_l := hX5.lt; have hX5' := Lib.hid hX5; clear q1 q2) | (refine wpList_app rfl (.tmp 26) (.tmp 29) 37 rfl w.heap.size 64 3 24 _ Tryz.underlying37 insRow rfl (by decide) _ xs.length _ rfl (hO5.out.alloc _) ⟨_, 0, none⟩ 1 1 (insL x) rfl rfl (news_at _ (insL x) _) (ins_one x) (by unfold maxLen; omega) (by omega) (by have := hB5.out.grown; simp; omega) ?_; intro v' w6 hown' hgrow hblk; obtain ⟨A6, c6, hv6⟩ := own_form hown'; subst hv6; have hX6 := Has.grown (hX5'.out.alloc _) hgrow nx; have hX6_f := hX6.frozen; have hX6_l := hX6.lt; have hX6_c3 := hX6.cell 3; have HREL := Lib.hid (fun_rel hB5.out hT5.out hX5'.out hZ5.out hO5.out hgrow hown' nb2 nx nz hwc hbl); clear hown' hgrow hblk))
          show wpAny _ _ _ _ (4 + 1) _ _ _
          refine any_one (i := 3) (by kernel_rfl) rfl ?_
          go_wp2_with (first | (go_at_call 64; (with_reducible refine (I.out _ (Has.drew hT)).mono ?_); rintro r w5 ⟨rfl, q1, q2⟩; have hT5 := Lib.hid q1; have hX5 := q2.has (Has.drew hX) n1.symm; have hZ5 := Lib.hid (q2.has (Has.drew hZ) n2); have hO5 := Lib.hid (q2.own (w := wr.drew) hO.out nb2); have hB5 := Lib.hid ((hB.then (Nat.le_of_lt hT.lt) ((Below.refl _ _).drew)).trans q2); have hX5_c3 := hX5.cell 3; have hX5_l := hX5.lt; have hX5' := Lib.hid hX5; clear q1 q2) | (refine wpList_app rfl (.tmp 26) (.tmp 29) 37 rfl w.heap.size 64 3 24 _ Tryz.underlying37 insRow rfl (by decide) _ xs.length _ rfl (hO5.out.alloc _) ⟨_, 0, none⟩ 1 1 (insL x) rfl rfl (news_at _ (insL x) _) (ins_one x) (by unfold maxLen; omega) (by omega) (by have := hB5.out.grown; simp; omega) ?_; intro v' w6 hown' hgrow hblk; obtain ⟨A6, c6, hv6⟩ := own_form hown'; subst hv6; have hX6 := Has.grown (hX5'.out.alloc _) hgrow nx; have hX6_f := hX6.frozen; have hX6_l := hX6.lt; have hX6_c3 := hX6.cell 3; have HREL := Lib.hid (fun_rel hB5.out hT5.out hX5'.out hZ5.out hO5.out hgrow hown' nb2 nx nz hwc hbl); clear hown' hgrow hblk))
          show wpAny _ _ _ _ (3 + 1) _ _ _
          refine any_one (i := 4) (by kernel_rfl) rfl ?_
          go_wp2_with (first | (go_at_call 64; (with_reducible refine (I.out _ (Has.drew hT)).mono ?_); rintro r w5 ⟨rfl, q1, q2⟩; have hT5 := Lib.hid q1; have hX5 := q2.has (Has.drew hX) n1.symm; have hZ5 := Lib.hid (q2.has (Has.drew hZ) n2); have hO5 := Lib.hid (q2.own (w := wr.drew) hO.out nb2); have hB5 := Lib.hid ((hB.then (Nat.le_of_lt hT.lt) ((Below.refl _ _).drew)).trans q2); have hX5_c3 := hX5.cell 3; have hX5_l := hX5.lt; have hX5' := Lib.hid hX5; clear q1 q2) | (refine wpList_app rfl (.tmp 26) (.tmp 29) 37 rfl w.heap.size 64 3 24 _ Tryz.underlying37 insRow rfl (by decide) _ xs.length _ rfl (hO5.out.alloc _) ⟨_, 0, none⟩ 1 1 (insL x) rfl rfl (news_at _ (insL x) _) (ins_one x) (by unfold maxLen; omega) (by omega) (by have := hB5.out.grown; simp; omega) ?_; intro v' w6 hown' hgrow hblk; obtain ⟨A6, c6, hv6⟩ := own_form hown'; subst hv6; have hX6 := Has.grown (hX5'.out.alloc _) hgrow nx; have hX6_f := hX6.frozen; have hX6_l := hX6.lt; have hX6_c3 := hX6.cell 3; have HREL := Lib.hid (fun_rel hB5.out hT5.out hX5'.out hZ5.out hO5.out hgrow hown' nb2 nx nz hwc hbl); clear hown' hgrow hblk))
          show wpAny _ _ _ _ (2 + 1) _ _ _
          refine any_one (i := 5) (by kernel_rfl) rfl ?_
          go_wp2_with (first | (go_at_call 64; (with_reducible refine (I.out _ (Has.drew hT)).mono ?_); rintro r w5 ⟨rfl, q1, q2⟩; have hT5 := Lib.hid q1; have hX5 := q2.has (Has.drew hX) n1.symm; have hZ5 := Lib.hid (q2.has (Has.drew hZ) n2); have hO5 := Lib.hid (q2.own (w := wr.drew) hO.out nb2); have hB5 := Lib.hid ((hB.then (Nat.le_of_lt hT.lt) ((Below.refl _ _).drew)).trans q2); have hX5_c3 := hX5.cell 3; have hX5_l := hX5.lt; have hX5' := Lib.hid hX5; clear q1 q2) | (refine wpList_app rfl (.tmp 26) (.tmp 29) 37 rfl w.heap.size 64 3 24 _ Tryz.underlying37 insRow rfl (by decide) _ xs.length _ rfl (hO5.out.alloc _) ⟨_, 0, none⟩ 1 1 (insL x) rfl rfl (news_at _ (insL x) _) (ins_one x) (by unfold maxLen; omega) (by omega) (by have := hB5.out.grown; simp; omega) ?_; intro v' w6 hown' hgrow hblk; obtain ⟨A6, c6, hv6⟩ := own_form hown'; subst hv6; have hX6 := Has.grown (hX5'.out.alloc _) hgrow nx; have hX6_f := hX6.frozen; have hX6_l := hX6.lt; have hX6_c3 := hX6.cell 3; have HREL := Lib.hid (fun_rel hB5.out hT5.out hX5'.out hZ5.out hO5.out hgrow hown' nb2 nx nz hwc hbl); clear hown' hgrow hblk))
          show wpAny _ _ _ _ (1 + 1) _ _ _
          refine any_one (i := 6) (by kernel_rfl) rfl ?_
          go_wp2_with (first | (go_at_call 64; (with_reducible refine (I.out _ (Has.drew hT)).mono ?_); rintro r w5 ⟨rfl, q1, q2⟩; have hT5 := Lib.hid q1; have hX5 := q2.has (Has.drew hX) n1.symm; have hZ5 := Lib.hid (q2.has (Has.drew hZ) n2); have hO5 := Lib.hid (q2.own (w := wr.drew) hO.out nb2); have hB5 := Lib.hid ((hB.then (Nat.le_of_lt hT.lt) ((Below.refl _ _).drew)).trans q2); have hX5_c3 := hX5.cell 3; have hX5_l := hX5.lt; have hX5' := Lib.hid hX5; clear q1 q2) | (refine wpList_app rfl (.tmp 26) (.tmp 29) 37 rfl w.heap.size 64 3 24 _ Tryz.underlying37 insRow rfl (by decide) _ xs.length _ rfl (hO5.out.alloc _) ⟨_, 0, none⟩ 1 1 (insL x) rfl rfl (news_at _ (insL x) _) (ins_one x) (by unfold maxLen; omega) (by omega) (by have := hB5.out.grown; simp; omega) ?_; intro v' w6 hown' hgrow hblk; obtain ⟨A6, c6, hv6⟩ := own_form hown'; subst hv6; have hX6 := Has.grown (hX5'.out.alloc _) hgrow nx; have hX6_f := hX6.frozen; have hX6_l := hX6.lt; have hX6_c3 := hX6.cell 3; have HREL := Lib.hid (fun_rel hB5.out hT5.out hX5'.out hZ5.out hO5.out hgrow hown' nb2 nx nz hwc hbl); clear hown' hgrow hblk))
          show wpAny _ _ _ _ (0 + 1) _ _ _
          refine any_one (i := 7) (by kernel_rfl) rfl ?_
          go_wp2_with (first | (go_at_call 64; (with_reducible refine (I.out _ (Has.drew hT)).mono ?_); rintro r w5 ⟨rfl, q1, q2⟩; have hT5 := Lib.hid q1; have hX5 := q2.has (Has.drew hX) n1.symm; have hZ5 := Lib.hid (q2.has (Has.drew hZ) n2); have hO5 := Lib.hid (q2.own (w := wr.drew) hO.out nb2); have hB5 := Lib.hid ((hB.then (Nat.le_of_lt hT.lt) ((Below.refl _ _).drew)).trans q2); have hX5_c3 := hX5.cell 3; have hX5_l := hX5.lt; have hX5' := Lib.hid hX5; clear q1 q2) | (refine wpList_app rfl (.tmp 26) (.tmp 29) 37 rfl w.heap.size 64 3 24 _ Tryz.underlying37 insRow rfl (by decide) _ xs.length _ rfl (hO5.out.alloc _) ⟨_, 0, none⟩ 1 1 (insL x) rfl rfl (news_at _ (insL x) _) (ins_one x) (by unfold maxLen; omega) (by omega) (by have := hB5.out.grown; simp; omega) ?_; intro v' w6 hown' hgrow hblk; obtain ⟨A6, c6, hv6⟩ := own_form hown'; subst hv6; have hX6 := Has.grown (hX5'.out.alloc _) hgrow nx; have hX6_f := hX6.frozen; have hX6_l := hX6.lt; have hX6_c3 := hX6.cell 3; have HREL := Lib.hid (fun_rel hB5.out hT5.out hX5'.out hZ5.out hO5.out hgrow hown' nb2 nx nz hwc hbl); clear hown' hgrow hblk))
          refine any_end (by kernel_rfl) ?_
          (go_wp2; go_roundw; (case rel => exact ⟨m, xs ++ [x], j2, f2, _, by go_num, HREL.out.1, hj2, HN, fun _ => (by rw [List.length_append, List.length_singleton]; omega), Lib.hid HREL.out.2⟩); (case measure => simp [intOf]))
        ·
          go_wp2_with (first | (go_at_call 64; (with_reducible refine (I.out _ (Has.drew hT)).mono ?_); rintro r w5 ⟨rfl, q1, q2⟩; have hT5 := Lib.hid q1; have hX5 := q2.has (Has.drew hX) n1.symm; have hZ5 := Lib.hid (q2.has (Has.drew hZ) n2); have hO5 := Lib.hid (q2.own (w := wr.drew) hO.out nb2); have hB5 := Lib.hid ((hB.then (Nat.le_of_lt hT.lt) ((Below.refl _ _).drew)).trans q2); have hX5_c3 := hX5.cell 3; have hX5_l := hX5.lt; have hX5' := Lib.hid hX5; clear q1 q2) | (refine wpList_app rfl (.tmp 26) (.tmp 29) 37 rfl w.heap.size 64 3 24 _ Tryz.underlying37 insRow rfl (by decide) _ xs.length _ rfl (hO5.out.alloc _) ⟨_, 0, none⟩ 1 1 (insL x) rfl rfl (news_at _ (insL x) _) (ins_one x) (by unfold maxLen; omega) (by omega) (by have := hB5.out.grown; simp; omega) ?_; intro v' w6 hown' hgrow hblk; obtain ⟨A6, c6, hv6⟩ := own_form hown'; subst hv6; have hX6 := Has.grown (hX5'.out.alloc _) hgrow nx; have hX6_f := hX6.frozen; have hX6_l := hX6.lt; have hX6_c3 := hX6.cell 3; have HREL := Lib.hid (fun_rel hB5.out hT5.out hX5'.out hZ5.out hO5.out hgrow hown' nb2 nx nz hwc hbl); clear hown' hgrow hblk))
          show wpAny _ _ _ _ (4 + 1) _ _ _
          refine any_two (i := 1) (k := 4) (by kernel_rfl) rfl rfl ?_ ?_
          ·
            go_wp2_with (first | (go_at_call 64; (with_reducible refine (I.out _ (Has.drew hT)).mono ?_); rintro r w5 ⟨rfl, q1, q2⟩; have hT5 := Lib.hid q1; have hX5 := q2.has (Has.drew hX) n1.symm; have hZ5 := Lib.hid (q2.has (Has.drew hZ) n2); have hO5 := Lib.hid (q2.own (w := wr.drew) hO.out nb2); have hB5 := Lib.hid ((hB.then (Nat.le_of_lt hT.lt) ((Below.refl _ _).drew)).trans q2); have hX5_c3 := hX5.cell 3; have hX5_l := hX5.lt; have hX5' := Lib.hid hX5; clear q1 q2) | (refine wpList_app rfl (.tmp 26) (.tmp 29) 37 rfl w.heap.size 64 3 24 _ Tryz.underlying37 insRow rfl (by decide) _ xs.length _ rfl (hO5.out.alloc _) ⟨_, 0, none⟩ 1 1 (insL x) rfl rfl (news_at _ (insL x) _) (ins_one x) (by unfold maxLen; omega) (by omega) (by have := hB5.out.grown; simp; omega) ?_; intro v' w6 hown' hgrow hblk; obtain ⟨A6, c6, hv6⟩ := own_form hown'; subst hv6; have hX6 := Has.grown (hX5'.out.alloc _) hgrow nx; have hX6_f := hX6.frozen; have hX6_l := hX6.lt; have hX6_c3 := hX6.cell 3; have HREL := Lib.hid (fun_rel hB5.out hT5.out hX5'.out hZ5.out hO5.out hgrow hown' nb2 nx nz hwc hbl); clear hown' hgrow hblk))
            show wpAny _ _ _ _ (3 + 1) _ _ _
            refine any_one (i := 4) (by kernel_rfl) rfl ?_
            go_wp2_with (first | (go_at_call 64; (with_reducible refine (I.out _ (Has.drew hT)).mono ?_); rintro r w5 ⟨rfl, q1, q2⟩; have hT5 := Lib.hid q1; have hX5 := q2.has (Has.drew hX) n1.symm; have hZ5 := Lib.hid (q2.has (Has.drew hZ) n2); have hO5 := Lib.hid (q2.own (w := wr.drew) hO.out nb2); have hB5 := Lib.hid ((hB.then (Nat.le_of_lt hT.lt) ((Below.refl _ _).drew)).trans q2); have hX5_c3 := hX5.cell 3; have hX5_l := hX5.lt; have hX5' := Lib.hid hX5; clear q1 q2) | (refine wpList_app rfl (.tmp 26) (.tmp 29) 37 rfl w.heap.size 64 3 24 _ Tryz.underlying37 insRow rfl (by decide) _ xs.length _ rfl (hO5.out.alloc _) ⟨_, 0, none⟩ 1 1 (insL x) rfl rfl (news_at _ (insL x) _) (ins_one x) (by unfold maxLen; omega) (by omega) (by have := hB5.out.grown; simp; omega) ?_; intro v' w6 hown' hgrow hblk; obtain ⟨A6, c6, hv6⟩ := own_form hown'; subst hv6; have hX6 := Has.grown (hX5'.out.alloc _) hgrow nx; have hX6_f := hX6.frozen; have hX6_l := hX6.lt; have hX6_c3 := hX6.cell 3; have HREL := Lib.hid (fun_rel hB5.out hT5.out hX5'.out hZ5.out hO5.out hgrow hown' nb2 nx nz hwc hbl); clear hown' hgrow hblk))
            show wpAny _ _ _ _ (2 + 1) _ _ _
            refine any_one (i := 5) (by kernel_rfl) rfl ?_
            go_wp2_with (first | (go_at_call 64; (with_reducible refine (I.out _ (Has.drew hT)).mono ?_); rintro r w5 ⟨rfl, q1, q2⟩; have hT5 := Lib.hid q1; have hX5 := q2.has (Has.drew hX) n1.symm; have hZ5 := Lib.hid (q2.has (Has.drew hZ) n2); have hO5 := Lib.hid (q2.own (w := wr.drew) hO.out nb2); have hB5 := Lib.hid ((hB.then (Nat.le_of_lt hT.lt) ((Below.refl _ _).drew)).trans q2); have hX5_c3 := hX5.cell 3; have hX5_l := hX5.lt; have hX5' := Lib.hid hX5; clear q1 q2) | (refine wpList_app rfl (.tmp 26) (.tmp 29) 37 rfl w.heap.size 64 3 24 _ Tryz.underlying37 insRow rfl (by decide) _ xs.length _ rfl (hO5.out.alloc _) ⟨_, 0, none⟩ 1 1 (insL x) rfl rfl (news_at _ (insL x) _) (ins_one x) (by unfold maxLen; omega) (by omega) (by have := hB5.out.grown; simp; omega) ?_; intro v' w6 hown' hgrow hblk; obtain ⟨A6, c6, hv6⟩ := own_form hown'; subst hv6; have hX6 := Has.grown (hX5'.out.alloc _) hgrow nx; have hX6_f := hX6.frozen; have hX6_l := hX6.lt; have hX6_c3 := hX6.cell 3; have HREL := Lib.hid (fun_rel hB5.out hT5.out hX5'.out hZ5.out hO5.out hgrow hown' nb2 nx nz hwc hbl); clear hown' hgrow hblk))
            show wpAny _ _ _ _ (1 + 1) _ _ _
            refine any_one (i := 6) (by kernel_rfl) rfl ?_
            go_wp2_with (first | (go_at_call 64; (with_reducible refine (I.out _ (Has.drew hT)).mono ?_); rintro r w5 ⟨rfl, q1, q2⟩; have hT5 := Lib.hid q1; have hX5 := q2.has (Has.drew hX) n1.symm; have hZ5 := Lib.hid (q2.has (Has.drew hZ) n2); have hO5 := Lib.hid (q2.own (w := wr.drew) hO.out nb2); have hB5 := Lib.hid ((hB.then (Nat.le_of_lt hT.lt) ((Below.refl _ _).drew)).trans q2); have hX5_c3 := hX5.cell 3; have hX5_l := hX5.lt; have hX5' := Lib.hid hX5; clear q1 q2) | (refine wpList_app rfl (.tmp 26) (.tmp 29) 37 rfl w.heap.size 64 3 24 _ Tryz.underlying37 insRow rfl (by decide) _ xs.length _ rfl (hO5.out.alloc _) ⟨_, 0, none⟩ 1 1 (insL x) rfl rfl (news_at _ (insL x) _) (ins_one x) (by unfold maxLen; omega) (by omega) (by have := hB5.out.grown; simp; omega) ?_; intro v' w6 hown' hgrow hblk; obtain ⟨A6, c6, hv6⟩ := own_form hown'; subst hv6; have hX6 := Has.grown (hX5'.out.alloc _) hgrow nx; have hX6_f := hX6.frozen; have hX6_l := hX6.lt; have hX6_c3 := hX6.cell 3; have HREL := Lib.hid (fun_rel hB5.out hT5.out hX5'.out hZ5.out hO5.out hgrow hown' nb2 nx nz hwc hbl); clear hown' hgrow hblk))
            show wpAny _ _ _ _ (0 + 1) _ _ _
            refine any_one (i := 7) (by kernel_rfl) rfl ?_
            go_wp2_with (first | (go_at_call 64; (with_reducible refine (I.out _ (Has.drew hT)).mono ?_); rintro r w5 ⟨rfl, q1, q2⟩; have hT5 := Lib.hid q1; have hX5 := q2.has (Has.drew hX) n1.symm; have hZ5 := Lib.hid (q2.has (Has.drew hZ) n2); have hO5 := Lib.hid (q2.own (w := wr.drew) hO.out nb2); have hB5 := Lib.hid ((hB.then (Nat.le_of_lt hT.lt) ((Below.refl _ _).drew)).trans q2); have hX5_c3 := hX5.cell 3; have hX5_l := hX5.lt; have hX5' := Lib.hid hX5; clear q1 q2) | (refine wpList_app rfl (.tmp 26) (.tmp 29) 37 rfl w.heap.size 64 3 24 _ Tryz.underlying37 insRow rfl (by decide) _ xs.length _ rfl (hO5.out.alloc _) ⟨_, 0, none⟩ 1 1 (insL x) rfl rfl (news_at _ (insL x) _) (ins_one x) (by unfold maxLen; omega) (by omega) (by have := hB5.out.grown; simp; omega) ?_; intro v' w6 hown' hgrow hblk; obtain ⟨A6, c6, hv6⟩ := own_form hown'; subst hv6; have hX6 := Has.grown (hX5'.out.alloc _) hgrow nx; have hX6_f := hX6.frozen; have hX6_l := hX6.lt; have hX6_c3 := hX6.cell 3; have HREL := Lib.hid (fun_rel hB5.out hT5.out hX5'.out hZ5.out hO5.out hgrow hown' nb2 nx nz hwc hbl); clear hown' hgrow hblk))
            refine any_end (by kernel_rfl) ?_
            (go_wp2; go_roundw; (case rel => exact ⟨m, xs ++ [x], j2, f2, _, by go_num, HREL.out.1, hj2, HN, fun _ => (by rw [List.length_append, List.length_singleton]; omega), Lib.hid HREL.out.2⟩); (case measure => simp [intOf]))
          ·
            go_wp2_with (first | (go_at_call 64; (with_reducible refine (I.out _ (Has.drew hT)).mono ?_); rintro r w5 ⟨rfl, q1, q2⟩; have hT5 := Lib.hid q1; have hX5 := q2.has (Has.drew hX) n1.symm; have hZ5 := Lib.hid (q2.has (Has.drew hZ) n2); have hO5 := Lib.hid (q2.own (w := wr.drew) hO.out nb2); have hB5 := Lib.hid ((hB.then (Nat.le_of_lt hT.lt) ((Below.refl _ _).drew)).trans q2); have hX5_c3 := hX5.cell 3; have hX5_l := hX5.lt; have hX5' := Lib.hid hX5; clear q1 q2) | (refine wpList_app rfl (.tmp 26) (.tmp 29) 37 rfl w.heap.size 64 3 24 _ Tryz.underlying37 insRow rfl (by decide) _ xs.length _ rfl (hO5.out.alloc _) ⟨_, 0, none⟩ 1 1 (insL x) rfl rfl (news_at _ (insL x) _) (ins_one x) (by unfold maxLen; omega) (by omega) (by have := hB5.out.grown; simp; omega) ?_; intro v' w6 hown' hgrow hblk; obtain ⟨A6, c6, hv6⟩ := own_form hown'; subst hv6; have hX6 := Has.grown (hX5'.out.alloc _) hgrow nx; have hX6_f := hX6.frozen; have hX6_l := hX6.lt; have hX6_c3 := hX6.cell 3; have HREL := Lib.hid (fun_rel hB5.out hT5.out hX5'.out hZ5.out hO5.out hgrow hown' nb2 nx nz hwc hbl); clear hown' hgrow hblk))
            show wpAny _ _ _ _ (3 + 1) _ _ _
            refine any_one (i := 1) (by kernel_rfl) rfl ?_
            go_wp2_with (first | (go_at_call 64; (with_reducible refine (I.out _ (Has.drew hT)).mono ?_); rintro r w5 ⟨rfl, q1, q2⟩; have hT5 := Lib.hid q1; have hX5 := q2.has (Has.drew hX) n1.symm; have hZ5 := Lib.hid (q2.has (Has.drew hZ) n2); have hO5 := Lib.hid (q2.own (w := wr.drew) hO.out nb2); have hB5 := Lib.hid ((hB.then (Nat.le_of_lt hT.lt) ((Below.refl _ _).drew)).trans q2); have hX5_c3 := hX5.cell 3; have hX5_l := hX5.lt; have hX5' := Lib.hid hX5; clear q1 q2) | (refine wpList_app rfl (.tmp 26) (.tmp 29) 37 rfl w.heap.size 64 3 24 _ Tryz.underlying37 insRow rfl (by decide) _ xs.length _ rfl (hO5.out.alloc _) ⟨_, 0, none⟩ 1 1 (insL x) rfl rfl (news_at _ (insL x) _) (ins_one x) (by unfold maxLen; omega) (by omega) (by have := hB5.out.grown; simp; omega) ?_; intro v' w6 hown' hgrow hblk; obtain ⟨A6, c6, hv6⟩ := own_form hown'; subst hv6; have hX6 := Has.grown (hX5'.out.alloc _) hgrow nx; have hX6_f := hX6.frozen; have hX6_l := hX6.lt; have hX6_c3 := hX6.cell 3; have HREL := Lib.hid (fun_rel hB5.out hT5.out hX5'.out hZ5.out hO5.out hgrow hown' nb2 nx nz hwc hbl); clear hown' hgrow hblk))
            show wpAny _ _ _ _ (2 + 1) _ _ _
            refine any_one (i := 5) (by kernel_rfl) rfl ?_
            go_wp2_with (first | (go_at_call 64; (with_reducible refine (I.out _ (Has.drew hT)).mono ?_); rintro r w5 ⟨rfl, q1, q2⟩; have hT5 := Lib.hid q1; have hX5 := q2.has (Has.drew hX) n1.symm; have hZ5 := Lib.hid (q2.has (Has.drew hZ) n2); have hO5 := Lib.hid (q2.own (w := wr.drew) hO.out nb2); have hB5 := Lib.hid ((hB.then (Nat.le_of_lt hT.lt) ((Below.refl _ _).drew)).trans q2); have hX5_c3 := hX5.cell 3; have hX5_l := hX5.lt; have hX5' := Lib.hid hX5; clear q1 q2) | (refine wpList_app rfl (.tmp 26) (.tmp 29) 37 rfl w.heap.size 64 3 24 _ Tryz.underlying37 insRow rfl (by decide) _ xs.length _ rfl (hO5.out.alloc _) ⟨_, 0, none⟩ 1 1 (insL x) rfl rfl (news_at _ (insL x) _) (ins_one x) (by unfold maxLen; omega) (by omega) (by have := hB5.out.grown; simp; omega) ?_; intro v' w6 hown' hgrow hblk; obtain ⟨A6, c6, hv6⟩ := own_form hown'; subst hv6; have hX6 := Has.grown (hX5'.out.alloc _) hgrow nx; have hX6_f := hX6.frozen; have hX6_l := hX6.lt; have hX6_c3 := hX6.cell 3; have HREL := Lib.hid (fun_rel hB5.out hT5.out hX5'.out hZ5.out hO5.out hgrow hown' nb2 nx nz hwc hbl); clear hown' hgrow hblk))
            show wpAny _ _ _ _ (1 + 1) _ _ _
            refine any_one (i := 6) (by kernel_rfl) rfl ?_
            go_wp2_with (first | (go_at_call 64; (with_reducible refine (I.out _ (Has.drew hT)).mono ?_); rintro r w5 ⟨rfl, q1, q2⟩; have hT5 := Lib.hid q1; have hX5 := q2.has (Has.drew hX) n1.symm; have hZ5 := Lib.hid (q2.has (Has.drew hZ) n2); have hO5 := Lib.hid (q2.own (w := wr.drew) hO.out nb2); have hB5 := Lib.hid ((hB.then (Nat.le_of_lt hT.lt) ((Below.refl _ _).drew)).trans q2); have hX5_c3 := hX5.cell 3; have hX5_l := hX5.lt; have hX5' := Lib.hid hX5; clear q1 q2) | (refine wpList_app rfl (.tmp 26) (.tmp 29) 37 rfl w.heap.size 64 3 24 _ Tryz.underlying37 insRow rfl (by decide) _ xs.length _ rfl (hO5.out.alloc _) ⟨_, 0, none⟩ 1 1 (insL x) rfl rfl (news_at _ (insL x) _) (ins_one x) (by unfold maxLen; omega) (by omega) (by have := hB5.out.grown; simp; omega) ?_; intro v' w6 hown' hgrow hblk; obtain ⟨A6, c6, hv6⟩ := own_form hown'; subst hv6; have hX6 := Has.grown (hX5'.out.alloc _) hgrow nx; have hX6_f := hX6.frozen; have hX6_l := hX6.lt; have hX6_c3 := hX6.cell 3; have HREL := Lib.hid (fun_rel hB5.out hT5.out hX5'.out hZ5.out hO5.out hgrow hown' nb2 nx nz hwc hbl); clear hown' hgrow hblk))
            show wpAny _ _ _ _ (0 + 1) _ _ _
            refine any_one (i := 7) (by kernel_rfl) rfl ?_
            go_wp2_with (first | (go_at_call 64; (with_reducible refine (I.out _ (Has.drew hT)).mono ?_); rintro r w5 ⟨rfl, q1, q2⟩; have hT5 := Lib.hid q1; have hX5 := q2.has (Has.drew hX) n1.symm; have hZ5 := Lib.hid (q2.has (Has.drew hZ) n2); have hO5 := Lib.hid (q2.own (w := wr.drew) hO.out nb2); have hB5 := Lib.hid ((hB.then (Nat.le_of_lt hT.lt) ((Below.refl _ _).drew)).trans q2); have hX5_c3 := hX5.cell 3; have hX5_l := hX5.lt; have hX5' := Lib.hid hX5; clear q1 q2) | (refine wpList_app rfl (.tmp 26) (.tmp 29) 37 rfl w.heap.size 64 3 24 _ Tryz.underlying37 insRow rfl (by decide) _ xs.length _ rfl (hO5.out.alloc _) ⟨_, 0, none⟩ 1 1 (insL x) rfl rfl (news_at _ (insL x) _) (ins_one x) (by unfold maxLen; omega) (by omega) (by have := hB5.out.grown; simp; omega) ?_; intro v' w6 hown' hgrow hblk; obtain ⟨A6, c6, hv6⟩ := own_form hown'; subst hv6; have hX6 := Has.grown (hX5'.out.alloc _) hgrow nx; have hX6_f := hX6.frozen; have hX6_l := hX6.lt; have hX6_c3 := hX6.cell 3; have HREL := Lib.hid (fun_rel hB5.out hT5.out hX5'.out hZ5.out hO5.out hgrow hown' nb2 nx nz hwc hbl); clear hown' hgrow hblk))
            refine any_end (by kernel_rfl) ?_
            (go_wp2; go_roundw; (case rel => exact ⟨m, xs ++ [x], j2, f2, _, by go_num, HREL.out.1, hj2, HN, fun _ => (by rw [List.length_append, List.length_singleton]; omega), Lib.hid HREL.out.2⟩); (case measure => simp [intOf]))
    · have hfb : (f == 0) = false := by simpa using hf
      have HE := Lib.hid (show funS s i e = (⟨a1, a2, a3, xs⟩, j, f) by
        have h1 : codeS s m (xs, j, f) = (xs, j, f) := by
          cases m with
          | zero => rfl
          | succ m => unfold codeS; rw [if_neg hf]
        rw [HF.out, ← HS.out, h1])
      clear hf
      have hX_c0 := hX.cell 0
      have hX_c1 := hX.cell 1
      have hX_c2 := hX.cell 2
      have hZ_c0 := hZ.cell 0
      have hZ_c1 := hZ.cell 1
      have hZ_c2 := hZ.cell 2
      have hZ_c3 := hZ.cell 3
      have hZ_f := hZ.frozen
      have hzl := hZ.lt
      go_wp2
      all_goals
        refine ret_cell (cs := [.int .i64 a1, .int .i64 a2, .int .i64 a3, .slice vA xs.length vc]) (t' := 39) Tryz.results30 rfl Tryz.isAgg39 Tryz.sizeOf39 rfl ?_ ⟨⟨_, by rw [HE.out], ?_⟩, ?_, ?_⟩
        · exact ((((hZ.set_same (i := 0) (v := .int .i64 a1) rfl).set_same (i := 1) (v := .int .i64 a2) rfl).set_same (i := 2) (v := .int .i64 a3) rfl).set_same (i := 3) (v := .slice vA xs.length vc) rfl)
        · rw [HE.out]
          exact own_set (own_set (own_set (own_set hO.out nz 0 _) nz 1 _) nz 2 _) nz 3 _
        · rw [HE.out]
          exact (((hT.set_other (p := ⟨w.heap.size, 0, none⟩) n2.symm).set_other (p := ⟨w.heap.size, 1, none⟩) n2.symm).set_other (p := ⟨w.heap.size, 2, none⟩) n2.symm).set_other (p := ⟨w.heap.size, 3, none⟩) n2.symm
        · exact (((hB.set_new (Nat.le_refl _) (by omega) 0 _).set_new (Nat.le_refl _) (by omega) 1 _).set_new (Nat.le_refl _) (by omega) 2 _).set_new (Nat.le_refl _) (by omega) 3 _
end Go.Proofs.YtedkfipjooafeaaGreatDoor.Code
set_option linter.unusedSimpArgs false
set_option linter.unusedVariables false
namespace Go.Proofs.YtedkfipjooafeaaGreatDoor.Code
open Go Go.RowKit Go.Proofs.YtedkfipjooafeaaGreatDoor Go.Proofs.YtedkfipjooafeaaGreatDoor.Op Go.Proofs.YtedkfipjooafeaaGreatDoor.Wire

def funsS (s : B) : Nat → Pg × Nat × Int → Pg × Nat × Int
  | 0, st => st
  | m + 1, st => if st.2.2 = 0 then funsS s m (st.1 ++ [(funS s st.2.1 st.2.2).1], (funS s st.2.1 st.2.2).2.1, (funS s st.2.1 st.2.2).2.2) else st
def decS (s : B) : Pg × Int :=
  let r := numS s 1 16 0 0
  let st := funsS s r.1.toNat ([], r.2.1, r.2.2)
  if st.2.2 ≠ 0 then ([], st.2.2) else if st.2.1 < s.length then ([], 72) else (st.1, 0)
theorem funsS_step {s : B} {m : Nat} {ps : Pg} {j : Nat} {f : Int} {x : Fn} {j2 : Nat} {f2 : Int} (hf : f = 0) (hi : funS s j f = (x, j2, f2)) : funsS s (m + 1) (ps, j, f) = funsS s m (ps ++ [x], j2, f2) := by
  rw [funsS, if_pos hf]
  simp only [hi]
def Built (w : World) (base : Nat) (v : Value) (ps : Pg) (vs : List Value) : Prop :=
  vs.length = ps.length ∧ w.ownsRow base 39 4 v ps.length ((ps.zip vs).flatMap fun x => fnL x.1 x.2) ∧ ∀ (i : Nat) f u, ps[i]? = some f → vs[i]? = some u → w.ownsRow base 64 3 u f.code.length (f.code.flatMap insL)
theorem own_own_ne {w : World} {base base' : Nat} {e e' : TypeId} {size size' n n' : Nat} {v v' : Value} {xs xs' : List Value} (h : w.ownsRow base e size v n xs) (h' : w.ownsRow base' e' size' v' n' xs') (hne : e ≠ e') : v.ownBlock = none ∨ v.ownBlock ≠ v'.ownBlock := by
  rcases h'.2 with ⟨rfl, _⟩ | ⟨g, cap, cur, rfl, _, hh, _⟩
  · cases hv : v.ownBlock
    · exact .inl rfl
    · exact .inr (by simp [Value.ownBlock])
  · exact .inr (own_ne h hh hne)
theorem reads_own {w : World} {base : Nat} {e : TypeId} {size n : Nat} {v : Value} {xs : List Value} (h : w.ownsRow base e size v n xs) : Reads w w.heap.size size v n xs := by
  obtain ⟨A, c, rfl⟩ := own_form h
  refine ⟨h.1, A, c, rfl, fun hn => ?_⟩
  obtain ⟨g, cap, hv, _, hlt⟩ := h.form hn
  injection hv with hA
  subst hA
  exact ⟨_, rfl, hlt, h.cells (g := g) rfl⟩
theorem Built.prog {w : World} {base : Nat} {v : Value} {ps : Pg} {vs : List Value} (h : Built w base v ps vs) : ProgAt w w.heap.size v ps :=
  ⟨vs, h.1, reads_own h.2.1, fun i f u hi hu => reads_own (h.2.2 i f u hi hu)⟩
theorem Built.nil (w : World) (base : Nat) : Built w base (.slice none 0 0) [] [] := ⟨rfl, ⟨by simp, .inl ⟨rfl, rfl⟩⟩, fun i f u h => by simp at h⟩
theorem prog_nil (w : World) : ProgAt w w.heap.size (.slice none 0 0) [] := (Built.nil w 0).prog
theorem Built.but {w w' : World} {base b : Nat} {v : Value} {ps : Pg} {vs : List Value} {cs : Array Value} {t : TypeId} (h : Built w base v ps vs) (hB : But b w w') (hb : Has w b cs t) (h1 : 39 ≠ t) (h2 : 64 ≠ t) : Built w' base v ps vs :=
  ⟨h.1, hB.own h.2.1 (own_ne h.2.1 hb h1), fun i f u hi hu => hB.own (h.2.2 i f u hi hu) (own_ne (h.2.2 i f u hi hu) hb h2)⟩
theorem fn_one (f : Fn) {u : Value} (hu : u.oneCell' = true) : ∀ y ∈ fnL f u, y.oneCell' = true := by
  intro y hy
  simp only [fnL, List.mem_cons, List.not_mem_nil, or_false] at hy
  rcases hy with rfl | rfl | rfl | rfl <;> first | rfl | exact hu
theorem Built.more {w w' : World} {base : Nat} {v v' : Value} {ps : Pg} {vs : List Value} {f : Fn} {u : Value} {o : Obj} (h : Built w base v ps vs) (hu : w.ownsRow base 64 3 u f.code.length (f.code.flatMap insL))
    (hg : (w.alloc o).grownBy w' v.ownBlock) (ho : w'.ownsRow base 39 4 v' (ps.length + 1) (((ps.zip vs).flatMap fun x => fnL x.1 x.2) ++ fnL f u)) : Built w' base v' (ps ++ [f]) (vs ++ [u]) := by
  refine ⟨by simp [h.1], ?_, fun i g y hi hy => ?_⟩
  · rw [List.length_append, List.length_singleton, List.zip_append h.1.symm, List.flatMap_append]
    simpa using ho
  · have key : w'.ownsRow base 64 3 y g.code.length (g.code.flatMap insL) ∨ True := .inr trivial
    by_cases hlt : i < ps.length
    · rw [List.getElem?_append_left hlt] at hi
      rw [List.getElem?_append_left (by rw [h.1]; exact hlt)] at hy
      have h1 := (h.2.2 i g y hi hy).alloc o
      exact h1.kept hg (own_own_ne h1 (h.2.1.alloc o) (by decide))
    · rw [List.getElem?_append_right (by omega)] at hi
      rw [List.getElem?_append_right (by rw [h.1]; omega)] at hy
      rw [h.1] at hy
      have hi0 : i - ps.length = 0 := by
        have := (List.getElem?_eq_some_iff.1 hi).1
        simp at this; omega
      rw [hi0] at hi hy
      simp only [List.getElem?_cons_zero, Option.some.injEq] at hi hy
      subst hi hy
      have h1 := hu.alloc o
      exact h1.kept hg (own_own_ne h1 (h.2.1.alloc o) (by decide))

theorem own_base {w : World} {base base' : Nat} {e : TypeId} {size n : Nat} {v : Value} {xs : List Value} (h : w.ownsRow base e size v n xs) (hb : base' ≤ base) : w.ownsRow base' e size v n xs := by
  obtain ⟨h1, h2⟩ := h
  refine ⟨h1, ?_⟩
  rcases h2 with h2 | ⟨g, cap, cur, hv, hg, h3⟩
  · exact .inl h2
  · exact .inr ⟨g, cap, cur, hv, by omega, h3⟩
theorem dec_rel {w w5 w6 : World} {tk : Array Value} {v v' u : Value} {ps : Pg} {vs : List Value} {x : Fn} {o : Obj} (hB : But w.heap.size w w5) (hT : Has w5 w.heap.size tk 51) (hP : Built w5 w.heap.size v ps vs) (hu : w5.ownsRow w.heap.size 64 3 u x.code.length (x.code.flatMap insL))
    (hg : (w5.alloc o).grownBy w6 v.ownBlock) (ho : w6.ownsRow w.heap.size 39 4 v' (ps.length + 1) (((ps.zip vs).flatMap fun x => fnL x.1 x.2) ++ fnL x u)) :
    But w.heap.size w w6 ∧ Has w6 w.heap.size tk 51 ∧ Built w6 w.heap.size v' (ps ++ [x]) (vs ++ [u]) :=
  ⟨(hB.then hB.grown ((Below.refl _ _).alloc (Nat.le_refl _) o)).grownBy hg (by have := hB.grown; simp; omega) (fun g e => by have := (hP.2.1.lt g e).1; omega),
    Has.grown (hT.alloc o) hg (own_ne hP.2.1 hT (by decide)), hP.more hu hg ho⟩
set_option maxRecDepth 20000 in
set_option maxHeartbeats 8000000 in
theorem Decode_calls (s : B) (hs : s.length ≤ 9223372036854775000) (w : World) :
    Calls Tryz.prog 13 #[str s] w fun r w' => (∃ v, r = .returned (.tuple #[v, .int .i64 (decS s).2]) ∧ ProgAt w' w'.heap.size v (decS s).1) ∧ Below w.heap.size w w' := by
  obtain ⟨a4, i4, e4, h4⟩ : ∃ a i' e', numS s 1 16 0 0 = (a, i', e') := ⟨_, _, _, rfl⟩
  have l4 : i4 ≤ s.length := by have := numS_le (s := s) (lo := 1) (hi := 16) (i := 0) (e := 0) (Nat.zero_le _); rw [h4] at this; exact this
  have p4 : 0 ≤ a4 := by have := numS_nat s 1 16 0 0; rw [h4] at this; exact this
  have k4 : e4 = 0 → 1 ≤ a4 ∧ a4 ≤ 16 := fun he => by have := numS_ok (s := s) (lo := 1) (hi := 16) (i := 0) (e := 0) (by rw [h4]; exact he); rw [h4] at this; exact inB_bd this.2
  have HD := Lib.hid (show decS s = (let st := funsS s a4.toNat ([], i4, e4); if st.2.2 ≠ 0 then ([], st.2.2) else if st.2.1 < s.length then ([], 72) else (st.1, 0)) by unfold decS; simp only [h4])
  have N4 := Lib.hid (fun (W : World) (b : Nat) (hW : Has W b #[str s, .int .i64 0, .int .i64 0] 51) => by have := number_calls b s 0 0 1 16 (Nat.zero_le _) hs W hW; rw [h4] at this; exact this)
  have K4 := Lib.hid k4
  clear h4 k4
  go_enter Tryz.func13, Tryz.ntmps13
  go_wp2_with (first | (go_at_call 29; (with_reducible refine (N4.out _ _ (Has.new _ _ _)).mono ?_); rintro r w4 ⟨rfl, q1, q2⟩; have Q4 := Lib.hid (And.intro q1 (But.trans (But.of_below (Nat.le_refl _) ((Below.refl _ _).alloc (Nat.le_refl _) _)) q2)); clear q1 q2))
  go_loopw [5, 6] (fun pv c wr => ∃ (m : Nat) (ps : Pg) (vs : List Value) (j : Nat) (f : Int), c = .int .i64 m ∧ But w.heap.size w wr ∧ j ≤ s.length ∧ Hid (funsS s m (ps, j, f) = funsS s a4.toNat ([], i4, e4)) ∧ Hid (f = 0 → m + ps.length ≤ 16) ∧
      Hid (Has wr w.heap.size (tkL s j f) 51 ∧ Built wr w.heap.size pv ps vs)) (fun _ c _ => (intOf c).toNat)
  case atStart => exact ⟨a4.toNat, [], [], i4, e4, by congr 1; omega, Q4.out.2, l4, Lib.hid rfl, Lib.hid fun hf => by have := K4.out hf; simp; omega, Lib.hid ⟨Q4.out.1, Built.nil _ _⟩⟩
  case round =>
    obtain ⟨m, ps, vs, j, f, rfl, hB, hj, HS, HM, HR⟩ := hrel
    have hT := HR.out.1
    have hT_c1 := hT.cell 1
    have hT_c2 := hT.cell 2
    have hbl := hT.lt
    by_cases hf : f = 0
    · have hfb : (f == 0) = true := by simpa using hf
      have hfn : (f != 0) = false := by simpa using hf
      have hm16 := HM.out hf
      have HFZ := Lib.hid hf
      clear hf
      by_cases hm0 : m = 0
      · have HE := Lib.hid (show funsS s a4.toNat ([], i4, e4) = (ps, j, 0) by rw [← HS.out, hm0, HFZ.out]; rfl)
        obtain ⟨pA, pc, hpv⟩ := own_form HR.out.2.2.1
        subst hpv
        by_cases hjl : j < s.length
        · have HD2 := Lib.hid (show decS s = ([], 72) by rw [HD.out]; simp only [HE.out]; rw [if_neg (by simp), if_pos hjl])
          go_wp2
          go_ret2
          exact ⟨⟨_, by rw [HD2.out]; rfl, by rw [HD2.out]; exact prog_nil _⟩, hB.below⟩
        · have HD2 := Lib.hid (show decS s = (ps, 0) by rw [HD.out]; simp only [HE.out]; rw [if_neg (by simp), if_neg hjl])
          go_wp2
          go_ret2
          exact ⟨⟨_, by rw [HD2.out]; rfl, by rw [HD2.out]; exact HR.out.2.prog⟩, hB.below⟩
      · obtain ⟨m, rfl⟩ : ∃ m', m = m' + 1 := ⟨m - 1, by omega⟩
        obtain ⟨x, j2, f2, hxe⟩ : ∃ x j' f', funS s j f = (x, j', f') := ⟨_, _, _, rfl⟩
        have hj2 : j2 ≤ s.length := by have := funS_le (s := s) (e := f) hj; rw [hxe] at this; exact this
        have HN := Lib.hid ((funsS_step HFZ.out hxe).symm.trans HS.out)
        have I := Lib.hid (fun (W : World) (hW : Has W w.heap.size (tkL s j f) 51) => by have := function_calls w.heap.size s j f hj hs W hW; rw [hxe] at this; exact this)
        clear hxe
        go_wp2_with (first | (go_at_call 30; (with_reducible refine (I.out _ hT).mono ?_); rintro r w5 ⟨⟨u, rfl, q0⟩, q1, q2⟩; obtain ⟨uA, uc, hu⟩ := own_form q0; subst hu; have HP5 := Lib.hid (And.intro (HR.out.2.but q2 hT (by decide) (by decide)) (And.intro (own_base q0 hB.grown) (And.intro q1 (hB.trans q2)))); clear q0 q1 q2) | (refine wpList_app rfl (.tmp 23) (.tmp 26) 23 rfl w.heap.size 39 4 48 _ Tryz.underlying23 fnRow rfl (by decide) _ ps.length _ rfl (HP5.out.1.2.1.alloc _) ⟨_, 0, none⟩ 1 1 (fnL x (.slice uA x.code.length uc)) rfl rfl (news_at _ (fnL x (.slice uA x.code.length uc)) _) (fn_one x rfl) (by unfold maxLen; omega) (by omega) (by have := HP5.out.2.2.2.grown; simp; omega) ?_; intro v' w6 hown' hgrow hblk; have HREL := Lib.hid (dec_rel HP5.out.2.2.2 HP5.out.2.2.1 HP5.out.1 HP5.out.2.1 hgrow hown'); clear hown' hgrow hblk))
        go_roundw
        case rel => exact ⟨m, ps ++ [x], vs ++ [_], j2, f2, by go_num, HREL.out.1, hj2, HN, Lib.hid fun _ => (by rw [List.length_append, List.length_singleton]; omega), Lib.hid HREL.out.2⟩
        case measure => simp [intOf]
    · have hfb : (f == 0) = false := by simpa using hf
      have hfn : (f != 0) = true := by simpa using hf
      have HD2 := Lib.hid (show decS s = ([], f) by
        have h1 : funsS s m (ps, j, f) = (ps, j, f) := by
          cases m with
          | zero => rfl
          | succ m => unfold funsS; rw [if_neg hf]
        rw [HD.out, ← HS.out, h1]
        simp only
        rw [if_pos hf])
      clear hf
      go_wp2
      all_goals
        refine wp_region_mix 5 (by kernel_rfl) (by kernel_rfl) ?_
        simp only [List.take_succ_cons, List.take_zero, List.drop_succ_cons, List.drop_zero]
        repeat (go_big_quiet_step ((fail)))
        refine wpQuiet_nil ?_
        intro _ hmix
        (try (with_reducible replace hmix := mix_flat hmix))
        obtain ⟨x1, hmix'⟩ := hmix
        have hz := mix_size' hmix'
        subst hmix'
        (try simp only [World.size_alloc, World.size_setCell, World.size_drew] at hz); (try have q0 : w.heap.size < _ := Nat.lt_of_lt_of_le (by omega) hz); (try have q1 : w.heap.size + 1 < _ := Nat.lt_of_lt_of_le (by omega) hz); (try have q2 : w.heap.size + 1 + 1 < _ := Nat.lt_of_lt_of_le (by omega) hz); (try have q3 : w.heap.size + 1 + 1 + 1 < _ := Nat.lt_of_lt_of_le (by omega) hz)
        go_wp2
        go_ret2
        exact ⟨⟨_, by rw [HD2.out]; rfl, by rw [HD2.out]; exact prog_nil _⟩, hB.below.trans ((below_mix _ _).mono hB.grown)⟩
end Go.Proofs.YtedkfipjooafeaaGreatDoor.Code
set_option linter.unusedSimpArgs false
set_option linter.unusedVariables false
namespace Go.Proofs.YtedkfipjooafeaaGreatDoor.Code
open Go Go.RowKit Go.Proofs.YtedkfipjooafeaaGreatDoor Go.Proofs.YtedkfipjooafeaaGreatDoor.Op Go.Proofs.YtedkfipjooafeaaGreatDoor.Bld Go.Proofs.YtedkfipjooafeaaGreatDoor.Wire

def putI (n : Int) : B := Wire.bytes (putN n.toNat)
def encI (x : Ins) : B := UInt8.ofNat x.op.toNat :: (fieldsB x).flatMap putI
def encC (l : List Ins) : B := l.flatMap encI
def encF (f : Fn) : B := [f.ar, f.lo, f.sl, (f.code.length : Int)].flatMap putI ++ encC f.code
def encP (p : Pg) : B := if mayP p then putI p.length ++ p.flatMap encF else []
theorem putN_len (k : Nat) : ∀ n : Nat, n < 128 ^ (k + 1) → (putN n).length ≤ k + 1 := by
  induction k with
  | zero => intro n h; rw [putN_small (by simpa using (by omega : n ≤ 127))]; simp
  | succ k ih =>
    intro n h
    by_cases h1 : n ≤ 127
    · rw [putN_small h1]; simp
    · rw [putN_big h1, List.length_cons]
      have : n / 128 < 128 ^ (k + 1) := by
        rw [Nat.pow_succ] at h
        exact Nat.div_lt_of_lt_mul (by omega)
      have := ih _ this
      omega
theorem putI_len {n : Int} (h0 : 0 ≤ n) (h : n ≤ 281474976710655) : (putI n).length ≤ 7 := by
  unfold putI Wire.bytes
  rw [List.length_map]
  exact putN_len 6 n.toNat (by simp; omega)
theorem puts_len {l : List Int} (h : ∀ n ∈ l, 0 ≤ n ∧ n ≤ 281474976710655) : (l.flatMap putI).length ≤ 7 * l.length := by
  induction l with
  | nil => simp
  | cons n l ih =>
    have h1 := putI_len (h n (by simp)).1 (h n (by simp)).2
    have h2 := ih (fun m hm => h m (by simp [hm]))
    rw [List.flatMap_cons, List.length_append, List.length_cons]
    omega
theorem putI_calls (n : Int) (h0 : 0 ≤ n) (h : n ≤ 281474976710655) (w : World) :
    Calls Tryz.prog 47 #[.int .i64 n] w fun e w' => e = .returned (str (putI n)) ∧ Below w.heap.size w w' := by
  obtain ⟨m, rfl⟩ := Int.eq_ofNat_of_zero_le h0
  exact Put_in m h w
theorem kept_below {b : Nat} {w w' : World} (h : Below w.heap.size w w') : Kept b w w' := by
  intro k o hk _ _
  have hlt : k < w.heap.size := by
    rcases Nat.lt_or_ge k w.heap.size with h' | h'
    · exact h'
    · rw [Array.getElem?_eq_none h'] at hk; cases hk
  exact (h.block k hlt).trans hk
theorem bld_ne {B0 b g : Nat} {l : B} {w : World} {cs : Array Value} {t : TypeId} (h : IsB B0 b l w) (hg : Has w g cs t) (ht : t ≠ 69) : g ≠ b := by
  rintro rfl
  unfold Has at hg
  rcases h with ⟨_, v, hb, _⟩ | ⟨_, v, hb, _⟩ <;>
  · rw [hg] at hb
    injection hb with hb
    injection hb with _ hb
    exact ht hb
structure Nums (w : World) (g : Nat) (cs : List Value) (l : List Int) : Prop where
  has : Has w g cs.toArray 3
  eq : cs.take l.length = l.map (Value.int .i64)
theorem Nums.cell {w : World} {g : Nat} {cs : List Value} {l : List Int} (h : Nums w g cs l) {k : Nat} (hk : k < l.length) : w.cell? ⟨g, k, none⟩ = some (.int .i64 l[k]) := by
  rw [h.has.cell]
  have : (cs.take l.length)[k]? = some (.int .i64 l[k]) := by rw [h.eq, List.getElem?_map, List.getElem?_eq_getElem hk]; rfl
  rw [List.getElem?_take, if_pos hk] at this
  simpa using this
theorem Nums.kept {w w' : World} {g b : Nat} {cs : List Value} {l : List Int} (h : Nums w g cs l) (hk : Kept b w w') (hne : g ≠ b) : Nums w' g cs l := ⟨hk.has h.has hne (by decide), h.eq⟩

set_option maxRecDepth 20000 in
set_option maxHeartbeats 2000000 in
theorem put_calls (B0 b g c : Nat) (cs : List Value) (l : List Int) (acc : B) (w : World) (hB : IsB B0 b acc w) (hN : Nums w g cs l) (hs : B0 ≤ w.heap.size) (hl : l.length ≤ 4) (hacc : acc.length ≤ 10000000) (hi : ∀ n ∈ l, 0 ≤ n ∧ n ≤ 281474976710655) :
    Calls Tryz.prog 46 #[.slice (some ⟨g, 0, none⟩) l.length c, .pointer (some ⟨b, 0, none⟩)] w fun e w' => e = .returned (.tuple #[]) ∧ IsB B0 b (acc ++ l.flatMap putI) w' ∧ Below B0 w w' ∧ Kept b w w' := by
  have hne : g ≠ b := bld_ne hB hN.has (by decide)
  have HI := Lib.hid hi
  have HN := Lib.hid hN
  have HB := Lib.hid hB
  clear hi hN hB
  go_enter Tryz.func46, Tryz.ntmps46
  go_wp2
  go_loopw [7] (fun i wr => ∃ k : Nat, k ≤ l.length ∧ i = .int .i64 k ∧ Below B0 w wr ∧ Hid (IsB B0 b (acc ++ (l.take k).flatMap putI) wr ∧ Kept b w wr)) (fun i _ => l.length - (intOf i).toNat)
  case atStart => exact ⟨0, Nat.zero_le _, rfl, Below.refl _ _, Lib.hid ⟨by simpa using HB.out, Lib.OthersKept.refl _ _ _⟩⟩
  case round =>
    obtain ⟨k, hk, rfl, hb, HR⟩ := hrel
    by_cases hlt : k < l.length
    · have c0 := (HN.out.kept HR.out.2 hne).cell hlt
      have hx : l[k]? = some l[k] := List.getElem?_eq_getElem hlt
      have hm := HI.out l[k] (List.getElem_mem hlt)
      obtain ⟨n, hn⟩ : ∃ n, l[k] = n := ⟨_, rfl⟩
      rw [hn] at c0 hm hx
      have hlen : (acc ++ (l.take k).flatMap putI).length ≤ 10000028 := by
        have h1 := puts_len (l := l.take k) (fun m hm => HI.out m (List.mem_of_mem_take hm))
        have h2 : (l.take k).length ≤ 4 := by rw [List.length_take]; omega
        rw [List.length_append]; omega
      have hpl := putI_len hm.1 hm.2
      have P1 := Lib.hid (fun (W : World) => putI_calls n hm.1 hm.2 W)
      have WS := Lib.hid (fun (W : World) (hw : Below wr.heap.size wr W) => WriteString_calls B0 b _ (putI n) W (HR.out.1.keep hw) (by omega) (Nat.le_trans (Nat.le_trans hs hb.size) hw.size))
      have HX := Lib.hid hx
      clear hn hx hlen hpl hm
      go_wp2_with (first | (go_at_call 47; (with_reducible refine (P1.out _).mono ?_); rintro e w' ⟨rfl, hb⟩; have hz := hb.size; (first | (obtain ⟨x1, rfl⟩ := to_mix2 hb) | (obtain ⟨x1, rfl⟩ := to_mix hb)); clear hb; (try simp only [World.size_alloc, World.size_setCell, World.size_drew] at hz); (try have q0 : w.heap.size < _ := Nat.lt_of_lt_of_le (by omega) hz); (try have q1 : w.heap.size + 1 < _ := Nat.lt_of_lt_of_le (by omega) hz); (try have q2 : w.heap.size + 1 + 1 < _ := Nat.lt_of_lt_of_le (by omega) hz); (try have q3 : w.heap.size + 1 + 1 + 1 < _ := Nat.lt_of_lt_of_le (by omega) hz)) | (go_at_call 40; (with_reducible refine (WS.out _ (by (repeat (first | (with_reducible assumption) | (with_reducible exact Below.refl _ _) | (with_reducible refine grow_alloc ?_ _) | (with_reducible refine grow_mix ?_ _) | (with_reducible refine grow_drew ?_) | (with_reducible refine grow_drewN ?_ _) | (with_reducible refine grow_set ?_ (by first | (simp; done) | (simp; omega) | omega) _))))).mono ?_); rintro e w3 ⟨rfl, q1, q2, q3⟩; have HB3 := Lib.hid (And.intro q1 (Lib.OthersKept.trans (Lib.OthersKept.trans HR.out.2 (kept_below (by (repeat (first | (with_reducible assumption) | (with_reducible exact Below.refl _ _) | (with_reducible refine grow_alloc ?_ _) | (with_reducible refine grow_mix ?_ _) | (with_reducible refine grow_drew ?_) | (with_reducible refine grow_drewN ?_ _) | (with_reducible refine grow_set ?_ (by first | (simp; done) | (simp; omega) | omega) _)))))) q3)); have hw3 : Below B0 w w3 := Below.trans hb (Below.trans (Below.mono (by (repeat (first | (with_reducible assumption) | (with_reducible exact Below.refl _ _) | (with_reducible refine grow_alloc ?_ _) | (with_reducible refine grow_mix ?_ _) | (with_reducible refine grow_drew ?_) | (with_reducible refine grow_drewN ?_ _) | (with_reducible refine grow_set ?_ (by first | (simp; done) | (simp; omega) | omega) _)))) (Nat.le_trans hs hb.size)) q2); clear q1 q2 q3))
      go_roundw
      case rel => exact ⟨k + 1, by omega, by go_num, hw3, Lib.hid ⟨by rw [flat_next _ _ _ _ HX.out, ← List.append_assoc]; exact HB3.out.1, HB3.out.2⟩⟩
      case measure => simp [intOf]; omega
    · have hk' : k = l.length := by omega
      subst hk'
      go_wp2
      refine bodyPost_end (v := .tuple #[]) (by first | rfl | (simp [results, Tryz.results46]; done)) rfl ?_
      exact ⟨rfl, by have := HR.out.1; rwa [List.take_length] at this, hb, HR.out.2⟩
theorem Encode_no (p : Pg) (v : Value) (w : World) (hm : mayP p = false) (h : ProgAt w w.heap.size v p) (hl : p.length ≤ 9223372036854775000) (hc : ∀ f ∈ p, f.code.length ≤ 9223372036854775000) :
    Calls Tryz.prog 19 #[v] w fun e w' => e = .returned (str []) ∧ Below w.heap.size w w' := by
  have M := Lib.hid (may_calls_at p v false hm w h hl hc)
  obtain ⟨A, c, rfl⟩ := h.form
  clear h hc hm
  go_enter Tryz.func19, Tryz.ntmps19
  go_wp2_with (first | (go_at_call 15; (with_reducible refine (M.out).mono ?_); rintro e w' ⟨rfl, hb⟩; have hz := hb.size; (first | (obtain ⟨x1, rfl⟩ := to_mix2 hb) | (obtain ⟨x1, rfl⟩ := to_mix hb)); clear hb; (try simp only [World.size_alloc, World.size_setCell, World.size_drew] at hz); (try have q0 : w.heap.size < _ := Nat.lt_of_lt_of_le (by omega) hz); (try have q1 : w.heap.size + 1 < _ := Nat.lt_of_lt_of_le (by omega) hz); (try have q2 : w.heap.size + 1 + 1 < _ := Nat.lt_of_lt_of_le (by omega) hz); (try have q3 : w.heap.size + 1 + 1 + 1 < _ := Nat.lt_of_lt_of_le (by omega) hz)))
  go_ret
  exact ⟨rfl, by (repeat (first | (with_reducible assumption) | (with_reducible exact Below.refl _ _) | (with_reducible refine grow_alloc ?_ _) | (with_reducible refine grow_mix ?_ _) | (with_reducible refine grow_drew ?_) | (with_reducible refine grow_drewN ?_ _) | (with_reducible refine grow_set ?_ (by first | (simp; done) | (simp; omega) | omega) _)))⟩
theorem encI_len {x : Ins} (h : mayI x = true) : (encI x).length ≤ 15 := by
  have hb := mayI_bd h
  have h1 := puts_len (l := fieldsB x) (fun n hn => by
    have := List.mem_of_mem_take hn
    simp only [List.mem_cons, List.not_mem_nil, or_false] at this
    rcases this with rfl | rfl <;> omega)
  have h3 : (fieldsB x).length ≤ 2 := by unfold fieldsB; simp; omega
  unfold encI
  rw [List.length_cons]; omega
theorem encC_len {l : List Ins} (h : l.all mayI = true) : (encC l).length ≤ 15 * l.length := by
  unfold encC
  induction l with
  | nil => simp
  | cons x l ih =>
    simp only [List.all_cons, Bool.and_eq_true] at h
    have h1 := encI_len h.1
    have h2 := ih h.2
    rw [List.flatMap_cons, List.length_append, List.length_cons]
    omega
theorem fn_nats {f : Fn} (h : mayF f = true) : ∀ n ∈ [f.ar, f.lo, f.sl, (f.code.length : Int)], 0 ≤ n ∧ n ≤ 281474976710655 := by
  have := mayF_parts h
  intro n hn
  simp only [List.mem_cons, List.not_mem_nil, or_false] at hn
  rcases hn with rfl | rfl | rfl | rfl <;> omega
theorem ins_nats {x : Ins} (h : mayI x = true) : ∀ n ∈ fieldsB x, 0 ≤ n ∧ n ≤ 281474976710655 := fun n hn => by
  have hb := mayI_bd h
  have := List.mem_of_mem_take hn
  simp only [List.mem_cons, List.not_mem_nil, or_false] at this
  rcases this with rfl | rfl <;> omega
theorem encF_len {f : Fn} (h : mayF f = true) : (encF f).length ≤ 3100 := by
  have h1 := puts_len (fn_nats h)
  have h2 := mayF_parts h
  have h3 := encC_len h2.2.2.2.2.2
  simp only [List.length_cons, List.length_nil] at h1
  unfold encF
  rw [List.length_append]; omega
theorem encs_len {p : Pg} (h : ∀ f ∈ p, mayF f = true) : (p.flatMap encF).length ≤ 3100 * p.length := by
  induction p with
  | nil => simp
  | cons f p ih =>
    have h1 := encF_len (h f (by simp))
    have h2 := ih (fun g hg => h g (by simp [hg]))
    rw [List.flatMap_cons, List.length_append, List.length_cons]
    omega
theorem fieldsN (x : Ins) : (fieldsB x).length = (opFields x.op).toNat ∧ (opFields x.op).toNat ≤ 2 ∧ opFields x.op = ((opFields x.op).toNat : Int) := by
  have hn : 0 ≤ opFields x.op ∧ opFields x.op ≤ 2 := by rcases fields_len x.op with h | h | h <;> rw [h] <;> decide
  refine ⟨?_, by omega, by omega⟩
  unfold fieldsB; simp; omega
theorem fields_nums (x : Ins) (w : World) :
    Calls Tryz.prog 49 #[insV x] w fun e w' => (∃ g, e = .returned (.slice (some ⟨g, 0, none⟩) (fieldsB x).length 2) ∧ Nums w' g [.int .i64 x.a, .int .i64 x.b] (fieldsB x)) ∧ Below w.heap.size w w' := by
  have hf := fieldsN x
  refine (fields_at x (opFields x.op).toNat hf.2.1 hf.2.2 w).mono ?_
  rintro e w' ⟨⟨g, rfl, h⟩, hb⟩
  exact ⟨⟨g, by rw [hf.1], ⟨h, by rw [hf.1]; unfold fieldsB; rw [List.map_take]; rfl⟩⟩, hb⟩
end Go.Proofs.YtedkfipjooafeaaGreatDoor.Code
set_option linter.unusedSimpArgs false
set_option linter.unusedVariables false
namespace Go.Proofs.YtedkfipjooafeaaGreatDoor.Code
open Go Go.RowKit Go.Proofs.YtedkfipjooafeaaGreatDoor Go.Proofs.YtedkfipjooafeaaGreatDoor.Op Go.Proofs.YtedkfipjooafeaaGreatDoor.Bld Go.Proofs.YtedkfipjooafeaaGreatDoor.Wire

theorem WriteByte_at (B0 b : Nat) (l : List UInt8) (c : UInt8) (n : Int) (hn : (c.toNat : Int) = n) (w : World) (h : IsB B0 b l w) (hlen : l.length + 1 ≤ 140737488355328) (hBw : B0 ≤ w.heap.size) :
    Calls Tryz.prog 48 #[.pointer (some ⟨b, 0, none⟩), .int .u8 n] w fun e w' => e = .returned .nilIface ∧ IsB B0 b (l ++ [c]) w' ∧ Below B0 w w' ∧ Kept b w w' := by
  subst hn; exact WriteByte_calls B0 b l c w h hlen hBw
set_option maxRecDepth 20000 in
set_option maxHeartbeats 4000000 in
theorem Encode_yes (p : Pg) (v : Value) (w : World) (hm : mayP p = true) (h : ProgAt w w.heap.size v p) :
    Calls Tryz.prog 19 #[v] w fun e w' => e = .returned (str (putI p.length ++ p.flatMap encF)) ∧ Below w.heap.size w w' := by
  have PM := Lib.hid (mayP_parts hm)
  have M := Lib.hid (may_calls_at p v true hm w h (by have := PM.out.2.2; omega) (fun f hf => by have := mayF_parts (PM.out.1 f hf); omega))
  obtain ⟨A, c, rfl⟩ := h.form
  have HC := Lib.hid h
  have hp16 : p.length ≤ 16 := PM.out.2.2
  clear h hm
  go_enter Tryz.func19, Tryz.ntmps19
  refine wp_seq ?_
  go_wp2_with (first | (go_at_call 15; (with_reducible refine (M.out).mono ?_); rintro e w' ⟨rfl, hb⟩; have hz := hb.size; (first | (obtain ⟨x1, rfl⟩ := to_mix2 hb) | (obtain ⟨x1, rfl⟩ := to_mix hb)); clear hb; (try simp only [World.size_alloc, World.size_setCell, World.size_drew] at hz); (try have q0 : w.heap.size < _ := Nat.lt_of_lt_of_le (by omega) hz); (try have q1 : w.heap.size + 1 < _ := Nat.lt_of_lt_of_le (by omega) hz); (try have q2 : w.heap.size + 1 + 1 < _ := Nat.lt_of_lt_of_le (by omega) hz); (try have q3 : w.heap.size + 1 + 1 + 1 < _ := Nat.lt_of_lt_of_le (by omega) hz)))
  have hb1 : Below w.heap.size w (mix w x1) := by (repeat (first | (with_reducible assumption) | (with_reducible exact Below.refl _ _) | (with_reducible refine grow_alloc ?_ _) | (with_reducible refine grow_mix ?_ _) | (with_reducible refine grow_drew ?_) | (with_reducible refine grow_drewN ?_ _) | (with_reducible refine grow_set ?_ (by first | (simp; done) | (simp; omega) | omega) _)))
  generalize mix w x1 = w1 at hb1 hz ⊢
  clear M
  have hz1 : w.heap.size ≤ w1.heap.size := hb1.size
  have P0 := put_calls w.heap.size w1.heap.size (w1.heap.size + 1) 1 [.int .i64 (p.length : Int)] [(p.length : Int)] [] ((w1.alloc (.cells #[.pointer none, .slice none 0 0] 69)).alloc (.cells #[.int .i64 (p.length : Int)] 3))
    ((IsB.new w1 w.heap.size hz1).keep ((Below.refl _ _).alloc (Nat.le_refl _) _)) ⟨Has.new' (by simp) _ _, rfl⟩ (by simp; omega) (by simp) (by simp) (by intro n hn; simp at hn; omega)
  refine P0.mono ?_
  rintro e w2 ⟨rfl, q1, q2, q3⟩
  have hw2 : Below w.heap.size w w2 := Below.trans (by (repeat (first | (with_reducible assumption) | (with_reducible exact Below.refl _ _) | (with_reducible refine grow_alloc ?_ _) | (with_reducible refine grow_mix ?_ _) | (with_reducible refine grow_drew ?_) | (with_reducible refine grow_drewN ?_ _) | (with_reducible refine grow_set ?_ (by first | (simp; done) | (simp; omega) | omega) _)))) q2
  have HB0 := Lib.hid q1
  clear q1 q2 q3 P0
  go_wp2
  go_loopw [20] (fun i wr => ∃ k : Nat, k ≤ p.length ∧ i = .int .i64 k ∧ Below w.heap.size w wr ∧ Hid (IsB w.heap.size w1.heap.size (putI p.length ++ (p.take k).flatMap encF) wr)) (fun i _ => p.length - (intOf i).toNat)
  case atStart => exact ⟨0, Nat.zero_le _, rfl, hw2, Lib.hid (by simpa using HB0.out)⟩
  case round =>
    obtain ⟨k, hk, rfl, hb, HB⟩ := hrel
    have hpl : (putI p.length).length ≤ 7 := putI_len (by omega) (by omega)
    by_cases hlt : k < p.length
    · obtain ⟨a, c', u, e, hab, c0, c1, c2, c3, hcd⟩ := HC.out.at2 hb hlt
      injection e with e1 e2 e3
      subst e1 e3
      obtain ⟨A', c', rfl⟩ := hcd.form
      have hx : p[k]? = some p[k] := List.getElem?_eq_getElem hlt
      have hmf := PM.out.1 p[k] (List.getElem_mem hlt)
      obtain ⟨f, hf⟩ : ∃ f, p[k] = f := ⟨_, rfl⟩
      rw [hf] at c0 c1 c2 c3 hcd hx hmf
      have hn200 : f.code.length ≤ 200 := (mayF_parts hmf).2.2.2.2.1
      have hel : ((p.take k).flatMap encF).length ≤ 49600 := by
        have := encs_len (p := p.take k) (fun g hg => PM.out.1 g (List.mem_of_mem_take hg))
        have h2 : (p.take k).length ≤ 16 := by rw [List.length_take]; omega
        omega
      have hbl := HB.out.lt
      have hzr := hb.size
      have HF := Lib.hid (And.intro hf (And.intro hx hmf))
      have HCD := Lib.hid hcd
      have P1 := put_calls w.heap.size w1.heap.size (wr.heap.size + 1) 4 [.int .i64 f.ar, .int .i64 f.lo, .int .i64 f.sl, .int .i64 (f.code.length : Int)] [f.ar, f.lo, f.sl, (f.code.length : Int)] (putI p.length ++ (p.take k).flatMap encF)
        ((wr.alloc (.cells #[.int .i64 f.ar, .int .i64 f.lo, .int .i64 f.sl, .slice A' f.code.length c'] 39)).alloc (.cells #[.int .i64 f.ar, .int .i64 f.lo, .int .i64 f.sl, .int .i64 (f.code.length : Int)] 3))
        (HB.out.keep (((Below.refl _ _).alloc (Nat.le_refl _) _).alloc (by simp) _)) ⟨Has.new' (by simp) _ _, rfl⟩ (by simp; omega) (by simp) (by rw [List.length_append]; omega) (fn_nats hmf)
      have P1 := Lib.hid P1
      clear hf hx hcd hmf hel hpl
      go_wp2_with (first | (go_at_call 46; refine (P1.out).mono ?_; rintro e w4 ⟨rfl, q1, q2, q3⟩; have HB4 := Lib.hid q1; have hf4 : Has w4 wr.heap.size #[.int .i64 f.ar, .int .i64 f.lo, .int .i64 f.sl, .slice A' f.code.length c'] 39 := Kept.has q3 (by (repeat (first | (with_reducible assumption) | (with_reducible exact Has.new _ _ _) | (with_reducible exact Has.new' (by first | rfl | (simp; done) | (simp; omega)) _ _) | (with_reducible apply Has.alloc) | (with_reducible apply Has.mix) | (with_reducible apply Has.drew) | (with_reducible apply Has.drewN) | (with_reducible apply Has.set_same) | (with_reducible apply Has.set_other (hp := (by first | (simp; done) | (simp; omega) | omega))) | (with_reducible rfl) | rfl))) (by omega) (by decide); have hw4 : Below w.heap.size w w4 := Below.trans (by (repeat (first | (with_reducible assumption) | (with_reducible exact Below.refl _ _) | (with_reducible refine grow_alloc ?_ _) | (with_reducible refine grow_mix ?_ _) | (with_reducible refine grow_drew ?_) | (with_reducible refine grow_drewN ?_ _) | (with_reducible refine grow_set ?_ (by first | (simp; done) | (simp; omega) | omega) _)))) q2; clear q1 q2 q3; have hf4c := hf4.cell 3))
      clear P1 c0 c1 c2 c3 hf4 hf4c
      go_loopw [39] (fun i wi => ∃ m : Nat, m ≤ f.code.length ∧ i = .int .i64 m ∧ Below w.heap.size w wi ∧ Hid (IsB w.heap.size w1.heap.size (putI p.length ++ (p.take k).flatMap encF ++ [f.ar, f.lo, f.sl, (f.code.length : Int)].flatMap putI ++ encC (f.code.take m)) wi)) (fun i _ => f.code.length - (intOf i).toNat)
      case atStart => exact ⟨0, Nat.zero_le _, rfl, hw4, Lib.hid (by have := HB4.out; simpa [encC] using this)⟩
      case round =>
        obtain ⟨m, hm, rfl, hbi, HBi⟩ := hrel
        by_cases hmt : m < f.code.length
        · obtain ⟨ai, ci, e, habi, d0, d1, d2⟩ := HCD.out.at2 hbi hmt
          injection e with e1 e2 e3
          subst e1 e3
          have hxi : f.code[m]? = some f.code[m] := List.getElem?_eq_getElem hmt
          have hmi : mayI f.code[m] = true := List.all_eq_true.1 (mayF_parts HF.out.2.2).2.2.2.2.2 _ (List.getElem_mem hmt)
          obtain ⟨x, hxe⟩ : ∃ x, f.code[m] = x := ⟨_, rfl⟩
          rw [hxe] at d0 d1 d2 hxi hmi
          have hxb := mayI_bd hmi
          obtain ⟨ch, hch⟩ : ∃ ch, UInt8.ofNat x.op.toNat = ch := ⟨_, rfl⟩
          have e8 : (ch.toNat : Int) = x.op := by rw [← hch, UInt8.toNat_ofNat']; omega
          have hall : (putI p.length ++ (p.take k).flatMap encF ++ [f.ar, f.lo, f.sl, (f.code.length : Int)].flatMap putI ++ encC (f.code.take m)).length ≤ 100000 := by
            have h0 : (putI p.length).length ≤ 7 := putI_len (by omega) (by omega)
            have h1 := encs_len (p := p.take k) (fun g hg => PM.out.1 g (List.mem_of_mem_take hg))
            have h2 : (p.take k).length ≤ 16 := by rw [List.length_take]; omega
            have h3 := encC_len (l := f.code.take m) (List.all_eq_true.2 fun y hy => List.all_eq_true.1 (mayF_parts HF.out.2.2).2.2.2.2.2 y (List.mem_of_mem_take hy))
            have h4 : (f.code.take m).length ≤ 200 := by rw [List.length_take]; omega
            have h5 := puts_len (fn_nats HF.out.2.2)
            simp only [List.length_cons, List.length_nil] at h5
            rw [List.length_append, List.length_append, List.length_append]
            omega
          have hbl2 := HBi.out.lt
          have WB := Lib.hid (fun (W : World) (hw : Below wr.heap.size wr W) => WriteByte_at w.heap.size w1.heap.size _ ch x.op e8 W (HBi.out.keep hw) (by omega) (Nat.le_trans hbi.size hw.size))
          have P2 := Lib.hid (fun (W : World) (g : Nat) (acc : B) (h1 : IsB w.heap.size w1.heap.size acc W) (h2 : Nums W g [.int .i64 x.a, .int .i64 x.b] (fieldsB x)) (h3 : w.heap.size ≤ W.heap.size) (h4 : acc.length ≤ 100001) => put_calls w.heap.size w1.heap.size g 2 _ (fieldsB x) acc W h1 h2 h3 (by have := fieldsN x; omega) (by omega) (ins_nats hmi))
          have HX := Lib.hid (And.intro hxi (And.intro hch hall))
          clear hxi hxe hmi hall hch e8
          go_wp2_with (first | (go_at_call 48; (with_reducible refine (WB.out _ (by (repeat (first | (with_reducible assumption) | (with_reducible exact Below.refl _ _) | (with_reducible refine grow_alloc ?_ _) | (with_reducible refine grow_mix ?_ _) | (with_reducible refine grow_drew ?_) | (with_reducible refine grow_drewN ?_ _) | (with_reducible refine grow_set ?_ (by first | (simp; done) | (simp; omega) | omega) _))))).mono ?_); rintro e w5 ⟨rfl, q1, q2, q3⟩; have HB5 := Lib.hid q1; have hf5 : Has w5 wr.heap.size #[.int .i64 x.op, .int .i64 x.a, .int .i64 x.b] 64 := Kept.has q3 (by (repeat (first | (with_reducible assumption) | (with_reducible exact Has.new _ _ _) | (with_reducible exact Has.new' (by first | rfl | (simp; done) | (simp; omega)) _ _) | (with_reducible apply Has.alloc) | (with_reducible apply Has.mix) | (with_reducible apply Has.drew) | (with_reducible apply Has.drewN) | (with_reducible apply Has.set_same) | (with_reducible apply Has.set_other (hp := (by first | (simp; done) | (simp; omega) | omega))) | (with_reducible rfl) | rfl))) (by omega) (by decide); have hw5 : Below w.heap.size w w5 := Below.trans (by (repeat (first | (with_reducible assumption) | (with_reducible exact Below.refl _ _) | (with_reducible refine grow_alloc ?_ _) | (with_reducible refine grow_mix ?_ _) | (with_reducible refine grow_drew ?_) | (with_reducible refine grow_drewN ?_ _) | (with_reducible refine grow_set ?_ (by first | (simp; done) | (simp; omega) | omega) _)))) q2; clear q1 q2 q3; have hf50 := hf5.cell 0; have hf51 := hf5.cell 1; have hf52 := hf5.cell 2) | (go_at_call 49; (with_reducible refine (fields_nums x _).mono ?_); rintro e w6 ⟨⟨g6, rfl, q1⟩, q2⟩; have HN6 := Lib.hid q1; have HB6 := Lib.hid (HB5.out.keep q2); have hw6 : Below w.heap.size w w6 := Below.trans hw5 (q2.mono hw5.size); clear q1 q2) | (go_at_call 46; (with_reducible refine (P2.out _ _ _ HB6.out HN6.out hw6.size (by have := HX.out.2.2; rw [List.length_append, List.length_singleton]; omega)).mono ?_); rintro e w7 ⟨rfl, q1, q2, q3⟩; have HB7 := Lib.hid q1; have hw7 : Below w.heap.size w w7 := Below.trans hw6 q2; clear q1 q2 q3))
          go_roundw
          case rel =>
            have ec : encC (f.code.take (m + 1)) = encC (f.code.take m) ++ (ch :: (fieldsB x).flatMap putI) := by
              have h1 : encI x = ch :: (fieldsB x).flatMap putI := by unfold encI; rw [HX.out.2.1]
              rw [← h1]
              exact flat_next _ _ _ _ HX.out.1
            exact ⟨m + 1, by omega, by go_num, hw7, Lib.hid (by rw [ec]; have := HB7.out; simpa only [List.append_assoc, List.singleton_append] using this)⟩
          case measure => simp [intOf]; omega
        · have hm' : m = f.code.length := by omega
          subst hm'
          go_wp2
          go_roundw
          case rel => exact ⟨k + 1, by omega, by go_num, hbi, Lib.hid (by rw [flat_next _ _ _ _ HF.out.2.1, show encF f = [f.ar, f.lo, f.sl, (f.code.length : Int)].flatMap putI ++ encC f.code from rfl]; have := HBi.out; rw [List.take_length] at this; simpa only [List.append_assoc] using this)⟩
          case measure => simp [intOf]; omega
    · have hk' : k = p.length := by omega
      subst hk'
      have S := Lib.hid (String_calls w.heap.size w1.heap.size (putI p.length ++ p.flatMap encF) wr (by have := HB.out; rwa [List.take_length] at this) hb.size)
      go_wp2_with (first | (go_at_call 43; (with_reducible refine (S.out).mono ?_); rintro e w3 ⟨rfl, q1⟩))
      go_ret
      exact ⟨rfl, hb.trans q1⟩
theorem Encode_calls (p : Pg) (v : Value) (w : World) (h : ProgAt w w.heap.size v p) (hl : p.length ≤ 9223372036854775000) (hc : ∀ f ∈ p, f.code.length ≤ 9223372036854775000) :
    Calls Tryz.prog 19 #[v] w fun e w' => e = .returned (str (encP p)) ∧ Below w.heap.size w w' := by
  unfold encP
  cases hm : mayP p
  · exact Encode_no p v w hm h hl hc
  · exact Encode_yes p v w hm h
theorem Text_calls (p : Pg) (v : Value) (w : World) (h : ProgAt w w.heap.size v p) (hl : p.length ≤ 9223372036854775000) (hc : ∀ f ∈ p, f.code.length ≤ 9223372036854775000) (hg : Glob w) :
    Calls Tryz.prog 17 #[v] w fun e w' => e = .returned (str (textP p)) ∧ Below w.heap.size w w' := by
  unfold textP
  cases hm : mayP p
  · exact Text_no p v w hm h hl hc
  · exact Text_yes p v w hm h hg
end Go.Proofs.YtedkfipjooafeaaGreatDoor.Code
