/-
  Bytes that a program's begin with are none, but all of them. Texts with a blank more, or without the last byte, are no program's. Walks of the laws on programs: CodeBack, CodeApart, CodeCut. Values as data: what a value of the machine stands for, apart from where it lies; own blocks by numbers of one's own. Regions told by data: an operation does what it is said to do wherever what it looks at is as told; in turn, or in whatever order. Regions told by data: in turn, and in whatever order. Regions told by data: whatever order is drawn, the state behind is that of the order of the text. Code told by data: control, loops, calls. Operations told by data: those that read. Operations told by data: addresses, parts, lengths, tests. Operations told by data: new blocks, stores, appends. Operations told by data: append.
-/
import Derived.Below
import Derived.Orders
import Derived.WalkKit
import Derived.ScopeJumps
import Derived.Laws.Cells
import Derived.Laws.CopyRow
import Derived.Laws.AppendOwn
import Derived.Test.YtedkfipjooafeaaGreatDoorT3
import Derived.Test.YtedkfipjooafeaaGreatDoorT4
import Derived.Test.YtedkfipjooafeaaGreatDoorT5
set_option linter.unusedSimpArgs false
set_option linter.unusedVariables false
set_option linter.unusedSimpArgs false
set_option linter.unusedVariables false
namespace Go.Proofs.YtedkfipjooafeaaGreatDoor.Code
open Go Go.RowKit Go.Proofs.YtedkfipjooafeaaGreatDoor Go.Proofs.YtedkfipjooafeaaGreatDoor.Op Go.Proofs.YtedkfipjooafeaaGreatDoor.Wire

end Go.Proofs.YtedkfipjooafeaaGreatDoor.Code
set_option linter.unusedSimpArgs false
set_option linter.unusedVariables false
namespace Go.Proofs.YtedkfipjooafeaaGreatDoor.Code
open Go Go.RowKit Go.Proofs.YtedkfipjooafeaaGreatDoor Go.Proofs.YtedkfipjooafeaaGreatDoor.Op

end Go.Proofs.YtedkfipjooafeaaGreatDoor.Code
set_option linter.unusedSimpArgs false
set_option linter.unusedVariables false
namespace Go.Proofs.YtedkfipjooafeaaGreatDoor.Code
open Go Go.RowKit Go.Proofs.YtedkfipjooafeaaGreatDoor Go.Proofs.YtedkfipjooafeaaGreatDoor.Op Go.Proofs.YtedkfipjooafeaaGreatDoor.Wire

def Fine (p : Pg) : Prop := p.length ≤ 9223372036854775 ∧ ∀ f ∈ p, f.code.length ≤ 9223372036854775
theorem fine_of_may {p : Pg} (h : mayP p = true) : Fine p := ⟨by have := (mayP_parts h).2.2; omega, fun f hf => by have := mayF_parts ((mayP_parts h).1 f hf); omega⟩
section
variable {w : World} {v u : Value} {p q : Pg}
theorem may_at {b : Bool} (h : ProgAt w w.heap.size v p) (hf : Fine p) (hb : mayP p = b) : ∀ W, Below w.heap.size w W → Calls Tryz.prog 15 #[v] W fun e w' => e = .returned (.bool b) ∧ Below W.heap.size W w' :=
  fun W hW => by subst hb; exact May_calls p v W (h.stays W hW) (by have := hf.1; omega) (fun f hm => by have := hf.2 f hm; omega)
theorem text_at {t : B} (h : ProgAt w w.heap.size v p) (hf : Fine p) (hg : Glob w) (h8 : 8 ≤ w.heap.size) (ht : textP p = t) : ∀ W, Below w.heap.size w W → Calls Tryz.prog 17 #[v] W fun e w' => e = .returned (str t) ∧ Below W.heap.size W w' :=
  fun W hW => by subst ht; exact Text_calls p v W (h.stays W hW) (by have := hf.1; omega) (fun f hm => by have := hf.2 f hm; omega) (hg.base hW h8)
theorem enc_at {t : B} (h : ProgAt w w.heap.size v p) (hf : Fine p) (ht : encP p = t) : ∀ W, Below w.heap.size w W → Calls Tryz.prog 19 #[v] W fun e w' => e = .returned (str t) ∧ Below W.heap.size W w' :=
  fun W hW => by subst ht; exact Encode_calls p v W (h.stays W hW) (by have := hf.1; omega) (fun f hm => by have := hf.2 f hm; omega)
theorem dig_at {d : Nat} (h : ProgAt w w.heap.size v p) (hf : Fine p) (hd : Crc.crcOf (encP p) = d) : ∀ W, Below w.heap.size w W → Calls Tryz.prog 21 #[v] W fun e w' => e = .returned (.int .i64 d) ∧ Below W.heap.size W w' :=
  fun W hW => by subst hd; exact Digest_calls p v W (h.stays W hW) (by have := hf.1; omega) (fun f hm => by have := hf.2 f hm; omega)
theorem small_at {m : Int} {b : Bool} (h : ProgAt w w.heap.size v p) (hf : Fine p) (hb : smallP p m = b) : ∀ W, Below w.heap.size w W → Calls Tryz.prog 9 #[v, .int .i64 m] W fun e w' => e = .returned (.bool b) ∧ Below W.heap.size W w' :=
  fun W hW => by subst hb; exact Small_calls p v m W (h.stays W hW) (by have := hf.1; omega) (fun f hm => hf.2 f hm)
theorem same_at {b : Bool} (h : ProgAt w w.heap.size v p) (h' : ProgAt w w.heap.size u q) (hf : Fine p) (hf' : Fine q) (hb : decide (p = q) = b) : ∀ W, Below w.heap.size w W → Calls Tryz.prog 24 #[v, u] W fun e w' => e = .returned (.bool b) ∧ Below W.heap.size W w' :=
  fun W hW => by subst hb; exact Same_calls p q v u W (h.stays W hW) (h'.stays W hW) (by have := hf.1; omega) (by have := hf'.1; omega) (fun f hm => by have := hf.2 f hm; omega) (fun f hm => by have := hf'.2 f hm; omega)
theorem fixed_at (hg : Glob w) (h8 : 8 ≤ w.heap.size) : ∀ W, Below w.heap.size w W → Calls Tryz.prog 10 #[] W fun e w' => e = .returned (.bool true) ∧ Below W.heap.size W w' :=
  fun W hW => fixed_calls W (hg.base hW h8) (Nat.le_trans h8 hW.size)
theorem parse_at {s : B} {x : Pg × Nat × Int} (hg : Glob w) (h8 : 8 ≤ w.heap.size) (hs : s.length < 4294967281) (hx : parS s = x) : ∀ W, Below w.heap.size w W → Calls Tryz.prog 11 #[str s] W fun e w' => (∃ v, e = .returned (.tuple #[v, .int .i64 x.2.1, .int .i64 x.2.2]) ∧ ProgAt w' w'.heap.size v x.1 ∧ CapOk v) ∧ Below W.heap.size W w' :=
  fun W hW => by subst hx; exact Parse_calls s hs W (hg.base hW h8) (Nat.le_trans h8 hW.size)
theorem dec_at {s : B} {x : Pg × Int} (hs : s.length ≤ 9223372036854775000) (hx : decS s = x) : ∀ W, Calls Tryz.prog 13 #[str s] W fun r w' => (∃ v, r = .returned (.tuple #[v, .int .i64 x.2]) ∧ ProgAt w' w'.heap.size v x.1) ∧ Below W.heap.size W w' :=
  fun W => by subst hx; exact Decode_calls s hs W
end
theorem par_cases (s : B) : (∃ q n, parS s = (q, n, 0) ∧ mayP q = true ∧ textP q = s ∧ n = (linesP q).length) ∨ ∃ n, parS s = ([], n, 70) := by
  unfold parS
  cases hq : (parseP s).1 with
  | none => exact .inr ⟨_, rfl⟩
  | some q =>
    have h : parseP s = (some q, (parseP s).2) := Prod.ext hq rfl
    obtain ⟨h1, h2, h3⟩ := text_parse h
    exact .inl ⟨q, (parseP s).2, rfl, h2, h1, h3⟩
theorem dec_cases (s : B) : (∃ q, decS s = (q, 0) ∧ mayP q = true ∧ encP q = s) ∨ ∃ q e, decS s = (q, e) ∧ e ≠ 0 ∧ q = [] := by
  cases hd : decS s with
  | mk q e =>
    by_cases he : e = 0
    · subst he
      have := enc_dec (s := s) (by rw [hd])
      rw [hd] at this
      exact .inl ⟨q, rfl, this.1, this.2⟩
    · refine .inr ⟨q, e, rfl, he, ?_⟩
      unfold decS at hd
      simp only at hd
      split at hd
      · injection hd with h1 _; exact h1.symm
      · split at hd
        · injection hd with h1 _; exact h1.symm
        · injection hd with _ h2; exact absurd h2.symm he
end Go.Proofs.YtedkfipjooafeaaGreatDoor.Code
set_option linter.unusedSimpArgs false
set_option linter.unusedVariables false
namespace Go.Proofs.YtedkfipjooafeaaGreatDoor.Ab
open Go Go.RowKit

def isOne : Value → Bool
  | .agg _ | .tuple _ => false
  | _ => true
inductive IV where
  | v (x : Value)
  | sl (c : Nat) (rows : List (List IV))
  | sn (c : Nat) (rows : List (List IV))
  | ip (cs : List IV)
inductive AV where
  | im (x : IV)
  | op (b i j : Nat)
  | os (b o n : Nat)
  | clo (f : Fn) (caps : List AV)
  | junk
inductive AT where
  | c (x : AV)
  | g (xs : List AV)
  | u (xs : List AT)
  | j
inductive Loc where
  | virt
  | at_ (k c cap : Nat)
structure Blk where
  ty : TypeId
  c : Nat
  rows : List (List AV)
  whole : Bool

section
variable (O : Nat → Prop) (m : Nat → Option Loc) (w : World)
inductive RepI : IV → Value → Prop
  | v (x : Value) : RepI (.v x) x
  | sl (c : Nat) (rows : List (List IV)) (A : Option Addr) (cap : Nat) (us : List Value)
      (ha : rows ≠ [] → ∃ a, A = some a ∧ ¬ O a.block ∧ a.block < w.heap.size ∧ ∀ (j : Nat) u, us[j]? = some u → w.cell? (a.add j) = some u) (hl : us.length = rows.length * c) (ho : ∀ u ∈ us, isOne u = true) (hr : ∀ row ∈ rows, row.length = c) (hc : rows.length ≤ cap)
      (h : ∀ (i : Nat) row, rows[i]? = some row → ∀ (j : Nat) x, row[j]? = some x → ∀ u, us[i * c + j]? = some u → RepI x u) : RepI (.sl c rows) (.slice A rows.length cap)
  | sn (c : Nat) (rows : List (List IV)) (A : Option Addr) (cap : Nat) (us : List Value)
      (ha : rows ≠ [] → ∃ a, A = some a ∧ ¬ O a.block ∧ a.block < w.heap.size ∧ ∀ (j : Nat) u, us[j]? = some u → w.cell? (a.add j) = some u) (hl : us.length = rows.length * c) (ho : ∀ u ∈ us, isOne u = true) (hr : ∀ row ∈ rows, row.length = c)
      (h : ∀ (i : Nat) row, rows[i]? = some row → ∀ (j : Nat) x, row[j]? = some x → ∀ u, us[i * c + j]? = some u → RepI x u) : RepI (.sn c rows) (.slice A rows.length cap)
  | ip (cs : List IV) (a : Addr) (us : List Value) (hl : us.length = cs.length) (ho : ∀ u ∈ us, isOne u = true) (hO : ¬ O a.block) (hb : a.block < w.heap.size) (ha : ∀ (j : Nat) u, us[j]? = some u → w.cell? (a.add j) = some u)
      (h : ∀ (j : Nat) x, cs[j]? = some x → ∀ u, us[j]? = some u → RepI x u) : RepI (.ip cs) (.pointer (some a))
inductive RepA : AV → Value → Prop
  | im {x v} (h : RepI O w x v) : RepA (.im x) v
  | op {b i j k c cap} (h : m b = some (.at_ k c cap)) : RepA (.op b i j) (.pointer (some ⟨k, i * c + j, none⟩))
  | os {b o n k c cap A} (h : m b = some (.at_ k c cap)) (hn : o + n ≤ cap) (hA : o < cap → A = some ⟨k, o * c, none⟩) : RepA (.os b o n) (.slice A n (cap - o))
  | virt {b A} (h : m b = some .virt) : RepA (.os b 0 0) (.slice A 0 0)
  | clo {f caps us} (hl : us.size = caps.length) (ho : ∀ u ∈ us, isOne u = true) (h : ∀ (j : Nat) x, caps[j]? = some x → ∀ u, us[j]? = some u → RepA x u) : RepA (.clo f caps) (.func f #[] us)
  | junk (v) : RepA .junk v
inductive RepT : AT → Value → Prop
  | c {x v} (h : RepA O m w x v) (hv : isOne v = true) : RepT (.c x) v
  | g {xs us} (hl : us.size = xs.length) (ho : ∀ u ∈ us, isOne u = true) (h : ∀ (j : Nat) x, xs[j]? = some x → ∀ u, us[j]? = some u → RepA O m w x u) : RepT (.g xs) (.agg us)
  | u {xs us} (hl : us.size = xs.length) (h : ∀ (j : Nat) x, xs[j]? = some x → ∀ u, us[j]? = some u → RepT x u) : RepT (.u xs) (.tuple us)
  | j (v) : RepT .j v
end

structure Step (O O' : Nat → Prop) (m m' : Nat → Option Loc) (w w' : World) : Prop where
  os : w'.os = w.os
  tape : w'.tape = w.tape
  output : w'.output = w.output
  size : w.heap.size ≤ w'.heap.size
  block : ∀ k, k < w.heap.size → ¬ O k → w'.heap[k]? = w.heap[k]?
  own : ∀ k, O k → O' k
  fresh : ∀ k, O' k → O k ∨ w.heap.size ≤ k
  loc : ∀ b, m b ≠ none → m' b = m b
section
variable {O O' O'' : Nat → Prop} {m m' m'' : Nat → Option Loc} {w w' w'' : World}
theorem Step.refl : Step O O m m w w := ⟨rfl, rfl, rfl, Nat.le_refl _, fun _ _ _ => rfl, fun _ h => h, fun _ h => .inl h, fun _ _ => rfl⟩
theorem Step.trans (h : Step O O' m m' w w') (k : Step O' O'' m' m'' w' w'') : Step O O'' m m'' w w'' :=
  ⟨k.os.trans h.os, k.tape.trans h.tape, k.output.trans h.output, Nat.le_trans h.size k.size,
   fun i hi ho => (k.block i (Nat.lt_of_lt_of_le hi h.size) (fun ho' => (h.fresh i ho').elim ho (fun h1 => by omega))).trans (h.block i hi ho),
   fun i hi => k.own i (h.own i hi), fun i hi => (k.fresh i hi).elim (fun h1 => h.fresh i h1) (fun h1 => .inr (Nat.le_trans h.size h1)),
   fun b hb => (k.loc b (by rw [h.loc b hb]; exact hb)).trans (h.loc b hb)⟩
theorem RepI.step {x : IV} {v : Value} (h : RepI O w x v) (hs : Step O O' m m' w w') : RepI O' w' x v := by
  have key : ∀ k, ¬ O k → k < w.heap.size → ¬ O' k := fun k h1 h2 h3 => (hs.fresh k h3).elim h1 (fun h4 => by omega)
  induction h with
  | v x => exact .v x
  | sl c rows A cap us ha hl ho hr hc h ih =>
    refine .sl c rows A cap us (fun hne => ?_) hl ho hr hc ih
    obtain ⟨a, e, h1, h2, h3⟩ := ha hne
    refine ⟨a, e, key _ h1 h2, Nat.lt_of_lt_of_le h2 hs.size, fun j u hj => ?_⟩
    rw [World.cell?_of_block (w := w)]
    · exact h3 j u hj
    · have : (a.add j).block = a.block := by unfold Addr.add; split <;> rfl
      rw [this]; exact hs.block _ h2 h1
  | sn c rows A cap us ha hl ho hr h ih =>
    refine .sn c rows A cap us (fun hne => ?_) hl ho hr ih
    obtain ⟨a, e, h1, h2, h3⟩ := ha hne
    refine ⟨a, e, key _ h1 h2, Nat.lt_of_lt_of_le h2 hs.size, fun j u hj => ?_⟩
    rw [World.cell?_of_block (w := w)]
    · exact h3 j u hj
    · have : (a.add j).block = a.block := by unfold Addr.add; split <;> rfl
      rw [this]; exact hs.block _ h2 h1
  | ip cs a us hl ho hO hb ha h ih =>
    refine .ip cs a us hl ho (key _ hO hb) (Nat.lt_of_lt_of_le hb hs.size) (fun j u hj => ?_) ih
    rw [World.cell?_of_block (w := w)]
    · exact ha j u hj
    · have : (a.add j).block = a.block := by unfold Addr.add; split <;> rfl
      rw [this]; exact hs.block _ hb hO
theorem RepA.step {x : AV} {v : Value} (h : RepA O m w x v) (hs : Step O O' m m' w w') : RepA O' m' w' x v := by
  have key : ∀ {b l}, m b = some l → m' b = some l := fun {b l} h => by rw [hs.loc b (by rw [h]; simp)]; exact h
  induction h with
  | im h => exact .im (h.step hs)
  | op h => exact .op (key h)
  | os h hn hA => exact .os (key h) hn hA
  | virt h => exact .virt (key h)
  | clo hl ho h ih => exact .clo hl ho ih
  | junk v => exact .junk v
theorem RepT.step {x : AT} {v : Value} (h : RepT O m w x v) (hs : Step O O' m m' w w') : RepT O' m' w' x v := by
  induction h with
  | c h hv => exact .c (h.step hs) hv
  | g hl ho h => exact .g hl ho fun j x hj u hu => (h j x hj u hu).step hs
  | u hl h ih => exact .u hl ih
  | j v => exact .j v
theorem RepI.less {x : IV} {v : Value} (h : RepI O w x v) (hO : ∀ k, O' k → O k) : RepI O' w x v := by
  induction h with
  | v x => exact .v x
  | sl c rows A cap us ha hl ho hr hc h ih =>
    refine .sl c rows A cap us (fun hne => ?_) hl ho hr hc ih
    obtain ⟨a, e, h1, h2, h3⟩ := ha hne
    exact ⟨a, e, fun h => h1 (hO _ h), h2, h3⟩
  | sn c rows A cap us ha hl ho hr h ih =>
    refine .sn c rows A cap us (fun hne => ?_) hl ho hr ih
    obtain ⟨a, e, h1, h2, h3⟩ := ha hne
    exact ⟨a, e, fun h => h1 (hO _ h), h2, h3⟩
  | ip cs a us hl ho hOO hb ha h ih => exact .ip cs a us hl ho (fun h => hOO (hO _ h)) hb ha ih
end

def AT.ofValue : Value → AT
  | .agg cs => if cs.toList.all isOne then .g (cs.toList.map fun x => .im (.v x)) else .j
  | .tuple vs => .u (vs.toList.map fun x => match x with | .agg cs => if cs.toList.all isOne then .g (cs.toList.map fun x => .im (.v x)) else .j | .tuple _ => .j | x => .c (.im (.v x)))
  | v => .c (.im (.v v))
section
variable {O : Nat → Prop} {m : Nat → Option Loc} {w : World}
theorem rep_ofValue' : ∀ v : Value, RepT O m w (match v with | .agg cs => if cs.toList.all isOne then .g (cs.toList.map fun x => .im (.v x)) else .j | .tuple _ => .j | x => .c (.im (.v x))) v := by
  intro v
  cases v with
  | agg cs =>
    show RepT O m w (if cs.toList.all isOne then .g (cs.toList.map fun x => .im (.v x)) else .j) _
    by_cases hall : cs.toList.all isOne = true
    · rw [if_pos hall]
      refine .g (by simp) (fun u hu => by rw [List.all_eq_true] at hall; exact hall u (by simpa using hu)) fun j x hj u hu => ?_
      simp only [List.getElem?_map, Array.getElem?_toList] at hj
      rw [hu] at hj
      simp only [Option.map_some, Option.some.injEq] at hj
      subst hj
      exact .im (.v u)
    · rw [if_neg hall]; exact .j _
  | tuple vs => exact .j _
  | _ => exact .c (.im (.v _)) rfl
theorem rep_ofValue (v : Value) : RepT O m w (AT.ofValue v) v := by
  cases v with
  | agg cs => exact rep_ofValue' (.agg cs)
  | tuple vs =>
    refine .u (by simp) fun j x hj u hu => ?_
    simp only [List.getElem?_map, Array.getElem?_toList] at hj
    rw [hu] at hj
    simp only [Option.map_some, Option.some.injEq] at hj
    subst hj
    exact rep_ofValue' u
  | _ => exact .c (.im (.v _)) rfl
end

structure St where
  tmps : List AT
  heap : List (Option Blk)
def St.hp (s : St) (b : Nat) : Option Blk := (s.heap[b]?).join
def St.ev (s : St) : Operand → AT
  | .tmp t => s.tmps.getD t (.u [])
  | .const v => AT.ofValue v
  | .global g => .c (.im (.v (.pointer (some ⟨g, 0, none⟩))))
  | .func f => .c (.im (.v (.func (.func f) #[] #[])))
def Own (B : Nat) (O : Nat → Prop) (m : Nat → Option Loc) (w : World) (b : Nat) : Option Blk → Prop
  | none => True
  | some k => (m b = some .virt ∧ k.rows = [] ∧ k.whole = false ∧ 0 < k.c) ∨
      ∃ q cap us, m b = some (.at_ q k.c cap) ∧ O q ∧ B ≤ q ∧ 0 < k.c ∧ w.heap[q]? = some (.cells us k.ty (0, 0)) ∧ us.size = cap * k.c ∧ k.rows.length ≤ cap ∧ cap ≤ maxLen ∧ (k.whole = true → k.rows.length = cap) ∧ (∀ row ∈ k.rows, row.length = k.c) ∧ (∀ u ∈ us, isOne u = true) ∧
        ∀ (i : Nat) row, k.rows[i]? = some row → ∀ (j : Nat) x, row[j]? = some x → ∀ u, us[i * k.c + j]? = some u → RepA O m w x u
def Apart (m : Nat → Option Loc) (b b' : Nat) : Prop := ∀ q c cap c' cap', m b = some (.at_ q c cap) → m b' = some (.at_ q c' cap') → b = b'
theorem Own.step {B : Nat} {O O' : Nat → Prop} {m m' : Nat → Option Loc} {w w' : World} {b : Nat} {k : Option Blk} (h : Own B O m w b k) (hs : Step O O' m m' w w') (hb : k ≠ none → ∀ q c cap, m b = some (.at_ q c cap) → w'.heap[q]? = w.heap[q]?) : Own B O' m' w' b k := by
  cases k with
  | none => trivial
  | some k =>
    rcases h with ⟨h1, h2, h3, h4⟩ | ⟨q, cap, us, h1, h2, h3, h4, h5, h6, h7, h7', h8, h9, h9', h10⟩
    · exact .inl ⟨by rw [hs.loc b (by rw [h1]; simp)]; exact h1, h2, h3, h4⟩
    · refine .inr ⟨q, cap, us, by rw [hs.loc b (by rw [h1]; simp)]; exact h1, hs.own _ h2, h3, h4, ?_, h6, h7, h7', h8, h9, h9', fun i row hi j x hj u hu => (h10 i row hi j x hj u hu).step hs⟩
      rw [hb (by simp) _ _ _ h1]; exact h5
end Go.Proofs.YtedkfipjooafeaaGreatDoor.Ab
set_option linter.unusedSimpArgs false
set_option linter.unusedVariables false
namespace Go.Proofs.YtedkfipjooafeaaGreatDoor.Ab
open Go Go.RowKit

def St.tmp (s : St) (t : Nat) : AT := s.tmps.getD t (.u [])
structure Fp where
  rd : List Nat
  wr : List Nat
  nw : List Nat
structure View (B : Nat) (O : Nat → Prop) (m : Nat → Option Loc) (w : World) (h : Nat → Option Blk) (V : List Nat) : Prop where
  lt : ∀ k, O k → k < w.heap.size
  base : B ≤ w.heap.size
  own : ∀ b ∈ V, Own B O m w b (h b)
  apart : ∀ b ∈ V, ∀ b' ∈ V, h b ≠ none → h b' ≠ none → Apart m b b'
structure Out (B : Nat) (O O' : Nat → Prop) (m m' : Nat → Option Loc) (w w' : World) (h h' : Nat → Option Blk) (fp : Fp) : Prop where
  step : Step O O' m m' w w'
  lt : ∀ k, O' k → k < w'.heap.size
  keep : ∀ k, k < w.heap.size → (∀ b ∈ fp.wr, ∀ c cap, m b ≠ some (.at_ k c cap)) → w'.heap[k]? = w.heap[k]?
  dom : ∀ b, m' b ≠ none → m b ≠ none ∨ b ∈ fp.nw
  own : ∀ b, b ∈ fp.wr ∨ b ∈ fp.nw → Own B O' m' w' b (h' b)
  new : ∀ b ∈ fp.nw, h' b ≠ none → ∀ q c cap, m' b = some (.at_ q c cap) → w.heap.size ≤ q ∨ ∃ b0 ∈ fp.wr, h' b0 = none ∧ ∃ c' cap', m b0 = some (.at_ q c' cap')
  apart : ∀ b ∈ fp.nw, ∀ b' ∈ fp.nw, h' b ≠ none → h' b' ≠ none → Apart m' b b'
def wpO (P : Program) (ops : List Oper) (o : Oper) (K : Act → World → Prop) (Q : Exit → Act → World → Prop) (a : Act) (w : World) : Prop :=
  if Region.wanted o (yielded ops.toArray a.tmps) = true then o.wp P a w K Q else K (a.put o.dst undef) w
def OpSem (P : Program) (B : Nat) (ops : List Oper) (o : Oper) (s : St) (fp : Fp) (s' : St) : Prop :=
  (s'.tmps.length = s.tmps.length ∧ (∀ t, o.dst ≠ some t → s'.tmp t = s.tmp t) ∧ (∀ b, b ∉ fp.wr → b ∉ fp.nw → s'.hp b = s.hp b) ∧ (∀ b ∈ fp.wr, s.hp b ≠ none) ∧ (∀ b ∈ fp.nw, s.heap.length ≤ b ∧ b < s'.heap.length) ∧ s.heap.length ≤ s'.heap.length) ∧
  ∀ (O : Nat → Prop) (m : Nat → Option Loc) (w : World) (a : Act) (K : Act → World → Prop) (Q : Exit → Act → World → Prop), View B O m w s.hp (fp.rd ++ fp.wr) → (∀ t ∈ Oper.looksAt ops.toArray o, RepT O m w (s.tmp t) (a.tmps.getD t undef)) → (∀ b ∈ fp.nw, m b = none) → a.tmps.size = s.tmps.length →
    (∀ v O' m' w', Out B O O' m m' w w' s.hp s'.hp fp → (∀ d, o.dst = some d → RepT O' m' w' (s'.tmp d) v) → K (a.put o.dst v) w') → wpO P ops o K Q a w

structure Inv (B : Nat) (O : Nat → Prop) (m : Nat → Option Loc) (w : World) (τ : Nat → AT) (h : Nat → Option Blk) (dom : Nat → Prop) (len : Nat) (a : Act) : Prop where
  lt : ∀ k, O k → k < w.heap.size
  base : B ≤ w.heap.size
  own : ∀ b, Own B O m w b (h b)
  apart : ∀ b b', h b ≠ none → h b' ≠ none → Apart m b b'
  tm : ∀ t, RepT O m w (τ t) (a.tmps.getD t undef)
  size : a.tmps.size = len
  defs : a.defers = []
  dom : ∀ b, m b ≠ none → dom b
theorem own_dom {B : Nat} {O : Nat → Prop} {m : Nat → Option Loc} {w : World} {b : Nat} {k : Option Blk} (h : Own B O m w b k) (hk : k ≠ none) : m b ≠ none ∧ ∀ q c cap, m b = some (.at_ q c cap) → O q ∧ B ≤ q := by
  cases k with
  | none => exact absurd rfl hk
  | some k =>
    rcases h with ⟨h1, _⟩ | ⟨q, cap, us, h1, h2, h3, _⟩
    · exact ⟨by rw [h1]; simp, fun q c cap h => by rw [h1] at h; cases h⟩
    · refine ⟨by rw [h1]; simp, fun q' c cap' h => ?_⟩
      rw [h1] at h
      injection h with h
      injection h with e1 e2 e3
      subst e1
      exact ⟨h2, h3⟩
theorem tmps_put_ne {a : Act} {d : Option Tmp} {v : Value} {t : Nat} (h : d ≠ some t) : (a.put d v).tmps.getD t undef = a.tmps.getD t undef := by
  cases d with
  | none => rfl
  | some e =>
    have : e ≠ t := fun h' => h (by rw [h'])
    simp [Act.put, Array.getD_eq_getD_getElem?, Array.getElem?_setIfInBounds, this]
theorem tmps_put_eq {a : Act} {v : Value} {t : Nat} (h : t < a.tmps.size) : (a.put (some t) v).tmps.getD t undef = v := by
  simp [Act.put, Array.getD_eq_getD_getElem?, Array.getElem?_setIfInBounds, h]
theorem tmps_put_out {a : Act} {v : Value} {t : Nat} (h : ¬ t < a.tmps.size) : (a.put (some t) v).tmps.getD t undef = undef := by
  simp [Act.put, Array.getD_eq_getD_getElem?, Array.getElem?_setIfInBounds, h]
theorem put_size (a : Act) (d : Option Tmp) (v : Value) : (a.put d v).tmps.size = a.tmps.size := by cases d <;> simp [Act.put]
theorem put_defs (a : Act) (d : Option Tmp) (v : Value) : (a.put d v).defers = a.defers := by cases d <;> rfl
section
variable {P : Program} {B : Nat} {ops : List Oper} {O : Nat → Prop} {m : Nat → Option Loc} {w : World} {a : Act} {K : Act → World → Prop} {Q : Exit → Act → World → Prop}
open Classical in
theorem inv_step {τ : Nat → AT} {h : Nat → Option Blk} {dom : Nat → Prop} {len : Nat} {o : Oper} {s s' : St} {fp : Fp} (hI : Inv B O m w τ h dom len a) (hs : OpSem P B ops o s fp s')
    (at_ : ∀ t ∈ Oper.looksAt ops.toArray o, τ t = s.tmp t) (ab : ∀ b, b ∈ fp.rd ∨ b ∈ fp.wr ∨ b ∈ fp.nw → h b = s.hp b) (hn : ∀ b ∈ fp.nw, ¬ dom b) (hl : len = s.tmps.length)
    (hK : ∀ a' w' O' m', Out B O O' m m' w w' s.hp s'.hp fp → Inv B O' m' w' (fun t => if o.dst = some t then s'.tmp t else τ t) (fun b => if b ∈ fp.wr ∨ b ∈ fp.nw then s'.hp b else h b) (fun b => dom b ∨ b ∈ fp.nw) len a' → K a' w') : wpO P ops o K Q a w := by
  obtain ⟨⟨f1, f2, f3, f4, f5, f6⟩, hop⟩ := hs
  refine hop O m w a K Q ⟨hI.lt, hI.base, fun b hb => ?_, fun b hb b' hb' h1 h2 => ?_⟩ (fun t ht => by rw [← at_ t ht]; exact hI.tm t) (fun b hb => ?_) (by rw [hI.size, hl]) (fun v O' m' w' ho hv => ?_)
  · rw [← ab b (by rcases List.mem_append.1 hb with h | h <;> simp [h])]; exact hI.own b
  · rw [← ab b (by rcases List.mem_append.1 hb with h | h <;> simp [h])] at h1
    rw [← ab b' (by rcases List.mem_append.1 hb' with h | h <;> simp [h])] at h2
    exact hI.apart b b' h1 h2
  · exact Classical.byContradiction fun hc => hn b hb (hI.dom b hc)
  · have wrs : ∀ b ∈ fp.wr, h b ≠ none := fun b hb => by rw [ab b (.inr (.inl hb))]; exact f4 b hb
    have nws : ∀ b ∈ fp.nw, h b = none := fun b hb => by
      by_cases hc : h b = none
      · exact hc
      · exact absurd (hI.dom b (own_dom (hI.own b) hc).1) (hn b hb)
    have same : ∀ b, h b ≠ none → b ∉ fp.wr → ∀ q c cap, m b = some (.at_ q c cap) → w'.heap[q]? = w.heap[q]? := fun b hb hw q c cap hq =>
      ho.keep q (hI.lt q ((own_dom (hI.own b) hb).2 q c cap hq).1) fun b0 hb0 c0 cap0 hq0 => hw (by rw [hI.apart b b0 hb (wrs b0 hb0) q c cap c0 cap0 hq hq0]; exact hb0)
    refine hK _ _ O' m' ho ⟨ho.lt, Nat.le_trans hI.base ho.step.size, fun b => ?_, fun b b' h1 h2 => ?_, fun t => ?_, ?_, ?_, fun b hb => ?_⟩
    · show Own B O' m' w' b (if b ∈ fp.wr ∨ b ∈ fp.nw then s'.hp b else h b)
      by_cases hb : b ∈ fp.wr ∨ b ∈ fp.nw
      · rw [if_pos hb]; exact ho.own b hb
      · rw [if_neg hb]
        exact (hI.own b).step ho.step fun hne => same b hne (fun h => hb (.inl h))
    · change (if b ∈ fp.wr ∨ b ∈ fp.nw then s'.hp b else h b) ≠ none at h1
      change (if b' ∈ fp.wr ∨ b' ∈ fp.nw then s'.hp b' else h b') ≠ none at h2
      have alive : ∀ b, (if b ∈ fp.wr ∨ b ∈ fp.nw then s'.hp b else h b) ≠ none → b ∉ fp.nw → h b ≠ none ∧ m' b = m b ∧ (b ∈ fp.wr → s'.hp b ≠ none) := fun b hb hnb => by
        have hbn : h b ≠ none := by
          by_cases hw : b ∈ fp.wr
          · exact wrs b hw
          · rwa [if_neg (by simp [hw, hnb])] at hb
        exact ⟨hbn, ho.step.loc b (own_dom (hI.own b) hbn).1, fun hw => by rwa [if_pos (.inl hw)] at hb⟩
      have one : ∀ b b', b ∈ fp.nw → b' ∉ fp.nw → (if b ∈ fp.wr ∨ b ∈ fp.nw then s'.hp b else h b) ≠ none → (if b' ∈ fp.wr ∨ b' ∈ fp.nw then s'.hp b' else h b') ≠ none → ∀ q c cap c' cap', m' b = some (.at_ q c cap) → m' b' = some (.at_ q c' cap') → False := by
        intro b b' hb hb' h1 h2 q c cap c' cap' e1 e2
        obtain ⟨a1, a2, a3⟩ := alive b' h2 hb'
        rw [a2] at e2
        rw [if_pos (.inr hb)] at h1
        rcases ho.new b hb h1 q c cap e1 with hge | ⟨b0, hb0, hd, c0, cap0, hq0⟩
        · have := hI.lt q ((own_dom (hI.own b') a1).2 q c' cap' e2).1
          omega
        · have := hI.apart b' b0 a1 (wrs b0 hb0) q c' cap' c0 cap0 e2 hq0
          subst this
          exact a3 hb0 hd
      by_cases hb : b ∈ fp.nw <;> by_cases hb' : b' ∈ fp.nw
      · rw [if_pos (.inr hb)] at h1
        rw [if_pos (.inr hb')] at h2
        exact ho.apart b hb b' hb' h1 h2
      · exact fun q c cap c' cap' e1 e2 => (one b b' hb hb' h1 h2 q c cap c' cap' e1 e2).elim
      · exact fun q c cap c' cap' e1 e2 => (one b' b hb' hb h2 h1 q c' cap' c cap e2 e1).elim
      · obtain ⟨a1, a2, _⟩ := alive b h1 hb
        obtain ⟨b1, b2, _⟩ := alive b' h2 hb'
        intro q c cap c' cap' e1 e2
        rw [a2] at e1
        rw [b2] at e2
        exact hI.apart b b' a1 b1 q c cap c' cap' e1 e2
    · show RepT O' m' w' (if o.dst = some t then s'.tmp t else τ t) _
      by_cases ht : o.dst = some t
      · rw [if_pos ht, ht]
        by_cases hlt : t < a.tmps.size
        · rw [tmps_put_eq hlt]; exact hv t ht
        · rw [tmps_put_out hlt]
          have : s'.tmp t = .u [] := by
            unfold St.tmp
            rw [List.getD_eq_getElem?_getD, List.getElem?_eq_none (by rw [f1, ← hl, ← hI.size]; omega)]; rfl
          rw [this]
          exact .u rfl fun j x hj u hu => by simp at hj
      · rw [if_neg ht, tmps_put_ne ht]; exact (hI.tm t).step ho.step
    · rw [put_size, hI.size]
    · rw [put_defs, hI.defs]
    · rcases ho.dom b hb with h | h
      · exact .inl (hI.dom b h)
      · exact .inr h
end

def InvS (B : Nat) (O : Nat → Prop) (m : Nat → Option Loc) (w : World) (s : St) (a : Act) : Prop := Inv B O m w s.tmp s.hp (fun b => b < s.heap.length) s.tmps.length a
theorem Inv.of {B : Nat} {O : Nat → Prop} {m : Nat → Option Loc} {w : World} {τ τ' : Nat → AT} {h h' : Nat → Option Blk} {dom dom' : Nat → Prop} {len len' : Nat} {a : Act} (hI : Inv B O m w τ h dom len a) (e1 : ∀ t, τ' t = τ t) (e2 : ∀ b, h' b = h b) (e3 : ∀ b, dom b → dom' b) (e4 : len' = len) : Inv B O m w τ' h' dom' len' a :=
  ⟨hI.lt, hI.base, fun b => by rw [e2]; exact hI.own b, fun b b' h1 h2 => hI.apart b b' (by rwa [e2] at h1) (by rwa [e2] at h2), fun t => by rw [e1]; exact hI.tm t, by rw [e4]; exact hI.size, hI.defs, fun b hb => e3 b (hI.dom b hb)⟩
theorem hp_out {s : St} {b : Nat} (h : s.heap.length ≤ b) : s.hp b = none := by unfold St.hp; rw [List.getElem?_eq_none h]; rfl

def Chain (P : Program) (B : Nat) (ops : List Oper) : List Oper → St → List Fp → (St → List Fp → Prop) → Prop
  | [], s, f, K => K s f
  | o :: l, s, f, K => ∃ fp s', OpSem P B ops o s fp s' ∧ Chain P B ops l s' (f ++ [fp]) K
theorem chain_states {P : Program} {B : Nat} {ops : List Oper} : ∀ (l : List Oper) (s : St) (f : List Fp) (K : St → List Fp → Prop), Chain P B ops l s f K →
    ∃ (σ : Nat → St) (g : List Fp), σ 0 = s ∧ g.length = l.length ∧ (∀ i o, l[i]? = some o → ∃ fp, g[i]? = some fp ∧ OpSem P B ops o (σ i) fp (σ (i + 1))) ∧ K (σ l.length) (f ++ g)
  | [], s, f, K, h => ⟨fun _ => s, [], rfl, rfl, fun i o hi => by simp at hi, by have h' : K s f := h; simpa using h'⟩
  | o :: l, s, f, K, h => by
    obtain ⟨fp, s', h1, h2⟩ := h
    obtain ⟨σ, g, e0, e1, e2, e3⟩ := chain_states l s' (f ++ [fp]) K h2
    refine ⟨fun i => match i with | 0 => s | i + 1 => σ i, fp :: g, rfl, by simp [e1], ?_, by simpa using e3⟩
    intro i x hi
    cases i with
    | zero =>
      simp only [List.getElem?_cons_zero, Option.some.injEq] at hi
      subst hi
      exact ⟨fp, rfl, by show OpSem P B ops o s fp (σ 0); rw [e0]; exact h1⟩
    | succ i =>
      simp only [List.getElem?_cons_succ] at hi ⊢
      exact e2 i x hi
end Go.Proofs.YtedkfipjooafeaaGreatDoor.Ab
set_option linter.unusedSimpArgs false
set_option linter.unusedVariables false
namespace Go.Proofs.YtedkfipjooafeaaGreatDoor.Ab
open Go Go.RowKit

structure Env where
  w0 : World
  O0 : Nat → Prop
  A0 : Nat → Prop
  m0 : Nat → Option Loc
  n0 : Nat
  B : Nat
structure Ext (E : Env) (O : Nat → Prop) (m : Nat → Option Loc) (w : World) (h : Nat → Option Blk) : Prop where
  os : w.os = E.w0.os
  tape : w.tape = E.w0.tape
  output : w.output = E.w0.output
  size : E.w0.heap.size ≤ w.heap.size
  keep : ∀ k, k < E.w0.heap.size → ¬ E.A0 k → w.heap[k]? = E.w0.heap[k]?
  own : ∀ k, E.O0 k → O k
  fresh : ∀ k, O k → E.O0 k ∨ E.w0.heap.size ≤ k
  loc : ∀ b, E.m0 b ≠ none → m b = E.m0 b
  reach : ∀ b, h b ≠ none → ∀ q c cap, m b = some (.at_ q c cap) → E.A0 q ∨ E.w0.heap.size ≤ q
  dom : ∀ b, b < E.n0 → m b ≠ none → E.m0 b ≠ none
def Good (E : Env) (s : St) (a : Act) (w : World) : Prop := E.n0 ≤ s.heap.length ∧ ∃ O m, Ext E O m w s.hp ∧ InvS E.B O m w s a
theorem Ext.of {E : Env} {O : Nat → Prop} {m : Nat → Option Loc} {w : World} {h h' : Nat → Option Blk} (hE : Ext E O m w h) (e : ∀ b, h' b = h b) : Ext E O m w h' :=
  ⟨hE.os, hE.tape, hE.output, hE.size, hE.keep, hE.own, hE.fresh, hE.loc, fun b hb => hE.reach b (by rwa [e] at hb), hE.dom⟩
open Classical in
theorem ext_step {E : Env} {O O' : Nat → Prop} {m m' : Nat → Option Loc} {w w' : World} {τ : Nat → AT} {h hs hs' : Nat → Option Blk} {dom : Nat → Prop} {len : Nat} {a : Act} {fp : Fp} (hE : Ext E O m w h) (hI : Inv E.B O m w τ h dom len a) (ho : Out E.B O O' m m' w w' hs hs' fp) (hw : ∀ b ∈ fp.wr, h b ≠ none) (hnw : ∀ b ∈ fp.nw, E.n0 ≤ b) :
    Ext E O' m' w' (fun b => if b ∈ fp.wr ∨ b ∈ fp.nw then hs' b else h b) := by
  refine ⟨ho.step.os.trans hE.os, ho.step.tape.trans hE.tape, ho.step.output.trans hE.output, Nat.le_trans hE.size ho.step.size, fun k hk hA => ?_, fun k hk => ho.step.own k (hE.own k hk), fun k hk => ?_, fun b hb => ?_, fun b hb q c cap hq => ?_, fun b hb hm => ?_⟩
  · rw [ho.keep k (Nat.lt_of_lt_of_le hk hE.size) fun b hb c cap hq => ?_]
    · exact hE.keep k hk hA
    · rcases hE.reach b (hw b hb) _ _ _ hq with h | h
      · exact hA h
      · omega
  · rcases ho.step.fresh k hk with h | h
    · exact hE.fresh k h
    · exact .inr (Nat.le_trans hE.size h)
  · have := hE.loc b hb
    rw [ho.step.loc b (by rw [this]; exact hb), this]
  · have hb' : (if b ∈ fp.wr ∨ b ∈ fp.nw then hs' b else h b) ≠ none := hb
    by_cases hn : b ∈ fp.nw
    · rw [if_pos (.inr hn)] at hb'
      rcases ho.new b hn hb' q c cap hq with h | ⟨b0, hb0, _, c0, cap0, hq0⟩
      · exact .inr (Nat.le_trans hE.size h)
      · exact hE.reach b0 (hw b0 hb0) q c0 cap0 hq0
    · have hbn : h b ≠ none := by
        by_cases hwr : b ∈ fp.wr
        · exact hw b hwr
        · rwa [if_neg (by simp [hwr, hn])] at hb'
      rw [ho.step.loc b (own_dom (hI.own b) hbn).1] at hq
      exact hE.reach b hbn q c cap hq
  · rcases ho.dom b hm with h | h
    · exact hE.dom b hb h
    · have := hnw b h; omega
section
variable {P : Program} {E : Env} {ops : List Oper} {Q : Exit → Act → World → Prop}
theorem wpOp_of_wpO {i : Nat} {o : Oper} {K : Act → World → Prop} {a : Act} {w : World} (hi : ops.toArray[i]? = some o) (h : wpO P ops o K Q a w) : wpOp P ops.toArray Q i K a w := by
  unfold wpOp
  simp only [hi]
  unfold wpO at h
  split
  · rename_i hw; rw [if_pos hw] at h; exact .inl h
  · rename_i hw; rw [if_neg hw] at h; exact h
theorem if_tmp {o : Oper} {s s' : St} (h : ∀ t, o.dst ≠ some t → s'.tmp t = s.tmp t) (t : Nat) : s'.tmp t = if o.dst = some t then s'.tmp t else s.tmp t := by
  by_cases e : o.dst = some t
  · rw [if_pos e]
  · rw [if_neg e]; exact h t e
theorem seq_go : ∀ (l : List Oper) (k : Nat) (s : St) (f : List Fp) (K : St → List Fp → Prop) (a : Act) (w : World), ops.drop k = l → Chain P E.B ops l s f K → Good E s a w → (∀ s' f' a' w', K s' f' → Good E s' a' w' → Q .normal a' w') →
    wpOps P ops.toArray Q (List.range' k l.length) a w
  | [], k, s, f, K, a, w, _, hc, hg, hQ => hQ s f a w hc hg
  | o :: l, k, s, f, K, a, w, hd, hc, hg, hQ => by
    obtain ⟨fp, s', h1, h2⟩ := hc
    obtain ⟨hn0, O, m, hE, hI⟩ := hg
    have hk : ops[k]? = some o := by
      have : (ops.drop k)[0]? = some o := by rw [hd]; rfl
      simpa using this
    have hd' : ops.drop (k + 1) = l := by
      have : (ops.drop k).drop 1 = l := by rw [hd]; rfl
      rwa [List.drop_drop] at this
    rw [List.length_cons, List.range'_succ, wpOps_cons]
    refine wpOp_of_wpO (o := o) (by simpa using hk) ?_
    have hf := h1.1
    refine inv_step hI h1 (fun _ _ => rfl) (fun _ _ => rfl) (fun b hb' => by have := (hf.2.2.2.2.1 b hb').1; omega) rfl (fun a' w' O' m' ho hI' => ?_)
    have eh : ∀ b, s'.hp b = if b ∈ fp.wr ∨ b ∈ fp.nw then s'.hp b else s.hp b := fun b => by
      by_cases hw : b ∈ fp.wr ∨ b ∈ fp.nw
      · rw [if_pos hw]
      · rw [if_neg hw]; exact hf.2.2.1 b (fun h => hw (.inl h)) (fun h => hw (.inr h))
    refine seq_go l (k + 1) s' (f ++ [fp]) K a' w' hd' h2 ⟨Nat.le_trans hn0 hf.2.2.2.2.2, O', m', (ext_step hE hI ho hf.2.2.2.1 (fun b hb => Nat.le_trans hn0 (hf.2.2.2.2.1 b hb).1)).of eh, ?_⟩ hQ
    refine hI'.of (if_tmp hf.2.1) eh (fun b hb' => ?_) hf.1
    rcases hb' with h | h
    · have := hf.2.2.2.2.2; omega
    · exact (hf.2.2.2.2.1 b h).2
end

/-! ## In whatever order -/
section
open Classical
variable {α : Type}
noncomputable def vS (val : Nat → α) (wrt S : Nat → Prop) : Nat → α
  | 0 => val 0
  | k + 1 => if S k ∧ wrt k then val (k + 1) else vS val wrt S k
theorem vS_agree {val : Nat → α} {wrt S : Nat → Prop} : ∀ (i : Nat), (∀ k, k < i → ¬ wrt k → val (k + 1) = val k) → (∀ k, k < i → wrt k → S k) → vS val wrt S i = val i
  | 0, _, _ => rfl
  | i + 1, hf, hS => by
    show (if S i ∧ wrt i then val (i + 1) else vS val wrt S i) = _
    by_cases hw : wrt i
    · rw [if_pos ⟨hS i (by omega) hw, hw⟩]
    · rw [if_neg (fun h => hw h.2), hf i (by omega) hw]; exact vS_agree i (fun k hk => hf k (by omega)) (fun k hk => hS k (by omega))
theorem vS_stay {val : Nat → α} {wrt S : Nat → Prop} {i : Nat} : ∀ (n : Nat), i ≤ n → (∀ k, i ≤ k → k < n → wrt k → ¬ S k) → vS val wrt S n = vS val wrt S i
  | 0, h, _ => by rw [show i = 0 by omega]
  | n + 1, h, hS => by
    by_cases e : i = n + 1
    · rw [e]
    · show (if S n ∧ wrt n then val (n + 1) else vS val wrt S n) = _
      rw [if_neg (fun h' => hS n (by omega) (by omega) h'.2 h'.1)]
      exact vS_stay n (by omega) (fun k h1 h2 => hS k h1 (by omega))
theorem vS_congr {val : Nat → α} {wrt S S' : Nat → Prop} : ∀ (n : Nat), (∀ k, k < n → wrt k → (S k ↔ S' k)) → vS val wrt S n = vS val wrt S' n
  | 0, _ => rfl
  | n + 1, h => by
    show (if S n ∧ wrt n then val (n + 1) else vS val wrt S n) = if S' n ∧ wrt n then val (n + 1) else vS val wrt S' n
    rw [vS_congr n (fun k hk => h k (by omega))]
    by_cases hw : wrt n
    · have := h n (by omega) hw
      by_cases hs : S n
      · rw [if_pos ⟨hs, hw⟩, if_pos ⟨this.1 hs, hw⟩]
      · rw [if_neg (fun h => hs h.1), if_neg (fun h => hs (this.2 h.1))]
    · rw [if_neg (fun h => hw h.2), if_neg (fun h => hw h.2)]
end

def maskOf (acc : List Nat) (o : Oper) : Nat := o.after.toList.foldl (fun s e => if Region.binds .any e then s ||| 2 ^ e.on ||| acc.getD e.on 0 else s) 0
def masks : List Oper → List Nat → List Nat
  | [], acc => acc
  | o :: l, acc => masks l (acc ++ [maskOf acc o])
theorem masks_take : ∀ (l : List Oper) (acc : List Nat), (masks l acc).take acc.length = acc ∧ (masks l acc).length = acc.length + l.length ∧ ∀ (i : Nat) o, l[i]? = some o → (masks l acc)[acc.length + i]? = some (maskOf ((masks l acc).take (acc.length + i)) o)
  | [], acc => ⟨by simp [masks], by simp [masks], fun i o h => by simp at h⟩
  | o :: l, acc => by
    obtain ⟨h1, h2, h3⟩ := masks_take l (acc ++ [maskOf acc o])
    rw [List.length_append, List.length_singleton] at h1 h2 h3
    refine ⟨?_, by rw [masks, h2, List.length_cons]; omega, fun i x hi => ?_⟩
    · have : ((masks l (acc ++ [maskOf acc o])).take (acc.length + 1)).take acc.length = acc := by rw [h1]; simp
      rw [List.take_take, Nat.min_eq_left (by omega)] at this
      exact this
    · rw [masks]
      cases i with
      | zero =>
        simp only [List.getElem?_cons_zero, Option.some.injEq] at hi
        subst hi
        have e1 : (masks l (acc ++ [maskOf acc o])).take acc.length = acc := by
          have : ((masks l (acc ++ [maskOf acc o])).take (acc.length + 1)).take acc.length = acc := by rw [h1]; simp
          rw [List.take_take, Nat.min_eq_left (by omega)] at this
          exact this
        rw [Nat.add_zero, e1]
        have : ((masks l (acc ++ [maskOf acc o])).take (acc.length + 1))[acc.length]? = some (maskOf acc o) := by rw [h1]; simp
        rwa [List.getElem?_take_of_lt (by omega)] at this
      | succ i =>
        simp only [List.getElem?_cons_succ] at hi
        have := h3 i x hi
        rwa [show acc.length + 1 + i = acc.length + (i + 1) by omega] at this
theorem mask_bit {acc : List Nat} {i : Nat} : ∀ (es : List Edge) (s0 : Nat), (es.foldl (fun s e => if Region.binds .any e then s ||| 2 ^ e.on ||| acc.getD e.on 0 else s) s0).testBit i = true →
    s0.testBit i = true ∨ ∃ e ∈ es, Region.binds .any e = true ∧ (e.on = i ∨ (acc.getD e.on 0).testBit i = true)
  | [], s0, h => .inl h
  | e :: es, s0, h => by
    rw [List.foldl_cons] at h
    rcases mask_bit es _ h with h | ⟨e', h1, h2⟩
    · by_cases hb : Region.binds .any e = true
      · rw [if_pos hb, Nat.testBit_or, Nat.testBit_or, Nat.testBit_two_pow] at h
        simp only [Bool.or_eq_true, decide_eq_true_eq] at h
        rcases h with (h | h) | h
        · exact .inl h
        · exact .inr ⟨e, List.mem_cons_self .., hb, .inl h⟩
        · exact .inr ⟨e, List.mem_cons_self .., hb, .inr h⟩
      · rw [if_neg hb] at h; exact .inl h
    · exact .inr ⟨e', List.mem_cons_of_mem _ h1, h2⟩
theorem closed_anc {ops : List Oper} {S : Nat → Prop} (hlt : ∀ (j : Nat) o, ops[j]? = some o → ∀ e ∈ o.after, Region.binds .any e = true → e.on < j) (hS : ∀ (j : Nat) o, ops[j]? = some o → S j → ∀ e ∈ o.after, Region.binds .any e = true → S e.on) :
    ∀ (j : Nat) o, ops[j]? = some o → (∀ e ∈ o.after, Region.binds .any e = true → S e.on) → ∀ i, ((masks ops []).getD j 0).testBit i = true → S i := by
  intro j
  induction j using Nat.strongRecOn with
  | _ j ih =>
    intro o ho hpre i hi
    have h3 := (masks_take ops []).2.2 j o ho
    simp only [List.length_nil, Nat.zero_add] at h3
    rw [List.getD_eq_getElem?_getD, h3, Option.getD_some] at hi
    rcases mask_bit _ _ hi with h | ⟨e, he, hb, h⟩
    · simp at h
    · have he' : e ∈ o.after := by simpa using he
      rcases h with h | h
      · rw [← h]; exact hpre e he' hb
      · have hej := hlt j o ho e he' hb
        have hel : e.on < ops.length := by have := (List.getElem?_eq_some_iff.1 ho).1; omega
        rw [List.getD_eq_getElem?_getD, List.getElem?_take_of_lt hej, ← List.getD_eq_getElem?_getD] at h
        exact ih e.on hej _ (List.getElem?_eq_getElem hel) (hS e.on _ (List.getElem?_eq_getElem hel) (hpre e he' hb)) i h

def touch (x y : List Nat) : Bool := x.any fun b => y.contains b
theorem touch_no {x y : List Nat} (h : touch x y = false) {b : Nat} (hx : b ∈ x) (hy : b ∈ y) : False := by
  unfold touch at h
  rw [List.any_eq_false] at h
  exact h b hx (by simpa using hy)
def confF (f f' : Fp) : Bool := touch (f.wr ++ f.nw) (f'.rd ++ f'.wr ++ f'.nw) || touch (f'.wr ++ f'.nw) f.rd
def confT (ops : List Oper) (o o' : Oper) : Bool := (match o.dst with | some d => (Oper.looksAt ops.toArray o').contains d || o'.dst == some d | none => false) || (match o'.dst with | some d => (Oper.looksAt ops.toArray o).contains d | none => false)
def orderB (ops : List Oper) (g : List Fp) : Bool :=
  let M := masks ops []
  (List.range ops.length).all fun j => match ops[j]?, g[j]? with
    | some o', some f' => o'.after.all (fun e => !Region.binds .any e || decide (e.on < j)) && (List.range j).all fun i => match ops[i]?, g[i]? with
      | some o, some f => (M.getD j 0).testBit i || !(confT ops o o' || confF f f')
      | _, _ => false
    | _, _ => false
theorem orderB_spec {ops : List Oper} {g : List Fp} (h : orderB ops g = true) : (∀ (j : Nat) o, ops[j]? = some o → ∀ e ∈ o.after, Region.binds .any e = true → e.on < j) ∧
    ∀ (i j : Nat) o f o' f', i < j → ops[i]? = some o → g[i]? = some f → ops[j]? = some o' → g[j]? = some f' → ((masks ops []).getD j 0).testBit i = true ∨ (confT ops o o' = false ∧ confF f f' = false) := by
  unfold orderB at h
  simp only [List.all_eq_true, List.mem_range] at h
  refine ⟨fun j o ho e he hb => ?_, fun i j o f o' f' hij hi hf hj hf' => ?_⟩
  · have hj := (List.getElem?_eq_some_iff.1 ho).1
    have := h j hj
    rw [ho] at this
    cases hg : g[j]? with
    | none => rw [hg] at this; simp at this
    | some f' =>
      rw [hg] at this
      simp only [Bool.and_eq_true, Array.all_eq_true_iff_forall_mem] at this
      have := this.1 e he
      rw [hb] at this
      simpa using this
  · have hjl := (List.getElem?_eq_some_iff.1 hj).1
    have := h j hjl
    rw [hj, hf'] at this
    simp only [Bool.and_eq_true, List.all_eq_true, List.mem_range] at this
    have := this.2 i hij
    rw [hi, hf] at this
    simp only [Bool.or_eq_true, Bool.not_eq_true'] at this
    rcases this with h | h
    · exact .inl h
    · simp only [Bool.or_eq_false_iff] at h
      exact .inr h
theorem confT_no {ops : List Oper} {o o' : Oper} (h : confT ops o o' = false) : (∀ d, o.dst = some d → d ∉ Oper.looksAt ops.toArray o' ∧ o'.dst ≠ some d) ∧ ∀ d, o'.dst = some d → d ∉ Oper.looksAt ops.toArray o := by
  unfold confT at h
  simp only [Bool.or_eq_false_iff] at h
  refine ⟨fun d hd => ?_, fun d hd => ?_⟩
  · have := h.1
    rw [hd] at this
    simp only [Bool.or_eq_false_iff, beq_eq_false_iff_ne, List.contains_eq_mem, decide_eq_false_iff_not] at this
    exact this
  · have := h.2
    rw [hd] at this
    simpa using this
/-! ### how many are not listed -/
def left (m : Nat) (listed : Array Bool) : Nat := (List.range m).countP fun k => listed.getD k true == false
theorem countP_one (p q : Nat → Bool) : ∀ (m i : Nat), i < m → (∀ k, k ≠ i → p k = q k) → p i = true → q i = false → (List.range m).countP p = (List.range m).countP q + 1
  | 0, _, h, _, _, _ => by omega
  | m + 1, i, hi, he, hp, hq => by
    rw [List.range_succ, List.countP_append, List.countP_append]
    by_cases hm : i = m
    · subst hm
      have : (List.range i).countP p = (List.range i).countP q := List.countP_congr fun k hk => by
        rw [he k (by have := List.mem_range.1 hk; omega)]
      simp [this, hp, hq]
    · have := countP_one p q m i (by omega) he hp hq
      have e : p m = q m := he m (by omega)
      simp [List.countP_cons, e]; omega
theorem lt_size_of {listed : Array Bool} {i : Nat} (hu : listed.getD i true = false) : i < listed.size := by
  rcases Nat.lt_or_ge i listed.size with h | h
  · exact h
  · simp [Array.getElem?_eq_none h] at hu
theorem left_set {m i : Nat} {listed : Array Bool} (hi : i < m) (hu : listed.getD i true = false) : left m listed = left m (listed.setIfInBounds i true) + 1 := by
  have hs := lt_size_of hu
  refine countP_one _ _ m i hi (fun k hk => by rw [getD_set_ne true (Ne.symm hk)]) (by simp [hu]) ?_
  simp [hs]
theorem left_zero {m : Nat} {listed : Array Bool} (h : left m listed = 0) (k : Nat) (hk : k < m) : listed.getD k true = true := by
  unfold left at h
  rw [List.countP_eq_zero] at h
  have := h k (List.mem_range.2 hk)
  simpa using this
theorem left_least {m : Nat} {listed : Array Bool} (h : left m listed ≠ 0) : ∃ i, i < m ∧ listed.getD i true = false ∧ ∀ k, k < i → listed.getD k true = true := by
  have hex : ∃ i, i < m ∧ listed.getD i true = false := by
    apply Classical.byContradiction
    intro hn
    apply h
    unfold left
    rw [List.countP_eq_zero]
    intro k hk
    have hk' := List.mem_range.1 hk
    cases hb : listed.getD k true with
    | true => simp
    | false => exact absurd ⟨k, hk', hb⟩ hn
  obtain ⟨i, hi⟩ := hex
  induction i using Nat.strongRecOn with
  | _ i ih =>
    by_cases hk : ∃ k, k < i ∧ listed.getD k true = false
    · obtain ⟨k, hki, hkf⟩ := hk
      exact ih k hki ⟨by omega, hkf⟩
    · refine ⟨i, hi.1, hi.2, fun k hki => ?_⟩
      cases hb : listed.getD k true with
      | true => rfl
      | false => exact absurd ⟨k, hki, hb⟩ hk
end Go.Proofs.YtedkfipjooafeaaGreatDoor.Ab
set_option linter.unusedSimpArgs false
set_option linter.unusedVariables false
namespace Go.Proofs.YtedkfipjooafeaaGreatDoor.Ab
open Go Go.RowKit

section
variable {P : Program} {E : Env} {ops : List Oper} {Q : Exit → Act → World → Prop} {g : List Fp} {σ : Nat → St}
def wT (ops : List Oper) (t : Nat) (k : Nat) : Prop := ∃ o, ops[k]? = some o ∧ o.dst = some t
def wH (g : List Fp) (b : Nat) (k : Nat) : Prop := ∃ fp, g[k]? = some fp ∧ (b ∈ fp.wr ∨ b ∈ fp.nw)
def inS (listed : Array Bool) (k : Nat) : Prop := listed.getD k false = true
noncomputable def tS (σ : Nat → St) (ops : List Oper) (S : Nat → Prop) (t : Nat) : AT := vS (fun k => (σ k).tmp t) (wT ops t) S ops.length
noncomputable def hS (σ : Nat → St) (ops : List Oper) (g : List Fp) (S : Nat → Prop) (b : Nat) : Option Blk := vS (fun k => (σ k).hp b) (wH g b) S ops.length
def dS (σ : Nat → St) (g : List Fp) (S : Nat → Prop) (b : Nat) : Prop := b < (σ 0).heap.length ∨ ∃ k fp, S k ∧ g[k]? = some fp ∧ b ∈ fp.nw
theorem inS_set {listed : Array Bool} {i : Nat} (hi : i < listed.size) (k : Nat) : inS (listed.setIfInBounds i true) k ↔ (inS listed k ∨ k = i) := by
  unfold inS
  by_cases e : i = k
  · subst e
    simp [hi]
  · rw [getD_set_ne false e]
    constructor
    · exact .inl
    · rintro (h | h)
      · exact h
      · exact absurd h.symm e
theorem heap_mono (hop : ∀ (i : Nat) o, ops[i]? = some o → ∃ fp, g[i]? = some fp ∧ OpSem P E.B ops o (σ i) fp (σ (i + 1))) : ∀ (j i : Nat), i ≤ j → j ≤ ops.length → (σ i).heap.length ≤ (σ j).heap.length
  | 0, i, h, _ => by rw [show i = 0 by omega]; exact Nat.le_refl _
  | j + 1, i, h, hj => by
    by_cases e : i = j + 1
    · rw [e]; exact Nat.le_refl _
    · obtain ⟨fp, _, hs⟩ := hop j _ (List.getElem?_eq_getElem (show j < ops.length by omega))
      exact Nat.le_trans (heap_mono hop j i (by omega) (by omega)) hs.1.2.2.2.2.2
open Classical in
theorem order_go (hn0 : E.n0 ≤ (σ 0).heap.length) (hB : orderB ops g = true) (hop : ∀ (i : Nat) o, ops[i]? = some o → ∃ fp, g[i]? = some fp ∧ OpSem P E.B ops o (σ i) fp (σ (i + 1))) (hQ : ∀ a w, Good E (σ ops.length) a w → Q .normal a w) :
    ∀ (f : Nat) (listed : Array Bool) (a : Act) (w : World), listed.size = ops.length → (∀ (j : Nat) o, ops[j]? = some o → inS listed j → ∀ e ∈ o.after, Region.binds .any e = true → inS listed e.on) → left ops.length listed = f →
      (∃ O m, Ext E O m w (hS σ ops g (inS listed)) ∧ Inv E.B O m w (tS σ ops (inS listed)) (hS σ ops g (inS listed)) (dS σ g (inS listed)) (σ 0).tmps.length a) → wpAny P .any ops.toArray Q f listed a w := by
  obtain ⟨hlt, hconf⟩ := orderB_spec hB
  have frT : ∀ (t k : Nat), k < ops.length → ¬ wT ops t k → (σ (k + 1)).tmp t = (σ k).tmp t := fun t k hk hw => by
    obtain ⟨fp, _, hs⟩ := hop k _ (List.getElem?_eq_getElem hk)
    exact hs.1.2.1 t fun hd => hw ⟨_, List.getElem?_eq_getElem hk, hd⟩
  have frH : ∀ (b k : Nat), k < ops.length → ¬ wH g b k → (σ (k + 1)).hp b = (σ k).hp b := fun b k hk hw => by
    obtain ⟨fp, hg, hs⟩ := hop k _ (List.getElem?_eq_getElem hk)
    exact hs.1.2.2.1 b (fun h => hw ⟨_, hg, .inl h⟩) (fun h => hw ⟨_, hg, .inr h⟩)
  have lenT : ∀ k, k ≤ ops.length → (σ k).tmps.length = (σ 0).tmps.length := by
    intro k
    induction k with
    | zero => exact fun _ => rfl
    | succ k ih =>
      intro hk
      obtain ⟨fp, _, hs⟩ := hop k _ (List.getElem?_eq_getElem (show k < ops.length by omega))
      rw [hs.1.1, ih (by omega)]
  intro f
  induction f with
  | zero =>
    intro listed a w hsz hcl hleft ⟨O, m, hE, hI⟩
    have all : ∀ k, k < ops.length → inS listed k := fun k hk => by
      have := left_zero hleft k hk
      unfold inS
      have hlt' : k < listed.size := by omega
      simp only [Array.getD_eq_getD_getElem?, Array.getElem?_eq_getElem hlt', Option.getD_some] at this ⊢
      exact this
    have eh : ∀ b, (σ ops.length).hp b = hS σ ops g (inS listed) b := fun b => (vS_agree (val := fun k => (σ k).hp b) (wrt := wH g b) ops.length (fun k hk => frH b k hk) (fun k hk _ => all k hk)).symm
    refine ⟨?_, hQ a w ⟨Nat.le_trans hn0 (heap_mono hop _ 0 (by omega) (Nat.le_refl _)), O, m, hE.of eh, hI.of (fun t => ?_) eh (fun b h => ?_) (lenT _ (Nat.le_refl _))⟩⟩
    · cases hr : Region.ready .any ops.toArray listed with
      | nil => rfl
      | cons x xs =>
        exfalso
        have hx : x ∈ Region.ready .any ops.toArray listed := by rw [hr]; simp
        obtain ⟨h1, o, h2, _⟩ := mem_ready.1 hx
        have hxl : x < ops.length := by have := (Array.getElem?_eq_some_iff.1 h2).1; simpa using this
        rw [left_zero hleft x hxl] at h1
        cases h1
    · exact (vS_agree (val := fun k => (σ k).tmp t) (wrt := wT ops t) ops.length (fun k hk => frT t k hk) (fun k hk _ => all k hk)).symm
    · rcases h with h | ⟨k, fp, h1, h2, h3⟩
      · exact Nat.lt_of_lt_of_le h (heap_mono hop _ 0 (by omega) (Nat.le_refl _))
      · have hk : k < ops.length := by
          rcases Nat.lt_or_ge k ops.length with hk | hk
          · exact hk
          · exfalso
            unfold inS at h1
            rw [Array.getD_eq_getD_getElem?, Array.getElem?_eq_none (by omega)] at h1
            cases h1
        obtain ⟨fp', hg, hs⟩ := hop k _ (List.getElem?_eq_getElem hk)
        rw [h2] at hg
        injection hg with hg
        subst hg
        exact Nat.lt_of_lt_of_le (hs.1.2.2.2.2.1 b h3).2 (heap_mono hop _ (k + 1) (by omega) (Nat.le_refl _))
  | succ f ih =>
    intro listed a w hsz hcl hleft ⟨O, m, hE, hI⟩
    refine ⟨fun hr => ?_, fun i hi => ?_⟩
    · exfalso
      obtain ⟨i0, hi0, hu0, hl0⟩ := left_least (m := ops.length) (listed := listed) (by omega)
      have : i0 ∈ Region.ready .any ops.toArray listed := by
        refine mem_ready.2 ⟨hu0, ops[i0], by simp [hi0], fun e he hbd => ?_⟩
        have h1 := hlt i0 _ (List.getElem?_eq_getElem hi0) e he hbd
        have h2 := hl0 e.on h1
        have h3 : e.on < listed.size := by omega
        simp only [Array.getD_eq_getD_getElem?, Array.getElem?_eq_getElem h3, Option.getD_some] at h2 ⊢
        exact h2
      rw [hr] at this
      cases this
    · obtain ⟨hun, o, ho, hpre⟩ := mem_ready.1 hi
      have hol : ops[i]? = some o := by simpa using ho
      have hil : i < ops.length := (List.getElem?_eq_some_iff.1 hol).1
      have hsi : i < listed.size := by omega
      have hni : ¬ inS listed i := fun h => by
        unfold inS at h
        simp only [Array.getD_eq_getD_getElem?, Array.getElem?_eq_getElem hsi, Option.getD_some] at h hun
        rw [h] at hun
        cases hun
      obtain ⟨fp, hg, hs⟩ := hop i o hol
      have anc := closed_anc (S := inS listed) hlt hcl i o hol (fun e he hbd => hpre e he hbd)
      have later : ∀ (k : Nat) o', ops[k]? = some o' → ((masks ops []).getD k 0).testBit i = true → ¬ inS listed k := fun k o' hk hbit hS =>
        hni (closed_anc (S := inS listed) hlt hcl k o' hk (hcl k o' hk hS) i hbit)
      -- who writes what this one looks at
      have befT : ∀ t, t ∈ Oper.looksAt ops.toArray o ∨ o.dst = some t → ∀ k, k < i → wT ops t k → inS listed k := by
        rintro t ht k hk ⟨o', ho', hd⟩
        obtain ⟨f', hg', _⟩ := hop k o' ho'
        rcases hconf k i o' f' o fp hk ho' hg' hol hg with h | ⟨h, _⟩
        · exact anc k h
        · exfalso
          rcases ht with ht | ht
          · exact ((confT_no h).1 t hd).1 ht
          · exact ((confT_no h).1 t hd).2 ht
      have aftT : ∀ t, t ∈ Oper.looksAt ops.toArray o ∨ o.dst = some t → ∀ k, i < k → wT ops t k → ¬ inS listed k := by
        rintro t ht k hk ⟨o', ho', hd⟩
        obtain ⟨f', hg', _⟩ := hop k o' ho'
        rcases hconf i k o fp o' f' hk hol hg ho' hg' with h | ⟨h, _⟩
        · exact later k o' ho' h
        · exfalso
          rcases ht with ht | ht
          · exact (confT_no h).2 t hd ht
          · exact ((confT_no h).1 t ht).2 hd
      have befH : ∀ b, b ∈ fp.rd ∨ b ∈ fp.wr ∨ b ∈ fp.nw → ∀ k, k < i → wH g b k → inS listed k := by
        rintro b hbf k hk ⟨f', hg', hw⟩
        have hkl : k < ops.length := by omega
        rcases hconf k i _ f' o fp hk (List.getElem?_eq_getElem hkl) hg' hol hg with h | ⟨_, h⟩
        · exact anc k h
        · exfalso
          simp only [confF, Bool.or_eq_false_iff] at h
          exact touch_no h.1 (b := b) (by rcases hw with h | h <;> simp [h]) (by rcases hbf with h | h | h <;> simp [h])
      have aftH : ∀ b, b ∈ fp.rd ∨ b ∈ fp.wr ∨ b ∈ fp.nw → ∀ k, i < k → k < ops.length → wH g b k → ¬ inS listed k := by
        rintro b hbf k hk hkl ⟨f', hg', hw⟩
        rcases hconf i k o fp _ f' hk hol hg (List.getElem?_eq_getElem hkl) hg' with h | ⟨_, h⟩
        · exact later k _ (List.getElem?_eq_getElem hkl) h
        · exfalso
          simp only [confF, Bool.or_eq_false_iff] at h
          rcases hbf with h' | h'
          · exact touch_no h.2 (b := b) (by rcases hw with h | h <;> simp [h]) h'
          · exact touch_no h.1 (b := b) (by rcases h' with h | h <;> simp [h]) (by rcases hw with h | h <;> simp [h])
      refine wpOp_of_wpO (o := o) (by simpa using hol) ?_
      have agH : ∀ b, b ∈ fp.rd ∨ b ∈ fp.wr ∨ b ∈ fp.nw → hS σ ops g (inS listed) b = (σ i).hp b := fun b hbf => by
        have h1 : vS (fun k => (σ k).hp b) (wH g b) (inS listed) ops.length = vS (fun k => (σ k).hp b) (wH g b) (inS listed) i := vS_stay _ (by omega) (fun k h1 h2 hw => by
          by_cases e : k = i
          · rw [e]; exact hni
          · exact aftH b hbf k (by omega) h2 hw)
        exact h1.trans (vS_agree i (fun k hk => frH b k (by omega)) (fun k hk hw => befH b hbf k hk hw))
      refine inv_step hI hs (fun t ht => ?_) agH (fun b hbf hd => ?_) (lenT i (by omega)).symm (fun a' w' O' m' hout hI' => ?_)
      · have h1 : vS (fun k => (σ k).tmp t) (wT ops t) (inS listed) ops.length = vS (fun k => (σ k).tmp t) (wT ops t) (inS listed) i := vS_stay _ (by omega) (fun k h1 h2 hw => by
          by_cases e : k = i
          · rw [e]; exact hni
          · exact aftT t (.inl ht) k (by omega) hw)
        exact h1.trans (vS_agree i (fun k hk => frT t k (by omega)) (fun k hk hw => befT t (.inl ht) k hk hw))
      · have hb1 := hs.1.2.2.2.2.1 b hbf
        rcases hd with h | ⟨k, f', h1, h2, h3⟩
        · have := heap_mono hop i 0 (by omega) (by omega)
          omega
        · have hkl : k < ops.length := by
            rcases Nat.lt_or_ge k ops.length with hk | hk
            · exact hk
            · exfalso
              unfold inS at h1
              rw [Array.getD_eq_getD_getElem?, Array.getElem?_eq_none (by omega)] at h1
              cases h1
          obtain ⟨f2, hg2, hs2⟩ := hop k _ (List.getElem?_eq_getElem hkl)
          rw [h2] at hg2
          injection hg2 with hg2
          subst hg2
          have hb2 := hs2.1.2.2.2.2.1 b h3
          rcases Nat.lt_trichotomy k i with h | h | h
          · have := heap_mono hop i (k + 1) (by omega) (by omega)
            omega
          · subst h; exact hni h1
          · have := heap_mono hop k (i + 1) (by omega) (by omega)
            omega
      · have hset := inS_set hsi (listed := listed)
        have newH : ∀ b, hS σ ops g (inS (listed.setIfInBounds i true)) b = if b ∈ fp.wr ∨ b ∈ fp.nw then (σ (i + 1)).hp b else hS σ ops g (inS listed) b := fun b => by
          by_cases hd : b ∈ fp.wr ∨ b ∈ fp.nw
          · rw [if_pos hd]
            have h1 : vS (fun k => (σ k).hp b) (wH g b) (inS (listed.setIfInBounds i true)) ops.length = vS (fun k => (σ k).hp b) (wH g b) (inS (listed.setIfInBounds i true)) (i + 1) := vS_stay _ (by omega) (fun k h1 h2 hw => by
              rw [hset]
              rintro (h | h)
              · exact aftH b (.inr hd) k (by omega) h2 hw h
              · omega)
            refine h1.trans ?_
            show (if inS (listed.setIfInBounds i true) i ∧ wH g b i then (σ (i + 1)).hp b else _) = _
            rw [if_pos ⟨(hset i).2 (.inr rfl), fp, hg, hd⟩]
          · rw [if_neg hd]
            refine vS_congr _ (fun k hk hw => ?_)
            rw [hset]
            constructor
            · rintro (h | h)
              · exact h
              · exfalso
                obtain ⟨f', hf', hd'⟩ := hw
                subst h
                rw [hg] at hf'
                injection hf' with hf'
                subst hf'
                exact hd hd'
            · exact .inl
        refine ih (listed.setIfInBounds i true) a' w' (by simpa using hsz) ?_ ?_ ⟨O', m', (ext_step hE hI hout (fun b hb => by rw [agH b (.inr (.inl hb))]; exact hs.1.2.2.2.1 b hb) (fun b hb => Nat.le_trans hn0 (Nat.le_trans (heap_mono hop i 0 (by omega) (by omega)) (hs.1.2.2.2.2.1 b hb).1))).of (fun b => ?_), ?_⟩
        · intro j o' hj hS e he hbd
          rw [hset]
          rcases (hset j).1 hS with h | h
          · exact .inl (hcl j o' hj h e he hbd)
          · subst h
            rw [hol] at hj
            injection hj with hj
            subst hj
            exact .inl (hpre e he hbd)
        · have := left_set hil hun
          omega
        · exact newH b
        · refine hI'.of (fun t => ?_) (fun b => ?_) (fun b hd => ?_) rfl
          · by_cases hd : o.dst = some t
            · rw [if_pos hd]
              have h1 : vS (fun k => (σ k).tmp t) (wT ops t) (inS (listed.setIfInBounds i true)) ops.length = vS (fun k => (σ k).tmp t) (wT ops t) (inS (listed.setIfInBounds i true)) (i + 1) := vS_stay _ (by omega) (fun k h1 h2 hw => by
                rw [hset]
                rintro (h | h)
                · exact aftT t (.inr hd) k (by omega) hw h
                · omega)
              refine h1.trans ?_
              show (if inS (listed.setIfInBounds i true) i ∧ wT ops t i then (σ (i + 1)).tmp t else _) = _
              rw [if_pos ⟨(hset i).2 (.inr rfl), o, hol, hd⟩]
            · rw [if_neg hd]
              refine vS_congr _ (fun k hk hw => ?_)
              rw [hset]
              constructor
              · rintro (h | h)
                · exact h
                · exfalso
                  obtain ⟨o', ho', hd'⟩ := hw
                  subst h
                  rw [hol] at ho'
                  injection ho' with ho'
                  subst ho'
                  exact hd hd'
              · exact .inl
          · exact newH b
          · rcases hd with (h | ⟨k, f', h1, h2, h3⟩) | h
            · exact .inl h
            · exact .inr ⟨k, f', (hset k).2 (.inl h1), h2, h3⟩
            · exact .inr ⟨i, fp, (hset i).2 (.inr rfl), hg, h⟩
end

def AW (P : Program) (E : Env) (c : Code) (s : St) (Q : Exit → St → Prop) : Prop := ∀ a w, Good E s a w → c.wp P (fun e a' w' => ∃ s', Q e s' ∧ Good E s' a' w') a w
section
variable {P : Program} {E : Env} {s : St} {Q : Exit → St → Prop}
theorem good_drew {a : Act} {w : World} (h : Good E s a w) : Good E s a { w with drawn := w.drawn + 1 } := by
  obtain ⟨hn0, O, m, hE, hI⟩ := h
  have hs : Step O O m m w { w with drawn := w.drawn + 1 } := ⟨rfl, rfl, rfl, Nat.le_refl _, fun _ _ _ => rfl, fun _ h => h, fun _ h => .inl h, fun _ _ => rfl⟩
  exact ⟨hn0, O, m, ⟨hE.os, hE.tape, hE.output, hE.size, hE.keep, hE.own, hE.fresh, hE.loc, hE.reach, hE.dom⟩, ⟨hI.lt, hI.base, fun b => (hI.own b).step hs (fun _ _ _ _ _ => rfl), hI.apart, fun t => (hI.tm t).step hs, hI.size, hI.defs, hI.dom⟩⟩
theorem aw_region {id : Nat} {ops : List Oper} (h : Chain P E.B ops ops s [] (fun s' _ => Q .normal s')) : AW P E (.region id ops.toArray false) s Q := by
  intro a w hg
  refine wp_region ?_
  have := seq_go (P := P) (E := E) (ops := ops) (Q := fun e a' w' => ∃ s', Q e s' ∧ Good E s' a' w') ops 0 s [] _ a w rfl h hg (fun s' f' a' w' hk hg' => ⟨s', hk, hg'⟩)
  rw [show List.range ops.toArray.size = List.range' 0 ops.length by rw [List.range_eq_range']; simp]
  exact this
theorem aw_draw {id : Nat} {ops : List Oper} (hm : P.follows .mixedOrders = true) (h : Chain P E.B ops ops s [] (fun s' g => orderB ops g = true ∧ Q .normal s')) : AW P E (.region id ops.toArray true) s Q := by
  intro a w hg
  obtain ⟨σ, g, e0, hl, hop, hB, hq⟩ := chain_states ops s [] _ h
  rw [List.nil_append] at hB
  refine wp_region_any hm ?_
  have hg' := good_drew hg
  obtain ⟨hn0, O, m, hE, hI⟩ := hg'
  subst e0
  have eh : ∀ b, hS σ ops g (inS (Array.replicate ops.length false)) b = (σ 0).hp b := fun b => (vS_stay (i := 0) _ (Nat.zero_le _) (fun k _ _ _ hS => by unfold inS at hS; rw [getD_rep] at hS; cases hS))
  have key := order_go (P := P) (E := E) (Q := fun e a' w' => ∃ s', Q e s' ∧ Good E s' a' w') hn0 hB hop (fun a w hg => ⟨_, hq, hg⟩) ops.length (Array.replicate ops.length false) a { w with drawn := w.drawn + 1 } (by simp) (fun j o hj hS => ?_) ?_ ⟨O, m, hE.of eh, hI.of (fun t => ?_) eh (fun b h => .inl h) rfl⟩
  · simpa using key
  · exfalso
    unfold inS at hS
    rw [getD_rep] at hS
    cases hS
  · unfold left
    rw [List.countP_eq_length.2]
    · simp
    · intro k hk
      have := List.mem_range.1 hk
      simp [this]
  · exact (vS_stay (i := 0) _ (Nat.zero_le _) (fun k _ _ _ hS => by unfold inS at hS; rw [getD_rep] at hS; cases hS))
where
  getD_rep {n k : Nat} : (Array.replicate n false).getD k false = false := by
    rw [Array.getD_eq_getD_getElem?, Array.getElem?_replicate]; split <;> rfl
end
end Go.Proofs.YtedkfipjooafeaaGreatDoor.Ab
set_option linter.unusedSimpArgs false
set_option linter.unusedVariables false
namespace Go.Proofs.YtedkfipjooafeaaGreatDoor.Ab
open Go Go.RowKit

def thenA (K : St → Prop) (Q : Exit → St → Prop) : Exit → St → Prop
  | .normal, s => K s
  | e, s => Q e s
def blockA (id : Nat) (Q : Exit → St → Prop) : Exit → St → Prop
  | .exit i, s => if i = id then Q .normal s else Q (.exit i) s
  | e, s => Q e s
def Sub (E : Env) (s s' : St) : Prop := ∀ a w, Good E s a w → Good E s' a w
open Classical in
noncomputable def least (p : Nat → Prop) : Nat := if h : ∃ n, p n ∧ ∀ k, p k → n ≤ k then h.choose else 0
theorem least_spec {p : Nat → Prop} {n : Nat} (h : p n) : p (least p) ∧ ∀ k, p k → least p ≤ k := by
  have hex : ∃ n, p n ∧ ∀ k, p k → n ≤ k := by
    induction n using Nat.strongRecOn with
    | _ n ih =>
      by_cases hk : ∃ k, k < n ∧ p k
      · obtain ⟨k, h1, h2⟩ := hk
        exact ih k h1 h2
      · exact ⟨n, h, fun k hpk => Nat.le_of_not_lt fun hlt => hk ⟨k, hlt, hpk⟩⟩
  unfold least
  rw [dif_pos hex]
  exact hex.choose_spec
section
variable {P : Program} {E : Env} {s : St} {Q : Exit → St → Prop}
theorem aw_sub {c : Code} {s' : St} (hs : Sub E s s') (h : AW P E c s' Q) : AW P E c s Q := fun a w hg => h a w (hs a w hg)
theorem aw_skip (h : Q .normal s) : AW P E .skip s Q := fun a w hg => wp_skip ⟨s, h, hg⟩
theorem aw_exit {id : Nat} (h : Q (.exit id) s) : AW P E (.exit id) s Q := fun a w hg => wp_exit ⟨s, h, hg⟩
theorem aw_ret (h : Q .ret s) : AW P E .ret s Q := fun a w hg => wp_ret ⟨s, h, hg⟩
theorem aw_seq {x y : Code} (h : AW P E x s (thenA (fun s' => AW P E y s' Q) Q)) : AW P E (.seq x y) s Q := fun a w hg =>
  wp_seq (wp_mono (h a w hg) fun e a' w' ⟨s', h1, h2⟩ => by
    cases e with
    | normal => exact h1 a' w' h2
    | _ => exact ⟨s', h1, h2⟩)
theorem aw_block {id : Nat} {c : Code} (h : AW P E c s (blockA id Q)) : AW P E (.block id c) s Q := fun a w hg =>
  wp_block (wp_mono (h a w hg) fun e a' w' ⟨s', h1, h2⟩ => by
    cases e with
    | exit i =>
      show if i = id then _ else _
      have h1' : if i = id then Q .normal s' else Q (.exit i) s' := h1
      by_cases e : i = id
      · rw [if_pos e] at h1' ⊢; exact ⟨s', h1', h2⟩
      · rw [if_neg e] at h1' ⊢; exact ⟨s', h1', h2⟩
    | _ => exact ⟨s', h1, h2⟩)
theorem ev_rep {O : Nat → Prop} {m : Nat → Option Loc} {w : World} {a : Act} (ht : ∀ t, RepT O m w (s.tmp t) (a.tmps.getD t undef)) (x : Operand) : RepT O m w (s.ev x) (a.eval x) := by
  cases x with
  | tmp t => exact ht t
  | const v => exact rep_ofValue v
  | global g => exact .c (.im (.v _)) rfl
  | func f => exact .c (.im (.v _)) rfl
theorem rep_v {O : Nat → Prop} {m : Nat → Option Loc} {w : World} {x v : Value} (h : RepT O m w (.c (.im (.v x))) v) : v = x := by
  cases h with
  | c h _ => cases h with | im h => cases h; rfl
theorem aw_cond {c : Operand} {x y : Code} (b : Bool) (hc : s.ev c = .c (.im (.v (.bool b)))) (hx : b = true → AW P E x s Q) (hy : b = false → AW P E y s Q) : AW P E (.cond c x y) s Q := fun a w hg => by
  have he : a.eval c = .bool b := by
    obtain ⟨_, O, m, _, hI⟩ := hg
    have := ev_rep (s := s) hI.tm c
    rw [hc] at this
    exact rep_v this
  exact wp_cond_split he (fun h => hx h a w hg) (fun h => hy h a w hg)
theorem aw_loop {α : Type} (F : α → St) (μ : α → Nat) (x0 : α) (h0 : Sub E s (F x0)) {c : Code} (hr : ∀ x, AW P E c (F x) (thenA (fun s' => ∃ x', μ x' < μ x ∧ Sub E s' (F x')) Q)) : AW P E (.loop c) s Q := fun a w hg => by
  let p : Act → World → Nat → Prop := fun a w n => ∃ x, μ x = n ∧ Good E (F x) a w
  refine wp_loop (fun a w => ∃ x, Good E (F x) a w) (fun a w => least (p a w)) ⟨x0, h0 a w hg⟩ fun a w ⟨x, hx⟩ => ?_
  obtain ⟨⟨y, hy, hgy⟩, hmin⟩ := least_spec (p := p a w) ⟨x, rfl, hx⟩
  refine wp_mono (hr y a w hgy) fun e a' w' ⟨s', h1, h2⟩ => ?_
  cases e with
  | normal =>
    obtain ⟨x', hlt, hs⟩ := h1
    have hg' := hs a' w' h2
    have := (least_spec (p := p a' w') ⟨x', rfl, hg'⟩).2 _ ⟨x', rfl, hg'⟩
    exact ⟨⟨x', hg'⟩, by omega⟩
  | _ => exact ⟨s', h1, h2⟩
end

/-! ## What is told less, or by other numbers -/
mutual
def pureA : AV → Prop
  | .im _ => True
  | .op .. | .os .. => False
  | .clo _ l => pureAs l
  | .junk => True
def pureAs : List AV → Prop
  | [] => True
  | x :: l => pureA x ∧ pureAs l
end
mutual
def pureT : AT → Prop
  | .c x => pureA x
  | .g l => pureAs l
  | .u l => pureTs l
  | .j => True
def pureTs : List AT → Prop
  | [] => True
  | x :: l => pureT x ∧ pureTs l
end
theorem pureAs_get : ∀ {l : List AV}, pureAs l → ∀ {j : Nat} {x}, l[j]? = some x → pureA x
  | [], _, j, x, h => by simp at h
  | y :: l, hp, 0, x, h => by
    simp only [List.getElem?_cons_zero, Option.some.injEq] at h
    subst h; exact hp.1
  | y :: l, hp, j + 1, x, h => pureAs_get hp.2 (by simpa using h)
theorem pureTs_get : ∀ {l : List AT}, pureTs l → ∀ {j : Nat} {x}, l[j]? = some x → pureT x
  | [], _, j, x, h => by simp at h
  | y :: l, hp, 0, x, h => by
    simp only [List.getElem?_cons_zero, Option.some.injEq] at h
    subst h; exact hp.1
  | y :: l, hp, j + 1, x, h => pureTs_get hp.2 (by simpa using h)
section
variable {O O' : Nat → Prop} {m m' : Nat → Option Loc} {w : World}
theorem RepA.pure {x : AV} {v : Value} (h : RepA O m w x v) (hp : pureA x) : RepA O m' w x v := by
  induction h with
  | im h => exact .im h
  | op h => exact hp.elim
  | os h => exact hp.elim
  | virt h => exact hp.elim
  | clo hl ho h ih => exact .clo hl ho fun j x hj u hu => ih j x hj u hu (by unfold pureA at hp; exact pureAs_get hp hj)
  | junk v => exact .junk v
theorem RepT.pure {x : AT} {v : Value} (h : RepT O m w x v) (hp : pureT x) : RepT O m' w x v := by
  induction h with
  | c h hv => exact .c (h.pure (by unfold pureT at hp; exact hp)) hv
  | g hl ho h => exact .g hl ho fun j x hj u hu => (h j x hj u hu).pure (by unfold pureT at hp; exact pureAs_get hp hj)
  | u hl h ih => exact .u hl fun j x hj u hu => ih j x hj u hu (by unfold pureT at hp; exact pureTs_get hp hj)
  | j v => exact .j v
theorem RepA.less {x : AV} {v : Value} (h : RepA O m w x v) (hO : ∀ k, O' k → O k) : RepA O' m w x v := by
  induction h with
  | im h => exact .im (h.less hO)
  | op h => exact .op h
  | os h h1 h2 => exact .os h h1 h2
  | virt h => exact .virt h
  | clo hl ho h ih => exact .clo hl ho ih
  | junk v => exact .junk v
theorem RepT.less {x : AT} {v : Value} (h : RepT O m w x v) (hO : ∀ k, O' k → O k) : RepT O' m w x v := by
  induction h with
  | c h hv => exact .c (h.less hO) hv
  | g hl ho h => exact .g hl ho fun j x hj u hu => (h j x hj u hu).less hO
  | u hl h ih => exact .u hl ih
  | j v => exact .j v
end
structure Ren where
  n : Nat
  at_ : Nat → Option Nat
mutual
def subA (ρ : Ren) : AV → AV → Prop
  | _, .junk => True
  | .im x, .im y => x = y
  | .op b i j, .op b' i' j' => ρ.at_ b' = some b ∧ b' < ρ.n ∧ i = i' ∧ j = j'
  | .os b o n, .os b' o' n' => ρ.at_ b' = some b ∧ b' < ρ.n ∧ o = o' ∧ n = n'
  | .im (.v (.slice _ 0 0)), .os b' 0 0 => ρ.at_ b' = none ∧ b' < ρ.n
  | .clo f l, .clo f' l' => f = f' ∧ subAs ρ l l'
  | _, _ => False
def subAs (ρ : Ren) : List AV → List AV → Prop
  | [], [] => True
  | x :: l, y :: l' => subA ρ x y ∧ subAs ρ l l'
  | _, _ => False
end
mutual
def subT (ρ : Ren) : AT → AT → Prop
  | _, .j => True
  | .c x, .c y => subA ρ x y
  | .g l, .g l' => subAs ρ l l'
  | .u l, .u l' => subTs ρ l l'
  | _, _ => False
def subTs (ρ : Ren) : List AT → List AT → Prop
  | [], [] => True
  | x :: l, y :: l' => subT ρ x y ∧ subTs ρ l l'
  | _, _ => False
end
def subR (ρ : Ren) : List (List AV) → List (List AV) → Prop
  | [], [] => True
  | x :: l, y :: l' => subAs ρ x y ∧ subR ρ l l'
  | _, _ => False
def subH (ρ : Ren) (s : St) : Nat → List (Option Blk) → Prop
  | _, [] => True
  | b, none :: l => subH ρ s (b + 1) l
  | b, some k' :: l => (match ρ.at_ b with
      | some b0 => ∃ k, s.hp b0 = some k ∧ k.ty = k'.ty ∧ k.c = k'.c ∧ (k'.whole = true → k.whole = true) ∧ subR ρ k.rows k'.rows
      | none => k'.rows = [] ∧ k'.whole = false ∧ 0 < k'.c) ∧ subH ρ s (b + 1) l
theorem subAs_get {ρ : Ren} : ∀ {l l' : List AV}, subAs ρ l l' → l.length = l'.length ∧ ∀ (j : Nat) x', l'[j]? = some x' → ∃ x, l[j]? = some x ∧ subA ρ x x'
  | [], [], _ => ⟨rfl, fun j x h => by simp at h⟩
  | x :: l, y :: l', h => by
    unfold subAs at h
    obtain ⟨h1, h2⟩ := subAs_get h.2
    refine ⟨by simp [h1], fun j x' hj => ?_⟩
    cases j with
    | zero =>
      simp only [List.getElem?_cons_zero, Option.some.injEq] at hj
      subst hj
      exact ⟨x, rfl, h.1⟩
    | succ j =>
      simp only [List.getElem?_cons_succ] at hj ⊢
      exact h2 j x' hj
  | [], _ :: _, h => by unfold subAs at h; exact h.elim
  | _ :: _, [], h => by unfold subAs at h; exact h.elim
theorem subTs_get {ρ : Ren} : ∀ {l l' : List AT}, subTs ρ l l' → l.length = l'.length ∧ ∀ (j : Nat) x', l'[j]? = some x' → ∃ x, l[j]? = some x ∧ subT ρ x x'
  | [], [], _ => ⟨rfl, fun j x h => by simp at h⟩
  | x :: l, y :: l', h => by
    unfold subTs at h
    obtain ⟨h1, h2⟩ := subTs_get h.2
    refine ⟨by simp [h1], fun j x' hj => ?_⟩
    cases j with
    | zero =>
      simp only [List.getElem?_cons_zero, Option.some.injEq] at hj
      subst hj
      exact ⟨x, rfl, h.1⟩
    | succ j =>
      simp only [List.getElem?_cons_succ] at hj ⊢
      exact h2 j x' hj
  | [], _ :: _, h => by unfold subTs at h; exact h.elim
  | _ :: _, [], h => by unfold subTs at h; exact h.elim
theorem subR_get {ρ : Ren} : ∀ {l l' : List (List AV)}, subR ρ l l' → l.length = l'.length ∧ ∀ (j : Nat) x', l'[j]? = some x' → ∃ x, l[j]? = some x ∧ subAs ρ x x'
  | [], [], _ => ⟨rfl, fun j x h => by simp at h⟩
  | x :: l, y :: l', h => by
    unfold subR at h
    obtain ⟨h1, h2⟩ := subR_get h.2
    refine ⟨by simp [h1], fun j x' hj => ?_⟩
    cases j with
    | zero =>
      simp only [List.getElem?_cons_zero, Option.some.injEq] at hj
      subst hj
      exact ⟨x, rfl, h.1⟩
    | succ j =>
      simp only [List.getElem?_cons_succ] at hj ⊢
      exact h2 j x' hj
  | [], _ :: _, h => by unfold subR at h; exact h.elim
  | _ :: _, [], h => by unfold subR at h; exact h.elim
theorem subH_get {ρ : Ren} {s : St} : ∀ {l : List (Option Blk)} {b0 : Nat}, subH ρ s b0 l → ∀ (i : Nat) k', l[i]? = some (some k') → (match ρ.at_ (b0 + i) with
      | some b => ∃ k, s.hp b = some k ∧ k.ty = k'.ty ∧ k.c = k'.c ∧ (k'.whole = true → k.whole = true) ∧ subR ρ k.rows k'.rows
      | none => k'.rows = [] ∧ k'.whole = false ∧ 0 < k'.c)
  | [], b0, _, i, k', h => by simp at h
  | none :: l, b0, hs, i, k', h => by
    cases i with
    | zero => simp at h
    | succ i =>
      have := subH_get (l := l) (b0 := b0 + 1) hs i k' (by simpa using h)
      rwa [show b0 + 1 + i = b0 + (i + 1) by omega] at this
  | some k :: l, b0, hs, i, k', h => by
    unfold subH at hs
    cases i with
    | zero =>
      simp only [List.getElem?_cons_zero, Option.some.injEq] at h
      subst h
      exact hs.1
    | succ i =>
      have := subH_get (l := l) (b0 := b0 + 1) hs.2 i k' (by simpa using h)
      rwa [show b0 + 1 + i = b0 + (i + 1) by omega] at this
def Ren.loc (ρ : Ren) (m : Nat → Option Loc) (b : Nat) : Option Loc := if b < ρ.n then (match ρ.at_ b with | some b0 => m b0 | none => some .virt) else none
theorem RepA.sub {ρ : Ren} {O : Nat → Prop} {m : Nat → Option Loc} {w : World} {x : AV} {v : Value} (h : RepA O m w x v) : ∀ {x' : AV}, subA ρ x x' → RepA O (ρ.loc m) w x' v := by
  induction h with
  | im h =>
    intro x' hs
    cases x' with
    | junk => exact .junk _
    | im y => unfold subA at hs; subst hs; exact .im h
    | os b o n =>
      unfold subA at hs
      split at hs
      all_goals first
        | exact hs.elim
        | skip
      all_goals first
        | (rename_i e; cases e; done)
        | skip
      all_goals
        simp_all
        try (obtain ⟨e1, e2⟩ := hs; cases h; refine .virt ?_; unfold Ren.loc; rw [if_pos e2, e1])
    | op b i j => simp [subA] at hs
    | clo f l => simp [subA] at hs
  | op h =>
    intro x' hs
    cases x' with
    | junk => exact .junk _
    | op b i j =>
      unfold subA at hs
      obtain ⟨e1, e2, rfl, rfl⟩ := hs
      exact .op (by unfold Ren.loc; rw [if_pos e2, e1]; exact h)
    | _ => simp [subA] at hs
  | os h hn hA =>
    intro x' hs
    cases x' with
    | junk => exact .junk _
    | os b i j =>
      unfold subA at hs
      obtain ⟨e1, e2, rfl, rfl⟩ := hs
      exact .os (by unfold Ren.loc; rw [if_pos e2, e1]; exact h) hn hA
    | _ => simp [subA] at hs
  | virt h =>
    intro x' hs
    cases x' with
    | junk => exact .junk _
    | os b i j =>
      unfold subA at hs
      obtain ⟨e1, e2, rfl, rfl⟩ := hs
      exact .virt (by unfold Ren.loc; rw [if_pos e2, e1]; exact h)
    | _ => simp [subA] at hs
  | clo hl ho h ih =>
    intro x' hs
    cases x' with
    | junk => exact .junk _
    | clo f l =>
      unfold subA at hs
      obtain ⟨rfl, hs⟩ := hs
      obtain ⟨e1, e2⟩ := subAs_get hs
      refine .clo (by rw [hl, e1]) ho fun j x' hj u hu => ?_
      obtain ⟨x, hx, hxs⟩ := e2 j x' hj
      exact ih j x hx u hu hxs
    | _ => simp [subA] at hs
  | junk v =>
    intro x' hs
    cases x' with
    | junk => exact .junk _
    | _ => simp [subA] at hs
theorem RepT.sub {ρ : Ren} {O : Nat → Prop} {m : Nat → Option Loc} {w : World} {x : AT} {v : Value} (h : RepT O m w x v) : ∀ {x' : AT}, subT ρ x x' → RepT O (ρ.loc m) w x' v := by
  induction h with
  | c h hv =>
    intro x' hs
    cases x' with
    | j => exact .j _
    | c y => unfold subT at hs; exact .c (h.sub hs) hv
    | _ => simp [subT] at hs
  | g hl ho h =>
    intro x' hs
    cases x' with
    | j => exact .j _
    | g l =>
      unfold subT at hs
      obtain ⟨e1, e2⟩ := subAs_get hs
      refine .g (by rw [hl, e1]) ho fun j x' hj u hu => ?_
      obtain ⟨x, hx, hxs⟩ := e2 j x' hj
      exact (h j x hx u hu).sub hxs
    | _ => simp [subT] at hs
  | u hl h ih =>
    intro x' hs
    cases x' with
    | j => exact .j _
    | u l =>
      unfold subT at hs
      obtain ⟨e1, e2⟩ := subTs_get hs
      refine .u (by rw [hl, e1]) fun j x' hj u hu => ?_
      obtain ⟨x, hx, hxs⟩ := e2 j x' hj
      exact ih j x hx u hu hxs
    | _ => simp [subT] at hs
  | j v =>
    intro x' hs
    cases x' with
    | j => exact .j _
    | _ => simp [subT] at hs
theorem sub_ren {E : Env} {s s' : St} (ρ : Ren) (hn : ρ.n = s'.heap.length) (hT : subTs ρ s.tmps s'.tmps) (hH : subH ρ s 0 s'.heap) (hi : ∀ b b' q, b < ρ.n → b' < ρ.n → ρ.at_ b = some q → ρ.at_ b' = some q → b = b') (h0 : ∀ b, b < E.n0 → ρ.at_ b = some b ∧ b < ρ.n) (hm : ∀ b, E.m0 b ≠ none → b < E.n0) : Sub E s s' := by
  intro a w ⟨hn0, O, m, hE, hI⟩
  have hT' := subTs_get hT
  have blk : ∀ b, s'.hp b ≠ none → ∃ k', s'.heap[b]? = some (some k') ∧ s'.hp b = some k' ∧ b < ρ.n := fun b hb => by
    unfold St.hp at hb ⊢
    cases h : s'.heap[b]? with
    | none => rw [h] at hb; exact absurd rfl hb
    | some o =>
      cases o with
      | none => rw [h] at hb; exact absurd rfl hb
      | some k' => exact ⟨k', rfl, rfl, by rw [hn]; exact (List.getElem?_eq_some_iff.1 h).1⟩
  have locs : ∀ b b0, b < ρ.n → ρ.at_ b = some b0 → ρ.loc m b = m b0 := fun b b0 h1 h2 => by unfold Ren.loc; rw [if_pos h1, h2]
  have hn1 : E.n0 ≤ s'.heap.length := by
    rw [← hn]
    rcases Nat.eq_zero_or_pos E.n0 with h | h
    · omega
    · have := (h0 (E.n0 - 1) (by omega)).2; omega
  refine ⟨hn1, O, ρ.loc m, ⟨hE.os, hE.tape, hE.output, hE.size, hE.keep, hE.own, hE.fresh, fun b hb => ?_, fun b hb q c cap hq => ?_, fun b hb hm => hE.dom b hb (by rwa [locs b b (h0 b hb).2 (h0 b hb).1] at hm)⟩, ⟨hI.lt, hI.base, fun b => ?_, fun b b' hb hb' => ?_, fun t => ?_, ?_, hI.defs, fun b hb => ?_⟩⟩
  · obtain ⟨e1, e2⟩ := h0 b (hm b hb)
    rw [locs b b e2 e1]; exact hE.loc b hb
  · obtain ⟨k', h1, h2, h3⟩ := blk b hb
    have := subH_get hH b k' h1
    rw [Nat.zero_add] at this
    cases hr : ρ.at_ b with
    | none =>
      unfold Ren.loc at hq
      rw [if_pos h3, hr] at hq
      cases hq
    | some b0 =>
      rw [hr] at this
      obtain ⟨k, hk, _⟩ := this
      rw [locs b b0 h3 hr] at hq
      exact hE.reach b0 (by rw [hk]; simp) q c cap hq
  · cases hb : s'.hp b with
    | none => trivial
    | some k' =>
      obtain ⟨k2, h1, h2, h3⟩ := blk b (by rw [hb]; simp)
      rw [hb] at h2
      injection h2 with h2
      subst h2
      have := subH_get hH b k' h1
      rw [Nat.zero_add] at this
      cases hr : ρ.at_ b with
      | none =>
        rw [hr] at this
        exact .inl ⟨by unfold Ren.loc; rw [if_pos h3, hr], this.1, this.2.1, this.2.2⟩
      | some b0 =>
        rw [hr] at this
        obtain ⟨k, hk, e1, e2, e3, e4⟩ := this
        obtain ⟨r1, r2⟩ := subR_get e4
        have ho := hI.own b0
        rw [hk] at ho
        rcases ho with ⟨g1, g2, g3, g4⟩ | ⟨q, cap, us, g1, g2, g3, g4, g5, g6, g7, g7', g8, g9, g9', g10⟩
        · refine .inl ⟨by rw [locs b b0 h3 hr]; exact g1, ?_, ?_, by rw [← e2]; exact g4⟩
          · rw [g2] at r1
            exact List.length_eq_zero_iff.1 r1.symm
          · cases hw : k'.whole with
            | false => rfl
            | true => rw [e3 hw] at g3; cases g3
        · refine .inr ⟨q, cap, us, by rw [locs b b0 h3 hr, ← e2]; exact g1, g2, g3, by rw [← e2]; exact g4, by rw [← e1]; exact g5, by rw [← e2]; exact g6, by rw [← r1]; exact g7, g7', fun hw => by rw [← r1]; exact g8 (e3 hw), fun row hrow => ?_, g9', fun i row hi' j x hj u hu => ?_⟩
          · obtain ⟨i, hi'⟩ := List.getElem?_of_mem hrow
            obtain ⟨row0, hr0, hs0⟩ := r2 i row hi'
            rw [← (subAs_get hs0).1, g9 row0 (List.mem_of_getElem? hr0), e2]
          · obtain ⟨row0, hr0, hs0⟩ := r2 i row hi'
            obtain ⟨x0, hx0, hxs⟩ := (subAs_get hs0).2 j x hj
            exact (g10 i row0 hr0 j x0 hx0 u (by rw [e2]; exact hu)).sub hxs
  · obtain ⟨k1, a1, a2, a3⟩ := blk b hb
    obtain ⟨k2, b1, b2, b3⟩ := blk b' hb'
    intro q c cap c' cap' hq hq'
    have t1 := subH_get hH b k1 a1
    have t2 := subH_get hH b' k2 b1
    rw [Nat.zero_add] at t1 t2
    cases hr : ρ.at_ b with
    | none => unfold Ren.loc at hq; rw [if_pos a3, hr] at hq; cases hq
    | some c0 =>
      cases hr' : ρ.at_ b' with
      | none => unfold Ren.loc at hq'; rw [if_pos b3, hr'] at hq'; cases hq'
      | some c1 =>
        rw [hr] at t1
        rw [hr'] at t2
        obtain ⟨k, hk, _⟩ := t1
        obtain ⟨k', hk', _⟩ := t2
        rw [locs b c0 a3 hr] at hq
        rw [locs b' c1 b3 hr'] at hq'
        have := hI.apart c0 c1 (by rw [hk]; simp) (by rw [hk']; simp) q c cap c' cap' hq hq'
        subst this
        exact hi b b' c0 a3 b3 hr hr'
  · unfold St.tmp
    rw [List.getD_eq_getElem?_getD]
    cases h : s'.tmps[t]? with
    | none =>
      have h2 : s.tmps[t]? = none := by rw [List.getElem?_eq_none_iff] at h ⊢; rw [hT'.1]; exact h
      have h3 := hI.tm t
      unfold St.tmp at h3
      rw [List.getD_eq_getElem?_getD, h2] at h3
      refine h3.sub ?_
      show subT ρ (.u []) (.u [])
      unfold subT subTs
      trivial
    | some x' =>
      obtain ⟨x, hx, hxs⟩ := hT'.2 t x' h
      have h3 := hI.tm t
      unfold St.tmp at h3
      rw [List.getD_eq_getElem?_getD, hx] at h3
      exact h3.sub hxs
  · rw [hI.size, hT'.1]
  · rw [← hn]
    unfold Ren.loc at hb
    by_cases hlt : b < ρ.n
    · exact hlt
    · rw [if_neg hlt] at hb; exact absurd rfl hb
end Go.Proofs.YtedkfipjooafeaaGreatDoor.Ab
set_option linter.unusedSimpArgs false
set_option linter.unusedVariables false
namespace Go.Proofs.YtedkfipjooafeaaGreatDoor.Ab
open Go Go.RowKit

/-! ## Types -/
def isAggD : TypeDesc → Bool
  | .struct _ | .array .. => true
  | _ => false
structure FI where
  off : Nat
  sz : Nat
  agg : Bool
inductive TK where
  | st (fs : List (Option FI))
  | sl (e : TypeId)
  | ar (n : Nat) (e : TypeId)
  | str
  | ot
structure TF where
  sz : Nat
  bytes : Nat
  agg : Bool
  zero : List Value
  kind : TK
def fi (P : Program) (f : Field) : Option FI := match P.info? f.type, P.underlying f.type with
  | some i, some d => some ⟨f.offset, i.size, isAggD d⟩
  | _, _ => none
def kindOf (P : Program) : TypeDesc → TK
  | .struct fs => .st (fs.toList.map (fi P))
  | .slice e => .sl e
  | .array n e => .ar n e
  | .string => .str
  | _ => .ot
def tf (P : Program) (t : TypeId) : Option TF := match P.info? t, P.underlying t with
  | some i, some d => (i.zero.map (·.cells.toList)).map fun z => ⟨i.size, i.bytes, isAggD d, z, kindOf P d⟩
  | _, _ => none
theorem tf_spec {P : Program} {t : TypeId} {T : TF} (h : tf P t = some T) : ∃ i d z, P.info? t = some i ∧ P.underlying t = some d ∧ i.zero = some z ∧ T = ⟨i.size, i.bytes, isAggD d, z.cells.toList, kindOf P d⟩ := by
  unfold tf at h
  cases hi : P.info? t with
  | none => rw [hi] at h; simp at h
  | some i =>
    cases hd : P.underlying t with
    | none => rw [hi, hd] at h; simp at h
    | some d =>
      rw [hi, hd] at h
      cases hz : i.zero with
      | none => simp [hz] at h
      | some z => simp [hz] at h; exact ⟨i, d, z, rfl, rfl, hz, h.symm⟩
section
variable {P : Program} {t : TypeId} {T : TF}
theorem run_sizeOf_tf (h : tf P t = some T) (w : World) : (sizeOf t).run P w = .ok T.sz w := by
  obtain ⟨i, d, z, h1, h2, h3, rfl⟩ := tf_spec h
  simp [sizeOf, typeInfo, h1]
theorem run_isAgg_tf (h : tf P t = some T) (w : World) : (isAgg t).run P w = .ok T.agg w := by
  obtain ⟨i, d, z, h1, h2, h3, rfl⟩ := tf_spec h
  simp [isAgg, underlying, h2]
  cases d <;> rfl
end

/-! ## Operations -/
def St.put (s : St) (d : Option Tmp) (x : AT) : St := match d with
  | some t => ⟨s.tmps.set t x, s.heap⟩
  | none => s
theorem put_hp (s : St) (d : Option Tmp) (x : AT) (b : Nat) : (s.put d x).hp b = s.hp b := by cases d <;> rfl
theorem put_heap (s : St) (d : Option Tmp) (x : AT) : (s.put d x).heap = s.heap := by cases d <;> rfl
theorem put_len (s : St) (d : Option Tmp) (x : AT) : (s.put d x).tmps.length = s.tmps.length := by cases d <;> simp [St.put]
theorem put_tmp_ne {s : St} {d : Option Tmp} {x : AT} {t : Nat} (h : d ≠ some t) : (s.put d x).tmp t = s.tmp t := by
  cases d with
  | none => rfl
  | some e =>
    have : e ≠ t := fun h' => h (by rw [h'])
    simp [St.put, St.tmp, List.getD_eq_getElem?_getD, List.getElem?_set, this]
theorem put_tmp_eq {s : St} {x : AT} {t : Nat} (h : t < s.tmps.length) : (s.put (some t) x).tmp t = x := by
  simp [St.put, St.tmp, List.getD_eq_getElem?_getD, List.getElem?_set, h]
theorem put_tmp_out {s : St} {x : AT} {t : Nat} (h : ¬ t < s.tmps.length) : (s.put (some t) x).tmp t = .u [] := by
  simp [St.put, St.tmp, List.getD_eq_getElem?_getD, List.getElem?_set, h]
theorem rep_undef {O : Nat → Prop} {m : Nat → Option Loc} {w : World} : RepT O m w (.u []) undef := .u rfl fun j x hj => by simp at hj
theorem rep_put {O : Nat → Prop} {m : Nat → Option Loc} {w : World} {s : St} {x : AT} {v : Value} {t : Nat} (h : RepT O m w x v) (hv : ¬ t < s.tmps.length → v = undef) : RepT O m w ((s.put (some t) x).tmp t) v := by
  by_cases hlt : t < s.tmps.length
  · rw [put_tmp_eq hlt]; exact h
  · rw [put_tmp_out hlt, hv hlt]; exact rep_undef
def wantA (ops : List Oper) (s : St) (o : Oper) : Option Bool := match o.guard with
  | none => some true
  | some (g, want) => match (ops[g]?).bind (·.dst) with
    | some d => match s.tmp d with
      | .c (.im (.v (.bool b))) => some (b == want)
      | .u [] => some false
      | _ => none
    | none => none
theorem tmps_some {a : Act} {d : Nat} {b : Bool} (h : a.tmps.getD d undef = .bool b) : a.tmps[d]? = some (.bool b) := by
  rw [Array.getD_eq_getD_getElem?] at h
  cases hd : a.tmps[d]? with
  | none => rw [hd] at h; cases h
  | some v => rw [hd] at h; simp only [Option.getD_some] at h; rw [h]
section
variable {P : Program} {B : Nat} {ops : List Oper} {o : Oper} {s : St} {O : Nat → Prop} {m : Nat → Option Loc} {w : World} {a : Act}
theorem want_spec {b : Bool} (h : wantA ops s o = some b) (hl : ∀ t ∈ Oper.looksAt ops.toArray o, RepT O m w (s.tmp t) (a.tmps.getD t undef)) : Region.wanted o (yielded ops.toArray a.tmps) = b := by
  unfold wantA at h
  unfold Region.wanted
  cases hg : o.guard with
  | none => rw [hg] at h; simpa using h
  | some gw =>
    obtain ⟨g, want⟩ := gw
    rw [hg] at h
    simp only at h ⊢
    cases hd : (ops[g]?).bind (·.dst) with
    | none => rw [hd] at h; cases h
    | some d =>
      rw [hd] at h
      simp only at h
      have hin : d ∈ Oper.looksAt ops.toArray o := by
        unfold Oper.looksAt
        refine List.mem_append_right _ ?_
        rw [hg]
        simp [hd]
      have hr := hl d hin
      split at h
      · rename_i b' hb'
        rw [hb'] at hr
        have hv := rep_v hr
        injection h with h
        have : yielded ops.toArray a.tmps g = some b' := by
          unfold yielded
          have : (ops.toArray[g]?).bind (·.dst) = some d := by simpa using hd
          rw [this, Option.bind_some, tmps_some hv]
        rw [this, ← h]
        cases b' <;> cases want <;> rfl
      · rename_i hb'
        rw [hb'] at hr
        injection h with h
        obtain ⟨v, hv⟩ : ∃ v, a.tmps.getD d undef = v := ⟨_, rfl⟩
        rw [hv] at hr
        have hv2 : v = .tuple #[] := by
          cases hr with
          | @u _ us hl _ => have : us = #[] := Array.eq_empty_of_size_eq_zero (by simpa using hl); rw [this]
        subst hv2
        have : yielded ops.toArray a.tmps g = none := by
          unfold yielded
          have : (ops.toArray[g]?).bind (·.dst) = some d := by simpa using hd
          rw [this, Option.bind_some]
          rw [Array.getD_eq_getD_getElem?] at hv
          cases hx : a.tmps[d]? with
          | none => rfl
          | some y => rw [hx] at hv; simp only [Option.getD_some] at hv; rw [hv]
        rw [this, ← h]
        cases want <;> rfl
      · cases h
theorem mem_looks {t : Tmp} (h : .tmp t ∈ o.op.operands) : t ∈ Oper.looksAt ops.toArray o := by
  unfold Oper.looksAt
  exact List.mem_append_left _ (List.mem_filterMap.2 ⟨.tmp t, by simpa using h, rfl⟩)
theorem ev_looks {x : Operand} (hl : ∀ t ∈ Oper.looksAt ops.toArray o, RepT O m w (s.tmp t) (a.tmps.getD t undef)) (hx : x ∈ o.op.operands) : RepT O m w (s.ev x) (a.eval x) := by
  cases x with
  | tmp t => exact hl t (mem_looks hx)
  | const v => exact rep_ofValue v
  | global g => exact .c (.im (.v _)) rfl
  | func f => exact .c (.im (.v _)) rfl
theorem sem_skip (hw : wantA ops s o = some false) : OpSem P B ops o s ⟨[], [], []⟩ (s.put o.dst (.u [])) := by
  refine ⟨⟨put_len .., fun t ht => put_tmp_ne ht, fun b _ _ => put_hp .., fun b hb => (by cases hb), fun b hb => (by cases hb), by rw [put_heap]; exact Nat.le_refl _⟩, ?_⟩
  intro O m w a K Q hv hl hn hs hK
  unfold wpO
  rw [want_spec hw hl]
  rw [if_neg (by simp)]
  refine hK undef O m w ⟨.refl, hv.lt, fun _ _ _ => rfl, fun b hb => .inl hb, fun b hb => by simp at hb, fun b hb => (by cases hb), fun b hb => (by cases hb)⟩ fun d hd => ?_
  rw [hd]
  exact rep_put rep_undef fun _ => rfl
theorem sem_read {rd : List Nat} {r : AT} (hw : wantA ops s o = some true) (hd : ∀ d, o.dst = some d → d < s.tmps.length) (h : ∀ (O : Nat → Prop) (m : Nat → Option Loc) (w : World) (a : Act), View B O m w s.hp rd → (∀ x ∈ o.op.operands, RepT O m w (s.ev x) (a.eval x)) → ∃ u, (execOp a.eval o).run P w = .ok (.value u) w ∧ RepT O m w r u) :
    OpSem P B ops o s ⟨rd, [], []⟩ (s.put o.dst r) := by
  refine ⟨⟨put_len .., fun t ht => put_tmp_ne ht, fun b _ _ => put_hp .., fun b hb => (by cases hb), fun b hb => (by cases hb), by rw [put_heap]; exact Nat.le_refl _⟩, ?_⟩
  intro O m w a K Q hv hl hn hs hK
  unfold wpO
  rw [want_spec hw hl, if_pos rfl]
  obtain ⟨u, h1, h2⟩ := h O m w a (by simpa using hv) fun x hx => ev_looks hl hx
  unfold Oper.wp
  rw [h1, Oper.upon_value]
  refine hK u O m w ⟨.refl, hv.lt, fun _ _ _ => rfl, fun b hb => .inl hb, fun b hb => by simp at hb, fun b hb => (by cases hb), fun b hb => (by cases hb)⟩ fun d hd' => ?_
  rw [hd']
  exact rep_put h2 fun hlt => absurd (hd d hd') hlt
end

/-! ## Reading memory -/
def cut (T : TF) (row : List AV) (j : Nat) : Option AT := if T.agg then (if j + T.sz ≤ row.length then some (.g ((row.drop j).take T.sz)) else none) else (row[j]?).map .c
def loadA (s : St) (T : TF) : AT → Option AT
  | .c (.op b i j) => match s.hp b with
    | some k => match k.rows[i]? with
      | some row => cut T row j
      | none => none
    | none => none
  | .c (.im (.ip cs)) => cut T (cs.map .im) 0
  | _ => none
def blkOf : AT → List Nat
  | .c (.op b _ _) => [b]
  | .c (.os b _ _) => [b]
  | _ => []
section
variable {P : Program} {B : Nat} {s : St} {O : Nat → Prop} {m : Nat → Option Loc} {w : World}
def CellsAt (O : Nat → Prop) (m : Nat → Option Loc) (w : World) (a : Addr) (row : List AV) : Prop := ∃ us : List Value, us.length = row.length ∧ (∀ u ∈ us, isOne u = true) ∧ (∀ (j : Nat) u, us[j]? = some u → w.cell? (a.add j) = some u) ∧ ∀ (j : Nat) x, row[j]? = some x → ∀ u, us[j]? = some u → RepA O m w x u
theorem add_add' (a : Addr) (i j : Nat) : (a.add i).add j = a.add (i + j) := by
  unfold Addr.add
  by_cases hi : i = 0 <;> by_cases hj : j = 0 <;> simp [hi, hj, Nat.add_assoc]
theorem add_lit' (k o j : Nat) : (⟨k, o, none⟩ : Addr).add j = ⟨k, o + j, none⟩ := by
  unfold Addr.add
  by_cases hj : j = 0 <;> simp [hj]
theorem own_cells {b i : Nat} {k : Blk} {row : List AV} {q c cap : Nat} (ho : Own B O m w b (some k)) (hr : k.rows[i]? = some row) (hq : m b = some (.at_ q c cap)) : c = k.c ∧ CellsAt O m w ⟨q, i * c, none⟩ row := by
  rcases ho with ⟨h1, _⟩ | ⟨q', cap', us, h1, h2, h3, h4, h5, h6, h7, h7', h8, h9, h9', h10⟩
  · rw [h1] at hq; cases hq
  · rw [h1] at hq
    injection hq with hq
    injection hq with e1 e2 e3
    subst e1 e2 e3
    refine ⟨rfl, (us.toList.drop (i * k.c)).take row.length, ?_, fun u hu => h9' u (by simpa using List.mem_of_mem_drop (List.mem_of_mem_take hu)), fun j u hj => ?_, fun j x hj u hu => ?_⟩
    · have hi : i < k.rows.length := (List.getElem?_eq_some_iff.1 hr).1
      have hrl := h9 row (List.mem_of_getElem? hr)
      have : (i + 1) * k.c ≤ cap' * k.c := Nat.mul_le_mul_right _ (by omega)
      rw [Nat.succ_mul] at this
      simp only [List.length_take, List.length_drop, Array.length_toList]
      omega
    · have hj' : j < row.length := by
        have := (List.getElem?_eq_some_iff.1 hj).1
        simp only [List.length_take] at this
        omega
      rw [List.getElem?_take_of_lt hj', List.getElem?_drop, Array.getElem?_toList] at hj
      rw [add_lit']
      simp [World.cell?, h5, hj]
    · have hj' : j < row.length := (List.getElem?_eq_some_iff.1 hj).1
      rw [List.getElem?_take_of_lt hj', List.getElem?_drop, Array.getElem?_toList] at hu
      exact h10 i row hr j x hj u hu
theorem rep_ip {cs : List IV} {v : Value} (h : RepT O m w (.c (.im (.ip cs))) v) : ∃ a : Addr, v = .pointer (some a) ∧ ¬ O a.block ∧ a.block < w.heap.size ∧ CellsAt O m w a (cs.map .im) := by
  cases h with
  | c h _ =>
    cases h with
    | im h =>
      cases h with
      | ip cs a us hl ho hO hb ha h =>
        refine ⟨a, rfl, hO, hb, us, by simp [hl], ho, ha, fun j x hj u hu => ?_⟩
        rw [List.getElem?_map] at hj
        cases hc : cs[j]? with
        | none => rw [hc] at hj; cases hj
        | some y =>
          rw [hc] at hj
          simp only [Option.map_some, Option.some.injEq] at hj
          subst hj
          exact .im (h j y hc u hu)
theorem rep_op {b i j : Nat} {v : Value} (h : RepT O m w (.c (.op b i j)) v) : ∃ q c cap, m b = some (.at_ q c cap) ∧ v = .pointer (some ⟨q, i * c + j, none⟩) := by
  cases h with
  | c h _ => cases h with | op h => exact ⟨_, _, _, h, rfl⟩
theorem run_cut {t : TypeId} {T : TF} {row : List AV} {j : Nat} {r : AT} {a : Addr} (hT : tf P t = some T) (h : CellsAt O m w a row) (hr : cut T row j = some r) : ∃ u, (loadVar t (a.add j)).run P w = .ok u w ∧ RepT O m w r u := by
  obtain ⟨us, h1, h1', h2, h3⟩ := h
  unfold cut at hr
  unfold loadVar
  by_cases hg : T.agg = true
  · rw [if_pos hg] at hr
    split at hr
    · rename_i hle
      injection hr with hr
      subst hr
      have hlen : ((us.drop j).take T.sz).length = T.sz := by simp; omega
      have hl := run_loadCells_list (P := P) w (a.add j) ((us.drop j).take T.sz) (fun i u hi => by
        have hi' : i < T.sz := by have := (List.getElem?_eq_some_iff.1 hi).1; omega
        rw [List.getElem?_take_of_lt hi', List.getElem?_drop] at hi
        rw [add_add']; exact h2 _ u hi)
      rw [hlen] at hl
      refine ⟨.agg ((us.drop j).take T.sz).toArray, ?_, .g ?_ (fun u hu => h1' u (List.mem_of_mem_drop (List.mem_of_mem_take (by simpa using hu)))) fun i x hi u hu => ?_⟩
      · simp only [Sem.run_bind, run_isAgg_tf hT, run_sizeOf_tf hT, Result.andThen_ok, hg, if_true, hl, Sem.run_pure, Pure.pure, Sem.run]
      · simp; omega
      · have hi' : i < T.sz := by have := (List.getElem?_eq_some_iff.1 hi).1; simp at this; omega
        rw [List.getElem?_take_of_lt hi', List.getElem?_drop] at hi
        simp only [List.getElem?_toArray] at hu
        rw [List.getElem?_take_of_lt hi', List.getElem?_drop] at hu
        exact h3 _ x hi u hu
    · cases hr
  · rw [if_neg hg] at hr
    cases hx : row[j]? with
    | none => rw [hx] at hr; cases hr
    | some x =>
      rw [hx] at hr
      simp only [Option.map_some, Option.some.injEq] at hr
      subst hr
      have hj : j < us.length := by rw [h1]; exact (List.getElem?_eq_some_iff.1 hx).1
      have hu := List.getElem?_eq_getElem hj
      refine ⟨us[j], ?_, .c (h3 j x hx _ hu) (h1' _ (List.getElem_mem hj))⟩
      have := h2 j _ hu
      simp [run_isAgg_tf hT, hg, this]
theorem run_loadA {t : TypeId} {T : TF} {x : AT} {v : Value} {r : AT} (hT : tf P t = some T) (hx : RepT O m w x v) (ho : ∀ b ∈ blkOf x, Own B O m w b (s.hp b)) (hr : loadA s T x = some r) : ∃ u, (Instr.loadAt t v).run P w = .ok u w ∧ RepT O m w r u := by
  unfold loadA at hr
  split at hr
  · rename_i b i j
    obtain ⟨q, c, cap, hq, rfl⟩ := rep_op hx
    have hob := ho b (by simp [blkOf])
    cases hk : s.hp b with
    | none => rw [hk] at hr; cases hr
    | some k =>
      rw [hk] at hr hob
      simp only at hr
      cases hrow : k.rows[i]? with
      | none => rw [hrow] at hr; cases hr
      | some row =>
        rw [hrow] at hr
        obtain ⟨rfl, hc⟩ := own_cells hob hrow hq
        obtain ⟨u, h1, h2⟩ := run_cut hT hc hr
        rw [add_lit'] at h1
        exact ⟨u, by simp [Instr.loadAt, Instr.sureAddr, h1], h2⟩
  · rename_i cs
    obtain ⟨a, rfl, _, _, hc⟩ := rep_ip hx
    obtain ⟨u, h1, h2⟩ := run_cut hT hc hr
    have e : a.add 0 = a := by unfold Addr.add; simp
    rw [e] at h1
    exact ⟨u, by simp [Instr.loadAt, Instr.sureAddr, h1], h2⟩
  · cases hr
end
end Go.Proofs.YtedkfipjooafeaaGreatDoor.Ab
set_option linter.unusedSimpArgs false
set_option linter.unusedVariables false
namespace Go.Proofs.YtedkfipjooafeaaGreatDoor.Ab
open Go Go.RowKit

section
variable {P : Program} {B : Nat} {s : St} {O : Nat → Prop} {m : Nat → Option Loc} {w : World}
def addOff : AT → Nat → Option AT
  | .c (.op b i j), n => some (.c (.op b i (j + n)))
  | .c (.im (.ip cs)), n => some (.c (.im (.ip (cs.drop n))))
  | _, _ => none
def fieldA (T : TF) (k : Nat) (x : AT) : Option AT := match T.kind with
  | .st fs => match fs[k]? with
    | some (some f) => if f.sz = 0 then none else addOff x f.off
    | _ => none
  | _ => none
theorem RepI.ip_drop {cs : List IV} {a : Addr} (h : RepI O w (.ip cs) (.pointer (some a))) (n : Nat) : RepI O w (.ip (cs.drop n)) (.pointer (some (a.add n))) := by
  cases h with
  | ip cs a us hl ho hO hb ha h =>
    have e : (a.add n).block = a.block := by unfold Addr.add; split <;> rfl
    refine .ip _ _ (us.drop n) (by simp [hl]) (fun u hu => ho u (List.mem_of_mem_drop hu)) (by rw [e]; exact hO) (by rw [e]; exact hb) (fun j u hj => ?_) fun j x hj u hu => ?_
    · rw [List.getElem?_drop] at hj
      rw [add_add']; exact ha _ u hj
    · rw [List.getElem?_drop] at hj hu
      exact h _ x hj u hu
theorem run_addOff {x r : AT} {v : Value} {n : Nat} (hx : RepT O m w x v) (h : addOff x n = some r) : ∃ a : Addr, v = .pointer (some a) ∧ RepT O m w r (.pointer (some (a.add n))) := by
  unfold addOff at h
  split at h
  · rename_i b i j k
    injection h with h
    subst h
    obtain ⟨q, c, cap, hq, rfl⟩ := rep_op hx
    refine ⟨_, rfl, .c ?_ rfl⟩
    rw [add_lit', Nat.add_assoc]
    exact .op hq
  · rename_i cs k
    injection h with h
    subst h
    cases hx with
    | c h _ =>
      cases h with
      | im h =>
        cases h with
        | ip cs a us hl ho hO hb ha h =>
          exact ⟨a, rfl, .c (.im (RepI.ip_drop (.ip _ a us hl ho hO hb ha h) _)) rfl⟩
  · cases h
theorem run_fieldA {t : TypeId} {T : TF} {k : Nat} {x r : AT} {v : Value} (hT : tf P t = some T) (hx : RepT O m w x v) (h : fieldA T k x = some r) : ∃ u, (Instr.fieldAt t v k).run P w = .ok u w ∧ RepT O m w r u := by
  obtain ⟨i, d, z, h1, h2, h3, rfl⟩ := tf_spec hT
  unfold fieldA at h
  simp only at h
  cases d with
  | struct fs =>
    simp only [kindOf] at h
    rw [List.getElem?_map] at h
    cases hf : fs[k]? with
    | none =>
      have : fs.toList[k]? = none := by simpa using hf
      rw [this] at h; simp at h
    | some f =>
      have hf' : fs.toList[k]? = some f := by simpa using hf
      rw [hf', Option.map_some] at h
      cases hfi : fi P f with
      | none => rw [hfi] at h; simp at h
      | some F =>
        rw [hfi] at h
        simp only at h
        unfold fi at hfi
        cases hi : P.info? f.type with
        | none => rw [hi] at hfi; simp at hfi
        | some fi' =>
          cases hu : P.underlying f.type with
          | none => rw [hi, hu] at hfi; simp at hfi
          | some du =>
            rw [hi, hu] at hfi
            simp only [Option.some.injEq] at hfi
            subst hfi
            simp only at h
            split at h
            · cases h
            · rename_i hsz
              obtain ⟨a, rfl, hr⟩ := run_addOff hx h
              refine ⟨_, ?_, hr⟩
              simp [Instr.fieldAt, underlying, h2, hf, Instr.sureAddr, fieldPlace, sizeOf, typeInfo, hi, hsz]
  | _ => simp [kindOf] at h
def indexA (s : St) (T Te : TF) (x : AT) (n : Nat) : Option AT := match T.kind with
  | .sl _ => match x with
    | .c (.os b o m) => match s.hp b with
      | some k => if k.c = Te.sz ∧ n < m then some (.c (.op b (o + n) 0)) else none
      | none => none
    | .c (.im (.sl c rows)) => if c = Te.sz then (rows[n]?).map (fun row => .c (.im (.ip row))) else none
    | .c (.im (.sn c rows)) => if c = Te.sz then (rows[n]?).map (fun row => .c (.im (.ip row))) else none
    | _ => none
  | .ar N _ => if n < N then addOff x (n * Te.sz) else none
  | _ => none
def elemOf? (T : TF) : Option TypeId := match T.kind with
  | .sl e => some e
  | .ar _ e => some e
  | _ => none
theorem RepI.row {c : Nat} {rows : List (List IV)} {v : Value} (h : RepI O w (.sl c rows) v) {n : Nat} {row : List IV} (hn : rows[n]? = some row) : ∃ a cap, v = .slice (some a) rows.length cap ∧ RepI O w (.ip row) (.pointer (some (a.add (n * c)))) := by
  cases h with
  | sl c rows A cap us ha hl ho hr hc h =>
    have hne : rows ≠ [] := fun e => by rw [e] at hn; simp at hn
    obtain ⟨a, rfl, h1, h2, h3⟩ := ha hne
    have hlt : n < rows.length := (List.getElem?_eq_some_iff.1 hn).1
    have hrl := hr row (List.mem_of_getElem? hn)
    have hcl : (n + 1) * c ≤ rows.length * c := Nat.mul_le_mul_right _ (by omega)
    rw [Nat.succ_mul] at hcl
    have e : (a.add (n * c)).block = a.block := by unfold Addr.add; split <;> rfl
    refine ⟨a, cap, rfl, .ip _ _ ((us.drop (n * c)).take c) (by simp; omega) (fun u hu => ho u (List.mem_of_mem_drop (List.mem_of_mem_take hu))) (by rw [e]; exact h1) (by rw [e]; exact h2) (fun j u hj => ?_) fun j x hj u hu => ?_⟩
    · have hj' : j < c := by have := (List.getElem?_eq_some_iff.1 hj).1; simp at this; omega
      rw [List.getElem?_take_of_lt hj', List.getElem?_drop] at hj
      rw [add_add']; exact h3 _ u hj
    · have hj' : j < c := by have := (List.getElem?_eq_some_iff.1 hj).1; omega
      rw [List.getElem?_take_of_lt hj', List.getElem?_drop] at hu
      exact h n row hn j x hj u hu
theorem RepI.rown {c : Nat} {rows : List (List IV)} {v : Value} (h : RepI O w (.sn c rows) v) {n : Nat} {row : List IV} (hn : rows[n]? = some row) : ∃ a cap, v = .slice (some a) rows.length cap ∧ RepI O w (.ip row) (.pointer (some (a.add (n * c)))) := by
  cases h with
  | sn c rows A cap us ha hl ho hr h =>
    have hne : rows ≠ [] := fun e => by rw [e] at hn; simp at hn
    obtain ⟨a, rfl, h1, h2, h3⟩ := ha hne
    have hlt : n < rows.length := (List.getElem?_eq_some_iff.1 hn).1
    have hrl := hr row (List.mem_of_getElem? hn)
    have hcl : (n + 1) * c ≤ rows.length * c := Nat.mul_le_mul_right _ (by omega)
    rw [Nat.succ_mul] at hcl
    have e : (a.add (n * c)).block = a.block := by unfold Addr.add; split <;> rfl
    refine ⟨a, cap, rfl, .ip _ _ ((us.drop (n * c)).take c) (by simp; omega) (fun u hu => ho u (List.mem_of_mem_drop (List.mem_of_mem_take hu))) (by rw [e]; exact h1) (by rw [e]; exact h2) (fun j u hj => ?_) fun j x hj u hu => ?_⟩
    · have hj' : j < c := by have := (List.getElem?_eq_some_iff.1 hj).1; simp at this; omega
      rw [List.getElem?_take_of_lt hj', List.getElem?_drop] at hj
      rw [add_add']; exact h3 _ u hj
    · have hj' : j < c := by have := (List.getElem?_eq_some_iff.1 hj).1; omega
      rw [List.getElem?_take_of_lt hj', List.getElem?_drop] at hu
      exact h n row hn j x hj u hu
theorem run_indexA {t e : TypeId} {T Te : TF} {n : Int} {kd : IntKind} {x r : AT} {v : Value} (hT : tf P t = some T) (he : elemOf? T = some e) (hTe : tf P e = some Te) (hn : 0 ≤ n) (hx : RepT O m w x v) (ho : ∀ b ∈ blkOf x, Own B O m w b (s.hp b)) (h : indexA s T Te x n.toNat = some r) :
    ∃ u, (Instr.indexAt t v (.int kd n)).run P w = .ok u w ∧ RepT O m w r u := by
  have hsz := fun w => run_sizeOf_tf hTe w
  obtain ⟨i, d, z, h1, h2, h3, rfl⟩ := tf_spec hT
  unfold indexA at h
  unfold elemOf? at he
  cases d with
  | slice e' =>
    simp only [kindOf] at h he
    injection he with he
    subst he
    split at h
    · rename_i b o l
      have hob := ho b (by simp [blkOf])
      cases hk : s.hp b with
      | none => rw [hk] at h; simp at h
      | some k =>
        rw [hk] at h hob
        simp only at h
        split at h
        · rename_i hc
          injection h with h
          subst h
          cases hx with
          | c hx _ =>
            cases hx with
            | @os _ _ _ q c cap A hq hle hA =>
              rcases hob with ⟨g1, _⟩ | ⟨q', cap', us, g1, _, _, _, _, _, _, _⟩
              · rw [g1] at hq; cases hq
              · rw [g1] at hq
                injection hq with hq
                injection hq with e1 e2 e3
                subst e1 e2 e3
                have := hA (by omega)
                subst this
                refine ⟨.pointer (some ⟨q', (o + n.toNat) * k.c + 0, none⟩), ?_, .c (.op g1) rfl⟩
                have hlt : n < (l : Int) := by omega
                simp [Instr.indexAt, asIntOf, underlying, h2, hn, hlt, hsz, add_lit', ← hc.1, Nat.add_mul]
            | virt hq => omega
        · cases h
    · rename_i c rows
      split at h
      · rename_i hc
        cases hrow : rows[n.toNat]? with
        | none => rw [hrow] at h; cases h
        | some row =>
          rw [hrow] at h
          simp only [Option.map_some, Option.some.injEq] at h
          subst h
          cases hx with
          | c hx _ =>
            cases hx with
            | im hx =>
              obtain ⟨a, cap, rfl, hr⟩ := RepI.row hx hrow
              refine ⟨_, ?_, .c (.im hr) rfl⟩
              have hlt : n < (rows.length : Int) := by have := (List.getElem?_eq_some_iff.1 hrow).1; omega
              simp [Instr.indexAt, asIntOf, underlying, h2, hn, hlt, hsz, ← hc]
      · cases h
    · rename_i c rows
      split at h
      · rename_i hc
        cases hrow : rows[n.toNat]? with
        | none => rw [hrow] at h; cases h
        | some row =>
          rw [hrow] at h
          simp only [Option.map_some, Option.some.injEq] at h
          subst h
          cases hx with
          | c hx _ =>
            cases hx with
            | im hx =>
              obtain ⟨a, cap, rfl, hr⟩ := RepI.rown hx hrow
              refine ⟨_, ?_, .c (.im hr) rfl⟩
              have hlt : n < (rows.length : Int) := by have := (List.getElem?_eq_some_iff.1 hrow).1; omega
              simp [Instr.indexAt, asIntOf, underlying, h2, hn, hlt, hsz, ← hc]
      · cases h
    · cases h
  | array N e' =>
    simp only [kindOf] at h he
    injection he with he
    subst he
    split at h
    · rename_i hlt
      obtain ⟨a, rfl, hr⟩ := run_addOff hx h
      refine ⟨_, ?_, hr⟩
      have hlt' : n < (N : Int) := by omega
      simp [Instr.indexAt, asIntOf, underlying, h2, Instr.sureAddr, hn, hlt', hsz]
    · cases h
  | _ => simp [kindOf] at he
def partA (T : TF) (k : Nat) (x : AT) : Option AT := match T.kind, x with
  | .st fs, .g xs => match fs[k]? with
    | some (some f) => if f.agg then (if f.off + f.sz ≤ xs.length then some (.g ((xs.drop f.off).take f.sz)) else none) else (xs[f.off]?).map .c
    | _ => none
  | _, _ => none
theorem run_partA {t : TypeId} {T : TF} {k : Nat} {x r : AT} {v : Value} (hT : tf P t = some T) (hx : RepT O m w x v) (h : partA T k x = some r) : ∃ u, (Instr.field t v k).run P w = .ok u w ∧ RepT O m w r u := by
  obtain ⟨i, d, z, h1, h2, h3, rfl⟩ := tf_spec hT
  unfold partA at h
  cases d with
  | struct fs =>
    simp only [kindOf] at h
    cases x with
    | g xs =>
      simp only at h
      rw [List.getElem?_map] at h
      cases hf : fs[k]? with
      | none =>
        have : fs.toList[k]? = none := by simpa using hf
        rw [this] at h; simp at h
      | some f =>
        have hf' : fs.toList[k]? = some f := by simpa using hf
        rw [hf', Option.map_some] at h
        cases hfi : fi P f with
        | none => rw [hfi] at h; simp at h
        | some F =>
          rw [hfi] at h
          unfold fi at hfi
          cases hi : P.info? f.type with
          | none => rw [hi] at hfi; simp at hfi
          | some fi' =>
            cases hu : P.underlying f.type with
            | none => rw [hi, hu] at hfi; simp at hfi
            | some du =>
              rw [hi, hu] at hfi
              simp only [Option.some.injEq] at hfi
              subst hfi
              simp only at h
              cases hx with
              | @g _ us hl ho hh =>
                have hagg : (isAgg f.type).run P w = .ok (isAggD du) w := by
                  simp [isAgg, underlying, hu]
                  cases du <;> rfl
                split at h
                · rename_i hag
                  split at h
                  · rename_i hle
                    injection h with h
                    subst h
                    refine ⟨.agg (us.extract f.offset (f.offset + fi'.size)), ?_, .g ?_ (fun u hu => ho u ?_) fun j y hj u hju => ?_⟩
                    · simp [Instr.field, underlying, h2, hf, asAgg, part, hagg, hag, sizeOf, typeInfo, hi]
                    · simp; omega
                    · rw [Array.mem_iff_getElem?] at hu
                      obtain ⟨j, hj⟩ := hu
                      rw [Array.getElem?_extract] at hj
                      split at hj
                      · exact Array.mem_of_getElem? hj
                      · cases hj
                    · rw [Array.getElem?_extract] at hju
                      have hjs : j < fi'.size := by have := (List.getElem?_eq_some_iff.1 hj).1; simp at this; omega
                      rw [List.getElem?_take_of_lt hjs, List.getElem?_drop] at hj
                      split at hju
                      · exact hh _ y hj u hju
                      · cases hju
                  · cases h
                · rename_i hag
                  cases hy : xs[f.offset]? with
                  | none => rw [hy] at h; cases h
                  | some y =>
                    rw [hy] at h
                    simp only [Option.map_some, Option.some.injEq] at h
                    subst h
                    have hlt : f.offset < us.size := by rw [hl]; exact (List.getElem?_eq_some_iff.1 hy).1
                    have hu' := Array.getElem?_eq_getElem hlt
                    refine ⟨us[f.offset], ?_, .c (hh _ y hy _ hu') (ho _ (Array.getElem_mem hlt))⟩
                    simp [Instr.field, underlying, h2, hf, asAgg, part, hagg, hag, hu']
    | _ => simp at h
  | _ => simp [kindOf] at h
def lenA : AT → Option Nat
  | .c (.os _ _ n) => some n
  | .c (.im (.sl _ rows)) => some rows.length
  | .c (.im (.sn _ rows)) => some rows.length
  | .c (.im (.v (.slice _ n _))) => some n
  | .c (.im (.v (.string s))) => some s.size
  | _ => none
def lenOk (T : TF) : AT → Bool
  | .c (.im (.v (.string _))) => match T.kind with
    | .str => true
    | _ => false
  | _ => match T.kind with
    | .sl _ => true
    | _ => false
theorem rep_len {x : AT} {v : Value} {n : Nat} (hx : RepT O m w x v) (h : lenA x = some n) : (∃ A cap, v = .slice A n cap ∧ ∀ T, lenOk T x = match T.kind with | .sl _ => true | _ => false) ∨ (∃ s, v = .string s ∧ s.size = n ∧ ∀ T, lenOk T x = match T.kind with | .str => true | _ => false) := by
  unfold lenA at h
  split at h
  · injection h with h
    subst h
    cases hx with
    | c hx _ =>
      cases hx with
      | os h1 h2 h3 => exact .inl ⟨_, _, rfl, fun _ => rfl⟩
      | virt h => exact .inl ⟨_, _, rfl, fun _ => rfl⟩
  · injection h with h
    subst h
    cases hx with
    | c hx _ => cases hx with | im hx => cases hx with | sl c rows A cap us => exact .inl ⟨_, _, rfl, fun _ => rfl⟩
  · injection h with h
    subst h
    cases hx with
    | c hx _ => cases hx with | im hx => cases hx with | sn c rows A cap us => exact .inl ⟨_, _, rfl, fun _ => rfl⟩
  · injection h with h
    subst h
    rw [rep_v hx]; exact .inl ⟨_, _, rfl, fun _ => rfl⟩
  · injection h with h
    subst h
    rw [rep_v hx]; exact .inr ⟨_, rfl, rfl, fun _ => rfl⟩
  · cases h
def binA (op : BinOp) (x y : Value) : Option Value := match op, x, y with
  | .add, .int k a, .int k' b => if k = k' then some (.int k (k.wrap (a + b))) else none
  | .sub, .int k a, .int k' b => if k = k' then some (.int k (k.wrap (a - b))) else none
  | .mul, .int k a, .int k' b => if k = k' then some (.int k (k.wrap (a * b))) else none
  | .quo, .int k a, .int k' b => if k = k' ∧ b ≠ 0 then some (.int k (k.wrap (a.tdiv b))) else none
  | .rem, .int k a, .int k' b => if k = k' ∧ b ≠ 0 then some (.int k (a.tmod b)) else none
  | .eql, .int k a, .int k' b => if k = k' then some (.bool (decide (a = b))) else none
  | .neq, .int k a, .int k' b => if k = k' then some (.bool (decide (a ≠ b))) else none
  | .lss, .int k a, .int k' b => if k = k' then some (.bool (decide (a < b))) else none
  | .leq, .int k a, .int k' b => if k = k' then some (.bool (decide (a ≤ b))) else none
  | .gtr, .int k a, .int k' b => if k = k' then some (.bool (decide (b < a))) else none
  | .geq, .int k a, .int k' b => if k = k' then some (.bool (decide (b ≤ a))) else none
  | .eql, .string a, .string b => some (.bool (a.toList == b.toList))
  | .neq, .string a, .string b => some (.bool !(a.toList == b.toList))
  | .add, .string a, .string b => if a.size + b.size ≤ 9223372036854775807 then some (.string (a ++ b)) else none
  | _, _, _ => none
theorem dec_bne (a b : Int) : (a != b) = decide (a ≠ b) := by
  by_cases h : a = b
  · subst h; simp
  · simp [h, bne_iff_ne]
theorem run_binA {op : BinOp} {x y r : Value} {t : TypeId} {xo yo : Operand} (h : binA op x y = some r) : (do eqGuard op t xo yo x y; binOp op t x y).run P w = .ok r w := by
  unfold binA at h
  split at h
  all_goals first
    | (cases h; done)
    | skip
  all_goals first
    | (injection h with h; subst h; simp [eqGuard, binOp, Op.stringOp]; done)
    | skip
  all_goals
    split at h
    · rename_i hc
      injection h with h
      subst h
      first
        | (subst hc; simp [eqGuard, binOp, Op.intArith, Op.intCmp, dec_bne]; done)
        | (subst hc; simp [eqGuard, binOp, Op.intArith, Op.intCmp]; rfl)
        | (obtain ⟨rfl, hb⟩ := hc; simp [eqGuard, binOp, Op.intDiv, hb]; done)
        | (have hc' : ¬ ((IntKind.i64.max : Int) < (x.1 : Int)) := by omega
           simp; done)
        | (simp [eqGuard, binOp, Op.stringOp, IntKind.max, IntKind.signed, IntKind.bits]; omega)
    · cases h
end
end Go.Proofs.YtedkfipjooafeaaGreatDoor.Ab
set_option linter.unusedSimpArgs false
set_option linter.unusedVariables false
namespace Go.Proofs.YtedkfipjooafeaaGreatDoor.Ab
open Go Go.RowKit

section
variable {P : Program} {B : Nat} {ops : List Oper} {o : Oper} {s : St} {O : Nat → Prop} {m : Nat → Option Loc} {w : World}
def RepL (O : Nat → Prop) (m : Nat → Option Loc) (w : World) (us : List Value) (xs : List AV) : Prop := us.length = xs.length ∧ (∀ u ∈ us, isOne u = true) ∧ ∀ (j : Nat) x, xs[j]? = some x → ∀ u, us[j]? = some u → RepA O m w x u
def cellsA : AT → Option (List AV)
  | .c x => some [x]
  | .g xs => some xs
  | _ => none
theorem cells_one {v : Value} (h : isOne v = true) : v.cells = #[v] := by cases v <;> first | rfl | cases h
theorem rep_cells {x : AT} {v : Value} {l : List AV} (hx : RepT O m w x v) (h : cellsA x = some l) : RepL O m w v.cells.toList l := by
  cases x with
  | c y =>
    injection h with h
    subst h
    cases hx with
    | c hx hv =>
      rw [cells_one hv]
      refine ⟨rfl, fun u hu => ?_, fun j x hj u hu => ?_⟩
      · simp only [List.mem_singleton] at hu; rw [hu]; exact hv
      · cases j with
        | zero => simp only [List.getElem?_cons_zero, Option.some.injEq] at hj hu; subst hj hu; exact hx
        | succ j => simp at hj
  | g xs =>
    injection h with h
    subst h
    cases hx with
    | g hl ho hh => exact ⟨by simpa [Value.cells] using hl, fun u hu => ho u (by simpa [Value.cells] using hu), fun j x hj u hu => hh j x hj u (by simpa [Value.cells] using hu)⟩
  | _ => cases h
def splice {α : Type} (cells : List α) (off : Nat) (l : List α) : List α := cells.take off ++ l ++ cells.drop (off + l.length)
theorem splice_get {α : Type} {cells : List α} {off : Nat} {l : List α} (h : off + l.length ≤ cells.length) (i : Nat) : (splice cells off l)[i]? = if i < off then cells[i]? else if i < off + l.length then l[i - off]? else cells[i]? := by
  unfold splice
  have h1 : (cells.take off).length = off := by simp; omega
  by_cases hi : i < off
  · rw [if_pos hi, List.append_assoc, List.getElem?_append_left (by omega), List.getElem?_take_of_lt hi]
  · rw [if_neg hi]
    by_cases hj : i < off + l.length
    · rw [if_pos hj, List.getElem?_append_left (by rw [List.length_append, h1]; exact hj), List.getElem?_append_right (by omega), h1]
    · rw [if_neg hj, List.getElem?_append_right (by rw [List.length_append, h1]; omega), List.length_append, h1, List.getElem?_drop]
      congr 1; omega
theorem splice_len {α : Type} {cells : List α} {off : Nat} {l : List α} (h : off + l.length ≤ cells.length) : (splice cells off l).length = cells.length := by
  unfold splice; simp; omega
theorem RepL.splice {us vs : List Value} {xs ys : List AV} {off : Nat} (h1 : RepL O m w us xs) (h2 : RepL O m w vs ys) (hl : off + ys.length ≤ xs.length) : RepL O m w (splice us off vs) (splice xs off ys) := by
  have hl' : off + vs.length ≤ us.length := by rw [h2.1, h1.1]; exact hl
  refine ⟨by rw [splice_len hl', splice_len hl, h1.1], fun u hu => ?_, fun j x hj u hu => ?_⟩
  · unfold Ab.splice at hu
    simp only [List.mem_append] at hu
    rcases hu with (hu | hu) | hu
    · exact h1.2.1 u (List.mem_of_mem_take hu)
    · exact h2.2.1 u hu
    · exact h1.2.1 u (List.mem_of_mem_drop hu)
  · rw [splice_get hl] at hj
    rw [splice_get hl', h2.1] at hu
    split at hj
    · rename_i h; rw [if_pos h] at hu; exact h1.2.2 _ x hj u hu
    · rename_i h
      rw [if_neg h] at hu
      split at hj
      · rename_i h'; rw [if_pos h'] at hu; exact h2.2.2 _ x hj u hu
      · rename_i h'; rw [if_neg h'] at hu; exact h1.2.2 _ x hj u hu
def fillA (place : Nat → Option (Nat × Nat)) : List AV → List (Nat × AT) → Option (List AV)
  | cells, [] => some cells
  | cells, (i, x) :: rest => match place i, cellsA x with
    | some (off, sz), some l => if l.length = sz ∧ off + l.length ≤ cells.length then fillA place (splice cells off l) rest else none
    | _, _ => none
theorem foldl_set (off : Nat) : ∀ (l : List Value) (k : Nat) (cs : Array Value), off + k + l.length ≤ cs.size → ((l.zipIdx k).foldl (fun cs (x : Value × Nat) => cs.setIfInBounds (off + x.2) x.1) cs).toList = Ab.splice cs.toList (off + k) l
  | [], k, cs, _ => by simp [splice]
  | v :: l, k, cs, h => by
    rw [List.length_cons] at h
    rw [List.zipIdx_cons, List.foldl_cons, foldl_set off l (k + 1) _ (by simp; omega)]
    have := list_seg_step cs.toList (off + k) v l (by simp; omega)
    unfold splice
    rw [Array.toList_setIfInBounds, List.length_cons]
    rw [show off + (k + 1) = off + k + 1 by omega]
    exact this
theorem fill_rep {place : Nat → Option (Nat × Nat)} : ∀ (ps : List (Nat × Value)) (xs : List (Nat × AT)) (us : Array Value) (cs cs' : List AV), ps.length = xs.length → (∀ (j : Nat) p x, ps[j]? = some p → xs[j]? = some x → p.1 = x.1 ∧ RepT O m w x.2 p.2) → RepL O m w us.toList cs → fillA place cs xs = some cs' →
    ∃ us', Instr.fill place us ps = some us' ∧ RepL O m w us'.toList cs'
  | [], [], us, cs, cs', _, _, h, hf => by
    simp only [fillA, Option.some.injEq] at hf
    subst hf
    exact ⟨us, rfl, h⟩
  | [], _ :: _, _, _, _, h, _, _, _ => by simp at h
  | _ :: _, [], _, _, _, h, _, _, _ => by simp at h
  | (i, v) :: ps, (i', x) :: xs, us, cs, cs', hl, hp, h, hf => by
    obtain ⟨hi, hx⟩ := hp 0 (i, v) (i', x) rfl rfl
    simp only at hi
    subst hi
    simp only [fillA] at hf
    cases hpl : place i with
    | none => rw [hpl] at hf; simp at hf
    | some os =>
      obtain ⟨off, sz⟩ := os
      cases hc : cellsA x with
      | none => rw [hpl, hc] at hf; simp at hf
      | some l =>
        rw [hpl, hc] at hf
        simp only at hf
        split at hf
        · rename_i hcond
          have hrv := rep_cells hx hc
          have hvl : v.cells.size = l.length := by have := hrv.1; simpa using this
          have hul : us.size = cs.length := by have := h.1; simpa using this
          have e : (v.cells.zipIdx.foldl (fun cs (x : Value × Nat) => cs.setIfInBounds (off + x.2) x.1) us).toList = Ab.splice us.toList off v.cells.toList := by
            rw [← Array.foldl_toList, Array.toList_zipIdx]
            have := foldl_set off v.cells.toList 0 us (by simp; omega)
            rwa [Nat.add_zero] at this
          have hr := RepL.splice h hrv hcond.2
          rw [← e] at hr
          obtain ⟨us', h1, h2⟩ := fill_rep ps xs _ _ cs' (by simpa using hl) (fun j p y hj hy => hp (j + 1) p y (by simpa using hj) (by simpa using hy)) hr hf
          refine ⟨us', ?_, h2⟩
          rw [Instr.fill, hpl]
          simp only
          rw [if_neg (by simp; omega)]
          exact h1
        · cases hf

def St.new (s : St) (d : Option Tmp) (r : AT) (k : Blk) : St := ⟨(s.put d r).tmps, s.heap ++ [some k]⟩
theorem new_hp (s : St) (d : Option Tmp) (r : AT) (k : Blk) : (s.new d r k).hp s.heap.length = some k := by simp [St.new, St.hp]
theorem new_hp_ne {s : St} {d : Option Tmp} {r : AT} {k : Blk} {b : Nat} (h : b ≠ s.heap.length) : (s.new d r k).hp b = s.hp b := by
  unfold St.new St.hp
  by_cases hb : b < s.heap.length
  · simp [List.getElem?_append_left hb]
  · simp [List.getElem?_eq_none (show s.heap.length ≤ b by omega), List.getElem?_eq_none (show (s.heap ++ [some k]).length ≤ b by simp; omega)]
def updL (m : Nat → Option Loc) (n : Nat) (l : Loc) : Nat → Option Loc := fun b => if b = n then some l else m b
theorem step_alloc {n cap c : Nat} (ob : Obj) (hn : m n = none) (hO : ∀ k, O k → k < w.heap.size) : Step O (fun q => O q ∨ q = w.heap.size) m (updL m n (.at_ w.heap.size c cap)) w (w.alloc ob) :=
  ⟨rfl, rfl, rfl, by simp, fun k hk _ => Below.heap_alloc w ob k hk, fun k h => .inl h, fun k h => h.elim .inl (fun e => .inr (by omega)), fun b hb => by
    unfold updL
    rw [if_neg (fun e => hb (by rw [e]; exact hn))]⟩
theorem sem_new {rd : List Nat} {k : Blk} {r : AT} {cap : Nat} {mk : World → Value} (hw : wantA ops s o = some true) (hd : ∀ d, o.dst = some d → d < s.tmps.length) (hc : 0 < k.c) (hcap : cap ≤ maxLen) (hlen : k.rows.length ≤ cap) (hwh : k.whole = true → k.rows.length = cap) (hrow : ∀ row ∈ k.rows, row.length = k.c)
    (hr : ∀ O m w, m s.heap.length = some (.at_ w.heap.size k.c cap) → RepT O m (w.alloc (.cells #[] 0)) r (mk w) ∧ ∀ w', RepT O m w' r (mk w))
    (h : ∀ (O : Nat → Prop) (m : Nat → Option Loc) (w : World) (a : Act), View B O m w s.hp rd → (∀ x ∈ o.op.operands, RepT O m w (s.ev x) (a.eval x)) → ∃ us : Array Value, (execOp a.eval o).run P w = .ok (.value (mk w)) (w.alloc (.cells us k.ty)) ∧ us.size = cap * k.c ∧ (∀ u ∈ us, isOne u = true) ∧
      ∀ (i : Nat) row, k.rows[i]? = some row → ∀ (j : Nat) x, row[j]? = some x → ∀ u, us[i * k.c + j]? = some u → RepA O m w x u) :
    OpSem P B ops o s ⟨rd, [], [s.heap.length]⟩ (s.new o.dst r k) := by
  refine ⟨⟨put_len .., fun t ht => put_tmp_ne ht, fun b _ hb => new_hp_ne (by simpa using hb), fun b hb => (by cases hb), fun b hb => ?_, by simp [St.new]⟩, ?_⟩
  · simp only [List.mem_singleton] at hb
    subst hb
    simp [St.new]
  intro O m w a K Q hv hl hn hs hK
  unfold wpO
  rw [want_spec hw hl, if_pos rfl]
  obtain ⟨us, h1, h2, h3, h4⟩ := h O m w a (by simpa using hv) fun x hx => ev_looks hl hx
  unfold Oper.wp
  rw [h1, Oper.upon_value]
  have hnn := hn s.heap.length (by simp)
  have hst := step_alloc (cap := cap) (c := k.c) (.cells us k.ty) hnn hv.lt
  have hloc : updL m s.heap.length (.at_ w.heap.size k.c cap) s.heap.length = some (.at_ w.heap.size k.c cap) := by simp [updL]
  refine hK (mk w) _ _ (w.alloc (.cells us k.ty)) ⟨hst, fun q hq => ?_, fun q hq _ => Below.heap_alloc w _ q hq, fun b hb => ?_, fun b hb => ?_, fun b hb _ q c' cap' hq => ?_, fun b hb b' hb' _ _ => ?_⟩ fun d hd' => ?_
  · simp only [World.size_alloc]
    rcases hq with hq | hq
    · have := hv.lt q hq; omega
    · omega
  · unfold updL at hb
    by_cases e : b = s.heap.length
    · exact .inr (by simp [e])
    · rw [if_neg e] at hb; exact .inl hb
  · have hb' : b = s.heap.length := by simpa using hb
    subst hb'
    rw [new_hp]
    refine .inr ⟨w.heap.size, cap, us, hloc, .inr rfl, hv.base, hc, (by show (w.heap.push _)[w.heap.size]? = _; simp), h2, hlen, hcap, hwh, hrow, h3, fun i row hi j x hj u hu => (h4 i row hi j x hj u hu).step hst⟩
  · have hb' : b = s.heap.length := by simpa using hb
    subst hb'
    rw [hloc] at hq
    injection hq with hq
    injection hq with e1 e2 e3
    exact .inl (by omega)
  · have e1 : b = s.heap.length := by simpa using hb
    have e2 : b' = s.heap.length := by simpa using hb'
    subst e1 e2
    exact fun q c cap c' cap' _ _ => rfl
  · rw [hd']
    exact rep_put ((hr _ _ w hloc).2 _) fun hlt => absurd (hd d hd') hlt

def St.upd (s : St) (b : Nat) (k : Blk) : St := ⟨s.tmps, s.heap.set b (some k)⟩
theorem upd_hp {s : St} {b : Nat} {k : Blk} (h : s.hp b ≠ none) : (s.upd b k).hp b = some k := by
  have hlt : b < s.heap.length := Nat.lt_of_not_le fun hle => h (hp_out hle)
  simp [St.upd, St.hp, hlt]
theorem upd_hp_ne {s : St} {b b' : Nat} {k : Blk} (h : b' ≠ b) : (s.upd b k).hp b' = s.hp b' := by
  have : b ≠ b' := fun e => h e.symm
  simp [St.upd, St.hp, List.getElem?_set, this]
def storeA (s : St) (x : AT) (l : List AV) : Option (Nat × Blk) := match x with
  | .c (.op b i j) => match s.hp b with
    | some k => match k.rows[i]? with
      | some row => if j + l.length ≤ row.length then some (b, { k with rows := k.rows.set i (splice row j l) }) else none
      | none => none
    | none => none
  | _ => none
theorem heap_setRow {w : World} {g : Nat} {cs cs' : Array Value} {t : TypeId} {fr : Nat × Nat} (h : w.heap[g]? = some (.cells cs t fr)) : (w.setRow g cs').heap[g]? = some (.cells cs' t fr) := setRow_heap w g cs cs' t fr h
theorem one_one {v : Value} (h : isOne v = true) : v.oneCell' = true := by cases v <;> first | rfl | cases h
theorem sem_store {t : TypeId} {T : TF} {xa xv : Operand} {l : List AV} {b : Nat} {k' : Blk} (ho : o.op = .store t xa xv) (hd : o.dst = none) (hw : wantA ops s o = some true) (hT : tf P t = some T) (hc : cellsA (s.ev xv) = some l) (hlen : l.length = T.sz) (hst : storeA s (s.ev xa) l = some (b, k')) :
    OpSem P B ops o s ⟨[], [b], []⟩ (s.upd b k') := by
  unfold storeA at hst
  split at hst
  · rename_i b0 i j hxa
    cases hk : s.hp b0 with
    | none => rw [hk] at hst; cases hst
    | some k =>
      rw [hk] at hst
      simp only at hst
      cases hrow : k.rows[i]? with
      | none => rw [hrow] at hst; cases hst
      | some row =>
        rw [hrow] at hst
        simp only at hst
        split at hst
        · rename_i hjl
          injection hst with hst
          injection hst with e1 e2
          subst e1 e2
          have hne : s.hp b0 ≠ none := by rw [hk]; simp
          refine ⟨⟨rfl, fun t ht => rfl, fun b hb _ => upd_hp_ne (by simpa using hb), fun b hb => ?_, fun b hb => (by cases hb), by simp [St.upd]⟩, ?_⟩
          · simp only [List.mem_singleton] at hb; rw [hb]; exact hne
          intro O m w a K Q hv hl hn hs hK
          unfold wpO
          rw [want_spec hw hl, if_pos rfl]
          have hxr := ev_looks (x := xa) hl (by rw [ho]; simp [Op.operands])
          have hvr := ev_looks (x := xv) hl (by rw [ho]; simp [Op.operands])
          have hvc := rep_cells hvr hc
          rw [hxa] at hxr
          obtain ⟨q, c, cap, hq, hae⟩ := rep_op hxr
          have hob := hv.own b0 (by simp)
          rw [hk] at hob
          rcases hob with ⟨g1, _⟩ | ⟨q', cap', us, g1, g2, g3, g4, g5, g6, g7, g7', g8, g9, g9', g10⟩
          · rw [g1] at hq; cases hq
          rw [g1] at hq
          injection hq with hq
          injection hq with e1 e2 e3
          subst e1 e2 e3
          have hil : i < k.rows.length := (List.getElem?_eq_some_iff.1 hrow).1
          have hrl := g9 row (List.mem_of_getElem? hrow)
          have hcc : (i + 1) * k.c ≤ cap' * k.c := Nat.mul_le_mul_right _ (by omega)
          rw [Nat.succ_mul] at hcc
          have hvl : (a.eval xv).cells.toList.length = l.length := hvc.1
          have hfit : i * k.c + j + 0 + (a.eval xv).cells.toList.length ≤ us.size := by omega
          have hstore := run_storeCells_at P q' (i * k.c + j) k.ty (a.eval xv).cells.toList 0 us w g5 hfit (fun u hu => one_one (hvc.2.1 u hu))
          rw [Nat.add_zero] at hstore
          have hsz := run_sizeOf_tf hT w
          have hrun : (execOp a.eval o).run P w = .ok .skip (w.setRow q' (us.toList.take (i * k.c + j) ++ (a.eval xv).cells.toList ++ us.toList.drop (i * k.c + j + (a.eval xv).cells.toList.length)).toArray) := by
            have hszv : (a.eval xv).cells.size = T.sz := by rw [← hlen, ← hvl]; simp
            simp only [execOp, ho, hae, Instr.storeAt, Instr.sureAddr, storeVar, Sem.run_bind, Sem.run_pure, Result.andThen_ok, hsz, hszv, ne_eq, not_true_eq_false, if_false, hstore]
          unfold Oper.wp
          rw [hrun, Oper.upon_skip]
          have hst' : Step O O m m w (w.setRow q' (us.toList.take (i * k.c + j) ++ (a.eval xv).cells.toList ++ us.toList.drop (i * k.c + j + (a.eval xv).cells.toList.length)).toArray) :=
            ⟨rfl, rfl, rfl, by simp, fun z hz hzO => setRow_other w q' z _ (fun e => hzO (by rw [e]; exact g2)), fun z hz => hz, fun z hz => .inl hz, fun z hz => rfl⟩
          refine hK undef O m _ ⟨hst', fun z hz => by rw [size_setRow]; exact hv.lt z hz, fun z hz hnot => setRow_other w q' z _ (fun e => hnot b0 (by simp) k.c cap' (by rw [e]; exact g1)), fun z hz => .inl hz, fun z hz => ?_, fun z hz => (by cases hz), fun z hz => (by cases hz)⟩ fun d hd' => ?_
          · have hz' : z = b0 := by simpa using hz
            subst hz'
            rw [upd_hp hne]
            have hus : us.toList.take (i * k.c + j) ++ (a.eval xv).cells.toList ++ us.toList.drop (i * k.c + j + (a.eval xv).cells.toList.length) = Ab.splice us.toList (i * k.c + j) (a.eval xv).cells.toList := rfl
            have hfit' : i * k.c + j + (a.eval xv).cells.toList.length ≤ us.toList.length := by simp only [Array.length_toList]; omega
            refine .inr ⟨q', cap', (Ab.splice us.toList (i * k.c + j) (a.eval xv).cells.toList).toArray, g1, g2, g3, g4, by rw [hus]; exact heap_setRow g5, ?_, ?_, g7', ?_, fun r hr => ?_, fun u hu => ?_, fun i' r hi' j' x hj' u hu => ?_⟩
            · simp [splice_len hfit', g6]
            · simp only [List.length_set]; exact g7
            · simp only [List.length_set]; exact g8
            · rcases List.mem_or_eq_of_mem_set hr with h | h
              · exact g9 r h
              · rw [h]
                show (Ab.splice row j l).length = k.c
                rw [splice_len hjl]; exact hrl
            · rw [List.mem_toArray] at hu
              unfold Ab.splice at hu
              simp only [List.mem_append] at hu
              rcases hu with (hu | hu) | hu
              · exact g9' u (by simpa using List.mem_of_mem_take hu)
              · exact hvc.2.1 u hu
              · exact g9' u (by simpa using List.mem_of_mem_drop hu)
            · have hu' : (Ab.splice us.toList (i * k.c + j) (a.eval xv).cells.toList)[i' * k.c + j']? = some u := by simpa using hu
              rw [splice_get hfit', hvl] at hu'
              have hi'' : (k.rows.set i (Ab.splice row j l))[i']? = some r := hi'
              rw [List.getElem?_set] at hi''
              by_cases e : i = i'
              · subst e
                rw [if_pos rfl, if_pos hil] at hi''
                injection hi'' with hi''
                subst hi''
                rw [splice_get hjl] at hj'
                by_cases h1 : j' < j
                · rw [if_pos h1] at hj'
                  rw [if_pos (by omega)] at hu'
                  exact (g10 i row hrow j' x hj' u (by simpa using hu')).step hst'
                · rw [if_neg h1] at hj'
                  rw [if_neg (by omega)] at hu'
                  by_cases h2 : j' < j + l.length
                  · rw [if_pos h2] at hj'
                    rw [if_pos (by omega), show i * k.c + j' - (i * k.c + j) = j' - j by omega] at hu'
                    exact (hvc.2.2 (j' - j) x hj' u hu').step hst'
                  · rw [if_neg h2] at hj'
                    rw [if_neg (by omega)] at hu'
                    exact (g10 i row hrow j' x hj' u (by simpa using hu')).step hst'
              · rw [if_neg e] at hi''
                have hjc : j' < k.c := by have := (List.getElem?_eq_some_iff.1 hj').1; rw [g9 r (List.mem_of_getElem? hi'')] at this; exact this
                have hout : i' * k.c + j' < i * k.c + j ∨ ¬ i' * k.c + j' < i * k.c + j + l.length := by
                  rcases Nat.lt_or_gt_of_ne e with h | h
                  · right
                    have : (i + 1) * k.c ≤ i' * k.c := Nat.mul_le_mul_right _ h
                    rw [Nat.succ_mul] at this
                    omega
                  · left
                    have : (i' + 1) * k.c ≤ i * k.c := Nat.mul_le_mul_right _ h
                    rw [Nat.succ_mul] at this
                    omega
                have hu2 : us.toList[i' * k.c + j']? = some u := by
                  rcases hout with h | h
                  · rwa [if_pos h] at hu'
                  · by_cases h3 : i' * k.c + j' < i * k.c + j
                    · rwa [if_pos h3] at hu'
                    · rwa [if_neg h3, if_neg h] at hu'
                exact (g10 i' r hi'' j' x hj' u (by simpa using hu2)).step hst'
          · rw [hd] at hd'; cases hd'
        · cases hst
  · cases hst
end
end Go.Proofs.YtedkfipjooafeaaGreatDoor.Ab
set_option linter.unusedSimpArgs false
set_option linter.unusedVariables false
namespace Go.Proofs.YtedkfipjooafeaaGreatDoor.Ab
open Go Go.RowKit

section
variable {P : Program} {B : Nat} {ops : List Oper} {o : Oper} {s : St} {O : Nat → Prop} {m : Nat → Option Loc} {w : World}
def rowsA (s : St) (c : Nat) : AT → Option (List (List AV))
  | .c (.os b o n) => match s.hp b with
    | some k => if k.c = c ∧ o + n ≤ k.rows.length then some ((k.rows.drop o).take n) else none
    | none => none
  | .c (.im (.sl c' rows)) => if c' = c then some (rows.map (·.map .im)) else none
  | .c (.im (.v (.slice none 0 0))) => some []
  | _ => none
def RepR (O : Nat → Prop) (m : Nat → Option Loc) (w : World) (c : Nat) (us : List Value) (rows : List (List AV)) : Prop :=
  us.length = rows.length * c ∧ (∀ u ∈ us, isOne u = true) ∧ (∀ row ∈ rows, row.length = c) ∧ ∀ (i : Nat) row, rows[i]? = some row → ∀ (j : Nat) x, row[j]? = some x → ∀ u, us[i * c + j]? = some u → RepA O m w x u
theorem RepR.nil {c : Nat} : RepR O m w c [] [] := ⟨by simp, fun u hu => (by cases hu), fun r hr => (by cases hr), fun i row hi => by simp at hi⟩
theorem RepR.append {c : Nat} {us vs : List Value} {r1 r2 : List (List AV)} (h1 : RepR O m w c us r1) (h2 : RepR O m w c vs r2) : RepR O m w c (us ++ vs) (r1 ++ r2) := by
  refine ⟨by rw [List.length_append, List.length_append, h1.1, h2.1, Nat.add_mul], fun u hu => ?_, fun row hr => ?_, fun i row hi j x hj u hu => ?_⟩
  · rcases List.mem_append.1 hu with h | h
    · exact h1.2.1 u h
    · exact h2.2.1 u h
  · rcases List.mem_append.1 hr with h | h
    · exact h1.2.2.1 row h
    · exact h2.2.2.1 row h
  · by_cases hlt : i < r1.length
    · rw [List.getElem?_append_left hlt] at hi
      have hjc : j < c := by have := (List.getElem?_eq_some_iff.1 hj).1; rw [h1.2.2.1 row (List.mem_of_getElem? hi)] at this; exact this
      have : (i + 1) * c ≤ r1.length * c := Nat.mul_le_mul_right _ hlt
      rw [Nat.succ_mul] at this
      rw [List.getElem?_append_left (by rw [h1.1]; omega)] at hu
      exact h1.2.2.2 i row hi j x hj u hu
    · rw [List.getElem?_append_right (by omega)] at hi
      have : r1.length * c ≤ i * c := Nat.mul_le_mul_right _ (by omega)
      rw [List.getElem?_append_right (by rw [h1.1]; omega), h1.1] at hu
      refine h2.2.2.2 (i - r1.length) row hi j x hj u ?_
      rw [Nat.sub_mul]
      rwa [show i * c - r1.length * c + j = i * c + j - r1.length * c by omega]
theorem RepR.step {O' : Nat → Prop} {m' : Nat → Option Loc} {w' : World} {c : Nat} {us : List Value} {rows : List (List AV)} (h : RepR O m w c us rows) (hs : Step O O' m m' w w') : RepR O' m' w' c us rows :=
  ⟨h.1, h.2.1, h.2.2.1, fun i row hi j x hj u hu => (h.2.2.2 i row hi j x hj u hu).step hs⟩
theorem own_rows {b q c cap : Nat} {k : Blk} (ho : Own B O m w b (some k)) (hq : m b = some (.at_ q c cap)) (o n : Nat) (hn : o + n ≤ k.rows.length) : ∃ us : Array Value, c = k.c ∧ w.heap[q]? = some (.cells us k.ty (0, 0)) ∧ us.size = cap * k.c ∧ k.rows.length ≤ cap ∧ cap ≤ maxLen ∧ O q ∧ B ≤ q ∧ 0 < k.c ∧ RepR O m w k.c ((us.toList.drop (o * k.c)).take (n * k.c)) ((k.rows.drop o).take n) := by
  rcases ho with ⟨h1, _⟩ | ⟨q', cap', us, h1, h2, h3, h4, h5, h6, h7, h7', h8, h9, h9', h10⟩
  · rw [h1] at hq; cases hq
  · rw [h1] at hq
    injection hq with hq
    injection hq with e1 e2 e3
    subst e1 e2 e3
    have hm1 : (o + n) * k.c ≤ cap' * k.c := Nat.mul_le_mul_right _ (by omega)
    rw [Nat.add_mul] at hm1
    have hl1 : ((k.rows.drop o).take n).length = n := by simp; omega
    refine ⟨us, rfl, h5, h6, h7, h7', h2, h3, h4, ?_, fun u hu => h9' u (by simpa using List.mem_of_mem_drop (List.mem_of_mem_take hu)), fun row hr => h9 row (List.mem_of_mem_drop (List.mem_of_mem_take hr)), fun i row hi j x hj u hu => ?_⟩
    · rw [hl1]; simp; omega
    · have hin : i < n := by have := (List.getElem?_eq_some_iff.1 hi).1; omega
      rw [List.getElem?_take_of_lt hin, List.getElem?_drop] at hi
      have hjc : j < k.c := by have := (List.getElem?_eq_some_iff.1 hj).1; rw [h9 row (List.mem_of_getElem? hi)] at this; exact this
      have hm2 : (i + 1) * k.c ≤ n * k.c := Nat.mul_le_mul_right _ hin
      rw [Nat.succ_mul] at hm2
      rw [List.getElem?_take_of_lt (by omega), List.getElem?_drop, Array.getElem?_toList] at hu
      refine h10 (o + i) row hi j x hj u ?_
      rw [Nat.add_mul]
      rwa [Nat.add_assoc]
theorem rep_rows {c : Nat} {x : AT} {v : Value} {rows : List (List AV)} (hx : RepT O m w x v) (ho : ∀ b ∈ blkOf x, Own B O m w b (s.hp b)) (h : rowsA s c x = some rows) :
    ∃ A cap, v = .slice A rows.length cap ∧ (rows = [] ∨ ∃ a us, A = some a ∧ RepR O m w c us rows ∧ ∀ (j : Nat) u, us[j]? = some u → w.cell? (a.add j) = some u) := by
  unfold rowsA at h
  split at h
  · rename_i b o' n
    have hob := ho b (by simp [blkOf])
    cases hk : s.hp b with
    | none => rw [hk] at h; simp at h
    | some k =>
      rw [hk] at h hob
      simp only at h
      split at h
      · rename_i hc
        injection h with h
        subst h
        have hl1 : ((k.rows.drop o').take n).length = n := by simp; omega
        cases hx with
        | c hx _ =>
          cases hx with
          | @os _ _ _ q c' cap A hq hle hA =>
            refine ⟨A, cap - o', by rw [hl1], ?_⟩
            by_cases hn : n = 0
            · left; rw [hn]; simp
            · right
              obtain ⟨us, e1, e2, e3, e4, e5, e6, e7, e8, e9⟩ := own_rows hob hq o' n hc.2
              subst e1
              refine ⟨_, _, hA (by omega), by rw [← hc.1]; exact e9, fun j u hj => ?_⟩
              have hjl : j < n * k.c := by have := (List.getElem?_eq_some_iff.1 hj).1; simp at this; omega
              rw [List.getElem?_take_of_lt hjl, List.getElem?_drop, Array.getElem?_toList] at hj
              rw [add_lit']
              simp [World.cell?, e2, hj]
          | virt hq => exact ⟨_, 0, by rw [hl1], .inl (by simp)⟩
      · cases h
  · rename_i c' rows'
    split at h
    · rename_i hc
      subst hc
      injection h with h
      subst h
      cases hx with
      | c hx _ =>
        cases hx with
        | im hx =>
          cases hx with
          | sl c rows A cap us ha hl ho hr hc h =>
            refine ⟨A, cap, by simp, ?_⟩
            by_cases hne : rows' = []
            · left; rw [hne]; rfl
            · right
              obtain ⟨a, e, h1, h2, h3⟩ := ha hne
              refine ⟨a, us, e, ⟨by rw [List.length_map]; exact hl, ho, fun row hrow => ?_, fun i row hi j x hj u hu => ?_⟩, h3⟩
              · obtain ⟨r, hr1, rfl⟩ := List.mem_map.1 hrow
                rw [List.length_map]; exact hr r hr1
              · rw [List.getElem?_map] at hi
                cases hri : rows'[i]? with
                | none => rw [hri] at hi; cases hi
                | some r =>
                  rw [hri] at hi
                  simp only [Option.map_some, Option.some.injEq] at hi
                  subst hi
                  rw [List.getElem?_map] at hj
                  cases hrj : r[j]? with
                  | none => rw [hrj] at hj; cases hj
                  | some y =>
                    rw [hrj] at hj
                    simp only [Option.map_some, Option.some.injEq] at hj
                    subst hj
                    exact .im (h i r hri j y hrj u hu)
    · cases h
  · injection h with h
    subst h
    rw [rep_v hx]
    exact ⟨none, 0, rfl, .inl rfl⟩
  · cases h
def appA (s : St) (e : TypeId) (c : Nat) : AT → Option (List Nat × List (List AV))
  | .c (.os b 0 n) => match s.hp b with
    | some k => if k.c = c ∧ k.ty = e ∧ n ≤ k.rows.length then some ([b], k.rows.take n) else none
    | none => none
  | .c (.im (.v (.slice none 0 0))) => some ([], [])
  | _ => none
def killH (kl : List Nat) (h : List (Option Blk)) : List (Option Blk) := kl.foldl (fun h b => h.set b none) h
def St.app (s : St) (d : Option Tmp) (kl : List Nat) (k : Blk) : St := ⟨(s.put d (.c (.os s.heap.length 0 k.rows.length))).tmps, killH kl s.heap ++ [some k]⟩
theorem run_append_zero (w : World) {t e ty : TypeId} {i : TypeInfo} (ht : P.underlying t = some (.slice e)) (hi : P.info? e = some i) (A A' : Option Addr) (n cap cap' : Nat) (hn : n ≤ cap) : (Builtin.append_ #[t, t] ty #[.slice A n cap, .slice A' 0 cap']).run P w = .ok (.slice A n cap) w := by
  cases A <;> cases A' <;> simp [Builtin.append_, run_underlying ht, sizeOf, typeInfo, hi, Builtin.lenOf, Builtin.firstCells, hn, loadCells, loadCellsFrom, storeCells]
theorem killH_get (kl : List Nat) : ∀ (h : List (Option Blk)) (b : Nat), ((killH kl h)[b]?).join = if b ∈ kl then none else (h[b]?).join := by
  induction kl with
  | nil => intro h b; simp [killH]
  | cons x kl ih =>
    intro h b
    show ((killH kl (h.set x none))[b]?).join = _
    rw [ih]
    by_cases hb : b ∈ kl
    · simp [hb]
    · rw [if_neg hb, List.getElem?_set]
      by_cases e : x = b
      · subst e
        have hm : x ∈ x :: kl := List.mem_cons_self ..
        rw [if_pos rfl, if_pos hm]
        split <;> rfl
      · rw [if_neg e, if_neg (by simp [hb]; exact fun h => e h.symm)]
theorem killH_len (kl : List Nat) : ∀ (h : List (Option Blk)), (killH kl h).length = h.length := by
  induction kl with
  | nil => intro h; rfl
  | cons x kl ih =>
    intro h
    show (killH kl (h.set x none)).length = _
    rw [ih]; simp
theorem app_hp {d : Option Tmp} {kl : List Nat} {k : Blk} (b : Nat) : (s.app d kl k).hp b = if b = s.heap.length then some k else if b ∈ kl then none else s.hp b := by
  unfold St.app St.hp
  show ((killH kl s.heap ++ [some k])[b]?).join = _
  by_cases e : b = s.heap.length
  · subst e
    rw [if_pos rfl, List.getElem?_append_right (by rw [killH_len]; exact Nat.le_refl _), killH_len]
    simp
  · rw [if_neg e]
    by_cases hlt : b < s.heap.length
    · rw [List.getElem?_append_left (by rw [killH_len]; exact hlt), killH_get]
    · rw [List.getElem?_eq_none (by rw [List.length_append, killH_len]; simp; omega), List.getElem?_eq_none (by omega)]
      simp
theorem step_alloc_drew {n cap c : Nat} (ob : Obj) (hn : m n = none) (hO : ∀ k, O k → k < w.heap.size) : Step O (fun q => O q ∨ q = w.heap.size) m (updL m n (.at_ w.heap.size c cap)) w (w.drew.alloc ob) :=
  ⟨rfl, rfl, rfl, by show w.heap.size ≤ (w.heap.push _).size; simp, fun k hk _ => Below.heap_alloc w.drew ob k hk, fun k h => .inl h, fun k h => h.elim .inl (fun e => .inr (by omega)), fun b hb => by
    unfold updL
    rw [if_neg (fun e => hb (by rw [e]; exact hn))]⟩
theorem os_one {b o n : Nat} {v : Value} (h : RepA O m w (.os b o n) v) : isOne v = true := by cases h <;> rfl
theorem app_fin {d : Option Tmp} {kl rd : List Nat} {k : Blk} {K : Act → World → Prop} {a : Act} {O' : Nat → Prop} {w' : World} {L : Loc} {v' : Value} (hv : View B O m w s.hp (rd ++ kl)) (hst : Step O O' m (updL m s.heap.length L) w w') (hlt : ∀ q, O' q → q < w'.heap.size) (hn : m s.heap.length = none) (hkl : ∀ b ∈ kl, b < s.heap.length)
    (hkeep : ∀ q, q < w.heap.size → (∀ b ∈ kl, ∀ c cap, m b ≠ some (.at_ q c cap)) → w'.heap[q]? = w.heap[q]?) (hL : ∀ q c cap, L = .at_ q c cap → w.heap.size ≤ q ∨ ∃ b0 ∈ kl, ∃ c' cap', m b0 = some (.at_ q c' cap'))
    (hown : Own B O' (updL m s.heap.length L) w' s.heap.length (some k)) (hv' : RepA O' (updL m s.heap.length L) w' (.os s.heap.length 0 k.rows.length) v') (hd : ∀ t, d = some t → t < s.tmps.length)
    (hK : ∀ v O' m' w', Out B O O' m m' w w' s.hp (s.app d kl k).hp ⟨rd, kl, [s.heap.length]⟩ → (∀ t, d = some t → RepT O' m' w' ((s.app d kl k).tmp t) v) → K (a.put d v) w') : K (a.put d v') w' := by
  refine hK v' O' _ w' ⟨hst, hlt, hkeep, fun b hb => ?_, fun b hb => ?_, fun b hb _ q c cap hq => ?_, fun b hb b' hb' _ _ => ?_⟩ fun t ht => ?_
  · unfold updL at hb
    by_cases e : b = s.heap.length
    · exact .inr (by simp [e])
    · rw [if_neg e] at hb; exact .inl hb
  · rw [app_hp]
    by_cases e : b = s.heap.length
    · subst e; rw [if_pos rfl]; exact hown
    · rw [if_neg e]
      rcases hb with hb | hb
      · rw [if_pos hb]; trivial
      · exact absurd (by simpa using hb) e
  · have e : b = s.heap.length := by simpa using hb
    subst e
    have : L = .at_ q c cap := by
      unfold updL at hq
      rw [if_pos rfl] at hq
      exact Option.some.inj hq
    rcases hL q c cap this with h | ⟨b0, hb0, c', cap', h⟩
    · exact .inl h
    · refine .inr ⟨b0, hb0, ?_, c', cap', h⟩
      rw [app_hp, if_neg (by have := hkl b0 hb0; omega), if_pos hb0]
  · have e1 : b = s.heap.length := by simpa using hb
    have e2 : b' = s.heap.length := by simpa using hb'
    subst e1 e2
    exact fun q c cap c' cap' _ _ => rfl
  · subst ht
    have : (s.app (some t) kl k).tmp t = (s.put (some t) (.c (.os s.heap.length 0 k.rows.length))).tmp t := rfl
    rw [this, put_tmp_eq (hd t rfl)]
    exact .c hv' (os_one hv')
theorem sem_append {t e : TypeId} {T Te : TF} {x y : Operand} {kl : List Nat} {olds news : List (List AV)} (hop : o.op = .call { callee := .builtin .append, args := #[x, y], argTypes := #[t, t] }) (hw : wantA ops s o = some true) (hd : ∀ d, o.dst = some d → d < s.tmps.length)
    (hT : tf P t = some T) (hk : T.kind = .sl e) (hTe : tf P e = some Te) (hsz : 0 < Te.sz) (hz : Te.zero.length = Te.sz) (hzo : Te.zero.all isOne = true) (hx : appA s e Te.sz (s.ev x) = some (kl, olds)) (hy : rowsA s Te.sz (s.ev y) = some news)
    (hb : (olds.length + news.length) * Te.bytes ≤ 140737488355328) (h63 : olds.length + news.length ≤ 9223372036854775807) : OpSem P B ops o s ⟨blkOf (s.ev y), kl, [s.heap.length]⟩ (s.app o.dst kl ⟨e, Te.sz, olds ++ news, false⟩) := by
  obtain ⟨iT, dT, zT, t1, t2, t3, rfl⟩ := tf_spec hT
  obtain ⟨ie, de, ze, e1, e2, e3, rfl⟩ := tf_spec hTe
  simp only at hk hsz hz hzo hb hx hy ⊢
  have ht2 : P.underlying t = some (.slice e) := by
    cases dT with
    | slice e' => simp only [kindOf, TK.sl.injEq] at hk; rw [t2, hk]
    | _ => simp [kindOf] at hk
  have hkl : ∀ b ∈ kl, b < s.heap.length ∧ s.hp b ≠ none := by
    unfold appA at hx
    split at hx
    · rename_i b n _
      cases hb' : s.hp b with
      | none => rw [hb'] at hx; simp at hx
      | some k =>
        rw [hb'] at hx
        simp only at hx
        split at hx
        · injection hx with hx
          injection hx with hx1 hx2
          subst hx1
          intro b' hb2
          simp only [List.mem_singleton] at hb2
          subst hb2
          exact ⟨Nat.lt_of_not_le fun hle => (by rw [hp_out hle] at hb'; cases hb'), (by rw [hb']; simp)⟩
        · cases hx
    · injection hx with hx
      injection hx with hx1 hx2
      subst hx1
      intro b hb; cases hb
    · cases hx
  refine ⟨⟨put_len .., fun t ht => put_tmp_ne ht, fun b h1 h2 => ?_, fun b hb => (hkl b hb).2, fun b hb => ?_, ?_⟩, ?_⟩
  · rw [app_hp, if_neg (by simpa using h2), if_neg h1]
  · simp only [List.mem_singleton] at hb
    subst hb
    simp [St.app, killH_len]
  · simp [St.app, killH_len]
  intro O m w a K Q hv hl hn hs hK
  unfold wpO
  rw [want_spec hw hl, if_pos rfl]
  have hnn := hn s.heap.length (by simp)
  have hxr := ev_looks (x := x) hl (by rw [hop]; simp [Op.operands, Call.operands])
  have hyr := ev_looks (x := y) hl (by rw [hop]; simp [Op.operands, Call.operands])
  obtain ⟨Ay, capy, hye, hyn⟩ := rep_rows hyr (fun b hb => hv.own b (List.mem_append_left _ hb)) hy
  have hrunE : ∀ v w', (Builtin.append_ #[t, t] o.type #[a.eval x, a.eval y]).run P w = .ok v w' → (execOp a.eval o).run P w = .ok (.value v) w' := fun v w' h => by
    simp [execOp, hop, resolve, invoke, builtin, h]
  unfold Oper.wp
  -- nothing to append
  have zero : ∀ A n cap, a.eval x = .slice A n cap → n ≤ cap → news = [] → (execOp a.eval o).run P w = .ok (.value (.slice A n cap)) w := fun A n cap hxe hle hne => by
    subst hne
    refine hrunE _ _ ?_
    rw [hxe, hye]
    exact run_append_zero w ht2 e1 A Ay n cap capy hle
  -- a new block
  have fresh : ∀ (us : List Value) (cap : Nat), RepR O m w ie.size us (olds ++ news) → olds.length + news.length ≤ cap → cap ≤ maxLen → (execOp a.eval o).run P w = .ok (.value (.slice (some ⟨w.heap.size, 0, none⟩) (olds.length + news.length) cap)) (w.drew.alloc (.cells (us.toArray ++ Builtin.zeroCells ze.cells (cap - (olds.length + news.length))) e)) →
      o.upon P a K Q ((execOp a.eval o).run P w) := fun us cap hr hle hcm hrun => by
    rw [hrun, Oper.upon_value]
    have hst : Step O (fun q => O q ∨ q = w.heap.size) m (updL m s.heap.length (.at_ w.heap.size ie.size cap)) w (w.drew.alloc (.cells (us.toArray ++ Builtin.zeroCells ze.cells (cap - (olds.length + news.length))) e)) := step_alloc_drew (cap := cap) (c := ie.size) _ hnn hv.lt
    have hloc : updL m s.heap.length (.at_ w.heap.size ie.size cap) s.heap.length = some (.at_ w.heap.size ie.size cap) := by simp [updL]
    refine app_fin (L := .at_ w.heap.size ie.size cap) hv hst (fun q hq => ?_) hnn (fun b hb => (hkl b hb).1) (fun q hq _ => Below.heap_alloc w.drew _ q hq) (fun q c cap' h => ?_) ?_ ?_ hd hK
    · show q < (w.heap.push _).size
      rw [Array.size_push]
      rcases hq with h | h
      · have := hv.lt q h; omega
      · omega
    · injection h with h; exact .inl (by omega)
    · have hrs := hr.step hst
      have husz : us.length = (olds.length + news.length) * ie.size := by rw [hr.1, List.length_append]
      have hzs : ze.cells.size = ie.size := by have := hz; simpa using this
      have hzc : (Builtin.zeroCells ze.cells (cap - (olds.length + news.length))).size = (cap - (olds.length + news.length)) * ie.size := by rw [size_zeroCells, hzs]
      refine .inr ⟨w.heap.size, cap, us.toArray ++ Builtin.zeroCells ze.cells (cap - (olds.length + news.length)), hloc, .inr rfl, hv.base, hsz, (by show (w.heap.push _)[w.heap.size]? = _; simp), ?_, by simpa using hle, hcm, fun h => (by cases h), hr.2.2.1, fun u hu => ?_, fun i row hi j z hj u hu => ?_⟩
      · rw [Array.size_append, List.size_toArray, husz, hzc, ← Nat.add_mul]
        congr 1; omega
      · rcases Array.mem_append.1 hu with h | h
        · exact hr.2.1 u (by simpa using h)
        · unfold Builtin.zeroCells at h
          obtain ⟨i, hi, rfl⟩ := Array.mem_map.1 h
          rw [List.all_eq_true] at hzo
          have hlt : i % ze.cells.size < ze.cells.size := Nat.mod_lt _ (by omega)
          rw [getElem!_pos ze.cells _ hlt]
          exact hzo _ (by simp)
      · have hil : i < olds.length + news.length := by have := (List.getElem?_eq_some_iff.1 hi).1; rwa [List.length_append] at this
        have hjc : j < ie.size := by have := (List.getElem?_eq_some_iff.1 hj).1; rw [hr.2.2.1 row (List.mem_of_getElem? hi)] at this; exact this
        have hm : (i + 1) * ie.size ≤ (olds.length + news.length) * ie.size := Nat.mul_le_mul_right _ hil
        rw [Nat.succ_mul] at hm
        simp only at hu
        rw [Array.getElem?_append_left (by simp; omega)] at hu
        exact hrs.2.2.2 i row hi j z hj u (by simpa using hu)
    · show RepA _ _ _ (.os s.heap.length 0 (olds ++ news).length) _
      have h := RepA.os (O := fun q => O q ∨ q = w.heap.size) (w := w.drew.alloc (.cells (us.toArray ++ Builtin.zeroCells ze.cells (cap - (olds.length + news.length))) e)) (b := s.heap.length) (o := 0) (n := olds.length + news.length) hloc (by omega) (fun _ => rfl)
      rw [List.length_append]
      simpa using h
  have hcapm : ∀ (n old : Nat), n ≤ maxLen → grownCap w n old e ≤ maxLen := fun n old h => grownCap_le_maxLen w n old e h
  have hmx : olds.length + news.length ≤ maxLen := by unfold maxLen; omega
  -- a slice without room
  have noroom : ∀ A, a.eval x = .slice A 0 0 → olds = [] → news ≠ [] → o.upon P a K Q ((execOp a.eval o).run P w) := fun A hxe ho hne => by
    subst ho
    obtain ⟨ay, us, rfl, hr, hcy⟩ := hyn.resolve_left hne
    have hpos : 0 < news.length := List.length_pos_iff.2 hne
    simp only [List.length_nil, Nat.zero_add] at hb h63 hmx
    refine fresh us (grownCap w news.length 0 e) (by simpa using hr) (by simpa using grownCap_ge w _ _ _) (hcapm _ _ hmx) (hrunE _ _ ?_)
    simp only [List.length_nil, Nat.zero_add]
    rw [hxe, hye]
    cases A with
    | none => exact run_append_nil (P := P) w t o.type e ie ze ht2 e1 e3 ay news.length capy us hr.1 hcy hpos (by omega) (by omega)
    | some b0 =>
      have := run_append_grow (P := P) w t o.type e ie ze ht2 e1 e3 b0 0 0 [] (by simp) (fun j u hj => by simp at hj) ay news.length capy us hr.1 hcy (by omega) (by omega) (growslice_fits (by omega) (by simpa using hb))
      simpa using this
  -- a slice without room, nothing to append
  have nil0 : ∀ A (b : Nat), a.eval x = .slice A 0 0 → olds = [] → news = [] → o.upon P a K Q ((execOp a.eval o).run P w) := fun A b hxe ho hne => by
    rw [zero A 0 0 hxe (Nat.le_refl _) hne, Oper.upon_value]
    have hst : Step O O m (updL m s.heap.length .virt) w w := ⟨rfl, rfl, rfl, Nat.le_refl _, fun _ _ _ => rfl, fun _ h => h, fun _ h => .inl h, fun b hb => by unfold updL; rw [if_neg (fun e => hb (by rw [e]; exact hnn))]⟩
    subst ho hne
    exact app_fin (k := ⟨e, ie.size, [] ++ [], false⟩) (L := .virt) hv hst hv.lt hnn (fun b hb => (hkl b hb).1) (fun _ _ _ => rfl) (fun q c cap h => (by cases h)) (Or.inl ⟨by simp [updL], rfl, rfl, hsz⟩) (by show RepA O _ w (.os s.heap.length 0 0) (.slice A 0 0); exact .virt (by simp [updL])) hd hK
  unfold appA at hx
  split at hx
  · rename_i b n hxa
    cases hbk : s.hp b with
    | none => rw [hbk] at hx; simp at hx
    | some k =>
      rw [hbk] at hx
      simp only at hx
      split at hx
      · rename_i hc
        obtain ⟨hc1, hc2, hc3⟩ := hc
        injection hx with hx
        injection hx with hx1 hx2
        subst hx1 hx2
        have hob := hv.own b (List.mem_append_right _ (by simp))
        rw [hbk] at hob
        rw [hxa] at hxr
        have hnl : (k.rows.take n).length = n := by simp; omega
        generalize hvx : a.eval x = vx at hxr
        cases hxr with
        | c hxr _ =>
          cases hxr with
          | virt hq =>
            by_cases hne : news = []
            · exact nil0 _ 0 hvx (by simp) hne
            · exact noroom _ hvx (by simp) hne
          | @os _ _ _ q c' cap A hq hle hA =>
            obtain ⟨us, g1, g2, g3, g4, g5, g6, g7, g8, g9⟩ := own_rows hob hq 0 n (by omega)
            subst g1
            rw [Nat.zero_mul, List.drop_zero, List.drop_zero] at g9
            simp only [Nat.zero_add] at hle
            rw [hnl] at hb h63 hmx fresh
            by_cases hne : news = []
            · -- az it was
              rw [zero A n (cap - 0) hvx (by omega) hne, Oper.upon_value]
              subst hne
              have hst : Step O O m (updL m s.heap.length (.at_ q k.c cap)) w w := ⟨rfl, rfl, rfl, Nat.le_refl _, fun _ _ _ => rfl, fun _ h => h, fun _ h => .inl h, fun b hb => by unfold updL; rw [if_neg (fun e => hb (by rw [e]; exact hnn))]⟩
              have hloc : updL m s.heap.length (.at_ q k.c cap) s.heap.length = some (.at_ q k.c cap) := by simp [updL]
              refine app_fin (L := .at_ q k.c cap) hv hst hv.lt hnn (fun b hb => (hkl b hb).1) (fun _ _ _ => rfl) (fun q' c' cap' h => ?_) (.inr ⟨q, cap, us, by rw [hloc, hc1], g6, g7, hsz, by rw [g2, hc2], by rw [g3, hc1], by simp; omega, g5, fun h => (by cases h), fun row hr => ?_, fun u hu => ?_, fun i row hi j z hj u hu => ?_⟩) ?_ hd hK
              · injection h with h1 h2 h3
                exact .inr ⟨b, by simp, _, _, by rw [← h1]; exact hq⟩
              · simp only [List.append_nil] at hr
                rw [g9.2.2.1 row hr, hc1]
              · rcases hob with ⟨f1, _⟩ | ⟨q', cap', us', f1, f2, f3, f4, f5, f6, f7, f7', f8, f9, f9', f10⟩
                · rw [f1] at hq; cases hq
                · rw [f1] at hq
                  injection hq with hq
                  injection hq with j1 j2 j3
                  subst j1
                  rw [f5] at g2
                  injection g2 with g2
                  injection g2 with g2
                  subst g2
                  exact f9' u hu
              · simp only [List.append_nil] at hi
                have hin : i < n := by have := (List.getElem?_eq_some_iff.1 hi).1; omega
                have hjc : j < k.c := by have := (List.getElem?_eq_some_iff.1 hj).1; rw [g9.2.2.1 row (List.mem_of_getElem? hi)] at this; exact this
                have hm : (i + 1) * k.c ≤ n * k.c := Nat.mul_le_mul_right _ hin
                rw [Nat.succ_mul] at hm
                refine (g9.2.2.2 i row hi j z hj u ?_).step hst
                rw [← hc1] at hu
                rw [List.getElem?_take_of_lt (by omega), Array.getElem?_toList]; exact hu
              · have : RepA O (updL m s.heap.length (.at_ q k.c cap)) w (.os s.heap.length 0 n) (.slice A n (cap - 0)) := .os hloc (by omega) hA
                simpa [hnl] using this
            · obtain ⟨ay, usy, rfl, hr, hcy⟩ := hyn.resolve_left hne
              have hpos : 0 < news.length := List.length_pos_iff.2 hne
              by_cases hc0 : cap = 0
              · subst hc0
                have hn0 : n = 0 := by omega
                subst hn0
                exact noroom A hvx (by simp) hne
              · have hA' := hA (by omega)
                subst hA'
                simp only [Nat.zero_mul, Nat.sub_zero] at hvx
                by_cases hroom : n + news.length ≤ cap
                · -- in place
                  have hfit : n * ie.size + usy.length ≤ us.size := by
                    rw [hr.1, g3, hc1, ← Nat.add_mul]; exact Nat.mul_le_mul_right _ hroom
                  have hrun := run_append_room (P := P) w t o.type e ie ht2 e1 q n cap us (by rw [g2, hc2]) ay news.length capy usy hr.1 hcy (fun u hu => one_one (hr.2.1 u hu)) hroom hfit
                  rw [hrunE _ _ (by rw [hvx, hye]; exact hrun), Oper.upon_value]
                  have hst : Step O O m (updL m s.heap.length (.at_ q k.c cap)) w (w.setRow q (us.toList.take (n * ie.size) ++ usy ++ us.toList.drop (n * ie.size + usy.length)).toArray) :=
                    ⟨rfl, rfl, rfl, by simp, fun z hz hzO => setRow_other w q z _ (fun e => hzO (by rw [e]; exact g6)), fun z hz => hz, fun z hz => .inl hz, fun b hb => by unfold updL; rw [if_neg (fun e => hb (by rw [e]; exact hnn))]⟩
                  have hloc : updL m s.heap.length (.at_ q k.c cap) s.heap.length = some (.at_ q k.c cap) := by simp [updL]
                  have hboth := RepR.append (by rw [hc1] at g9; exact g9) hr
                  refine app_fin (L := .at_ q k.c cap) hv hst (fun z hz => by rw [size_setRow]; exact hv.lt z hz) hnn (fun b hb => (hkl b hb).1) (fun z hz hnot => setRow_other w q z _ (fun e => hnot b (by simp) k.c cap (by rw [e]; exact hq))) (fun q' c' cap' h => ?_)
                    (.inr ⟨q, cap, _, by rw [hloc, hc1], g6, g7, hsz, heap_setRow (by rw [g2, hc2]), ?_, by simp; omega, g5, fun h => (by cases h), hboth.2.2.1, fun u hu => ?_, fun i row hi j z hj u hu => ?_⟩) ?_ hd hK
                  · injection h with h1 h2 h3
                    exact .inr ⟨b, by simp, _, _, by rw [← h1]; exact hq⟩
                  · have : (us.toList.take (n * ie.size) ++ usy ++ us.toList.drop (n * ie.size + usy.length)).length = us.toList.length := splice_len (by simpa using hfit)
                    simp only [List.size_toArray]
                    rw [this, Array.length_toList, g3, hc1]
                  · have hus1 : ∀ u ∈ us, isOne u = true := by
                      rcases hob with ⟨f1, _⟩ | ⟨q', cap', us', f1, f2, f3, f4, f5, f6, f7, f7', f8, f9, f9', f10⟩
                      · rw [f1] at hq; cases hq
                      · rw [f1] at hq
                        injection hq with hq
                        injection hq with j1 j2 j3
                        subst j1
                        rw [f5] at g2
                        injection g2 with g2
                        injection g2 with g2
                        subst g2
                        exact f9'
                    rw [List.mem_toArray] at hu
                    simp only [List.mem_append] at hu
                    rcases hu with (hu | hu) | hu
                    · exact hus1 u (by simpa using List.mem_of_mem_take hu)
                    · exact hr.2.1 u hu
                    · exact hus1 u (by simpa using List.mem_of_mem_drop hu)
                  · have hil : i < n + news.length := by have := (List.getElem?_eq_some_iff.1 hi).1; rw [List.length_append, hnl] at this; exact this
                    have hjc : j < ie.size := by have := (List.getElem?_eq_some_iff.1 hj).1; rw [hboth.2.2.1 row (List.mem_of_getElem? hi)] at this; exact this
                    have hm : (i + 1) * ie.size ≤ (n + news.length) * ie.size := Nat.mul_le_mul_right _ hil
                    rw [Nat.succ_mul, Nat.add_mul] at hm
                    have htk : (us.toList.take (n * ie.size)).length = n * ie.size := by
                      have : n * ie.size ≤ us.size := by omega
                      simp; omega
                    refine (hboth.2.2.2 i row hi j z hj u ?_).step hst
                    simp only [List.getElem?_toArray] at hu
                    rw [List.getElem?_append_left (by rw [List.length_append, htk, hr.1]; omega)] at hu
                    exact hu
                  · have : RepA O (updL m s.heap.length (.at_ q k.c cap)) (w.setRow q (us.toList.take (n * ie.size) ++ usy ++ us.toList.drop (n * ie.size + usy.length)).toArray) (.os s.heap.length 0 (n + news.length)) (.slice (some ⟨q, 0 * k.c, none⟩) (n + news.length) (cap - 0)) := .os hloc (by omega) (fun _ => rfl)
                    simpa [hnl] using this
                · -- in a new one
                  have hlo : ((us.toList.take (n * k.c))).length = n * ie.size := by rw [g9.1, hnl, hc1]
                  have holds : ∀ (j : Nat) u, (us.toList.take (n * k.c))[j]? = some u → w.cell? ((⟨q, 0, none⟩ : Addr).add j) = some u := fun j u hj => by
                    have hjl : j < n * k.c := by have := (List.getElem?_eq_some_iff.1 hj).1; simp at this; omega
                    rw [List.getElem?_take_of_lt hjl, Array.getElem?_toList] at hj
                    rw [add_lit', Nat.zero_add]
                    simp [World.cell?, g2, hj]
                  have hrun := run_append_grow (P := P) w t o.type e ie ze ht2 e1 e3 ⟨q, 0, none⟩ n cap _ hlo holds ay news.length capy usy hr.1 hcy (by omega) (by omega) (growslice_fits (by omega) hb)
                  refine fresh (us.toList.take (n * k.c) ++ usy) (grownCap w (n + news.length) cap e) (RepR.append (by rw [hc1] at g9; rw [hc1]; exact g9) hr) (grownCap_ge w _ _ _) (hcapm _ _ hmx) (hrunE _ _ ?_)
                  rw [hvx, hye]
                  simpa using hrun
      · cases hx
  · rename_i hxa
    injection hx with hx
    injection hx with hx1 hx2
    subst hx1 hx2
    rw [hxa] at hxr
    have hvx := rep_v hxr
    by_cases hne : news = []
    · exact nil0 none 0 hvx rfl hne
    · exact noroom none hvx rfl hne
  · cases hx
end
end Go.Proofs.YtedkfipjooafeaaGreatDoor.Ab
