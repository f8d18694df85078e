/-
  A world that has grown: below its first new block it is as it was. And regions that draw their order, whose operations read what was there, or call what only makes new memory: one walk of the order of the text serves every order; behind them operations that wait for all others are walked in turn. A region that draws its order: what it reads and calls with one answer in every world is walked once; operations whose value hangs on the order (a new block's address, a callee's new memory) are shown each by itself, and what they give is said of the world behind the region. Behind these the tail, in turn. Contracts of the operations' table: names, fields, bounds. A small region that draws its order, walked once for each order: what stands ready is told at each step. Contracts of the operations' bounds. Contract of what tells whether an instruction may be. Programs, their texts and their bytes, in plain words; no program in sight. How programs lie in memory. How data of a type lie in cells: codes, and how what comes in is read as data. From a law's walk to its row: a law that answers true and leaves its arguments as they were.
-/
import Derived.WalkKit
import Derived.Deep.Quiet
import Derived.StillTail
import Derived.BigQuiet
import Derived.Test.YtedkfipjooafeaaGreatDoorProg
import Derived.KernelRfl
import Derived.Deep.WholeRow
import Derived.Lib.Hide
import Derived.Orders
import Derived.Lib.ItoaNum
import Derived.Below
import Derived.Laws.OwnMore
import Derived.Deep.AppendLies
import Derived.Deep.Draws
import Derived.Laws.Rows
import Derived.Deep.Slices
import Derived.Deep.Fields
import Derived.ChangeSame
import Derived.OpenShut
import Derived.Test.YtedkfipjooafeaaGreatDoorCards
import Derived.Test.YtedkfipjooafeaaGreatDoorTie
import Derived.ProofKit
import Derived.ChangeMaps5
import Derived.Carry
import Derived.Lay
import Derived.Deep.DeepHandedRow
import Derived.Lib.LaidTab
import Derived.Lib.SmallJoins
import Derived.Stop.LaidErr
set_option linter.unusedSimpArgs false
set_option linter.unusedVariables false
namespace Go.Proofs.YtedkfipjooafeaaGreatDoor
open Go Go.RowKit

open Classical in
noncomputable def mix (w x : World) : World := if Below w.heap.size w x then x else w

theorem below_mix (w x : World) : Below w.heap.size w (mix w x) := by
  unfold mix
  by_cases h : Below w.heap.size w x
  · rw [if_pos h]; exact h
  · rw [if_neg h]; exact Below.refl _ _

theorem mix_of {w x : World} (h : Below w.heap.size w x) : x = mix w x := by unfold mix; rw [if_pos h]

theorem to_mix {w x : World} (h : Below w.heap.size w x) : ∃ y, x = mix w y := ⟨x, mix_of h⟩

@[simp, go_sem] theorem mix_cell (w x : World) (a : Addr) (h : a.block < w.heap.size) : (mix w x).cell? a = w.cell? a := (below_mix w x).cell h
@[simp, go_sem] theorem mix_frozen (w x : World) (a : Addr) (h : a.block < w.heap.size) : (mix w x).frozen? a = w.frozen? a := (below_mix w x).frozen h
theorem mix_size (w x : World) : w.heap.size ≤ (mix w x).heap.size := (below_mix w x).size

theorem below_step {B : Nat} {a w : World} (h : Below B a w) (x : World) (hB : B ≤ w.heap.size) : Below B a (mix w x) := h.trans ((below_mix w x).mono hB)

theorem to_mix2 {w x z : World} (h : Below (mix w x).heap.size (mix w x) z) : ∃ y, z = mix w y := to_mix ((below_mix w x).trans (h.mono (mix_size w x)))
theorem mix_size' {w x w' : World} (h : w' = mix w x) : w.heap.size ≤ w'.heap.size := by rw [h]; exact mix_size w x
theorem mix_flat {w x w' : World} (h : ∃ y, w' = mix (mix w x) y) : ∃ y, w' = mix w y := by
  obtain ⟨y, rfl⟩ := h
  exact to_mix2 (below_mix _ _)
section
variable {P : Program} {ops : Array Oper} {md : Region.Mode} {C : World → Prop}

def wpAnyC (P : Program) (md : Region.Mode) (ops : Array Oper) (C : World → Prop) (n : Nat) (L : Array Bool → Act → Prop) : Nat → Array Bool → Act → Prop
  | 0, listed, a => L listed a
  | f + 1, listed, a => Region.ready md ops listed ≠ [] ∧ ∀ i ∈ Region.ready md ops listed, i < n ∧ qOp P ops C i (wpAnyC P md ops C n L f (listed.setIfInBounds i true)) a

theorem wpAny_of_headC {n g : Nat} {L : Array Bool → Act → Prop} {Q' : Exit → Act → World → Prop} (hL : ∀ listed a w, C w → L listed a → wpAny P md ops Q' g listed a w) :
    ∀ (f : Nat) (listed : Array Bool) (a : Act) (w : World), C w → wpAnyC P md ops C n L f listed a → wpAny P md ops Q' (f + g) listed a w
  | 0, listed, a, w, hw, h => by rw [Nat.zero_add]; exact hL _ _ _ hw h
  | f + 1, listed, a, w, hw, h => by
    rw [show f + 1 + g = (f + g) + 1 by omega]
    exact ⟨fun h0 => absurd h0 h.1, fun i hi => wpOp_of_qOp hw (fun a' w' hw' h' => wpAny_of_headC hL f _ a' w' hw' h') (h.2 i hi).2⟩

theorem wpAnyC_first {n i : Nat} {oi : Oper} {v : Value} {L : Array Bool → Act → Prop} (hi : ops[i]? = some oi) (hsel : ∀ (j : Nat) (o : Oper) cs b, ops[j]? = some o → o.op ≠ .select cs b)
    (hs : Region.sinkB md ops n = true) (hc : Region.chainB md ops n = true) (hn : n < ops.size) (hin : i < n)
    (hdone : ∀ listed a, L listed a → ∀ j ∈ Region.ready md ops listed, n ≤ j) :
    ∀ (f : Nat) (listed : Array Bool) (a : Act), HeadInv md ops n listed →
      (∀ j oj, ops[j]? = some oj → j ≠ i → listed.getD j true = false → (∀ e ∈ oj.after, Region.binds md e = true → e.on ≠ i) → oi.apart ops oj = true) →
      i ∈ Region.ready md ops listed → YieldsIn P ops C oi v a →
      wpAnyC P md ops C n L f (listed.setIfInBounds i true) (a.put oi.dst v) → wpAnyC P md ops C n L (f + 1) listed a := by
  intro f
  induction f with
  | zero =>
    intro listed a inv _ hr hy H
    have hun := (mem_ready.1 hr).1
    refine ⟨fun h => (by rw [h] at hr; cases hr), fun j hj => ?_⟩
    have hjn : j < n := (Nat.lt_or_ge j n).elim id fun h => absurd hj (tail_waits hs hc hn inv _ i rfl hin hun j h)
    refine ⟨hjn, ?_⟩
    by_cases hji : j = i
    · subst hji; exact hy.qOp hi H
    · have := hdone _ _ H j (ready_mono hj hji)
      omega
  | succ f ih =>
    intro listed a inv hfree hr hy H
    have hun := (mem_ready.1 hr).1
    refine ⟨fun h => (by rw [h] at hr; cases hr), fun j hj => ?_⟩
    have hjn : j < n := (Nat.lt_or_ge j n).elim id fun h => absurd hj (tail_waits hs hc hn inv _ i rfl hin hun j h)
    refine ⟨hjn, ?_⟩
    by_cases hji : j = i
    · subst hji; exact hy.qOp hi H
    · have h1 := (H.2 j (ready_mono hj hji)).2
      obtain ⟨hjun, oj, hoj, hall⟩ := mem_ready.1 hj
      have hnot : ∀ e ∈ oj.after, Region.binds md e = true → e.on ≠ i := fun e he hb heq => by
        have h1 := hall e he hb
        rw [heq, getD_both hun] at h1
        cases h1
      have h2 := qOp_put hoj (hfree j oj hoj hji hjun hnot) (fun cs b => hsel i oi cs b hi) (fun cs b => hsel j oj cs b hoj) hy h1
      have hfree' : ∀ k ok, ops[k]? = some ok → k ≠ i → (listed.setIfInBounds j true).getD k true = false →
          (∀ e ∈ ok.after, Region.binds md e = true → e.on ≠ i) → oi.apart ops ok = true := fun k ok hk hki hun hno => by
        refine hfree k ok hk hki ?_ hno
        by_cases hjk : j = k
        · subst hjk; exact hjun
        · rw [getD_set_ne true hjk] at hun; exact hun
      refine qOp_mono (fun a' h3 => ih (listed.setIfInBounds j true) a' (inv.set hj hjn) hfree' (ready_mono hr (Ne.symm hji)) h3.1 ?_) h2
      rw [Array.setIfInBounds_comm _ _ hji]
      exact h3.2

theorem wpAnyC_lex {n g : Nat} {Lq : Act → Prop} (hsel : Region.noSelect ops = true) (hs : Region.sinkB md ops n = true) (hc : Region.chainB md ops n = true) (hn : n < ops.size) :
    ∀ (l : List Oper) (k : Nat) (listed : Array Bool) (a : Act), (∀ j, j < l.length → l[j]? = ops[k + j]?) → k + l.length = n → HeadInv md ops n listed →
    Region.lexHead md ops g l.length k listed = true → wpQuiet P ops C Lq l a →
    wpAnyC P md ops C n (fun listed' a' => Region.seqB md ops g n listed' = true ∧ Lq a') l.length listed a
  | [], k, listed, a, _, hk, _, hB, h => by
    have : k = n := by simpa using hk
    subst this
    exact ⟨by simpa [Region.lexHead] using hB, h⟩
  | o :: l, k, listed, a, hl, hk, inv, hB, h => by
    have h0 : ops[k]? = some o := by simpa using (hl 0 (by simp)).symm
    simp only [List.length_cons, Region.lexHead, Bool.and_eq_true] at hB
    obtain ⟨⟨hr, hf⟩, hB'⟩ := hB
    have hkn : k < n := by simp only [List.length_cons] at hk; omega
    have hr' : k ∈ Region.ready md ops listed := by simpa using hr
    have hst : qOp P ops C k (wpQuiet P ops C Lq l) a := by unfold qOp; simp only [h0]; exact h
    obtain ⟨v, hy, hK⟩ := yieldsIn_of_qOp h0 hst
    exact wpAnyC_first h0 (Region.noSelect_spec hsel) hs hc hn hkn (fun listed' a' hL => seqB_ready hL.1) l.length listed a inv (Region.free_spec h0 hf) hr' hy
      (wpAnyC_lex hsel hs hc hn l (k + 1) _ _ (fun j hj => by have := hl (j + 1) (by simp; omega); simpa [Nat.add_assoc, Nat.add_comm 1 j] using this) (by simp only [List.length_cons] at hk; omega) (inv.set hr' hkn) hB' hK)

theorem wp_region_class_tail {id : Nat} {Q : Exit → Act → World → Prop} {a : Act} {w : World} {l : List Oper} (n : Nat) (hm : P.follows .mixedOrders = true) (hB : Region.lexTailB .any l.toArray n = true)
    (hC : C { w with drawn := w.drawn + 1 })
    (h : wpQuiet P l.toArray C (fun a' => ∀ w', C w' → wpList P l.toArray Q (l.drop n) a' w') (l.take n) a) : (Code.region id l.toArray true).wp P Q a w := by
  simp only [Region.lexTailB, Bool.and_eq_true, decide_eq_true_eq] at hB
  obtain ⟨⟨⟨⟨hsel, hn⟩, hs⟩, hc⟩, hlex⟩ := hB
  have hn' : n < l.length := by simpa using hn
  have htl : (l.take n).length = n := by simp; omega
  have hdl : (l.drop n).length = l.toArray.size - n := by simp
  have inv0 : HeadInv .any l.toArray n (Array.replicate l.toArray.size false) :=
    ⟨by simp, fun j oj _ hl => (by rw [getD_replicate_false] at hl; cases hl), fun t _ ht => getD_in (by simpa using ht) (getD_replicate_false _ _)⟩
  have H := wpAnyC_lex (md := .any) (C := C) (g := l.toArray.size - n) hsel hs hc hn (l.take n) 0 _ a (fun j hj => by
    have hj' : j < n := by rw [htl] at hj; exact hj
    simp [hj']) (by simpa using htl) inv0 (by rw [htl]; exact hlex) h
  refine wp_region_any hm ?_
  have := wpAny_of_headC (C := C) (Q' := Q) (g := l.toArray.size - n) (fun listed a' w' hw' hL => by
    have := wpAny_of_seq (md := .any) (Q' := Q) (l.drop n) n listed a' w' (fun j => by simp [List.getElem?_drop]) (by rw [hdl]; exact hL.1) (hL.2 w' hw')
    rwa [hdl] at this) _ _ _ _ hC H
  rw [htl, show n + (l.toArray.size - n) = l.toArray.size by omega] at this
  exact this
end

theorem wp_region_mix {P : Program} {id : Nat} {Q : Exit → Act → World → Prop} {a : Act} {w : World} {l : List Oper} (n : Nat) (hm : P.follows .mixedOrders = true) (hB : Region.lexTailB .any l.toArray n = true)
    (h : wpQuiet P l.toArray (fun w' => ∃ x, w' = mix w x) (fun a' => ∀ w', (∃ x, w' = mix w x) → wpList P l.toArray Q (l.drop n) a' w') (l.take n) a) : (Code.region id l.toArray true).wp P Q a w :=
  wp_region_class_tail (C := fun w' => ∃ x, w' = mix w x) n hm hB (to_mix ⟨rfl, rfl, rfl, Nat.le_refl _, fun _ _ => rfl⟩) h

theorem mix_call {P : Program} {f : FuncId} {args : Array Value} {w x : World} {v : Value}
    (h : Calls P f args (mix w x) fun e w' => e = .returned v ∧ Below (mix w x).heap.size (mix w x) w') : Calls P f args (mix w x) fun e w' => e = .returned v ∧ ∃ y, w' = mix w y :=
  h.mono fun _ _ ⟨he, hb⟩ => ⟨he, to_mix ((below_mix w x).trans (hb.mono (mix_size w x)))⟩
theorem mix_call_same {P : Program} {f : FuncId} {args : Array Value} {w x : World} {v : Value}
    (h : Calls P f args (mix w x) fun e w' => e = .returned v ∧ mix w x = w') : Calls P f args (mix w x) fun e w' => e = .returned v ∧ ∃ y, w' = mix w y :=
  h.mono fun _ _ ⟨he, hb⟩ => ⟨he, x, hb.symm⟩

theorem grow_alloc {a w : World} (h : Below a.heap.size a w) (o : Obj) : Below a.heap.size a (w.alloc o) := h.alloc h.size o
theorem grow_mix {a w : World} (h : Below a.heap.size a w) (x : World) : Below a.heap.size a (mix w x) := below_step h x h.size
theorem grow_drew {a w : World} (h : Below a.heap.size a w) : Below a.heap.size a w.drew := h.drew
theorem grow_drewN {a w : World} (h : Below a.heap.size a w) (n : Nat) : Below a.heap.size a (w.drewN n) := h.trans ⟨rfl, rfl, rfl, Nat.le_refl _, fun _ _ => rfl⟩
theorem grow_set {a w : World} (h : Below a.heap.size a w) {p : Addr} (hp : a.heap.size ≤ p.block) (u : Value) : Below a.heap.size a (w.setCell p u) := h.setCell hp u
@[simp, go_sem] theorem mix_lt {b : Nat} (w x : World) (h : b < w.heap.size) : (b < (mix w x).heap.size) = True := eq_true (Nat.lt_of_lt_of_le h (mix_size w x))
@[simp, go_sem] theorem mix_le {b : Nat} (w x : World) (h : b ≤ w.heap.size) : (b ≤ (mix w x).heap.size) = True := eq_true (Nat.le_trans h (mix_size w x))
@[simp, go_sem] theorem mix_ne {b : Nat} (w x : World) (h : b < w.heap.size) : (b = (mix w x).heap.size) = False := eq_false (Nat.ne_of_lt (Nat.lt_of_lt_of_le h (mix_size w x)))
@[simp, go_sem] theorem mix_ne' {b : Nat} (w x : World) (h : b < w.heap.size) : ((mix w x).heap.size = b) = False := eq_false (Nat.ne_of_gt (Nat.lt_of_lt_of_le h (mix_size w x)))
@[simp, go_sem] theorem lt_up2 (n : Nat) : (n < n + 1 + 1) = True := eq_true (by omega)
@[simp, go_sem] theorem lt_up3 (n : Nat) : (n < n + 1 + 1 + 1) = True := eq_true (by omega)
@[simp, go_sem] theorem lt_up4 (n : Nat) : (n < n + 1 + 1 + 1 + 1) = True := eq_true (by omega)
@[simp, go_sem] theorem lt_up5 (n : Nat) : (n < n + 1 + 1 + 1 + 1 + 1) = True := eq_true (by omega)
@[simp, go_sem] theorem lt_up6 (n : Nat) : (n < n + 1 + 1 + 1 + 1 + 1 + 1) = True := eq_true (by omega)
@[simp, go_sem] theorem lt_up7 (n : Nat) : (n < n + 1 + 1 + 1 + 1 + 1 + 1 + 1) = True := eq_true (by omega)
@[simp, go_sem] theorem lt_up8 (n : Nat) : (n < n + 1 + 1 + 1 + 1 + 1 + 1 + 1 + 1) = True := eq_true (by omega)
@[simp, go_sem] theorem lt_up9 (n : Nat) : (n < n + 1 + 1 + 1 + 1 + 1 + 1 + 1 + 1 + 1) = True := eq_true (by omega)
@[simp, go_sem] theorem lt_up10 (n : Nat) : (n < n + 1 + 1 + 1 + 1 + 1 + 1 + 1 + 1 + 1 + 1) = True := eq_true (by omega)
@[simp, go_sem] theorem lt_up11 (n : Nat) : (n < n + 1 + 1 + 1 + 1 + 1 + 1 + 1 + 1 + 1 + 1 + 1) = True := eq_true (by omega)
@[simp, go_sem] theorem lt_up12 (n : Nat) : (n < n + 1 + 1 + 1 + 1 + 1 + 1 + 1 + 1 + 1 + 1 + 1 + 1) = True := eq_true (by omega)
@[simp, go_sem] theorem le_up1 (n : Nat) : (n ≤ n + 1) = True := eq_true (by omega)
@[simp, go_sem] theorem le_up2 (n : Nat) : (n ≤ n + 1 + 1) = True := eq_true (by omega)
@[simp, go_sem] theorem le_up3 (n : Nat) : (n ≤ n + 1 + 1 + 1) = True := eq_true (by omega)
@[simp, go_sem] theorem le_up4 (n : Nat) : (n ≤ n + 1 + 1 + 1 + 1) = True := eq_true (by omega)
@[simp, go_sem] theorem le_up5 (n : Nat) : (n ≤ n + 1 + 1 + 1 + 1 + 1) = True := eq_true (by omega)
@[simp, go_sem] theorem le_up6 (n : Nat) : (n ≤ n + 1 + 1 + 1 + 1 + 1 + 1) = True := eq_true (by omega)
@[simp, go_sem] theorem le_up7 (n : Nat) : (n ≤ n + 1 + 1 + 1 + 1 + 1 + 1 + 1) = True := eq_true (by omega)
@[simp, go_sem] theorem le_up8 (n : Nat) : (n ≤ n + 1 + 1 + 1 + 1 + 1 + 1 + 1 + 1) = True := eq_true (by omega)
@[simp, go_sem] theorem le_up9 (n : Nat) : (n ≤ n + 1 + 1 + 1 + 1 + 1 + 1 + 1 + 1 + 1) = True := eq_true (by omega)
@[simp, go_sem] theorem le_up10 (n : Nat) : (n ≤ n + 1 + 1 + 1 + 1 + 1 + 1 + 1 + 1 + 1 + 1) = True := eq_true (by omega)
@[simp, go_sem] theorem le_up11 (n : Nat) : (n ≤ n + 1 + 1 + 1 + 1 + 1 + 1 + 1 + 1 + 1 + 1 + 1) = True := eq_true (by omega)
@[simp, go_sem] theorem le_up12 (n : Nat) : (n ≤ n + 1 + 1 + 1 + 1 + 1 + 1 + 1 + 1 + 1 + 1 + 1 + 1) = True := eq_true (by omega)
@[simp, go_sem] theorem mix_lt_up1 {b : Nat} (w x : World) (h : b < w.heap.size) : (b < (mix w x).heap.size + 1) = True := eq_true (by have := mix_size w x; omega)
@[simp, go_sem] theorem mix_ne_up1 {b : Nat} (w x : World) (h : b < w.heap.size) : (b = (mix w x).heap.size + 1) = False := eq_false (by have := mix_size w x; omega)
@[simp, go_sem] theorem mix_ne_up'1 {b : Nat} (w x : World) (h : b < w.heap.size) : ((mix w x).heap.size + 1 = b) = False := eq_false (by have := mix_size w x; omega)
@[simp, go_sem] theorem mix_lt_up2 {b : Nat} (w x : World) (h : b < w.heap.size) : (b < (mix w x).heap.size + 1 + 1) = True := eq_true (by have := mix_size w x; omega)
@[simp, go_sem] theorem mix_ne_up2 {b : Nat} (w x : World) (h : b < w.heap.size) : (b = (mix w x).heap.size + 1 + 1) = False := eq_false (by have := mix_size w x; omega)
@[simp, go_sem] theorem mix_ne_up'2 {b : Nat} (w x : World) (h : b < w.heap.size) : ((mix w x).heap.size + 1 + 1 = b) = False := eq_false (by have := mix_size w x; omega)
@[simp, go_sem] theorem mix_lt_up3 {b : Nat} (w x : World) (h : b < w.heap.size) : (b < (mix w x).heap.size + 1 + 1 + 1) = True := eq_true (by have := mix_size w x; omega)
@[simp, go_sem] theorem mix_ne_up3 {b : Nat} (w x : World) (h : b < w.heap.size) : (b = (mix w x).heap.size + 1 + 1 + 1) = False := eq_false (by have := mix_size w x; omega)
@[simp, go_sem] theorem mix_ne_up'3 {b : Nat} (w x : World) (h : b < w.heap.size) : ((mix w x).heap.size + 1 + 1 + 1 = b) = False := eq_false (by have := mix_size w x; omega)
@[simp, go_sem] theorem mix_lt_up4 {b : Nat} (w x : World) (h : b < w.heap.size) : (b < (mix w x).heap.size + 1 + 1 + 1 + 1) = True := eq_true (by have := mix_size w x; omega)
@[simp, go_sem] theorem mix_ne_up4 {b : Nat} (w x : World) (h : b < w.heap.size) : (b = (mix w x).heap.size + 1 + 1 + 1 + 1) = False := eq_false (by have := mix_size w x; omega)
@[simp, go_sem] theorem mix_ne_up'4 {b : Nat} (w x : World) (h : b < w.heap.size) : ((mix w x).heap.size + 1 + 1 + 1 + 1 = b) = False := eq_false (by have := mix_size w x; omega)
@[simp, go_sem] theorem mix_lt_up5 {b : Nat} (w x : World) (h : b < w.heap.size) : (b < (mix w x).heap.size + 1 + 1 + 1 + 1 + 1) = True := eq_true (by have := mix_size w x; omega)
@[simp, go_sem] theorem mix_ne_up5 {b : Nat} (w x : World) (h : b < w.heap.size) : (b = (mix w x).heap.size + 1 + 1 + 1 + 1 + 1) = False := eq_false (by have := mix_size w x; omega)
@[simp, go_sem] theorem mix_ne_up'5 {b : Nat} (w x : World) (h : b < w.heap.size) : ((mix w x).heap.size + 1 + 1 + 1 + 1 + 1 = b) = False := eq_false (by have := mix_size w x; omega)
@[simp, go_sem] theorem mix_lt_up6 {b : Nat} (w x : World) (h : b < w.heap.size) : (b < (mix w x).heap.size + 1 + 1 + 1 + 1 + 1 + 1) = True := eq_true (by have := mix_size w x; omega)
@[simp, go_sem] theorem mix_ne_up6 {b : Nat} (w x : World) (h : b < w.heap.size) : (b = (mix w x).heap.size + 1 + 1 + 1 + 1 + 1 + 1) = False := eq_false (by have := mix_size w x; omega)
@[simp, go_sem] theorem mix_ne_up'6 {b : Nat} (w x : World) (h : b < w.heap.size) : ((mix w x).heap.size + 1 + 1 + 1 + 1 + 1 + 1 = b) = False := eq_false (by have := mix_size w x; omega)
@[go_sem] theorem unary_negF (k : FloatKind) (b : Nat) : Op.unary .neg (.float k b) = pure (.float k (Op.negFloat k b)) := rfl
def Has (w : World) (b : Nat) (cs : Array Value) (t : TypeId) : Prop := w.heap[b]? = some (.cells cs t (0, 0))
theorem Has.lt {w : World} {b : Nat} {cs : Array Value} {t : TypeId} (h : Has w b cs t) : b < w.heap.size := by
  rcases Nat.lt_or_ge b w.heap.size with h' | h'
  · exact h'
  · unfold Has at h; rw [Array.getElem?_eq_none h'] at h; cases h
theorem Has.cell {w : World} {b : Nat} {cs : Array Value} {t : TypeId} (h : Has w b cs t) (i : Nat) : w.cell? ⟨b, i, none⟩ = cs[i]? := by
  unfold Has at h; simp [World.cell?, h]
theorem Has.frozen {w : World} {b : Nat} {cs : Array Value} {t : TypeId} (h : Has w b cs t) (i : Nat) : w.frozen? ⟨b, i, none⟩ = false := by
  unfold Has at h; simp [World.frozen?, h]
theorem Has.new (w : World) (cs : Array Value) (t : TypeId) : Has (w.alloc (.cells cs t)) w.heap.size cs t := by
  unfold Has World.alloc; simp
theorem Has.new' {w : World} {b : Nat} (hb : b = w.heap.size) (cs : Array Value) (t : TypeId) : Has (w.alloc (.cells cs t)) b cs t := by
  subst hb; exact Has.new w cs t
theorem Has.alloc {w : World} {b : Nat} {cs : Array Value} {t : TypeId} (h : Has w b cs t) (o : Obj) : Has (w.alloc o) b cs t := by
  have := h.lt
  unfold Has World.alloc at *
  rw [Array.getElem?_push, if_neg (by omega)]; exact h
theorem Has.below {w w' : World} {B b : Nat} {cs : Array Value} {t : TypeId} (h : Has w b cs t) (hb : Below B w w') (hl : b < B) : Has w' b cs t := by
  unfold Has at *; rw [hb.block b hl]; exact h
theorem Has.below' {w w' : World} {b : Nat} {cs : Array Value} {t : TypeId} (h : Has w b cs t) (hb : Below w.heap.size w w') : Has w' b cs t := h.below hb h.lt
theorem Has.mix {w : World} {b : Nat} {cs : Array Value} {t : TypeId} (h : Has w b cs t) (x : World) : Has (mix w x) b cs t := h.below (below_mix w x) h.lt
theorem Has.drew {w : World} {b : Nat} {cs : Array Value} {t : TypeId} (h : Has w b cs t) : Has w.drew b cs t := h
theorem Has.drewN {w : World} {b : Nat} {cs : Array Value} {t : TypeId} (h : Has w b cs t) (n : Nat) : Has (w.drewN n) b cs t := h
theorem Has.set_same {w : World} {b i : Nat} {cs cs' : Array Value} {t : TypeId} {v : Value} (h : Has w b cs t) (e : cs.setIfInBounds i v = cs') : Has (w.setCell ⟨b, i, none⟩ v) b cs' t := by
  subst e
  unfold Has World.setCell at *
  rw [Array.getElem?_modify]
  simp [h]
theorem Has.set_other {w : World} {b : Nat} {cs : Array Value} {t : TypeId} (h : Has w b cs t) {p : Addr} {v : Value} (hp : b ≠ p.block) : Has (w.setCell p v) b cs t := by
  unfold Has World.setCell at *
  rw [Array.getElem?_modify, if_neg (fun e => hp e.symm)]
  exact h
section
variable {P : Program} {w : World} {b : Nat} {t t' ty : TypeId}
theorem run_loadVar_has {cs : List Value} (h : Has w b cs.toArray t') (ha : ∀ w, (isAgg ty).run P w = .ok true w) (hs : ∀ w, (sizeOf ty).run P w = .ok cs.length w) :
    (loadVar ty ⟨b, 0, none⟩).run P w = .ok (.agg cs.toArray) w := by
  have hc := run_loadCells_list (P := P) w ⟨b, 0, none⟩ cs (fun j v hj => by
    have : (⟨b, 0, none⟩ : Addr).add j = ⟨b, j, none⟩ := by unfold Addr.add; by_cases e : j = 0 <;> simp [e]
    rw [this, h.cell]; simpa using hj)
  simp only [loadVar, Sem.run_bind, ha, hs, Result.andThen_ok, if_true, hc, Sem.run_pure]

theorem ret_cell {fn : Func} {R : Ending → World → Prop} {a : Act} {cs : List Value} {k : Tmp} (hres : fn.results = #[.cell k ty]) (hk : a.tmps.getD k undef = .pointer (some ⟨b, 0, none⟩)) (ha : ∀ w, (isAgg ty).run P w = .ok true w) (hs : ∀ w, (sizeOf ty).run P w = .ok cs.length w)
    (hd : a.defers = []) (h : Has w b cs.toArray t') (hR : R (.returned (.agg cs.toArray)) w) : bodyPost P fn R .ret a w := by
  refine bodyPost_ret (v := .agg cs.toArray) ?_ hd hR
  have := run_loadVar_has h ha hs
  have e : a.tmps[k]?.getD undef = .pointer (some ⟨b, 0, none⟩) := by rw [← Array.getD_eq_getD_getElem?]; exact hk
  simp [results, hres, hk, e, asAddr, this]

end
@[simp] theorem le_mix (w x : World) : w.heap.size ≤ (mix w x).heap.size := mix_size w x
end Go.Proofs.YtedkfipjooafeaaGreatDoor
namespace Go.Proofs.YtedkfipjooafeaaGreatDoor
open Go Go.RowKit

def ownOf : Op → Value → Option Nat
  | .alloc _, .pointer (some a) => some a.block
  | .box _ _, .pointer (some a) => some a.block
  | _, _ => none

def growUpon (P : Program) (op : Op) (w : World) (φ : Value → World → Prop) : Result Next → Prop
  | .ok (.value u) w' => Below w.heap.size w w' ∧ φ u w' ∧ ∀ b, ownOf op u = some b → w.heap.size ≤ b ∧ b < w'.heap.size
  | .ok (.enter f args) w' => w' = w ∧ (∀ v, ownOf op v = none) ∧ Calls P f args w (fun e w'' => ∃ v, e = .returned v ∧ Below w.heap.size w w'' ∧ φ v w'')
  | _ => False

def GrowAt (P : Program) (o : Oper) (a : Act) (w : World) (φ : Value → World → Prop) : Prop := growUpon P o.op w φ ((execOp a.eval o).run P w)

def FlowEnd (ops : Array Oper) (w : World) (K : Act → Prop) : List (Nat × (Value → World → Prop)) → Act → List Nat → Prop
  | [], a, _ => K a
  | (k, φ) :: r, a, us => ∀ v, φ v w → (∀ b, (ops[k]?).bind (fun o => ownOf o.op v) = some b → b ∉ us) →
      FlowEnd ops w K r (a.put ((ops[k]?).bind (·.dst)) v) (((ops[k]?).bind (fun o => ownOf o.op v)).toList ++ us)

def flowB (ops : Array Oper) (m : Nat) (blind : List Nat) : Bool :=
  ((List.range m).all fun i => match ops[i]? with
    | none => false
    | some o => ((List.range m).all fun k => match (ops[k]?).bind (·.dst) with
        | none => true
        | some d => !(o.looksAt ops).contains d || (decide (k < i) && !blind.contains k && o.after.any fun e => Region.binds .any e && e.on == k)) && o.after.all fun e => !Region.binds .any e || decide (e.on < i)) &&
  ((List.range m).all fun i => (List.range m).all fun k => i == k || (match (ops[i]?).bind (·.dst), (ops[k]?).bind (·.dst) with | some d, some d' => d != d' | _, _ => true)) &&
  (blind.all fun k => decide (k < m) && (match ops[k]? with | some o => o.dst.isSome && o.guard.isNone | none => false)) && decide blind.Nodup

def sinkS (ops : Array Oper) (m : Nat) (fl : List Nat) : Bool :=
  (List.range m).all fun i => fl.contains i || (List.range (m + 1)).any fun j => decide (i < j) && (j == m || !fl.contains j) && Region.waitsFor .any ops j i
def floatB (ops : Array Oper) (m : Nat) (fl : List Nat) : Bool :=
  fl.all fun i => decide (i < m) && match ops[i]? with
    | none => false
    | some o => o.dst.isSome && o.guard.isNone && (List.range ops.size).all fun j => match ops[j]? with
      | none => true
      | some oj => i == j || Region.waitsFor .any ops j i || Region.waitsFor .any ops i j || o.apart ops oj
def tailB (ops : Array Oper) (m : Nat) (fl : List Nat) : Bool :=
  Region.noSelect ops && decide (m < ops.size) && sinkS ops m fl && floatB ops m fl && Region.chainB .any ops m && Region.seqB .any ops (ops.size - m) m ((Array.replicate m true) ++ (Array.replicate (ops.size - m) false))

section
variable {P : Program} {ops : Array Oper}

theorem tmps_put (a : Act) (d t : Tmp) (v : Value) : (a.put (some d) v).tmps[t]? = if d = t then (if t < a.tmps.size then some v else none) else a.tmps[t]? := by
  simp only [Act.put, Array.getElem?_setIfInBounds]
  split <;> simp_all

theorem size_put (a : Act) (d : Option Tmp) (v : Value) : (a.put d v).tmps.size = a.tmps.size := by cases d <;> simp [Act.put]
theorem defers_put (a : Act) (d : Option Tmp) (v : Value) : (a.put d v).defers = a.defers := by cases d <;> rfl

theorem eval_congr {a a' : Act} {x : Operand} (h : ∀ t, x = .tmp t → a.tmps[t]? = a'.tmps[t]?) : a.eval x = a'.eval x := by
  cases x with
  | tmp t =>
    show a.tmps.getD t undef = a'.tmps.getD t undef
    rw [Array.getD_eq_getD_getElem?, Array.getD_eq_getD_getElem?, h t rfl]
  | _ => rfl

theorem exec_agree {a a' : Act} (o : Oper) (hs : ∀ cs b, o.op ≠ .select cs b) (h : ∀ t ∈ o.looksAt ops, a.tmps[t]? = a'.tmps[t]?) : execOp a.eval o = execOp a'.eval o :=
  execOp_congr o hs fun x hx => eval_congr fun t ht => h t (by
    subst ht
    exact List.mem_append_left _ (List.mem_filterMap.2 ⟨.tmp t, by simpa using hx, rfl⟩))

theorem wanted_agree {a a' : Act} (o : Oper) (h : ∀ t ∈ o.looksAt ops, a.tmps[t]? = a'.tmps[t]?) : Region.wanted o (yielded ops a.tmps) = Region.wanted o (yielded ops a'.tmps) := by
  unfold Region.wanted
  cases hg : o.guard with
  | none => rfl
  | some gw =>
    obtain ⟨g, want⟩ := gw
    have : yielded ops a.tmps g = yielded ops a'.tmps g := by
      unfold yielded
      cases ht : (ops[g]?).bind (·.dst) with
      | none => rfl
      | some t =>
        have := h t (by simp [Oper.looksAt, hg, ht])
        simp [this]
    simp only [this]

theorem quiet_frame {C : World → Prop} {aEnd : Act} : ∀ (l : List Oper) (a : Act), wpQuiet P ops C (fun a' => a' = aEnd) l a →
    aEnd.defers = a.defers ∧ aEnd.tmps.size = a.tmps.size ∧ ∀ t, (∀ o ∈ l, o.dst ≠ some t) → aEnd.tmps[t]? = a.tmps[t]?
  | [], a, h => by
    have h' : a = aEnd := h
    subst h'
    exact ⟨rfl, rfl, fun _ _ => rfl⟩
  | o :: l, a, h => by
    have step : ∀ v, wpQuiet P ops C (fun a' => a' = aEnd) l (a.put o.dst v) → aEnd.defers = a.defers ∧ aEnd.tmps.size = a.tmps.size ∧ ∀ t, (∀ x ∈ o :: l, x.dst ≠ some t) → aEnd.tmps[t]? = a.tmps[t]? := by
      intro v hv
      obtain ⟨h1, h2, h3⟩ := quiet_frame l _ hv
      refine ⟨by rw [h1, defers_put], by rw [h2, size_put], fun t ht => ?_⟩
      rw [h3 t (fun x hx => ht x (List.mem_cons_of_mem _ hx))]
      cases hd : o.dst with
      | none => rfl
      | some d =>
        rw [tmps_put, if_neg]
        intro e
        exact ht o (List.mem_cons_self ..) (by rw [hd, e])
    unfold wpQuiet at h
    split at h
    · obtain ⟨v, _, hv⟩ := h
      exact step v hv
    · exact step undef h

theorem quiet_op {C : World → Prop} {aEnd : Act} : ∀ (l : List Oper) (a : Act), wpQuiet P ops C (fun a' => a' = aEnd) l a →
    (∀ i j : Nat, i ≠ j → ∀ o o', l[i]? = some o → l[j]? = some o' → ∀ d, o.dst = some d → o'.dst ≠ some d) →
    ∀ (i : Nat) (o : Oper), l[i]? = some o → (∀ j o', i ≤ j → l[j]? = some o' → ∀ d, o'.dst = some d → d ∉ o.looksAt ops) → (∀ cs b, o.op ≠ .select cs b) →
    ∀ a' : Act, (∀ t ∈ o.looksAt ops, a'.tmps[t]? = aEnd.tmps[t]?) → ∃ v, (∀ d, o.dst = some d → d < a.tmps.size → aEnd.tmps[d]? = some v) ∧
      ((Region.wanted o (yielded ops a'.tmps) = true ∧ ∀ w, C w → o.quietAt P a' C w v) ∨ (Region.wanted o (yielded ops a'.tmps) = false ∧ v = undef))
  | [], _, _, _, i, o, hi, _, _, _, _ => by simp at hi
  | x :: l, a, h, hd, 0, o, hi, hlk, hsel, a', ha' => by
    have hx : x = o := by simpa using hi
    subst hx
    -- at this frame the looked-at slots hold what the end holds
    have hag : ∀ t ∈ x.looksAt ops, a.tmps[t]? = a'.tmps[t]? := fun t ht => by
      rw [ha' t ht]
      have hfr := (quiet_frame (x :: l) a h).2.2 t (fun y hy hyd => by
        obtain ⟨j, hj⟩ := List.mem_iff_getElem?.1 hy
        exact hlk j y (Nat.zero_le _) hj t hyd ht)
      exact hfr.symm
    have hw := wanted_agree x hag
    have he := exec_agree x hsel hag
    unfold wpQuiet at h
    have fin : ∀ v, wpQuiet P ops C (fun a' => a' = aEnd) l (a.put x.dst v) → ∀ d, x.dst = some d → d < a.tmps.size → aEnd.tmps[d]? = some v := fun v hv d hdd hlt => by
      have h3 := (quiet_frame l _ hv).2.2 d (fun y hy hyd => by
        obtain ⟨j, hj⟩ := List.mem_iff_getElem?.1 hy
        exact hd 0 (j + 1) (by omega) x y (by simp) (by simpa using hj) d hdd hyd)
      rw [h3, hdd, tmps_put, if_pos rfl, if_pos hlt]
    split at h
    · rename_i hwt
      obtain ⟨v, hv, hn⟩ := h
      refine ⟨v, fin v hn, .inl ⟨by rw [← hw]; exact hwt, fun w hCw => ?_⟩⟩
      have := hv w hCw
      unfold Oper.quietAt at *
      rw [← he]; exact this
    · rename_i hwt
      exact ⟨undef, fin undef h, .inr ⟨by rw [← hw]; simpa using hwt, rfl⟩⟩
  | x :: l, a, h, hd, i + 1, o, hi, hlk, hsel, a', ha' => by
    have rec' : ∀ v, wpQuiet P ops C (fun a' => a' = aEnd) l (a.put x.dst v) → _ := fun v hv =>
      quiet_op l (a.put x.dst v) hv (fun i j hij o o' h1 h2 => hd (i + 1) (j + 1) (by omega) o o' (by simpa using h1) (by simpa using h2)) i o (by simpa using hi)
        (fun j o' hj h2 => hlk (j + 1) o' (by omega) (by simpa using h2)) hsel a' ha'
    unfold wpQuiet at h
    split at h
    · obtain ⟨v, _, hn⟩ := h
      obtain ⟨u, h1, h2⟩ := rec' v hn
      exact ⟨u, fun d h3 h4 => h1 d h3 (by rw [size_put]; exact h4), h2⟩
    · obtain ⟨u, h1, h2⟩ := rec' undef h
      exact ⟨u, fun d h3 h4 => h1 d h3 (by rw [size_put]; exact h4), h2⟩
end

def headQ : List Bool → List Oper → List Oper
  | true :: ks, o :: r => o :: headQ ks r
  | false :: ks, _ :: r => headQ ks r
  | _, _ => []

theorem headQ_idx : ∀ (mask : List Bool) (l : List Oper), ∃ idx : Nat → Nat, (∀ i j, i < j → idx i < idx j) ∧
    (∀ (j : Nat) (o : Oper), (headQ mask l)[j]? = some o → l[idx j]? = some o ∧ mask[idx j]? = some true) ∧
    (∀ (i : Nat) (o : Oper), mask[i]? = some true → l[i]? = some o → ∃ j, idx j = i ∧ (headQ mask l)[j]? = some o)
  | [], l => ⟨id, fun _ _ h => h, fun j o h => by simp [headQ] at h, fun i o h => by simp at h⟩
  | b :: ks, [] => ⟨id, fun _ _ h => h, fun j o h => by cases b <;> simp [headQ] at h, fun i o _ h => by simp at h⟩
  | true :: ks, o :: r => by
    obtain ⟨idx, h1, h2, h3⟩ := headQ_idx ks r
    refine ⟨fun j => match j with | 0 => 0 | j + 1 => idx j + 1, ?_, ?_, ?_⟩
    · intro i j hij
      match i, j, hij with
      | 0, j + 1, _ => show 0 < idx j + 1; omega
      | i + 1, j + 1, hij => show idx i + 1 < idx j + 1; have := h1 i j (by omega); omega
    · intro j x hx
      match j with
      | 0 => simpa [headQ] using hx
      | j + 1 => simpa using h2 j x (by simpa [headQ] using hx)
    · intro i x hm hx
      match i with
      | 0 => exact ⟨0, rfl, by simpa [headQ] using hx⟩
      | i + 1 =>
        obtain ⟨j, hj, hh⟩ := h3 i x (by simpa using hm) (by simpa using hx)
        exact ⟨j + 1, by show idx j + 1 = i + 1; omega, by simpa [headQ] using hh⟩
  | false :: ks, o :: r => by
    obtain ⟨idx, h1, h2, h3⟩ := headQ_idx ks r
    refine ⟨fun j => idx j + 1, fun i j hij => by have := h1 i j hij; show idx i + 1 < idx j + 1; omega, ?_, ?_⟩
    · intro j x hx
      simpa using h2 j x (by simpa [headQ] using hx)
    · intro i x hm hx
      match i with
      | 0 => simp at hm
      | i + 1 =>
        obtain ⟨j, hj, hh⟩ := h3 i x (by simpa using hm) (by simpa using hx)
        exact ⟨j, by show idx j + 1 = i + 1; omega, by simpa [headQ] using hh⟩

def left (m : Nat) (listed : Array Bool) : Nat := (List.range m).countP fun k => listed.getD k true == false

theorem countP_one (p q : Nat → Bool) : ∀ (m i : Nat), i < m → (∀ k, k ≠ i → p k = q k) → p i = true → q i = false → (List.range m).countP p = (List.range m).countP q + 1
  | 0, _, h, _, _, _ => by omega
  | m + 1, i, hi, he, hp, hq => by
    rw [List.range_succ, List.countP_append, List.countP_append]
    by_cases hm : i = m
    · subst hm
      have : (List.range i).countP p = (List.range i).countP q := List.countP_congr fun k hk => by
        rw [he k (by have := List.mem_range.1 hk; omega)]
      simp [this, hp, hq]
    · have := countP_one p q m i (by omega) he hp hq
      have e : p m = q m := he m (by omega)
      simp [List.countP_cons, e]; omega

theorem left_set {m i : Nat} {listed : Array Bool} (hi : i < m) (hu : listed.getD i true = false) : left m listed = left m (listed.setIfInBounds i true) + 1 := by
  refine countP_one _ _ m i hi (fun k hk => by rw [getD_set_ne true (Ne.symm hk)]) (by simp [hu]) ?_
  have hs : i < listed.size := by
    rcases Nat.lt_or_ge i listed.size with h | h
    · exact h
    · simp [Array.getElem?_eq_none h] at hu
  simp [hs]

theorem left_zero {m : Nat} {listed : Array Bool} (h : left m listed = 0) (k : Nat) (hk : k < m) : listed.getD k true = true := by
  unfold left at h
  rw [List.countP_eq_zero] at h
  have := h k (List.mem_range.2 hk)
  simpa using this

theorem left_least {m : Nat} {listed : Array Bool} (h : left m listed ≠ 0) : ∃ i, i < m ∧ listed.getD i true = false ∧ ∀ k, k < i → listed.getD k true = true := by
  have hex : ∃ i, i < m ∧ listed.getD i true = false := by
    apply Classical.byContradiction
    intro hn
    apply h
    unfold left
    rw [List.countP_eq_zero]
    intro k hk
    have hk' := List.mem_range.1 hk
    cases hb : listed.getD k true with
    | true => simp
    | false => exact absurd ⟨k, hk', hb⟩ hn
  obtain ⟨i, hi⟩ := hex
  induction i using Nat.strongRecOn with
  | _ i ih =>
    by_cases hk : ∃ k, k < i ∧ listed.getD k true = false
    · obtain ⟨k, hki, hkf⟩ := hk
      exact ih k hki ⟨by omega, hkf⟩
    · refine ⟨i, hi.1, hi.2, fun k hki => ?_⟩
      cases hb : listed.getD k true with
      | true => rfl
      | false => exact absurd ⟨k, hki, hb⟩ hk

section
variable {P : Program}

structure Mid (ops : Array Oper) (m : Nat) (blind : List (Nat × (Value → World → Prop))) (a aEnd : Act) (W : World) (listed : Array Bool) (a' : Act) (w : World) : Prop where
  grow : Below W.heap.size W w
  defs : a'.defers = a.defers
  size : a'.tmps.size = a.tmps.size
  old : ∀ t, (∀ k, k < m → (ops[k]?).bind (·.dst) = some t → listed.getD k false = false) → a'.tmps[t]? = a.tmps[t]?
  quiet : ∀ k, k < m → k ∉ blind.map (·.1) → listed.getD k false = true → ∀ d, (ops[k]?).bind (·.dst) = some d → a'.tmps[d]? = aEnd.tmps[d]?
  blinds : ∀ k φ, (k, φ) ∈ blind → listed.getD k false = true → ∀ d, (ops[k]?).bind (·.dst) = some d → d < a.tmps.size → ∃ v, a'.tmps[d]? = some v ∧ φ v w ∧ ∀ b, (ops[k]?).bind (fun o => ownOf o.op v) = some b → b < w.heap.size
  apart : ∀ k k', k ∈ blind.map (·.1) → k' ∈ blind.map (·.1) → k ≠ k' → listed.getD k false = true → listed.getD k' false = true → ∀ d d' v v' b, (ops[k]?).bind (·.dst) = some d → (ops[k']?).bind (·.dst) = some d' →
    a'.tmps[d]? = some v → a'.tmps[d']? = some v' → (ops[k]?).bind (fun o => ownOf o.op v) = some b → (ops[k']?).bind (fun o => ownOf o.op v') ≠ some b

theorem getD_set_self {listed : Array Bool} {i : Nat} (h : listed.getD i true = false) : (listed.setIfInBounds i true).getD i false = true := by
  have hs : i < listed.size := by
    rcases Nat.lt_or_ge i listed.size with h' | h'
    · exact h'
    · simp [Array.getElem?_eq_none h'] at h
  simp [hs]

theorem unique_fst {α : Type} : ∀ {l : List (Nat × α)}, (l.map (·.1)).Nodup → ∀ {k : Nat} {x y : α}, (k, x) ∈ l → (k, y) ∈ l → x = y
  | [], _, _, _, _, h, _ => by cases h
  | (k0, z) :: l, hn, k, x, y, hx, hy => by
    simp only [List.map_cons, List.nodup_cons] at hn
    rcases List.mem_cons.1 hx with hx | hx <;> rcases List.mem_cons.1 hy with hy | hy
    · cases hx; cases hy; rfl
    · cases hx; exact absurd (List.mem_map.2 ⟨_, hy, rfl⟩) hn.1
    · cases hy; exact absurd (List.mem_map.2 ⟨_, hx, rfl⟩) hn.1
    · exact unique_fst hn.2 hx hy

theorem getD_true_iff {listed : Array Bool} {i k : Nat} (h : (listed.setIfInBounds i true).getD k false = true) : k = i ∨ listed.getD k false = true := by
  by_cases e : i = k
  · exact .inl e.symm
  · rw [getD_set_ne false e] at h; exact .inr h

variable {ops : Array Oper} {m : Nat} {blind : List (Nat × (Value → World → Prop))} {a aEnd : Act} {W : World}

theorem mid_put (hdist : ∀ i k, i < m → k < m → i ≠ k → ∀ d, (ops[i]?).bind (·.dst) = some d → (ops[k]?).bind (·.dst) ≠ some d)
    (hbm : ∀ k, k ∈ blind.map (·.1) → k < m)
    (mono : ∀ k φ, (k, φ) ∈ blind → ∀ v w w', Below w.heap.size w w' → φ v w → φ v w')
    {listed : Array Bool} {a' : Act} {w w' : World} (h : Mid ops m blind a aEnd W listed a' w) (hw : Below w.heap.size w w') {i : Nat} (hi : i < m) (hu : listed.getD i true = false) {v : Value}
    (hq : i ∉ blind.map (·.1) → ∀ d, (ops[i]?).bind (·.dst) = some d → aEnd.tmps[d]? = if d < a.tmps.size then some v else none)
    (hb : ∀ φ, (i, φ) ∈ blind → φ v w' ∧ ∀ b, (ops[i]?).bind (fun o => ownOf o.op v) = some b → w.heap.size ≤ b ∧ b < w'.heap.size) :
    Mid ops m blind a aEnd W (listed.setIfInBounds i true) (a'.put ((ops[i]?).bind (·.dst)) v) w' := by
  have tp : ∀ d k, k < m → k ≠ i → (ops[k]?).bind (·.dst) = some d → (a'.put ((ops[i]?).bind (·.dst)) v).tmps[d]? = a'.tmps[d]? := fun d k hk hki hd => by
    cases hdi : (ops[i]?).bind (·.dst) with
    | none => rfl
    | some e =>
      rw [tmps_put, if_neg]
      intro he
      subst he
      exact hdist i k hi hk (Ne.symm hki) _ hdi hd
  have ti : ∀ d, (ops[i]?).bind (·.dst) = some d → (a'.put ((ops[i]?).bind (·.dst)) v).tmps[d]? = if d < a.tmps.size then some v else none := fun d hd => by
    rw [hd, tmps_put, if_pos rfl, h.size]
  refine ⟨h.grow.trans (hw.mono h.grow.size), by rw [defers_put, h.defs], by rw [size_put, h.size], ?_, ?_, ?_, ?_⟩
  · intro t ht
    have h1 := h.old t (fun k hk hd => by
      have := ht k hk hd
      by_cases e : i = k
      · subst e; rw [getD_set_self hu] at this; cases this
      · rwa [getD_set_ne false e] at this)
    rw [← h1]
    cases hdi : (ops[i]?).bind (·.dst) with
    | none => rfl
    | some e =>
      rw [tmps_put, if_neg]
      intro he
      subst he
      have := ht i hi hdi
      rw [getD_set_self hu] at this
      cases this
  · intro k hk hkb hl d hd
    rcases getD_true_iff hl with rfl | hl1
    · rw [ti d hd]; exact (hq hkb d hd).symm
    · have hki : k ≠ i := by
        rintro rfl
        rw [getD_both hu] at hl1; cases hl1
      rw [tp d k hk hki hd]; exact h.quiet k hk hkb hl1 d hd
  · intro k φ hm hl d hd hds
    have hk : k < m := hbm k (List.mem_map.2 ⟨_, hm, rfl⟩)
    rcases getD_true_iff hl with rfl | hl1
    · obtain ⟨h1, h2⟩ := hb φ hm
      exact ⟨v, by rw [ti d hd, if_pos hds], h1, fun b hbb => (h2 b hbb).2⟩
    · have hki : k ≠ i := by
        rintro rfl
        rw [getD_both hu] at hl1; cases hl1
      obtain ⟨u, h1, h2, h3⟩ := h.blinds k φ hm hl1 d hd hds
      exact ⟨u, by rw [tp d k hk hki hd]; exact h1, mono k φ hm u w w' hw h2, fun b hbb => Nat.lt_of_lt_of_le (h3 b hbb) hw.size⟩
  · intro k k' hk hk' hne hl hl' d d' u u' b hd hd' hu1 hu2 hb1 hb2
    have key : ∀ k k' d d' u u' b, k ∈ blind.map (·.1) → k = i → k' ∈ blind.map (·.1) → k' ≠ i → listed.getD k' false = true → (ops[k]?).bind (·.dst) = some d → (ops[k']?).bind (·.dst) = some d' →
        (a'.put ((ops[i]?).bind (·.dst)) v).tmps[d]? = some u → (a'.put ((ops[i]?).bind (·.dst)) v).tmps[d']? = some u' →
        (ops[k]?).bind (fun o => ownOf o.op u) = some b → (ops[k']?).bind (fun o => ownOf o.op u') = some b → False := by
      intro k k' d d' u u' b hk hki hk' hki' hl' hd hd' hu1 hu2 hb1 hb2
      subst hki
      rw [ti d hd] at hu1
      split at hu1
      · cases hu1
        obtain ⟨⟨kk, φ⟩, hm, rfl⟩ := List.mem_map.1 hk
        obtain ⟨⟨kk', φ'⟩, hm', rfl⟩ := List.mem_map.1 hk'
        rw [tp d' kk' (hbm _ hk') hki' hd'] at hu2
        have hds : d' < a.tmps.size := by
          rcases Nat.lt_or_ge d' a.tmps.size with h' | h'
          · exact h'
          · rw [← h.size] at h'; rw [Array.getElem?_eq_none h'] at hu2; cases hu2
        obtain ⟨x, hx1, _, hx3⟩ := h.blinds kk' φ' hm' hl' d' hd' hds
        rw [hx1] at hu2
        cases hu2
        have h5 := hx3 b hb2
        have h6 := ((hb φ hm).2 b hb1).1
        omega
      · cases hu1
    rcases getD_true_iff hl with hki | hl1
    · rcases getD_true_iff hl' with hki' | hl2
      · exact hne (hki.trans hki'.symm)
      · have hne' : k' ≠ i := fun e => hne (hki.trans e.symm)
        exact key k k' d d' u u' b hk hki hk' hne' hl2 hd hd' hu1 hu2 hb1 hb2
    · have hki : k ≠ i := by
        rintro rfl
        rw [getD_both hu] at hl1; cases hl1
      rcases getD_true_iff hl' with hki' | hl2
      · exact key k' k d' d u' u b hk' hki' hk hki hl1 hd' hd hu2 hu1 hb2 hb1
      · have hki' : k' ≠ i := by
          rintro rfl
          rw [getD_both hu] at hl2; cases hl2
        rw [tp d k (hbm k hk) hki hd] at hu1
        rw [tp d' k' (hbm k' hk') hki' hd'] at hu2
        exact h.apart k k' hk hk' hne hl1 hl2 d d' u u' b hd hd' hu1 hu2 hb1 hb2

theorem flow_spec {bl : List Nat} (h : flowB ops m bl = true) :
    (∀ i, i < m → ∃ o, ops[i]? = some o ∧ (∀ k d, k < m → (ops[k]?).bind (·.dst) = some d → d ∈ o.looksAt ops → k < i ∧ k ∉ bl ∧ ∃ e ∈ o.after, Region.binds .any e = true ∧ e.on = k) ∧ ∀ e ∈ o.after, Region.binds .any e = true → e.on < i) ∧
    (∀ i k, i < m → k < m → i ≠ k → ∀ d, (ops[i]?).bind (·.dst) = some d → (ops[k]?).bind (·.dst) ≠ some d) ∧
    (∀ k ∈ bl, k < m ∧ ∃ o d, ops[k]? = some o ∧ o.dst = some d ∧ o.guard = none) ∧ bl.Nodup := by
  unfold flowB at h
  simp only [Bool.and_eq_true, decide_eq_true_eq] at h
  obtain ⟨⟨⟨h1, h2⟩, h3⟩, h4⟩ := h
  refine ⟨fun i hi => ?_, fun i k hi hk hne d hd hd' => ?_, fun k hk => ?_, h4⟩
  · have := List.all_eq_true.1 h1 i (List.mem_range.2 hi)
    cases ho : ops[i]? with
    | none => simp [ho] at this
    | some o =>
      simp only [ho, Bool.and_eq_true] at this
      obtain ⟨ha, hb⟩ := this
      refine ⟨o, rfl, fun k d hk hd hlk => ?_, fun e he hbe => ?_⟩
      · have := List.all_eq_true.1 ha k (List.mem_range.2 hk)
        simp only [hd, Bool.or_eq_true, Bool.not_eq_true', Bool.and_eq_true, decide_eq_true_eq] at this
        rcases this with h' | ⟨⟨h5, h6⟩, h7⟩
        · simp [hlk] at h'
        · obtain ⟨e, he, hbe⟩ := Array.any_eq_true'.1 h7
          simp only [Bool.and_eq_true, beq_iff_eq] at hbe
          exact ⟨h5, by simpa using h6, e, he, hbe.1, hbe.2⟩
      · have := (Array.all_eq_true_iff_forall_mem.1 hb) e he
        simp only [Bool.or_eq_true, Bool.not_eq_true', decide_eq_true_eq] at this
        rcases this with h' | h'
        · rw [hbe] at h'; cases h'
        · exact h'
  · have := List.all_eq_true.1 (List.all_eq_true.1 h2 i (List.mem_range.2 hi)) k (List.mem_range.2 hk)
    simp only [hd, hd', Bool.or_eq_true, beq_iff_eq] at this
    rcases this with h' | h'
    · exact hne h'
    · simp at h'
  · have := List.all_eq_true.1 h3 k hk
    simp only [Bool.and_eq_true, decide_eq_true_eq] at this
    cases ho : ops[k]? with
    | none => simp [ho] at this
    | some o =>
      simp only [ho, Bool.and_eq_true] at this
      obtain ⟨d, hd⟩ := Option.isSome_iff_exists.1 this.2.1
      exact ⟨this.1, o, d, rfl, hd, by simpa using this.2.2⟩

theorem mid_step {l : List Oper} {mask : List Bool} {Q' : Exit → Act → World → Prop} (hsel : ∀ (j : Nat) (o : Oper) cs b, l.toArray[j]? = some o → o.op ≠ .select cs b)
    (hB : flowB l.toArray m (blind.map (·.1)) = true) (hmask : ∀ i, i < m → (mask[i]? = some true ∧ i ∉ blind.map (·.1)) ∨ (mask[i]? = some false ∧ i ∈ blind.map (·.1))) (hml : mask.length = m)
    (mono : ∀ k φ, (k, φ) ∈ blind → ∀ v w w', Below w.heap.size w w' → φ v w → φ v w')
    (hquiet : ∀ U, Below W.heap.size W U → wpQuiet P l.toArray (fun w' => ∃ x, w' = mix U x) (fun a' => a' = aEnd) (headQ mask l) a)
    (hblind : ∀ k φ, (k, φ) ∈ blind → ∀ o, l.toArray[k]? = some o → ∀ w, Below W.heap.size W w → GrowAt P o aEnd w φ)
    {listed : Array Bool} {a' : Act} {w : World} (h : Mid l.toArray m blind a aEnd W listed a' w) {i : Nat} (hi : i < m) (hr : i ∈ Region.ready .any l.toArray listed) :
    wpOp P l.toArray Q' i (fun a'' w'' => Mid l.toArray m blind a aEnd W (listed.setIfInBounds i true) a'' w'') a' w := by
  obtain ⟨hs1, hdist, hbl, hnd⟩ := flow_spec hB
  obtain ⟨hu, o, ho, hall⟩ := mem_ready.1 hr
  obtain ⟨o', ho', hlook, _⟩ := hs1 i hi
  obtain rfl : o = o' := Option.some.inj (ho.symm.trans ho')
  have hbm : ∀ k, k ∈ blind.map (·.1) → k < m := fun k hk => (hbl k hk).1
  have hW := hquiet w h.grow
  obtain ⟨idx, hmonoi, hget, hsurj⟩ := headQ_idx mask l
  have hlto : ∀ k, l.toArray[k]? = l[k]? := fun k => by rw [List.getElem?_toArray]
  -- where it looks, the frame holds what the end holds
  have hag : ∀ t ∈ o.looksAt l.toArray, a'.tmps[t]? = aEnd.tmps[t]? := fun t ht => by
    by_cases hx : ∃ k, k < m ∧ (l.toArray[k]?).bind (·.dst) = some t
    · obtain ⟨k, hk, hd⟩ := hx
      obtain ⟨_, hkb, e, he, hbe, hon⟩ := hlook k t hk hd ht
      exact h.quiet k hk hkb (by rw [← hon]; exact hall e he hbe) t hd
    · rw [h.old t (fun k hk hd => absurd ⟨k, hk, hd⟩ hx)]
      refine ((quiet_frame _ a hW).2.2 t (fun y hy hyd => ?_)).symm
      obtain ⟨j, hj⟩ := List.mem_iff_getElem?.1 hy
      obtain ⟨h1, h2⟩ := hget j y hj
      refine hx ⟨idx j, ?_, by rw [hlto, h1]; exact hyd⟩
      have := (List.getElem?_eq_some_iff.1 h2).1
      omega
  rcases hmask i hi with ⟨hmi, hib⟩ | ⟨hmi, hib⟩
  · obtain ⟨j, hj, hjo⟩ := hsurj i o hmi (by rw [← hlto]; exact ho)
    obtain ⟨v, hv, hrun⟩ := quiet_op (headQ mask l) a hW (fun p q hpq x y hx hy d hd hd' => by
        obtain ⟨hx1, hx2⟩ := hget p x hx
        obtain ⟨hy1, hy2⟩ := hget q y hy
        have hne : idx p ≠ idx q := fun e => by
          rcases Nat.lt_or_gt_of_ne hpq with hlt | hlt
          · have := hmonoi p q hlt; omega
          · have := hmonoi q p hlt; omega
        have lp := (List.getElem?_eq_some_iff.1 hx2).1
        have lq := (List.getElem?_eq_some_iff.1 hy2).1
        exact hdist (idx p) (idx q) (by omega) (by omega) hne d (by rw [hlto, hx1]; exact hd) (by rw [hlto, hy1]; exact hd'))
      j o hjo (fun q y hq hy d hd hlk => by
        obtain ⟨hy1, hy2⟩ := hget q y hy
        have lq := (List.getElem?_eq_some_iff.1 hy2).1
        obtain ⟨hlt, _⟩ := hlook (idx q) d (by omega) (by rw [hlto, hy1]; exact hd) hlk
        rcases Nat.lt_or_eq_of_le hq with h' | h'
        · have := hmonoi j q h'; omega
        · subst h'; omega)
      (fun cs b => hsel i o cs b ho) a' hag
    have fin : ∀ w', Below w.heap.size w w' → Mid l.toArray m blind a aEnd W (listed.setIfInBounds i true) (a'.put o.dst v) w' := fun w' hw' => by
      have := mid_put hdist hbm mono h hw' hi hu (v := v) (fun _ d hd => by
        have hd' : o.dst = some d := by rw [ho] at hd; simpa using hd
        by_cases hlt : d < a.tmps.size
        · rw [if_pos hlt]; exact hv d hd' hlt
        · rw [if_neg hlt]; exact Array.getElem?_eq_none (by rw [(quiet_frame _ a hW).2.1]; exact Nat.not_lt.1 hlt)) (fun φ hm => absurd (List.mem_map.2 ⟨_, hm, rfl⟩) hib)
      rw [ho] at this
      exact this
    unfold wpOp
    simp only [ho]
    rcases hrun with ⟨hwt, hq⟩ | ⟨hwt, rfl⟩
    · rw [if_pos hwt]
      refine .inl ?_
      have h3 := hq w (to_mix (Below.refl _ _))
      unfold Oper.quietAt at h3
      unfold Oper.wp
      generalize (execOp a'.eval o).run P w = r at *
      cases r with
      | ok n w' =>
        cases n <;> simp only [Oper.quietUpon] at h3 <;> simp only [Oper.upon]
        case value u => obtain ⟨rfl, rfl⟩ := h3; exact fin _ (Below.refl _ _)
        case skip => obtain ⟨rfl, rfl⟩ := h3; exact fin _ (Below.refl _ _)
        case enter f args =>
          obtain ⟨rfl, hc⟩ := h3
          exact hc.mono fun e w'' ⟨he, y, hy⟩ => by subst he; subst hy; exact fin _ (below_mix _ _)
      | halt x w' => simp only [Oper.quietUpon] at h3
    · rw [if_neg (by rw [hwt]; exact Bool.false_ne_true)]
      exact fin _ (Below.refl _ _)
  · obtain ⟨_, o2, d, ho2, hd, hg⟩ := hbl i hib
    obtain rfl : o = o2 := Option.some.inj (ho.symm.trans ho2)
    obtain ⟨⟨i', φ⟩, hm, rfl⟩ := List.mem_map.1 hib
    have hgr := hblind _ φ hm o ho w h.grow
    unfold GrowAt at hgr
    rw [← exec_agree o (fun cs b => hsel _ o cs b ho) hag] at hgr
    have fin : ∀ v w', Below w.heap.size w w' → φ v w' → (∀ b, ownOf o.op v = some b → w.heap.size ≤ b ∧ b < w'.heap.size) → Mid l.toArray m blind a aEnd W (listed.setIfInBounds i' true) (a'.put o.dst v) w' := fun v w' hw' hφ hown => by
      have := mid_put hdist hbm mono h hw' hi hu (v := v) (fun hn => absurd hib hn) (fun φ' hm' => by
        obtain rfl := unique_fst hnd hm hm'
        refine ⟨hφ, fun b hb => hown b ?_⟩
        rw [ho] at hb; simpa using hb)
      rw [ho] at this
      exact this
    unfold wpOp
    simp only [ho]
    rw [if_pos (by unfold Region.wanted; rw [hg])]
    refine .inl ?_
    unfold Oper.wp
    generalize (execOp a'.eval o).run P w = r at *
    cases r with
    | ok n w' =>
      cases n <;> simp only [growUpon] at hgr <;> simp only [Oper.upon]
      case value u => exact fin u w' hgr.1 hgr.2.1 hgr.2.2
      case enter f args =>
        obtain ⟨rfl, hno, hc⟩ := hgr
        refine hc.mono fun e w'' ⟨v, he, hb, hφ⟩ => ?_
        subst he
        exact fin v w'' hb hφ fun b hb' => by rw [hno v] at hb'; cases hb'
    | halt x w' => simp only [growUpon] at hgr

theorem flow_end {w : World} {K : Act → Prop} (hdist : ∀ i k, i < m → k < m → i ≠ k → ∀ d, (ops[i]?).bind (·.dst) = some d → (ops[k]?).bind (·.dst) ≠ some d) (hbm : ∀ k ∈ blind.map (·.1), k < m) (hnd : (blind.map (·.1)).Nodup)
    (a' : Act) (hsz : a'.tmps.size = a.tmps.size) :
    ∀ (bl : List (Nat × (Value → World → Prop))), bl.length ≤ blind.length → (∀ x ∈ bl, x ∈ blind) → (bl.map (·.1)).Nodup → ∀ (b : Act) (us : List Nat), b.tmps.size = a'.tmps.size → b.defers = a'.defers →
      (∀ t, (∀ x ∈ bl, (ops[x.1]?).bind (·.dst) ≠ some t) → a'.tmps[t]? = b.tmps[t]?) →
      (∀ x ∈ bl, ∃ d v, (ops[x.1]?).bind (·.dst) = some d ∧ (d < a'.tmps.size → a'.tmps[d]? = some v) ∧ x.2 v w ∧ ∀ q, (ops[x.1]?).bind (fun o => ownOf o.op v) = some q → q ∉ us) →
      (∀ x ∈ bl, ∀ y ∈ bl, x.1 ≠ y.1 → ∀ d d' v v' q, (ops[x.1]?).bind (·.dst) = some d → (ops[y.1]?).bind (·.dst) = some d' → a'.tmps[d]? = some v → a'.tmps[d']? = some v' →
        (ops[x.1]?).bind (fun o => ownOf o.op v) = some q → (ops[y.1]?).bind (fun o => ownOf o.op v') ≠ some q) →
      (∀ x ∈ bl, ∀ d, (ops[x.1]?).bind (·.dst) = some d → d < a'.tmps.size) →
      FlowEnd ops w K bl b us → K a'
  | [], _, _, _, b, us, h1, h2, h3, _, _, _, hK => by
    have e : b = a' := by
      cases b; cases a'
      simp only at *
      obtain rfl := h2
      congr 1
      exact Array.ext_getElem? fun t => (h3 t (fun x hx => by cases hx)).symm
    rw [← e]; exact hK
  | (k, φ) :: r, hl, hin, hn, b, us, h1, h2, h3, h4, h5, h6, hK => by
    obtain ⟨d, v, hd, hv, hφ, hq⟩ := h4 (k, φ) (List.mem_cons_self ..)
    have hds := h6 (k, φ) (List.mem_cons_self ..) d hd
    have hv := hv hds
    have hn' : k ∉ r.map (·.1) ∧ (r.map (·.1)).Nodup := by simpa using hn
    have hK' := hK v hφ hq
    have hne : ∀ x ∈ r, x.1 ≠ k := fun x hx e => hn'.1 (List.mem_map.2 ⟨x, hx, e⟩)
    refine flow_end hdist hbm hnd a' hsz r (by simp at hl; omega) (fun x hx => hin x (List.mem_cons_of_mem _ hx)) hn'.2 _ _ (by rw [size_put]; exact h1) (by rw [defers_put]; exact h2) ?_ ?_ ?_ ?_ hK'
    · intro t ht
      rw [hd, tmps_put]
      by_cases e : d = t
      · subst e; rw [if_pos rfl, if_pos (by rw [h1]; exact hds)]; exact hv
      · rw [if_neg e]
        refine h3 t (fun x hx => ?_)
        rcases List.mem_cons.1 hx with rfl | hx
        · show (ops[k]?).bind (·.dst) ≠ some t
          rw [hd]; intro e'; exact e (Option.some.inj e')
        · exact ht x hx
    · intro x hx
      obtain ⟨d', v', hd', hv', hφ', hq'⟩ := h4 x (List.mem_cons_of_mem _ hx)
      have hds' := h6 x (List.mem_cons_of_mem _ hx) d' hd'
      refine ⟨d', v', hd', hv', hφ', fun q hqq => ?_⟩
      intro hmem
      rcases List.mem_append.1 hmem with hm | hm
      · have : (ops[k]?).bind (fun o => ownOf o.op v) = some q := by simpa using hm
        exact h5 (k, φ) (List.mem_cons_self ..) x (List.mem_cons_of_mem _ hx) (Ne.symm (hne x hx)) d d' v v' q hd hd' hv (hv' hds') this hqq
      · exact hq' q hqq hm
    · intro x hx y hy
      exact h5 x (List.mem_cons_of_mem _ hx) y (List.mem_cons_of_mem _ hy)
    · exact fun x hx => h6 x (List.mem_cons_of_mem _ hx)

theorem tail_waitsS {listed : Array Bool} {fl : List Nat} (hs : sinkS ops m fl = true) (hc : Region.chainB .any ops m = true) (hn : m < ops.size) (inv : HeadInv .any ops m listed) :
    ∀ (d i : Nat), m - i = d → i < m → i ∉ fl → listed.getD i true = false → ∀ t, m ≤ t → t ∉ Region.ready .any ops listed := by
  intro d
  induction d using Nat.strongRecOn with
  | _ d ih =>
    intro i hd hi hfl hun t ht hr
    obtain ⟨_, ot, hot, hall⟩ := mem_ready.1 hr
    have htlt : t < ops.size := (Array.getElem?_eq_some_iff.1 hot).1
    by_cases htn : t = m
    · subst htn
      have h1 := List.all_eq_true.1 hs i (List.mem_range.2 hi)
      simp only [Bool.or_eq_true] at h1
      rcases h1 with h1 | h1
      · exact hfl (by simpa using h1)
      obtain ⟨j, hj, hj2⟩ := List.any_eq_true.1 h1
      simp only [Bool.and_eq_true, decide_eq_true_eq, Bool.or_eq_true, beq_iff_eq, Bool.not_eq_true'] at hj2
      obtain ⟨⟨hij, hjf⟩, hj2⟩ := hj2
      obtain ⟨oj, hoj, e, he, hb, hon⟩ := Region.waitsFor_spec hj2
      have hjle : j ≤ t := by have := List.mem_range.1 hj; omega
      by_cases hjt : j = t
      · subst hjt
        have : oj = ot := Option.some.inj (hoj.symm.trans hot)
        subst this
        have h2 := hall e he hb
        rw [hon, getD_both hun] at h2
        cases h2
      · cases hl : listed.getD j false with
        | true =>
          have h2 := inv.closed j oj hoj hl e he hb
          rw [hon, getD_both hun] at h2
          cases h2
        | false =>
          have hjs : j < listed.size := by rw [inv.size]; omega
          exact ih (t - j) (by omega) j rfl (by omega) (by rcases hjf with h | h; exact absurd h hjt; simpa using h) (getD_in hjs hl) t (Nat.le_refl _) hr
    · have h1 := List.all_eq_true.1 hc t (List.mem_range.2 htlt)
      simp only [Bool.or_eq_true, decide_eq_true_eq] at h1
      rcases h1 with h1 | h1
      · omega
      · obtain ⟨o', ho', e, he, hb, hon⟩ := Region.waitsFor_spec h1
        have : o' = ot := Option.some.inj (ho'.symm.trans hot)
        subst this
        have h2 := hall e he hb
        rw [hon, getD_both (inv.tail (t - 1) (by omega) (by omega))] at h2
        cases h2

theorem wp_region_flow {id : Nat} {Q : Exit → Act → World → Prop} {w : World} {l : List Oper} (mask : List Bool) (blind : List (Nat × (Value → World → Prop))) (fl : List Nat) (aEnd : Act)
    (hm : P.follows .mixedOrders = true) (hB : flowB l.toArray mask.length (blind.map (·.1)) = true) (hT : tailB l.toArray mask.length fl = true)
    (hmask : ((List.range mask.length).all fun i => mask.getD i true == !(blind.map (·.1)).contains i) = true)
    (hsz : ((blind.map (·.1)).all fun k => match (l.toArray[k]?).bind (·.dst) with | some d => decide (d < a.tmps.size) | none => false) = true)
    (mono : ∀ k φ, (k, φ) ∈ blind → ∀ v w w', Below w.heap.size w w' → φ v w → φ v w')
    (hquiet : ∀ y, wpQuiet P l.toArray (fun w' => ∃ x, w' = mix (mix w y) x) (fun a' => a' = aEnd) (headQ mask l) a)
    (hblind : ∀ k φ, (k, φ) ∈ blind → ∀ o, l.toArray[k]? = some o → ∀ y, GrowAt P o aEnd (mix w y) φ)
    (hQ : ∀ c a d v w, Q (.panic c) (a.put d v) w → Q (.panic c) a w)
    (hflb : (fl.all fun i => !(blind.map (·.1)).contains i) = true)
    (hfl : ∀ i ∈ fl, ∀ o, l.toArray[i]? = some o → ∀ d, o.dst = some d → ∀ W, (execOp aEnd.eval o).run P W = .ok (.value (aEnd.tmps.getD d undef)) W)
    (hend : ∀ y, FlowEnd l.toArray (mix w y) (fun a' => wpList P l.toArray Q (l.drop mask.length) a' (mix w y)) blind aEnd []) :
    (Code.region id l.toArray true).wp P Q a w := by
  obtain ⟨hs1, hdist, hbl, hnd⟩ := flow_spec hB
  simp only [tailB, Bool.and_eq_true, decide_eq_true_eq] at hT
  obtain ⟨⟨⟨⟨⟨hsel, hn⟩, hs⟩, hfb⟩, hc⟩, hseq⟩ := hT
  have hsel' := Region.noSelect_spec hsel
  have hmask' : ∀ i, i < mask.length → (mask[i]? = some true ∧ i ∉ blind.map (·.1)) ∨ (mask[i]? = some false ∧ i ∈ blind.map (·.1)) := fun i hi => by
    have := List.all_eq_true.1 hmask i (List.mem_range.2 hi)
    rw [beq_iff_eq] at this
    have e : mask[i]? = some (mask.getD i true) := by simp [List.getD_eq_getElem?_getD, hi]
    cases hb : (blind.map (·.1)).contains i with
    | true => rw [hb] at this; exact .inr ⟨by rw [e, this]; rfl, by simpa using hb⟩
    | false => rw [hb] at this; exact .inl ⟨by rw [e, this]; rfl, by simpa using hb⟩
  have hquiet' : ∀ U, Below w.heap.size w U → wpQuiet P l.toArray (fun w' => ∃ x, w' = mix U x) (fun a' => a' = aEnd) (headQ mask l) a := fun U hU => by
    rw [mix_of hU]; exact hquiet U
  have hblind' : ∀ k φ, (k, φ) ∈ blind → ∀ o, l.toArray[k]? = some o → ∀ U, Below w.heap.size w U → GrowAt P o aEnd U φ := fun k φ h o ho U hU => by
    rw [mix_of hU]; exact hblind k φ h o ho U
  have hend' : ∀ U, Below w.heap.size w U → FlowEnd l.toArray U (fun a' => wpList P l.toArray Q (l.drop mask.length) a' U) blind aEnd [] := fun U hU => by
    have := hend U
    rw [← mix_of hU] at this; exact this
  -- the head
  have key : ∀ (f : Nat) (listed : Array Bool) (a' : Act) (w' : World), left mask.length listed = f → HeadInv .any l.toArray mask.length listed → Mid l.toArray mask.length blind a aEnd w listed a' w' →
      wpAny P .any l.toArray Q (f + (l.toArray.size - mask.length)) listed a' w' := by
    intro f
    induction f with
    | zero =>
      intro listed a' w' hf inv h
      have hall := left_zero hf
      have hlst : listed = (Array.replicate mask.length true) ++ (Array.replicate (l.toArray.size - mask.length) false) := by
        apply Array.ext_getElem?
        intro k
        have hsz' := inv.size
        rw [Array.getElem?_append]
        simp only [Array.size_replicate]
        rcases Nat.lt_or_ge k mask.length with hk | hk
        · rw [if_pos hk, Array.getElem?_replicate, if_pos hk]
          have := hall k hk
          rw [Array.getD_eq_getD_getElem?] at this
          cases hx : listed[k]? with
          | none => rw [Array.getElem?_eq_none_iff] at hx; omega
          | some b => rw [hx] at this; simpa using this
        · rw [if_neg (by omega), Array.getElem?_replicate]
          by_cases hk2 : k < l.toArray.size
          · rw [if_pos (by omega)]
            have := inv.tail k hk hk2
            rw [Array.getD_eq_getD_getElem?] at this
            cases hx : listed[k]? with
            | none => rw [Array.getElem?_eq_none_iff] at hx; omega
            | some b => rw [hx] at this; simpa using this
          · rw [if_neg (by omega)]
            exact Array.getElem?_eq_none (by omega)
      rw [Nat.zero_add]
      have hdl : (l.drop mask.length).length = l.toArray.size - mask.length := by simp
      have := wpAny_of_seq (P := P) (ops := l.toArray) (md := .any) (Q' := Q) (l.drop mask.length) mask.length listed a' w' (fun j => by simp [List.getElem?_drop]) (by rw [hdl, hlst]; exact hseq) ?_
      · rwa [hdl] at this
      have hlk : ∀ k, k < mask.length → listed.getD k false = true := fun k hk => by
        have := hall k hk
        rw [Array.getD_eq_getD_getElem?] at *
        cases hx : listed[k]? with
        | none =>
          have hsz' := inv.size
          rw [Array.getElem?_eq_none_iff] at hx; omega
        | some b => rw [hx] at this; simpa using this
      have hfr := quiet_frame _ a (hquiet' w' h.grow)
      have hds : ∀ x ∈ blind, ∀ d, (l.toArray[x.1]?).bind (·.dst) = some d → d < a.tmps.size := fun x hx d hd => by
        have := List.all_eq_true.1 hsz x.1 (List.mem_map.2 ⟨x, hx, rfl⟩)
        simp only [hd] at this
        exact of_decide_eq_true this
      refine flow_end (a := a) hdist (fun k hk => (hbl k hk).1) hnd a' h.size blind (Nat.le_refl _) (fun x hx => hx) hnd aEnd [] (by rw [hfr.2.1, h.size]) (by rw [hfr.1, h.defs]) ?_ ?_ ?_ ?_ (hend' w' h.grow)
      · intro t ht
        by_cases hx : ∃ k, k < mask.length ∧ (l.toArray[k]?).bind (·.dst) = some t
        · obtain ⟨k, hk, hd⟩ := hx
          have hkb : k ∉ blind.map (·.1) := fun hkb => by
            obtain ⟨x, hx, rfl⟩ := List.mem_map.1 hkb
            exact ht x hx hd
          exact h.quiet k hk hkb (hlk k hk) t hd
        · rw [h.old t (fun k hk hd => absurd ⟨k, hk, hd⟩ hx)]
          refine (hfr.2.2 t (fun y hy hyd => ?_)).symm
          obtain ⟨idx, _, hget, _⟩ := headQ_idx mask l
          obtain ⟨j, hj⟩ := List.mem_iff_getElem?.1 hy
          obtain ⟨h1, h2⟩ := hget j y hj
          exact hx ⟨idx j, (List.getElem?_eq_some_iff.1 h2).1, by rw [List.getElem?_toArray, h1]; exact hyd⟩
      · intro x hx
        obtain ⟨hk, o, d, ho, hd, _⟩ := hbl x.1 (List.mem_map.2 ⟨x, hx, rfl⟩)
        have hdd : (l.toArray[x.1]?).bind (·.dst) = some d := by rw [ho]; exact hd
        obtain ⟨v, h1, h2, h3⟩ := h.blinds x.1 x.2 hx (hlk _ hk) d hdd (hds x hx d hdd)
        exact ⟨d, v, hdd, fun _ => h1, h2, fun q _ hq => by cases hq⟩
      · intro x hx y hy hne d d' v v' q hd hd' hv hv' hq
        exact h.apart x.1 y.1 (List.mem_map.2 ⟨x, hx, rfl⟩) (List.mem_map.2 ⟨y, hy, rfl⟩) hne (hlk _ (hbl _ (List.mem_map.2 ⟨x, hx, rfl⟩)).1) (hlk _ (hbl _ (List.mem_map.2 ⟨y, hy, rfl⟩)).1) d d' v v' q hd hd' hv hv' hq
      · intro x hx d hd
        rw [h.size]; exact hds x hx d hd
    | succ f ih =>
      intro listed a' w' hf inv h
      obtain ⟨i0, hi0, hu0, hle⟩ := left_least (m := mask.length) (listed := listed) (by omega)
      obtain ⟨o0, ho0, _, hback⟩ := hs1 i0 hi0
      have hr0 : i0 ∈ Region.ready .any l.toArray listed := mem_ready.2 ⟨hu0, o0, ho0, fun e he hb => by
        have := hle e.on (hback e he hb)
        rw [Array.getD_eq_getD_getElem?] at *
        cases hx : listed[e.on]? with
        | none =>
          have hsz' := inv.size
          have := hback e he hb
          rw [Array.getElem?_eq_none_iff] at hx; omega
        | some b => rw [hx] at this; simpa using this⟩
      rw [show f + 1 + (l.toArray.size - mask.length) = (f + (l.toArray.size - mask.length)) + 1 by omega]
      by_cases hif : i0 ∈ fl
      · -- a floating one is taken first
        have hfb0 := List.all_eq_true.1 hfb i0 hif
        rw [ho0] at hfb0
        simp only [Bool.and_eq_true, decide_eq_true_eq] at hfb0
        obtain ⟨_, ⟨hds, hgn⟩, hap⟩ := hfb0
        obtain ⟨d0, hd0⟩ := Option.isSome_iff_exists.1 hds
        have hW := hquiet' w' h.grow
        obtain ⟨idx, _, hget, _⟩ := headQ_idx mask l
        have hag : ∀ t ∈ o0.looksAt l.toArray, a'.tmps[t]? = aEnd.tmps[t]? := fun t ht => by
          obtain ⟨o', ho', hlook, _⟩ := hs1 i0 hi0
          obtain rfl : o0 = o' := Option.some.inj (ho0.symm.trans ho')
          by_cases hx : ∃ k, k < mask.length ∧ (l.toArray[k]?).bind (·.dst) = some t
          · obtain ⟨k, hk, hd⟩ := hx
            obtain ⟨_, hkb, e, he, hbe, hon⟩ := hlook k t hk hd ht
            obtain ⟨_, o2, ho2, hall2⟩ := mem_ready.1 hr0
            obtain rfl : o0 = o2 := Option.some.inj (ho0.symm.trans ho2)
            exact h.quiet k hk hkb (by rw [← hon]; exact hall2 e he hbe) t hd
          · rw [h.old t (fun k hk hd => absurd ⟨k, hk, hd⟩ hx)]
            refine ((quiet_frame _ a hW).2.2 t (fun y hy hyd => ?_)).symm
            obtain ⟨j, hj⟩ := List.mem_iff_getElem?.1 hy
            obtain ⟨h1, h2⟩ := hget j y hj
            exact hx ⟨idx j, (List.getElem?_eq_some_iff.1 h2).1, by rw [List.getElem?_toArray, h1]; exact hyd⟩
        have hexe := exec_agree o0 (fun cs b => hsel' _ o0 cs b ho0) hag
        have hy : Yields P l.toArray o0 (aEnd.tmps.getD d0 undef) a' := by
          refine .inl ⟨by unfold Region.wanted; rw [Option.isNone_iff_eq_none.1 hgn], fun W => ?_⟩
          rw [hexe]
          exact hfl i0 hif o0 ho0 d0 hd0 W
        have hib : i0 ∉ blind.map (·.1) := by
          have := List.all_eq_true.1 hflb i0 hif
          simpa using this
        have hfr := quiet_frame _ a hW
        refine wpAny_first ho0 hsel' (fun c a w h => hQ c a o0.dst _ w h) (f + (l.toArray.size - mask.length)) listed a' w' (fun j oj hoj hji hju hno => ?_) hr0 hy ?_
        · have hj' : j < l.toArray.size := (Array.getElem?_eq_some_iff.1 hoj).1
          have := List.all_eq_true.1 hap j (List.mem_range.2 hj')
          rw [hoj] at this
          simp only [Bool.or_eq_true, beq_iff_eq] at this
          rcases this with ((h1 | h1) | h1) | h1
          · exact absurd h1.symm hji
          · obtain ⟨o', ho', e, he, hb, hon⟩ := Region.waitsFor_spec h1
            obtain rfl : oj = o' := Option.some.inj (hoj.symm.trans ho')
            exact absurd hon (hno e he hb)
          · obtain ⟨o', ho', e, he, hb, hon⟩ := Region.waitsFor_spec h1
            obtain rfl : o0 = o' := Option.some.inj (ho0.symm.trans ho')
            obtain ⟨_, o2, ho2, hall2⟩ := mem_ready.1 hr0
            obtain rfl : o0 = o2 := Option.some.inj (ho0.symm.trans ho2)
            have := hall2 e he hb
            rw [hon, getD_both hju] at this
            cases this
          · exact h1
        · have hmid := mid_put hdist (fun k hk => (hbl k hk).1) mono h (Below.refl _ _) hi0 hu0 (v := aEnd.tmps.getD d0 undef) (fun _ d hd => by
              have hd' : d0 = d := by rw [ho0] at hd; exact Option.some.inj (hd0.symm.trans hd)
              subst hd'
              rw [Array.getD_eq_getD_getElem?]
              by_cases hlt : d0 < a.tmps.size
              · rw [if_pos hlt]
                have : d0 < aEnd.tmps.size := by rw [hfr.2.1]; exact hlt
                rw [Array.getElem?_eq_getElem this]; rfl
              · rw [if_neg hlt]; exact Array.getElem?_eq_none (by rw [hfr.2.1]; exact Nat.not_lt.1 hlt)) (fun φ hm => absurd (List.mem_map.2 ⟨_, hm, rfl⟩) hib)
          rw [ho0] at hmid
          exact ih _ _ w' (by have := left_set hi0 hu0; omega) (inv.set hr0 hi0) hmid
      refine ⟨fun h0 => (by rw [h0] at hr0; cases hr0), fun i hi => ?_⟩
      have him : i < mask.length := (Nat.lt_or_ge i mask.length).elim (fun hlt => hlt) fun hge => absurd hi (tail_waitsS hs hc hn inv _ i0 rfl hi0 hif hu0 i hge)
      have hui := (mem_ready.1 hi).1
      exact wpOp_mono (fun a'' w'' h'' => ih _ a'' w'' (by have := left_set him hui; omega) (inv.set hi him) h'') (mid_step (Q' := Q) hsel' hB hmask' rfl mono hquiet' hblind' h him hi)
  have inv0 : HeadInv .any l.toArray mask.length (Array.replicate l.toArray.size false) :=
    ⟨by simp, fun j oj _ hl => (by rw [getD_replicate_false] at hl; cases hl), fun t _ ht => getD_in (by simpa using ht) (getD_replicate_false _ _)⟩
  have hnl : ∀ k, (Array.replicate l.toArray.size false).getD k false = false := fun k => getD_replicate_false _ _
  have mid0 : Mid l.toArray mask.length blind a aEnd w (Array.replicate l.toArray.size false) a { w with drawn := w.drawn + 1 } :=
    ⟨⟨rfl, rfl, rfl, Nat.le_refl _, fun _ _ => rfl⟩, rfl, rfl, fun _ _ => rfl, fun k _ _ hl => (by rw [hnl] at hl; cases hl), fun k φ _ hl => (by rw [hnl] at hl; cases hl), fun k k' _ _ _ hl => (by rw [hnl] at hl; cases hl)⟩
  have hleft : left mask.length (Array.replicate l.toArray.size false) = mask.length := by
    unfold left
    have hall : ∀ k ∈ List.range mask.length, ((Array.replicate l.toArray.size false).getD k true == false) = true := fun k hk => by
      have hk' := List.mem_range.1 hk
      have : (Array.replicate l.toArray.size false).getD k true = false := getD_in (by rw [Array.size_replicate]; omega) (hnl k)
      rw [this]; rfl
    rw [List.countP_eq_length.2 hall, List.length_range]
  refine wp_region_any hm ?_
  have := key mask.length _ a _ hleft inv0 mid0
  rwa [show mask.length + (l.toArray.size - mask.length) = l.toArray.size by omega] at this

def Mono (φ : Value → World → Prop) : Prop := ∀ v w w', Below w.heap.size w w' → φ v w → φ v w'
def AllMono : List (Nat × (Value → World → Prop)) → Prop
  | [] => True
  | x :: r => Mono x.2 ∧ AllMono r
def AllGrow (P : Program) (ops : Array Oper) (a : Act) (w : World) : List (Nat × (Value → World → Prop)) → Prop
  | [] => True
  | x :: r => (∀ y o, ops[x.1]? = some o → GrowAt P o a (mix w y) x.2) ∧ AllGrow P ops a w r

def AllPure (P : Program) (ops : Array Oper) (a : Act) : List Nat → Prop
  | [] => True
  | i :: r => (∀ o, ops[i]? = some o → ∀ d, o.dst = some d → ∀ W, (execOp a.eval o).run P W = .ok (.value (a.tmps.getD d undef)) W) ∧ AllPure P ops a r
theorem AllPure.mem : ∀ {fl : List Nat}, AllPure P ops a fl → ∀ i ∈ fl, ∀ o, ops[i]? = some o → ∀ d, o.dst = some d → ∀ W, (execOp a.eval o).run P W = .ok (.value (a.tmps.getD d undef)) W
  | [], _, _, h => by cases h
  | x :: r, ⟨h1, h2⟩, i, h => by
    rcases List.mem_cons.1 h with h | h
    · subst h; exact h1
    · exact h2.mem i h

theorem AllMono.mem : ∀ {bl : List (Nat × (Value → World → Prop))}, AllMono bl → ∀ k φ, (k, φ) ∈ bl → Mono φ
  | [], _, _, _, h => by cases h
  | x :: r, ⟨h1, h2⟩, k, φ, h => by
    rcases List.mem_cons.1 h with h | h
    · subst h; exact h1
    · exact h2.mem k φ h
theorem AllGrow.mem {w : World} : ∀ {bl : List (Nat × (Value → World → Prop))}, AllGrow P ops a w bl → ∀ k φ, (k, φ) ∈ bl → ∀ o, ops[k]? = some o → ∀ y, GrowAt P o a (mix w y) φ
  | [], _, _, _, h, _, _, _ => by cases h
  | x :: r, ⟨h1, h2⟩, k, φ, h, o, ho, y => by
    rcases List.mem_cons.1 h with h | h
    · subst h; exact h1 y o ho
    · exact h2.mem k φ h o ho y

theorem wp_flow {id : Nat} {Q : Exit → Act → World → Prop} {w : World} {l : List Oper} (mask : List Bool) (blind : List (Nat × (Value → World → Prop))) (fl : List Nat)
    (hm : P.follows .mixedOrders = true) (hB : flowB l.toArray mask.length (blind.map (·.1)) = true) (hT : tailB l.toArray mask.length fl = true)
    (hmask : ((List.range mask.length).all fun i => mask.getD i true == !(blind.map (·.1)).contains i) = true)
    (hsz : ((blind.map (·.1)).all fun k => match (l.toArray[k]?).bind (·.dst) with | some d => decide (d < a.tmps.size) | none => false) = true)
    (hQ : ∀ c a d v w, Q (.panic c) (a.put d v) w → Q (.panic c) a w)
    (hflb : (fl.all fun i => !(blind.map (·.1)).contains i) = true)
    (mono : AllMono blind)
    (h : ∃ aEnd, (∀ y, wpQuiet P l.toArray (fun w' => ∃ x, w' = mix (mix w y) x) (fun a' => a' = aEnd) (headQ mask l) a) ∧ AllGrow P l.toArray aEnd w blind ∧ AllPure P l.toArray aEnd fl ∧
      ∀ y, FlowEnd l.toArray (mix w y) (fun a' => wpList P l.toArray Q (l.drop mask.length) a' (mix w y)) blind aEnd []) :
    (Code.region id l.toArray true).wp P Q a w :=
  let ⟨aEnd, h1, h2, h4, h3⟩ := h
  wp_region_flow mask blind fl aEnd hm hB hT hmask hsz mono.mem h1 h2.mem hQ hflb h4.mem h3

def New (B : Nat) (cs : Array Value) (t : TypeId) (v : Value) (w : World) : Prop := ∃ b, v = .pointer (some ⟨b, 0, none⟩) ∧ Has w b cs t ∧ B ≤ b
theorem New.mono {B : Nat} {cs : Array Value} {t : TypeId} : Mono (New B cs t) := fun _ _ _ hb ⟨b, h1, h2, h3⟩ => ⟨b, h1, h2.below hb h2.lt, h3⟩
end
end Go.Proofs.YtedkfipjooafeaaGreatDoor
set_option linter.unusedSimpArgs false
set_option linter.unusedVariables false
namespace Go.Proofs.YtedkfipjooafeaaGreatDoor.Op
open Go Go.RowKit Go.Proofs.YtedkfipjooafeaaGreatDoor

abbrev str (l : List UInt8) : Value := .string ⟨l.toArray⟩

def names : List (List UInt8) := [[112, 117, 115, 104], [108, 111, 97, 100], [115, 116, 111, 114, 101], [97, 100, 100], [115, 117, 98], [109, 117, 108], [100, 105, 118], [99, 111, 110, 106], [100, 117, 112], [100, 114, 111, 112], [106, 117, 109, 112], [122, 101, 114, 111], [114, 97, 110, 100], [115, 112, 97, 119, 110], [106, 111, 105, 110], [114, 101, 116], [116, 114, 97, 112]]
def fieldsL : List Int := [2, 1, 1, 0, 0, 0, 0, 0, 0, 0, 1, 1, 0, 2, 1, 0, 1]
def offL : List Int := [0, 0, 1, 2, 2, 2, 2, 1, 1, 1, 0, 1, 0, 0, 0, 1, 0]
def onL : List Int := [1, 1, 0, 1, 1, 1, 1, 1, 2, 0, 0, 0, 1, 0, 1, 0, 0]
def nameN (n : Nat) : List UInt8 := names.getD n []
def isOp (n : Int) : Bool := decide (0 ≤ n ∧ n < 17)
def opName (n : Int) : List UInt8 := if isOp n then names.getD n.toNat [] else []
def opFields (n : Int) : Int := if isOp n then fieldsL.getD n.toNat 0 else 0
def opOff (n : Int) : Int := if isOp n then offL.getD n.toNat 0 else 0
def opOn (n : Int) : Int := if isOp n then onL.getD n.toNat 0 else 0
def kindL (k : Nat) : List Value := [str (names.getD k []), .int .i64 (fieldsL.getD k 0), .int .i64 (offL.getD k 0), .int .i64 (onL.getD k 0)]
def kindsL : List Value := (List.range 17).flatMap kindL
def kindsV : Value := .agg kindsL.toArray

section
variable {P : Program} {ops : Array Oper} {Q : Exit → Act → World → Prop} {a : Act} {w w' : World} {o : Oper} {rest : List Oper}
theorem list_run (hg : o.guard = none) (v : Value) (hr : (execOp a.eval o).run P w = .ok (.value v) w') (h : wpList P ops Q rest (a.put o.dst v) w') : wpList P ops Q (o :: rest) a w := by
  unfold wpList
  rw [if_pos (by simp [Region.wanted, hg])]
  left
  unfold Oper.wp
  rw [hr]
  exact h
theorem list_val (hg : o.guard = none) (v : Value) (hr : (execOp a.eval o).run P w = .ok (.value v) w) (h : wpList P ops Q rest (a.put o.dst v) w) : wpList P ops Q (o :: rest) a w := list_run hg v hr h
theorem list_store {t : TypeId} {x y : Operand} {p v : Value} (ho : o.op = .store t x y) (hg : o.guard = none) (hx : a.eval x = p) (hy : a.eval y = v) (hr : (Instr.storeAt t p v).run P w = .ok () w')
    (h : wpList P ops Q rest (a.put o.dst undef) w') : wpList P ops Q (o :: rest) a w := by
  unfold wpList
  rw [if_pos (by simp [Region.wanted, hg])]
  left
  unfold Oper.wp
  have e : (execOp a.eval o).run P w = .ok .skip w' := by
    unfold execOp
    rw [ho]
    simp [hx, hy, hr, Sem.run_bind]
  rw [e]
  exact h
end

set_option maxRecDepth 100000 in
set_option maxHeartbeats 2000000 in
theorem kinds_calls (w : World) :
    Calls Tryz.prog 82 #[] w fun e w' => e = .returned kindsV ∧ Below w.heap.size w w' := by
  go_enter Tryz.func82, Tryz.ntmps82
  refine wp_seq (wp_region_lit ?_)
  refine list_run rfl (.pointer (some ⟨w.heap.size, 0, none⟩)) (w' := w.alloc (.cells Tryz.zeroCells113 113)) (by go_simp) ?_
  show Code.wp _ _ _ _ _
  refine wp_seq (wp_region_lit ?_)
  refine list_val rfl (.agg (kindL 0).toArray) (by kernel_rfl) ?_
  refine list_val rfl (.agg (kindL 1).toArray) (by kernel_rfl) ?_
  refine list_val rfl (.agg (kindL 2).toArray) (by kernel_rfl) ?_
  refine list_val rfl (.agg (kindL 3).toArray) (by kernel_rfl) ?_
  refine list_val rfl (.agg (kindL 4).toArray) (by kernel_rfl) ?_
  refine list_val rfl (.agg (kindL 5).toArray) (by kernel_rfl) ?_
  refine list_val rfl (.agg (kindL 6).toArray) (by kernel_rfl) ?_
  refine list_val rfl (.agg (kindL 7).toArray) (by kernel_rfl) ?_
  refine list_val rfl (.agg (kindL 8).toArray) (by kernel_rfl) ?_
  refine list_val rfl (.agg (kindL 9).toArray) (by kernel_rfl) ?_
  refine list_val rfl (.agg (kindL 10).toArray) (by kernel_rfl) ?_
  refine list_val rfl (.agg (kindL 11).toArray) (by kernel_rfl) ?_
  refine list_val rfl (.agg (kindL 12).toArray) (by kernel_rfl) ?_
  refine list_val rfl (.agg (kindL 13).toArray) (by kernel_rfl) ?_
  refine list_val rfl (.agg (kindL 14).toArray) (by kernel_rfl) ?_
  refine list_val rfl (.agg (kindL 15).toArray) (by kernel_rfl) ?_
  refine list_val rfl (.agg (kindL 16).toArray) (by kernel_rfl) ?_
  refine list_val rfl kindsV (by kernel_rfl) ?_
  refine list_store (t := 113) (x := .tmp 0) (y := .tmp 18) (p := .pointer (some ⟨w.heap.size, 0, none⟩)) (v := kindsV) rfl rfl (by kernel_rfl) (by kernel_rfl) (w' := w.alloc (.cells kindsL.toArray 113))
    (run_storeAt_new (P := Tryz.prog) w 113 Tryz.zeroCells113 kindsL.toArray (by kernel_rfl) (by kernel_rfl) (by kernel_rfl)) ?_
  show Code.wp _ _ _ _ _
  refine wp_ret ?_
  refine ret_cell (cs := kindsL) (t' := 113) (b := w.heap.size) Tryz.results82 (by kernel_rfl) (fun _ => by kernel_rfl) (fun _ => by kernel_rfl) rfl ?_ ⟨rfl, ?_⟩
  · exact Has.new _ _ _
  · exact grow_alloc (Below.refl _ _) _

abbrev kindV (n : Int) : Value := .agg #[str (opName n), .int .i64 (opFields n), .int .i64 (opOff n), .int .i64 (opOn n)]
theorem index_kinds (n : Int) (h0 : 0 ≤ n) (h1 : n < 17) (w : World) : (Instr.index 113 kindsV (.int .i64 n)).run Tryz.prog w = .ok (kindV n) w := by
  have h : n = 0 ∨ n = 1 ∨ n = 2 ∨ n = 3 ∨ n = 4 ∨ n = 5 ∨ n = 6 ∨ n = 7 ∨ n = 8 ∨ n = 9 ∨ n = 10 ∨ n = 11 ∨ n = 12 ∨ n = 13 ∨ n = 14 ∨ n = 15 ∨ n = 16 := by omega
  rcases h with rfl | rfl | rfl | rfl | rfl | rfl | rfl | rfl | rfl | rfl | rfl | rfl | rfl | rfl | rfl | rfl | rfl
  · exact (show (Instr.index 113 kindsV (.int .i64 0)).run Tryz.prog w = .ok (kindV 0) w by kernel_rfl)
  · exact (show (Instr.index 113 kindsV (.int .i64 1)).run Tryz.prog w = .ok (kindV 1) w by kernel_rfl)
  · exact (show (Instr.index 113 kindsV (.int .i64 2)).run Tryz.prog w = .ok (kindV 2) w by kernel_rfl)
  · exact (show (Instr.index 113 kindsV (.int .i64 3)).run Tryz.prog w = .ok (kindV 3) w by kernel_rfl)
  · exact (show (Instr.index 113 kindsV (.int .i64 4)).run Tryz.prog w = .ok (kindV 4) w by kernel_rfl)
  · exact (show (Instr.index 113 kindsV (.int .i64 5)).run Tryz.prog w = .ok (kindV 5) w by kernel_rfl)
  · exact (show (Instr.index 113 kindsV (.int .i64 6)).run Tryz.prog w = .ok (kindV 6) w by kernel_rfl)
  · exact (show (Instr.index 113 kindsV (.int .i64 7)).run Tryz.prog w = .ok (kindV 7) w by kernel_rfl)
  · exact (show (Instr.index 113 kindsV (.int .i64 8)).run Tryz.prog w = .ok (kindV 8) w by kernel_rfl)
  · exact (show (Instr.index 113 kindsV (.int .i64 9)).run Tryz.prog w = .ok (kindV 9) w by kernel_rfl)
  · exact (show (Instr.index 113 kindsV (.int .i64 10)).run Tryz.prog w = .ok (kindV 10) w by kernel_rfl)
  · exact (show (Instr.index 113 kindsV (.int .i64 11)).run Tryz.prog w = .ok (kindV 11) w by kernel_rfl)
  · exact (show (Instr.index 113 kindsV (.int .i64 12)).run Tryz.prog w = .ok (kindV 12) w by kernel_rfl)
  · exact (show (Instr.index 113 kindsV (.int .i64 13)).run Tryz.prog w = .ok (kindV 13) w by kernel_rfl)
  · exact (show (Instr.index 113 kindsV (.int .i64 14)).run Tryz.prog w = .ok (kindV 14) w by kernel_rfl)
  · exact (show (Instr.index 113 kindsV (.int .i64 15)).run Tryz.prog w = .ok (kindV 15) w by kernel_rfl)
  · exact (show (Instr.index 113 kindsV (.int .i64 16)).run Tryz.prog w = .ok (kindV 16) w by kernel_rfl)

attribute [local go_sem high] index_kinds

set_option maxHeartbeats 400000 in
theorem of_calls (n : Int) (w : World) :
    Calls Tryz.prog 91 #[.int .i64 n] w fun e w' => e = .returned (kindV n) ∧ Below w.heap.size w w' := by
  by_cases h0 : n < 0
  · have e : kindV n = .agg #[str [], .int .i64 0, .int .i64 0, .int .i64 0] := by
      have : isOp n = false := by unfold isOp; exact decide_eq_false (by omega)
      unfold kindV opName opFields opOff opOn
      simp [this]
    have E := Lib.hid e
    clear e
    go_enter Tryz.func91, Tryz.ntmps91
    go_wp2
    refine ret_cell (cs := [str [], .int .i64 0, .int .i64 0, .int .i64 0]) (t' := 112) Tryz.results91 rfl Tryz.isAgg112 Tryz.sizeOf112 rfl ?_ ⟨by rw [E.out], ?_⟩
    · (repeat (first | (with_reducible assumption) | (with_reducible exact Has.new _ _ _) | (with_reducible exact Has.new' (by first | rfl | (simp; done) | (simp; omega)) _ _) | (with_reducible apply Has.alloc) | (with_reducible apply Has.mix) | (with_reducible apply Has.drew) | (with_reducible apply Has.drewN) | (with_reducible apply Has.set_same) | (with_reducible apply Has.set_other (hp := (by first | (simp; done) | (simp; omega) | omega))) | (with_reducible rfl) | rfl))
    · (repeat (first | (with_reducible assumption) | (with_reducible exact Below.refl _ _) | (with_reducible refine grow_alloc ?_ _) | (with_reducible refine grow_mix ?_ _) | (with_reducible refine grow_drew ?_) | (with_reducible refine grow_drewN ?_ _) | (with_reducible refine grow_set ?_ (by first | (simp; done) | (simp; omega) | omega) _)))
  · by_cases h1 : n < 17
    · have h0' : 0 ≤ n := by omega
      go_enter Tryz.func91, Tryz.ntmps91
      go_wp2_with (first | (go_at_call 82; refine (kinds_calls _).mono ?_; rintro e w' ⟨rfl, hb⟩; have hz := hb.size; (first | (obtain ⟨x1, rfl⟩ := to_mix2 hb) | (obtain ⟨x1, rfl⟩ := to_mix hb)); clear hb; (try simp only [World.size_alloc, World.size_setCell, World.size_drew] at hz); (try have q0 : w.heap.size < _ := Nat.lt_of_lt_of_le (by omega) hz); (try have q1 : w.heap.size + 1 < _ := Nat.lt_of_lt_of_le (by omega) hz); (try have q2 : w.heap.size + 1 + 1 < _ := Nat.lt_of_lt_of_le (by omega) hz); (try have q3 : w.heap.size + 1 + 1 + 1 < _ := Nat.lt_of_lt_of_le (by omega) hz)))
      refine ret_cell (cs := [str (opName n), .int .i64 (opFields n), .int .i64 (opOff n), .int .i64 (opOn n)]) (t' := 112) Tryz.results91 rfl Tryz.isAgg112 Tryz.sizeOf112 rfl ?_ ⟨rfl, ?_⟩
      · (repeat (first | (with_reducible assumption) | (with_reducible exact Has.new _ _ _) | (with_reducible exact Has.new' (by first | rfl | (simp; done) | (simp; omega)) _ _) | (with_reducible apply Has.alloc) | (with_reducible apply Has.mix) | (with_reducible apply Has.drew) | (with_reducible apply Has.drewN) | (with_reducible apply Has.set_same) | (with_reducible apply Has.set_other (hp := (by first | (simp; done) | (simp; omega) | omega))) | (with_reducible rfl) | rfl))
      · (repeat (first | (with_reducible assumption) | (with_reducible exact Below.refl _ _) | (with_reducible refine grow_alloc ?_ _) | (with_reducible refine grow_mix ?_ _) | (with_reducible refine grow_drew ?_) | (with_reducible refine grow_drewN ?_ _) | (with_reducible refine grow_set ?_ (by first | (simp; done) | (simp; omega) | omega) _)))
    · have e : kindV n = .agg #[str [], .int .i64 0, .int .i64 0, .int .i64 0] := by
        have : isOp n = false := by unfold isOp; exact decide_eq_false (by omega)
        unfold kindV opName opFields opOff opOn
        simp [this]
      have E := Lib.hid e
      clear e
      go_enter Tryz.func91, Tryz.ntmps91
      go_wp2
      refine ret_cell (cs := [str [], .int .i64 0, .int .i64 0, .int .i64 0]) (t' := 112) Tryz.results91 rfl Tryz.isAgg112 Tryz.sizeOf112 rfl ?_ ⟨by rw [E.out], ?_⟩
      · (repeat (first | (with_reducible assumption) | (with_reducible exact Has.new _ _ _) | (with_reducible exact Has.new' (by first | rfl | (simp; done) | (simp; omega)) _ _) | (with_reducible apply Has.alloc) | (with_reducible apply Has.mix) | (with_reducible apply Has.drew) | (with_reducible apply Has.drewN) | (with_reducible apply Has.set_same) | (with_reducible apply Has.set_other (hp := (by first | (simp; done) | (simp; omega) | omega))) | (with_reducible rfl) | rfl))
      · (repeat (first | (with_reducible assumption) | (with_reducible exact Below.refl _ _) | (with_reducible refine grow_alloc ?_ _) | (with_reducible refine grow_mix ?_ _) | (with_reducible refine grow_drew ?_) | (with_reducible refine grow_drewN ?_ _) | (with_reducible refine grow_set ?_ (by first | (simp; done) | (simp; omega) | omega) _)))

theorem field_name (n : Int) (w : World) : (Instr.field 112 (kindV n) 0).run Tryz.prog w = .ok (str (opName n)) w := by
  unfold Instr.field
  go_simp
  rfl
theorem field_fields (n : Int) (w : World) : (Instr.field 112 (kindV n) 1).run Tryz.prog w = .ok (.int .i64 (opFields n)) w := by
  unfold Instr.field
  go_simp
  rfl
attribute [local go_sem high] field_name field_fields

theorem Name_calls (n : Int) (w : World) :
    Calls Tryz.prog 73 #[.int .i64 n] w fun e w' => e = .returned (str (opName n)) ∧ Below w.heap.size w w' := by
  go_enter Tryz.func73, Tryz.ntmps73
  go_wp2_with (first | (go_at_call 91; refine (of_calls _ _).mono ?_; rintro e w' ⟨rfl, hb⟩; have hz := hb.size; (first | (obtain ⟨x1, rfl⟩ := to_mix2 hb) | (obtain ⟨x1, rfl⟩ := to_mix hb)); clear hb; (try simp only [World.size_alloc, World.size_setCell, World.size_drew] at hz); (try have q0 : w.heap.size < _ := Nat.lt_of_lt_of_le (by omega) hz); (try have q1 : w.heap.size + 1 < _ := Nat.lt_of_lt_of_le (by omega) hz); (try have q2 : w.heap.size + 1 + 1 < _ := Nat.lt_of_lt_of_le (by omega) hz); (try have q3 : w.heap.size + 1 + 1 + 1 < _ := Nat.lt_of_lt_of_le (by omega) hz)))
  go_ret
  exact ⟨rfl, by (repeat (first | (with_reducible assumption) | (with_reducible exact Below.refl _ _) | (with_reducible refine grow_alloc ?_ _) | (with_reducible refine grow_mix ?_ _) | (with_reducible refine grow_drew ?_) | (with_reducible refine grow_drewN ?_ _) | (with_reducible refine grow_set ?_ (by first | (simp; done) | (simp; omega) | omega) _)))⟩
theorem Fields_calls (n : Int) (w : World) :
    Calls Tryz.prog 76 #[.int .i64 n] w fun e w' => e = .returned (.int .i64 (opFields n)) ∧ Below w.heap.size w w' := by
  go_enter Tryz.func76, Tryz.ntmps76
  go_wp2_with (first | (go_at_call 91; refine (of_calls _ _).mono ?_; rintro e w' ⟨rfl, hb⟩; have hz := hb.size; (first | (obtain ⟨x1, rfl⟩ := to_mix2 hb) | (obtain ⟨x1, rfl⟩ := to_mix hb)); clear hb; (try simp only [World.size_alloc, World.size_setCell, World.size_drew] at hz); (try have q0 : w.heap.size < _ := Nat.lt_of_lt_of_le (by omega) hz); (try have q1 : w.heap.size + 1 < _ := Nat.lt_of_lt_of_le (by omega) hz); (try have q2 : w.heap.size + 1 + 1 < _ := Nat.lt_of_lt_of_le (by omega) hz); (try have q3 : w.heap.size + 1 + 1 + 1 < _ := Nat.lt_of_lt_of_le (by omega) hz)))
  go_ret
  exact ⟨rfl, by (repeat (first | (with_reducible assumption) | (with_reducible exact Below.refl _ _) | (with_reducible refine grow_alloc ?_ _) | (with_reducible refine grow_mix ?_ _) | (with_reducible refine grow_drew ?_) | (with_reducible refine grow_drewN ?_ _) | (with_reducible refine grow_set ?_ (by first | (simp; done) | (simp; omega) | omega) _)))⟩

abbrev spanV (s : Int × Int) : Value := .agg #[.int .i64 s.1, .int .i64 s.2]
def spanHas (s : Int × Int) (n : Int) : Bool := decide (s.1 ≤ n ∧ n ≤ s.2)
theorem has_calls (s : Int × Int) (n : Int) (w : World) :
    Calls Tryz.prog 69 #[spanV s, .int .i64 n] w fun e w' => e = .returned (.bool (spanHas s n)) ∧ Below w.heap.size w w' := by
  by_cases h0 : s.1 ≤ n
  · by_cases h1 : n ≤ s.2
    · have e : spanHas s n = true := by unfold spanHas; exact decide_eq_true ⟨h0, h1⟩
      rw [e]
      clear e
      go_enter Tryz.func69, Tryz.ntmps69
      go_wp2
      go_ret
      exact ⟨rfl, by (repeat (first | (with_reducible assumption) | (with_reducible exact Below.refl _ _) | (with_reducible refine grow_alloc ?_ _) | (with_reducible refine grow_mix ?_ _) | (with_reducible refine grow_drew ?_) | (with_reducible refine grow_drewN ?_ _) | (with_reducible refine grow_set ?_ (by first | (simp; done) | (simp; omega) | omega) _)))⟩
    · have e : spanHas s n = false := by unfold spanHas; exact decide_eq_false (by omega)
      rw [e]
      clear e
      go_enter Tryz.func69, Tryz.ntmps69
      go_wp2
      go_ret
      exact ⟨rfl, by (repeat (first | (with_reducible assumption) | (with_reducible exact Below.refl _ _) | (with_reducible refine grow_alloc ?_ _) | (with_reducible refine grow_mix ?_ _) | (with_reducible refine grow_drew ?_) | (with_reducible refine grow_drewN ?_ _) | (with_reducible refine grow_set ?_ (by first | (simp; done) | (simp; omega) | omega) _)))⟩
  · have e : spanHas s n = false := by unfold spanHas; exact decide_eq_false (by omega)
    rw [e]
    clear e
    go_enter Tryz.func69, Tryz.ntmps69
    go_wp2
    go_ret
    exact ⟨rfl, by (repeat (first | (with_reducible assumption) | (with_reducible exact Below.refl _ _) | (with_reducible refine grow_alloc ?_ _) | (with_reducible refine grow_mix ?_ _) | (with_reducible refine grow_drew ?_) | (with_reducible refine grow_drewN ?_ _) | (with_reducible refine grow_set ?_ (by first | (simp; done) | (simp; omega) | omega) _)))⟩
end Go.Proofs.YtedkfipjooafeaaGreatDoor.Op
namespace Go.Proofs.YtedkfipjooafeaaGreatDoor
open Go Go.RowKit

section
variable {P : Program} {ops : Array Oper} {md : Region.Mode} {Q : Exit → Act → World → Prop} {a : Act} {w : World} {f : Nat} {listed : Array Bool}
theorem upon_then {o : Oper} {K : Act → World → Prop} {r : Result Next} (h : o.upon P a K (Exit.then K Q) r) : o.upon P a K Q r := by
  unfold Oper.upon at h ⊢
  split at h <;> first | exact h | skip
  all_goals
    refine Calls.mono h ?_
    rintro (v | c | _) w' h' <;> exact h'

theorem wpOp_of_list {i : Nat} {o : Oper} {K : Act → World → Prop} (ho : ops[i]? = some o) (h : wpList P ops (Exit.then K Q) [o] a w) : wpOp P ops Q i K a w := by
  unfold wpOp
  simp only [ho]
  unfold wpList at h
  split
  · rename_i hw
    rw [if_pos hw] at h
    rcases h with h | ⟨h1, h2⟩
    · exact .inl (upon_then h)
    · exact .inr ⟨h1, h2⟩
  · rename_i hw
    rw [if_neg hw] at h
    exact h

theorem wp_region_ord {id : Nat} (hm : P.follows .mixedOrders = true) (h : wpAny P .any ops Q ops.size (Array.replicate ops.size false) a w.drew) : (Code.region id ops true).wp P Q a w := wp_region_any hm h
theorem any_end (h : Region.ready md ops listed = []) (hQ : Q .normal a w) : wpAny P md ops Q 0 listed a w := ⟨h, hQ⟩
theorem any_one {i : Nat} {o : Oper} (hr : Region.ready md ops listed = [i]) (ho : ops[i]? = some o) (h : wpList P ops (Exit.then (wpAny P md ops Q f (listed.setIfInBounds i true)) Q) [o] a w) :
    wpAny P md ops Q (f + 1) listed a w := by
  refine ⟨fun e => (by rw [hr] at e; cases e), fun j hj => ?_⟩
  rw [hr, List.mem_singleton] at hj
  subst hj
  exact wpOp_of_list ho h
theorem any_two {i k : Nat} {o u : Oper} (hr : Region.ready md ops listed = [i, k]) (ho : ops[i]? = some o) (hu : ops[k]? = some u) (h : wpList P ops (Exit.then (wpAny P md ops Q f (listed.setIfInBounds i true)) Q) [o] a w)
    (h' : wpList P ops (Exit.then (wpAny P md ops Q f (listed.setIfInBounds k true)) Q) [u] a w) : wpAny P md ops Q (f + 1) listed a w := by
  refine ⟨fun e => (by rw [hr] at e; cases e), fun j hj => ?_⟩
  rw [hr] at hj
  simp only [List.mem_cons, List.not_mem_nil, or_false] at hj
  rcases hj with rfl | rfl
  · exact wpOp_of_list ho h
  · exact wpOp_of_list hu h'
def firstB (md : Region.Mode) (ops : Array Oper) (listed : Array Bool) (i : Nat) : Bool :=
  Region.noSelect ops && (Region.ready md ops listed).contains i && (match ops[i]? with
    | some oi => (List.range ops.size).all fun j => match ops[j]? with
      | some oj => j == i || listed.getD j true || (oj.after.any fun e => Region.binds md e && e.on == i) || oi.apart ops oj
      | none => true
    | none => false)
theorem any_first {i : Nat} {o : Oper} (ho : ops[i]? = some o) (hB : firstB md ops listed i = true) (hQ : ∀ c a w v, Q (.panic c) (a.put o.dst v) w → Q (.panic c) a w) (hg : o.guard = none)
    (h : ∃ v, (∀ w, (execOp a.eval o).run P w = .ok (.value v) w) ∧ wpAny P md ops Q f (listed.setIfInBounds i true) (a.put o.dst v) w) : wpAny P md ops Q (f + 1) listed a w := by
  obtain ⟨v, hv, hw⟩ := h
  unfold firstB at hB
  simp only [Bool.and_eq_true, ho] at hB
  obtain ⟨⟨hsel, hr⟩, hall⟩ := hB
  refine wpAny_first ho (fun j oj cs b hj => Region.noSelect_spec hsel j oj cs b hj) (fun c a w h => hQ c a w v h) f listed a w ?_ (by simpa using hr) (.inl ⟨by simp [Region.wanted, hg], hv⟩) hw
  intro j oj hj hne hl hdep
  have hlt : j < ops.size := (Array.getElem?_eq_some_iff.1 hj).1
  have := List.all_eq_true.1 hall j (List.mem_range.2 hlt)
  simp only [hj, Bool.or_eq_true, beq_iff_eq] at this
  rcases this with ((h | h) | h) | h
  · exact absurd h hne
  · rw [hl] at h; cases h
  · rw [Array.any_eq_true'] at h
    obtain ⟨e, he, hb⟩ := h
    simp only [Bool.and_eq_true, beq_iff_eq] at hb
    exact absurd hb.2 (hdep e he hb.1)
  · exact h
end
end Go.Proofs.YtedkfipjooafeaaGreatDoor
set_option linter.unusedSimpArgs false
set_option linter.unusedVariables false
namespace Go.Proofs.YtedkfipjooafeaaGreatDoor.Op
open Go Go.RowKit Go.Proofs.YtedkfipjooafeaaGreatDoor

theorem ret_cell2 {P : Program} {ty ty' t' t'' : TypeId} {b b' : Nat} {w : World} {fn : Func} {R : Ending → World → Prop} {a : Act} {cs ds : List Value} {k k' : Tmp} (hres : fn.results = #[.cell k ty, .cell k' ty'])
    (hk : a.tmps.getD k undef = .pointer (some ⟨b, 0, none⟩)) (hk' : a.tmps.getD k' undef = .pointer (some ⟨b', 0, none⟩))
    (ha : ∀ w, (isAgg ty).run P w = .ok true w) (hs : ∀ w, (sizeOf ty).run P w = .ok cs.length w) (ha' : ∀ w, (isAgg ty').run P w = .ok true w) (hs' : ∀ w, (sizeOf ty').run P w = .ok ds.length w)
    (hd : a.defers = []) (h : Has w b cs.toArray t') (h' : Has w b' ds.toArray t'') (hR : R (.returned (.tuple #[.agg cs.toArray, .agg ds.toArray])) w) : bodyPost P fn R .ret a w := by
  refine bodyPost_ret (v := .tuple #[.agg cs.toArray, .agg ds.toArray]) ?_ hd hR
  have h1 := run_loadVar_has h ha hs
  have h2 := run_loadVar_has h' ha' hs'
  have e : a.tmps[k]?.getD undef = .pointer (some ⟨b, 0, none⟩) := by rw [← Array.getD_eq_getD_getElem?]; exact hk
  have e' : a.tmps[k']?.getD undef = .pointer (some ⟨b', 0, none⟩) := by rw [← Array.getD_eq_getD_getElem?]; exact hk'
  simp [results, hres, hk, hk', e, e', asAddr, h1, h2]

def spanA (n : Int) : Int × Int := if n = 0 then (0, 250) else if n = 1 ∨ n = 2 then (0, 15) else if n = 10 ∨ n = 11 then (0, 199) else if n = 13 then (0, 15) else if n = 14 then (0, 7) else if n = 16 then (16, 255) else (0, 0)
def spanB (n : Int) : Int × Int := if n = 0 then (0, 250) else if n = 13 then (0, 7) else (0, 0)
set_option maxHeartbeats 1000000 in
theorem spans_0 (w : World) :
    Calls Tryz.prog 68 #[.int .i64 0] w fun e w' => e = .returned (.tuple #[spanV (0, 250), spanV (0, 250)]) ∧ Below w.heap.size w w' := by
  go_enter Tryz.func68, Tryz.ntmps68
  go_wp2_with fail
  refine wp_region_ord (by kernel_rfl) ?_
  show wpAny _ _ _ _ (3 + 1) _ _ _
  refine any_two (i := 0) (k := 1) (by kernel_rfl) rfl rfl ?_ ?_
  ·
    go_wp2_with fail
    show wpAny _ _ _ _ (2 + 1) _ _ _
    refine any_two (i := 1) (k := 2) (by kernel_rfl) rfl rfl ?_ ?_
    ·
      go_wp2_with fail
      show wpAny _ _ _ _ (1 + 1) _ _ _
      refine any_one (i := 2) (by kernel_rfl) rfl ?_
      go_wp2_with fail
      show wpAny _ _ _ _ (0 + 1) _ _ _
      refine any_one (i := 3) (by kernel_rfl) rfl ?_
      go_wp2_with fail
      refine any_end (by kernel_rfl) ?_
      (go_wp2; exact ret_cell2 (cs := [.int .i64 0, .int .i64 250]) (ds := [.int .i64 0, .int .i64 250]) (t' := 101) (t'' := 101) Tryz.results68 rfl rfl Tryz.isAgg101 Tryz.sizeOf101 Tryz.isAgg101 Tryz.sizeOf101 rfl (by (repeat (first | (with_reducible assumption) | (with_reducible exact Has.new _ _ _) | (with_reducible exact Has.new' (by first | rfl | (simp; done) | (simp; omega)) _ _) | (with_reducible apply Has.alloc) | (with_reducible apply Has.mix) | (with_reducible apply Has.drew) | (with_reducible apply Has.drewN) | (with_reducible apply Has.set_same) | (with_reducible apply Has.set_other (hp := (by first | (simp; done) | (simp; omega) | omega))) | (with_reducible rfl) | rfl))) (by (repeat (first | (with_reducible assumption) | (with_reducible exact Has.new _ _ _) | (with_reducible exact Has.new' (by first | rfl | (simp; done) | (simp; omega)) _ _) | (with_reducible apply Has.alloc) | (with_reducible apply Has.mix) | (with_reducible apply Has.drew) | (with_reducible apply Has.drewN) | (with_reducible apply Has.set_same) | (with_reducible apply Has.set_other (hp := (by first | (simp; done) | (simp; omega) | omega))) | (with_reducible rfl) | rfl))) ⟨rfl, by (repeat (first | (with_reducible assumption) | (with_reducible exact Below.refl _ _) | (with_reducible refine grow_alloc ?_ _) | (with_reducible refine grow_mix ?_ _) | (with_reducible refine grow_drew ?_) | (with_reducible refine grow_drewN ?_ _) | (with_reducible refine grow_set ?_ (by first | (simp; done) | (simp; omega) | omega) _)))⟩)
    ·
      go_wp2_with fail
      show wpAny _ _ _ _ (1 + 1) _ _ _
      refine any_one (i := 1) (by kernel_rfl) rfl ?_
      go_wp2_with fail
      show wpAny _ _ _ _ (0 + 1) _ _ _
      refine any_one (i := 3) (by kernel_rfl) rfl ?_
      go_wp2_with fail
      refine any_end (by kernel_rfl) ?_
      (go_wp2; exact ret_cell2 (cs := [.int .i64 0, .int .i64 250]) (ds := [.int .i64 0, .int .i64 250]) (t' := 101) (t'' := 101) Tryz.results68 rfl rfl Tryz.isAgg101 Tryz.sizeOf101 Tryz.isAgg101 Tryz.sizeOf101 rfl (by (repeat (first | (with_reducible assumption) | (with_reducible exact Has.new _ _ _) | (with_reducible exact Has.new' (by first | rfl | (simp; done) | (simp; omega)) _ _) | (with_reducible apply Has.alloc) | (with_reducible apply Has.mix) | (with_reducible apply Has.drew) | (with_reducible apply Has.drewN) | (with_reducible apply Has.set_same) | (with_reducible apply Has.set_other (hp := (by first | (simp; done) | (simp; omega) | omega))) | (with_reducible rfl) | rfl))) (by (repeat (first | (with_reducible assumption) | (with_reducible exact Has.new _ _ _) | (with_reducible exact Has.new' (by first | rfl | (simp; done) | (simp; omega)) _ _) | (with_reducible apply Has.alloc) | (with_reducible apply Has.mix) | (with_reducible apply Has.drew) | (with_reducible apply Has.drewN) | (with_reducible apply Has.set_same) | (with_reducible apply Has.set_other (hp := (by first | (simp; done) | (simp; omega) | omega))) | (with_reducible rfl) | rfl))) ⟨rfl, by (repeat (first | (with_reducible assumption) | (with_reducible exact Below.refl _ _) | (with_reducible refine grow_alloc ?_ _) | (with_reducible refine grow_mix ?_ _) | (with_reducible refine grow_drew ?_) | (with_reducible refine grow_drewN ?_ _) | (with_reducible refine grow_set ?_ (by first | (simp; done) | (simp; omega) | omega) _)))⟩)
  ·
    go_wp2_with fail
    show wpAny _ _ _ _ (2 + 1) _ _ _
    refine any_one (i := 0) (by kernel_rfl) rfl ?_
    go_wp2_with fail
    show wpAny _ _ _ _ (1 + 1) _ _ _
    refine any_one (i := 2) (by kernel_rfl) rfl ?_
    go_wp2_with fail
    show wpAny _ _ _ _ (0 + 1) _ _ _
    refine any_one (i := 3) (by kernel_rfl) rfl ?_
    go_wp2_with fail
    refine any_end (by kernel_rfl) ?_
    (go_wp2; exact ret_cell2 (cs := [.int .i64 0, .int .i64 250]) (ds := [.int .i64 0, .int .i64 250]) (t' := 101) (t'' := 101) Tryz.results68 rfl rfl Tryz.isAgg101 Tryz.sizeOf101 Tryz.isAgg101 Tryz.sizeOf101 rfl (by (repeat (first | (with_reducible assumption) | (with_reducible exact Has.new _ _ _) | (with_reducible exact Has.new' (by first | rfl | (simp; done) | (simp; omega)) _ _) | (with_reducible apply Has.alloc) | (with_reducible apply Has.mix) | (with_reducible apply Has.drew) | (with_reducible apply Has.drewN) | (with_reducible apply Has.set_same) | (with_reducible apply Has.set_other (hp := (by first | (simp; done) | (simp; omega) | omega))) | (with_reducible rfl) | rfl))) (by (repeat (first | (with_reducible assumption) | (with_reducible exact Has.new _ _ _) | (with_reducible exact Has.new' (by first | rfl | (simp; done) | (simp; omega)) _ _) | (with_reducible apply Has.alloc) | (with_reducible apply Has.mix) | (with_reducible apply Has.drew) | (with_reducible apply Has.drewN) | (with_reducible apply Has.set_same) | (with_reducible apply Has.set_other (hp := (by first | (simp; done) | (simp; omega) | omega))) | (with_reducible rfl) | rfl))) ⟨rfl, by (repeat (first | (with_reducible assumption) | (with_reducible exact Below.refl _ _) | (with_reducible refine grow_alloc ?_ _) | (with_reducible refine grow_mix ?_ _) | (with_reducible refine grow_drew ?_) | (with_reducible refine grow_drewN ?_ _) | (with_reducible refine grow_set ?_ (by first | (simp; done) | (simp; omega) | omega) _)))⟩)
set_option maxHeartbeats 1000000 in
theorem spans_1 (w : World) :
    Calls Tryz.prog 68 #[.int .i64 1] w fun e w' => e = .returned (.tuple #[spanV (0, 15), spanV (0, 0)]) ∧ Below w.heap.size w w' := by
  go_enter Tryz.func68, Tryz.ntmps68
  go_wp2
  exact ret_cell2 (cs := [.int .i64 0, .int .i64 15]) (ds := [.int .i64 0, .int .i64 0]) (t' := 101) (t'' := 101) Tryz.results68 rfl rfl Tryz.isAgg101 Tryz.sizeOf101 Tryz.isAgg101 Tryz.sizeOf101 rfl (by (repeat (first | (with_reducible assumption) | (with_reducible exact Has.new _ _ _) | (with_reducible exact Has.new' (by first | rfl | (simp; done) | (simp; omega)) _ _) | (with_reducible apply Has.alloc) | (with_reducible apply Has.mix) | (with_reducible apply Has.drew) | (with_reducible apply Has.drewN) | (with_reducible apply Has.set_same) | (with_reducible apply Has.set_other (hp := (by first | (simp; done) | (simp; omega) | omega))) | (with_reducible rfl) | rfl))) (by (repeat (first | (with_reducible assumption) | (with_reducible exact Has.new _ _ _) | (with_reducible exact Has.new' (by first | rfl | (simp; done) | (simp; omega)) _ _) | (with_reducible apply Has.alloc) | (with_reducible apply Has.mix) | (with_reducible apply Has.drew) | (with_reducible apply Has.drewN) | (with_reducible apply Has.set_same) | (with_reducible apply Has.set_other (hp := (by first | (simp; done) | (simp; omega) | omega))) | (with_reducible rfl) | rfl))) ⟨rfl, by (repeat (first | (with_reducible assumption) | (with_reducible exact Below.refl _ _) | (with_reducible refine grow_alloc ?_ _) | (with_reducible refine grow_mix ?_ _) | (with_reducible refine grow_drew ?_) | (with_reducible refine grow_drewN ?_ _) | (with_reducible refine grow_set ?_ (by first | (simp; done) | (simp; omega) | omega) _)))⟩
set_option maxHeartbeats 1000000 in
theorem spans_2 (w : World) :
    Calls Tryz.prog 68 #[.int .i64 2] w fun e w' => e = .returned (.tuple #[spanV (0, 15), spanV (0, 0)]) ∧ Below w.heap.size w w' := by
  go_enter Tryz.func68, Tryz.ntmps68
  go_wp2
  exact ret_cell2 (cs := [.int .i64 0, .int .i64 15]) (ds := [.int .i64 0, .int .i64 0]) (t' := 101) (t'' := 101) Tryz.results68 rfl rfl Tryz.isAgg101 Tryz.sizeOf101 Tryz.isAgg101 Tryz.sizeOf101 rfl (by (repeat (first | (with_reducible assumption) | (with_reducible exact Has.new _ _ _) | (with_reducible exact Has.new' (by first | rfl | (simp; done) | (simp; omega)) _ _) | (with_reducible apply Has.alloc) | (with_reducible apply Has.mix) | (with_reducible apply Has.drew) | (with_reducible apply Has.drewN) | (with_reducible apply Has.set_same) | (with_reducible apply Has.set_other (hp := (by first | (simp; done) | (simp; omega) | omega))) | (with_reducible rfl) | rfl))) (by (repeat (first | (with_reducible assumption) | (with_reducible exact Has.new _ _ _) | (with_reducible exact Has.new' (by first | rfl | (simp; done) | (simp; omega)) _ _) | (with_reducible apply Has.alloc) | (with_reducible apply Has.mix) | (with_reducible apply Has.drew) | (with_reducible apply Has.drewN) | (with_reducible apply Has.set_same) | (with_reducible apply Has.set_other (hp := (by first | (simp; done) | (simp; omega) | omega))) | (with_reducible rfl) | rfl))) ⟨rfl, by (repeat (first | (with_reducible assumption) | (with_reducible exact Below.refl _ _) | (with_reducible refine grow_alloc ?_ _) | (with_reducible refine grow_mix ?_ _) | (with_reducible refine grow_drew ?_) | (with_reducible refine grow_drewN ?_ _) | (with_reducible refine grow_set ?_ (by first | (simp; done) | (simp; omega) | omega) _)))⟩
set_option maxHeartbeats 1000000 in
theorem spans_10 (w : World) :
    Calls Tryz.prog 68 #[.int .i64 10] w fun e w' => e = .returned (.tuple #[spanV (0, 199), spanV (0, 0)]) ∧ Below w.heap.size w w' := by
  go_enter Tryz.func68, Tryz.ntmps68
  go_wp2
  exact ret_cell2 (cs := [.int .i64 0, .int .i64 199]) (ds := [.int .i64 0, .int .i64 0]) (t' := 101) (t'' := 101) Tryz.results68 rfl rfl Tryz.isAgg101 Tryz.sizeOf101 Tryz.isAgg101 Tryz.sizeOf101 rfl (by (repeat (first | (with_reducible assumption) | (with_reducible exact Has.new _ _ _) | (with_reducible exact Has.new' (by first | rfl | (simp; done) | (simp; omega)) _ _) | (with_reducible apply Has.alloc) | (with_reducible apply Has.mix) | (with_reducible apply Has.drew) | (with_reducible apply Has.drewN) | (with_reducible apply Has.set_same) | (with_reducible apply Has.set_other (hp := (by first | (simp; done) | (simp; omega) | omega))) | (with_reducible rfl) | rfl))) (by (repeat (first | (with_reducible assumption) | (with_reducible exact Has.new _ _ _) | (with_reducible exact Has.new' (by first | rfl | (simp; done) | (simp; omega)) _ _) | (with_reducible apply Has.alloc) | (with_reducible apply Has.mix) | (with_reducible apply Has.drew) | (with_reducible apply Has.drewN) | (with_reducible apply Has.set_same) | (with_reducible apply Has.set_other (hp := (by first | (simp; done) | (simp; omega) | omega))) | (with_reducible rfl) | rfl))) ⟨rfl, by (repeat (first | (with_reducible assumption) | (with_reducible exact Below.refl _ _) | (with_reducible refine grow_alloc ?_ _) | (with_reducible refine grow_mix ?_ _) | (with_reducible refine grow_drew ?_) | (with_reducible refine grow_drewN ?_ _) | (with_reducible refine grow_set ?_ (by first | (simp; done) | (simp; omega) | omega) _)))⟩
set_option maxHeartbeats 1000000 in
theorem spans_11 (w : World) :
    Calls Tryz.prog 68 #[.int .i64 11] w fun e w' => e = .returned (.tuple #[spanV (0, 199), spanV (0, 0)]) ∧ Below w.heap.size w w' := by
  go_enter Tryz.func68, Tryz.ntmps68
  go_wp2
  exact ret_cell2 (cs := [.int .i64 0, .int .i64 199]) (ds := [.int .i64 0, .int .i64 0]) (t' := 101) (t'' := 101) Tryz.results68 rfl rfl Tryz.isAgg101 Tryz.sizeOf101 Tryz.isAgg101 Tryz.sizeOf101 rfl (by (repeat (first | (with_reducible assumption) | (with_reducible exact Has.new _ _ _) | (with_reducible exact Has.new' (by first | rfl | (simp; done) | (simp; omega)) _ _) | (with_reducible apply Has.alloc) | (with_reducible apply Has.mix) | (with_reducible apply Has.drew) | (with_reducible apply Has.drewN) | (with_reducible apply Has.set_same) | (with_reducible apply Has.set_other (hp := (by first | (simp; done) | (simp; omega) | omega))) | (with_reducible rfl) | rfl))) (by (repeat (first | (with_reducible assumption) | (with_reducible exact Has.new _ _ _) | (with_reducible exact Has.new' (by first | rfl | (simp; done) | (simp; omega)) _ _) | (with_reducible apply Has.alloc) | (with_reducible apply Has.mix) | (with_reducible apply Has.drew) | (with_reducible apply Has.drewN) | (with_reducible apply Has.set_same) | (with_reducible apply Has.set_other (hp := (by first | (simp; done) | (simp; omega) | omega))) | (with_reducible rfl) | rfl))) ⟨rfl, by (repeat (first | (with_reducible assumption) | (with_reducible exact Below.refl _ _) | (with_reducible refine grow_alloc ?_ _) | (with_reducible refine grow_mix ?_ _) | (with_reducible refine grow_drew ?_) | (with_reducible refine grow_drewN ?_ _) | (with_reducible refine grow_set ?_ (by first | (simp; done) | (simp; omega) | omega) _)))⟩
set_option maxHeartbeats 1000000 in
theorem spans_13 (w : World) :
    Calls Tryz.prog 68 #[.int .i64 13] w fun e w' => e = .returned (.tuple #[spanV (0, 15), spanV (0, 7)]) ∧ Below w.heap.size w w' := by
  go_enter Tryz.func68, Tryz.ntmps68
  go_wp2_with fail
  refine wp_region_ord (by kernel_rfl) ?_
  show wpAny _ _ _ _ (3 + 1) _ _ _
  refine any_two (i := 0) (k := 1) (by kernel_rfl) rfl rfl ?_ ?_
  ·
    go_wp2_with fail
    show wpAny _ _ _ _ (2 + 1) _ _ _
    refine any_two (i := 1) (k := 2) (by kernel_rfl) rfl rfl ?_ ?_
    ·
      go_wp2_with fail
      show wpAny _ _ _ _ (1 + 1) _ _ _
      refine any_one (i := 2) (by kernel_rfl) rfl ?_
      go_wp2_with fail
      show wpAny _ _ _ _ (0 + 1) _ _ _
      refine any_one (i := 3) (by kernel_rfl) rfl ?_
      go_wp2_with fail
      refine any_end (by kernel_rfl) ?_
      (go_wp2; exact ret_cell2 (cs := [.int .i64 0, .int .i64 15]) (ds := [.int .i64 0, .int .i64 7]) (t' := 101) (t'' := 101) Tryz.results68 rfl rfl Tryz.isAgg101 Tryz.sizeOf101 Tryz.isAgg101 Tryz.sizeOf101 rfl (by (repeat (first | (with_reducible assumption) | (with_reducible exact Has.new _ _ _) | (with_reducible exact Has.new' (by first | rfl | (simp; done) | (simp; omega)) _ _) | (with_reducible apply Has.alloc) | (with_reducible apply Has.mix) | (with_reducible apply Has.drew) | (with_reducible apply Has.drewN) | (with_reducible apply Has.set_same) | (with_reducible apply Has.set_other (hp := (by first | (simp; done) | (simp; omega) | omega))) | (with_reducible rfl) | rfl))) (by (repeat (first | (with_reducible assumption) | (with_reducible exact Has.new _ _ _) | (with_reducible exact Has.new' (by first | rfl | (simp; done) | (simp; omega)) _ _) | (with_reducible apply Has.alloc) | (with_reducible apply Has.mix) | (with_reducible apply Has.drew) | (with_reducible apply Has.drewN) | (with_reducible apply Has.set_same) | (with_reducible apply Has.set_other (hp := (by first | (simp; done) | (simp; omega) | omega))) | (with_reducible rfl) | rfl))) ⟨rfl, by (repeat (first | (with_reducible assumption) | (with_reducible exact Below.refl _ _) | (with_reducible refine grow_alloc ?_ _) | (with_reducible refine grow_mix ?_ _) | (with_reducible refine grow_drew ?_) | (with_reducible refine grow_drewN ?_ _) | (with_reducible refine grow_set ?_ (by first | (simp; done) | (simp; omega) | omega) _)))⟩)
    ·
      go_wp2_with fail
      show wpAny _ _ _ _ (1 + 1) _ _ _
      refine any_one (i := 1) (by kernel_rfl) rfl ?_
      go_wp2_with fail
      show wpAny _ _ _ _ (0 + 1) _ _ _
      refine any_one (i := 3) (by kernel_rfl) rfl ?_
      go_wp2_with fail
      refine any_end (by kernel_rfl) ?_
      (go_wp2; exact ret_cell2 (cs := [.int .i64 0, .int .i64 15]) (ds := [.int .i64 0, .int .i64 7]) (t' := 101) (t'' := 101) Tryz.results68 rfl rfl Tryz.isAgg101 Tryz.sizeOf101 Tryz.isAgg101 Tryz.sizeOf101 rfl (by (repeat (first | (with_reducible assumption) | (with_reducible exact Has.new _ _ _) | (with_reducible exact Has.new' (by first | rfl | (simp; done) | (simp; omega)) _ _) | (with_reducible apply Has.alloc) | (with_reducible apply Has.mix) | (with_reducible apply Has.drew) | (with_reducible apply Has.drewN) | (with_reducible apply Has.set_same) | (with_reducible apply Has.set_other (hp := (by first | (simp; done) | (simp; omega) | omega))) | (with_reducible rfl) | rfl))) (by (repeat (first | (with_reducible assumption) | (with_reducible exact Has.new _ _ _) | (with_reducible exact Has.new' (by first | rfl | (simp; done) | (simp; omega)) _ _) | (with_reducible apply Has.alloc) | (with_reducible apply Has.mix) | (with_reducible apply Has.drew) | (with_reducible apply Has.drewN) | (with_reducible apply Has.set_same) | (with_reducible apply Has.set_other (hp := (by first | (simp; done) | (simp; omega) | omega))) | (with_reducible rfl) | rfl))) ⟨rfl, by (repeat (first | (with_reducible assumption) | (with_reducible exact Below.refl _ _) | (with_reducible refine grow_alloc ?_ _) | (with_reducible refine grow_mix ?_ _) | (with_reducible refine grow_drew ?_) | (with_reducible refine grow_drewN ?_ _) | (with_reducible refine grow_set ?_ (by first | (simp; done) | (simp; omega) | omega) _)))⟩)
  ·
    go_wp2_with fail
    show wpAny _ _ _ _ (2 + 1) _ _ _
    refine any_one (i := 0) (by kernel_rfl) rfl ?_
    go_wp2_with fail
    show wpAny _ _ _ _ (1 + 1) _ _ _
    refine any_one (i := 2) (by kernel_rfl) rfl ?_
    go_wp2_with fail
    show wpAny _ _ _ _ (0 + 1) _ _ _
    refine any_one (i := 3) (by kernel_rfl) rfl ?_
    go_wp2_with fail
    refine any_end (by kernel_rfl) ?_
    (go_wp2; exact ret_cell2 (cs := [.int .i64 0, .int .i64 15]) (ds := [.int .i64 0, .int .i64 7]) (t' := 101) (t'' := 101) Tryz.results68 rfl rfl Tryz.isAgg101 Tryz.sizeOf101 Tryz.isAgg101 Tryz.sizeOf101 rfl (by (repeat (first | (with_reducible assumption) | (with_reducible exact Has.new _ _ _) | (with_reducible exact Has.new' (by first | rfl | (simp; done) | (simp; omega)) _ _) | (with_reducible apply Has.alloc) | (with_reducible apply Has.mix) | (with_reducible apply Has.drew) | (with_reducible apply Has.drewN) | (with_reducible apply Has.set_same) | (with_reducible apply Has.set_other (hp := (by first | (simp; done) | (simp; omega) | omega))) | (with_reducible rfl) | rfl))) (by (repeat (first | (with_reducible assumption) | (with_reducible exact Has.new _ _ _) | (with_reducible exact Has.new' (by first | rfl | (simp; done) | (simp; omega)) _ _) | (with_reducible apply Has.alloc) | (with_reducible apply Has.mix) | (with_reducible apply Has.drew) | (with_reducible apply Has.drewN) | (with_reducible apply Has.set_same) | (with_reducible apply Has.set_other (hp := (by first | (simp; done) | (simp; omega) | omega))) | (with_reducible rfl) | rfl))) ⟨rfl, by (repeat (first | (with_reducible assumption) | (with_reducible exact Below.refl _ _) | (with_reducible refine grow_alloc ?_ _) | (with_reducible refine grow_mix ?_ _) | (with_reducible refine grow_drew ?_) | (with_reducible refine grow_drewN ?_ _) | (with_reducible refine grow_set ?_ (by first | (simp; done) | (simp; omega) | omega) _)))⟩)
set_option maxHeartbeats 1000000 in
theorem spans_14 (w : World) :
    Calls Tryz.prog 68 #[.int .i64 14] w fun e w' => e = .returned (.tuple #[spanV (0, 7), spanV (0, 0)]) ∧ Below w.heap.size w w' := by
  go_enter Tryz.func68, Tryz.ntmps68
  go_wp2
  exact ret_cell2 (cs := [.int .i64 0, .int .i64 7]) (ds := [.int .i64 0, .int .i64 0]) (t' := 101) (t'' := 101) Tryz.results68 rfl rfl Tryz.isAgg101 Tryz.sizeOf101 Tryz.isAgg101 Tryz.sizeOf101 rfl (by (repeat (first | (with_reducible assumption) | (with_reducible exact Has.new _ _ _) | (with_reducible exact Has.new' (by first | rfl | (simp; done) | (simp; omega)) _ _) | (with_reducible apply Has.alloc) | (with_reducible apply Has.mix) | (with_reducible apply Has.drew) | (with_reducible apply Has.drewN) | (with_reducible apply Has.set_same) | (with_reducible apply Has.set_other (hp := (by first | (simp; done) | (simp; omega) | omega))) | (with_reducible rfl) | rfl))) (by (repeat (first | (with_reducible assumption) | (with_reducible exact Has.new _ _ _) | (with_reducible exact Has.new' (by first | rfl | (simp; done) | (simp; omega)) _ _) | (with_reducible apply Has.alloc) | (with_reducible apply Has.mix) | (with_reducible apply Has.drew) | (with_reducible apply Has.drewN) | (with_reducible apply Has.set_same) | (with_reducible apply Has.set_other (hp := (by first | (simp; done) | (simp; omega) | omega))) | (with_reducible rfl) | rfl))) ⟨rfl, by (repeat (first | (with_reducible assumption) | (with_reducible exact Below.refl _ _) | (with_reducible refine grow_alloc ?_ _) | (with_reducible refine grow_mix ?_ _) | (with_reducible refine grow_drew ?_) | (with_reducible refine grow_drewN ?_ _) | (with_reducible refine grow_set ?_ (by first | (simp; done) | (simp; omega) | omega) _)))⟩
set_option maxHeartbeats 1000000 in
theorem spans_16 (w : World) :
    Calls Tryz.prog 68 #[.int .i64 16] w fun e w' => e = .returned (.tuple #[spanV (16, 255), spanV (0, 0)]) ∧ Below w.heap.size w w' := by
  go_enter Tryz.func68, Tryz.ntmps68
  go_wp2
  exact ret_cell2 (cs := [.int .i64 16, .int .i64 255]) (ds := [.int .i64 0, .int .i64 0]) (t' := 101) (t'' := 101) Tryz.results68 rfl rfl Tryz.isAgg101 Tryz.sizeOf101 Tryz.isAgg101 Tryz.sizeOf101 rfl (by (repeat (first | (with_reducible assumption) | (with_reducible exact Has.new _ _ _) | (with_reducible exact Has.new' (by first | rfl | (simp; done) | (simp; omega)) _ _) | (with_reducible apply Has.alloc) | (with_reducible apply Has.mix) | (with_reducible apply Has.drew) | (with_reducible apply Has.drewN) | (with_reducible apply Has.set_same) | (with_reducible apply Has.set_other (hp := (by first | (simp; done) | (simp; omega) | omega))) | (with_reducible rfl) | rfl))) (by (repeat (first | (with_reducible assumption) | (with_reducible exact Has.new _ _ _) | (with_reducible exact Has.new' (by first | rfl | (simp; done) | (simp; omega)) _ _) | (with_reducible apply Has.alloc) | (with_reducible apply Has.mix) | (with_reducible apply Has.drew) | (with_reducible apply Has.drewN) | (with_reducible apply Has.set_same) | (with_reducible apply Has.set_other (hp := (by first | (simp; done) | (simp; omega) | omega))) | (with_reducible rfl) | rfl))) ⟨rfl, by (repeat (first | (with_reducible assumption) | (with_reducible exact Below.refl _ _) | (with_reducible refine grow_alloc ?_ _) | (with_reducible refine grow_mix ?_ _) | (with_reducible refine grow_drew ?_) | (with_reducible refine grow_drewN ?_ _) | (with_reducible refine grow_set ?_ (by first | (simp; done) | (simp; omega) | omega) _)))⟩
set_option maxHeartbeats 1000000 in
theorem spans_none (n : Int) (h0 : (n == 0) = false) (h1 : (n == 1) = false) (h2 : (n == 2) = false) (h10 : (n == 10) = false) (h11 : (n == 11) = false) (h13 : (n == 13) = false) (h14 : (n == 14) = false) (h16 : (n == 16) = false) (w : World) :
    Calls Tryz.prog 68 #[.int .i64 n] w fun e w' => e = .returned (.tuple #[spanV (0, 0), spanV (0, 0)]) ∧ Below w.heap.size w w' := by
  go_enter Tryz.func68, Tryz.ntmps68
  go_wp2
  exact ret_cell2 (cs := [.int .i64 0, .int .i64 0]) (ds := [.int .i64 0, .int .i64 0]) (t' := 101) (t'' := 101) Tryz.results68 rfl rfl Tryz.isAgg101 Tryz.sizeOf101 Tryz.isAgg101 Tryz.sizeOf101 rfl (by (repeat (first | (with_reducible assumption) | (with_reducible exact Has.new _ _ _) | (with_reducible exact Has.new' (by first | rfl | (simp; done) | (simp; omega)) _ _) | (with_reducible apply Has.alloc) | (with_reducible apply Has.mix) | (with_reducible apply Has.drew) | (with_reducible apply Has.drewN) | (with_reducible apply Has.set_same) | (with_reducible apply Has.set_other (hp := (by first | (simp; done) | (simp; omega) | omega))) | (with_reducible rfl) | rfl))) (by (repeat (first | (with_reducible assumption) | (with_reducible exact Has.new _ _ _) | (with_reducible exact Has.new' (by first | rfl | (simp; done) | (simp; omega)) _ _) | (with_reducible apply Has.alloc) | (with_reducible apply Has.mix) | (with_reducible apply Has.drew) | (with_reducible apply Has.drewN) | (with_reducible apply Has.set_same) | (with_reducible apply Has.set_other (hp := (by first | (simp; done) | (simp; omega) | omega))) | (with_reducible rfl) | rfl))) ⟨rfl, by (repeat (first | (with_reducible assumption) | (with_reducible exact Below.refl _ _) | (with_reducible refine grow_alloc ?_ _) | (with_reducible refine grow_mix ?_ _) | (with_reducible refine grow_drew ?_) | (with_reducible refine grow_drewN ?_ _) | (with_reducible refine grow_set ?_ (by first | (simp; done) | (simp; omega) | omega) _)))⟩
theorem spans_calls (n : Int) (w : World) :
    Calls Tryz.prog 68 #[.int .i64 n] w fun e w' => e = .returned (.tuple #[spanV (spanA n), spanV (spanB n)]) ∧ Below w.heap.size w w' := by
  by_cases h0 : n = 0
  · subst h0; exact spans_0 w
  by_cases h1 : n = 1
  · subst h1; exact spans_1 w
  by_cases h2 : n = 2
  · subst h2; exact spans_2 w
  by_cases h10 : n = 10
  · subst h10; exact spans_10 w
  by_cases h11 : n = 11
  · subst h11; exact spans_11 w
  by_cases h13 : n = 13
  · subst h13; exact spans_13 w
  by_cases h14 : n = 14
  · subst h14; exact spans_14 w
  by_cases h16 : n = 16
  · subst h16; exact spans_16 w
  have e1 : spanA n = (0, 0) := by unfold spanA; simp [h0, h1, h2, h10, h11, h13, h14, h16]
  have e2 : spanB n = (0, 0) := by unfold spanB; simp [h0, h13]
  rw [e1, e2]
  exact spans_none n (by simpa using h0) (by simpa using h1) (by simpa using h2) (by simpa using h10) (by simpa using h11) (by simpa using h13) (by simpa using h14) (by simpa using h16) w
end Go.Proofs.YtedkfipjooafeaaGreatDoor.Op
set_option linter.unusedSimpArgs false
set_option linter.unusedVariables false
namespace Go.Proofs.YtedkfipjooafeaaGreatDoor.Op
open Go Go.RowKit Go.Proofs.YtedkfipjooafeaaGreatDoor

attribute [local irreducible] spanA spanB

structure Ins where
  op : Int
  a : Int
  b : Int
  deriving DecidableEq
abbrev insV (x : Ins) : Value := .agg #[.int .i64 x.op, .int .i64 x.a, .int .i64 x.b]
def mayI (x : Ins) : Bool := isOp x.op && (spanHas (spanA x.op) x.a && spanHas (spanB x.op) x.b)
theorem has_at (s : Int × Int) (n : Int) (b : Bool) (h : spanHas s n = b) (w : World) :
    Calls Tryz.prog 69 #[spanV s, .int .i64 n] w fun e w' => e = .returned (.bool b) ∧ Below w.heap.size w w' := by
  subst h; exact has_calls s n w

set_option maxHeartbeats 1000000 in
theorem May_in (x : Ins) (b c : Bool) (h0 : ¬ x.op < 0) (h1 : x.op < 17) (ha : spanHas (spanA x.op) x.a = b) (hb : spanHas (spanB x.op) x.b = c) (w : World) :
    Calls Tryz.prog 37 #[insV x] w fun e w' => e = .returned (.bool (b && c)) ∧ Below w.heap.size w w' := by
  have h0' : 0 ≤ x.op := by omega
  have HA := Lib.hid (fun w1 => has_at (spanA x.op) x.a b ha w1)
  have HB := Lib.hid (fun w1 => has_at (spanB x.op) x.b c hb w1)
  clear ha hb
  cases b <;> cases c
  all_goals
    go_enter Tryz.func37, Tryz.ntmps37
    go_wp2_with (first | (go_at_call 68; refine (spans_calls _ _).mono ?_; rintro e w' ⟨rfl, hb⟩; have hz := hb.size; (first | (obtain ⟨x1, rfl⟩ := to_mix2 hb) | (obtain ⟨x1, rfl⟩ := to_mix hb)); clear hb; (try simp only [World.size_alloc, World.size_setCell, World.size_drew] at hz); (try have q0 : w.heap.size < _ := Nat.lt_of_lt_of_le (by omega) hz); (try have q1 : w.heap.size + 1 < _ := Nat.lt_of_lt_of_le (by omega) hz); (try have q2 : w.heap.size + 1 + 1 < _ := Nat.lt_of_lt_of_le (by omega) hz); (try have q3 : w.heap.size + 1 + 1 + 1 < _ := Nat.lt_of_lt_of_le (by omega) hz)) | (go_at_call 69; (with_reducible refine (HA.out _).mono ?_); rintro e w' ⟨rfl, hb⟩; have hz := hb.size; (first | (obtain ⟨x1, rfl⟩ := to_mix2 hb) | (obtain ⟨x1, rfl⟩ := to_mix hb)); clear hb; (try simp only [World.size_alloc, World.size_setCell, World.size_drew] at hz); (try have q0 : w.heap.size < _ := Nat.lt_of_lt_of_le (by omega) hz); (try have q1 : w.heap.size + 1 < _ := Nat.lt_of_lt_of_le (by omega) hz); (try have q2 : w.heap.size + 1 + 1 < _ := Nat.lt_of_lt_of_le (by omega) hz); (try have q3 : w.heap.size + 1 + 1 + 1 < _ := Nat.lt_of_lt_of_le (by omega) hz)) | (go_at_call 69; (with_reducible refine (HB.out _).mono ?_); rintro e w' ⟨rfl, hb⟩; have hz := hb.size; (first | (obtain ⟨x1, rfl⟩ := to_mix2 hb) | (obtain ⟨x1, rfl⟩ := to_mix hb)); clear hb; (try simp only [World.size_alloc, World.size_setCell, World.size_drew] at hz); (try have q0 : w.heap.size < _ := Nat.lt_of_lt_of_le (by omega) hz); (try have q1 : w.heap.size + 1 < _ := Nat.lt_of_lt_of_le (by omega) hz); (try have q2 : w.heap.size + 1 + 1 < _ := Nat.lt_of_lt_of_le (by omega) hz); (try have q3 : w.heap.size + 1 + 1 + 1 < _ := Nat.lt_of_lt_of_le (by omega) hz)))
    go_ret
    exact ⟨rfl, by (repeat (first | (with_reducible assumption) | (with_reducible exact Below.refl _ _) | (with_reducible refine grow_alloc ?_ _) | (with_reducible refine grow_mix ?_ _) | (with_reducible refine grow_drew ?_) | (with_reducible refine grow_drewN ?_ _) | (with_reducible refine grow_set ?_ (by first | (simp; done) | (simp; omega) | omega) _)))⟩
set_option maxHeartbeats 1000000 in
theorem May_out (x : Ins) (h : x.op < 0 ∨ 17 ≤ x.op) (w : World) :
    Calls Tryz.prog 37 #[insV x] w fun e w' => e = .returned (.bool false) ∧ Below w.heap.size w w' := by
  rcases h with h | h
  · go_enter Tryz.func37, Tryz.ntmps37
    go_wp2_with (first | (go_at_call 68; refine (spans_calls _ _).mono ?_; rintro e w' ⟨rfl, hb⟩; have hz := hb.size; (first | (obtain ⟨x1, rfl⟩ := to_mix2 hb) | (obtain ⟨x1, rfl⟩ := to_mix hb)); clear hb; (try simp only [World.size_alloc, World.size_setCell, World.size_drew] at hz); (try have q0 : w.heap.size < _ := Nat.lt_of_lt_of_le (by omega) hz); (try have q1 : w.heap.size + 1 < _ := Nat.lt_of_lt_of_le (by omega) hz); (try have q2 : w.heap.size + 1 + 1 < _ := Nat.lt_of_lt_of_le (by omega) hz); (try have q3 : w.heap.size + 1 + 1 + 1 < _ := Nat.lt_of_lt_of_le (by omega) hz)))
    go_ret
    exact ⟨rfl, by (repeat (first | (with_reducible assumption) | (with_reducible exact Below.refl _ _) | (with_reducible refine grow_alloc ?_ _) | (with_reducible refine grow_mix ?_ _) | (with_reducible refine grow_drew ?_) | (with_reducible refine grow_drewN ?_ _) | (with_reducible refine grow_set ?_ (by first | (simp; done) | (simp; omega) | omega) _)))⟩
  · have h' : 0 ≤ x.op := by omega
    go_enter Tryz.func37, Tryz.ntmps37
    go_wp2_with (first | (go_at_call 68; refine (spans_calls _ _).mono ?_; rintro e w' ⟨rfl, hb⟩; have hz := hb.size; (first | (obtain ⟨x1, rfl⟩ := to_mix2 hb) | (obtain ⟨x1, rfl⟩ := to_mix hb)); clear hb; (try simp only [World.size_alloc, World.size_setCell, World.size_drew] at hz); (try have q0 : w.heap.size < _ := Nat.lt_of_lt_of_le (by omega) hz); (try have q1 : w.heap.size + 1 < _ := Nat.lt_of_lt_of_le (by omega) hz); (try have q2 : w.heap.size + 1 + 1 < _ := Nat.lt_of_lt_of_le (by omega) hz); (try have q3 : w.heap.size + 1 + 1 + 1 < _ := Nat.lt_of_lt_of_le (by omega) hz)))
    go_ret
    exact ⟨rfl, by (repeat (first | (with_reducible assumption) | (with_reducible exact Below.refl _ _) | (with_reducible refine grow_alloc ?_ _) | (with_reducible refine grow_mix ?_ _) | (with_reducible refine grow_drew ?_) | (with_reducible refine grow_drewN ?_ _) | (with_reducible refine grow_set ?_ (by first | (simp; done) | (simp; omega) | omega) _)))⟩
theorem May_calls (x : Ins) (w : World) :
    Calls Tryz.prog 37 #[insV x] w fun e w' => e = .returned (.bool (mayI x)) ∧ Below w.heap.size w w' := by
  by_cases h0 : x.op < 0
  · have e : mayI x = false := by unfold mayI isOp; rw [decide_eq_false (by omega)]; rfl
    rw [e]; exact May_out x (.inl h0) w
  · by_cases h1 : x.op < 17
    · have e : mayI x = (spanHas (spanA x.op) x.a && spanHas (spanB x.op) x.b) := by unfold mayI isOp; rw [decide_eq_true (by omega)]; rfl
      rw [e]; exact May_in x _ _ h0 h1 rfl rfl w
    · have e : mayI x = false := by unfold mayI isOp; rw [decide_eq_false (by omega)]; rfl
      rw [e]; exact May_out x (.inr (by omega)) w
end Go.Proofs.YtedkfipjooafeaaGreatDoor.Op
set_option linter.unusedSimpArgs false
set_option linter.unusedVariables false
namespace Go.Proofs.YtedkfipjooafeaaGreatDoor.Code
open Go Go.RowKit Go.Proofs.YtedkfipjooafeaaGreatDoor Go.Proofs.YtedkfipjooafeaaGreatDoor.Op

/-! ### Digits -/
def dig (n : Nat) : UInt8 := UInt8.ofNat (48 + n % 10)
theorem digits_small (n : Nat) (h : n < 10) : Lib.decDigits n = [dig n] := by rw [Lib.decDigits, dif_pos h]; unfold dig; congr 2; omega
theorem digits_big (n : Nat) (h : ¬ n < 10) : Lib.decDigits n = Lib.decDigits (n / 10) ++ [dig n] := by rw [Lib.decDigits, dif_neg h]; rfl
theorem dig_val (n : Nat) : (dig n).toNat = 48 + n % 10 := by
  unfold dig
  rw [UInt8.toNat_ofNat']
  omega
theorem dec_ne (n : Nat) : ∀ c ∈ Lib.decDigits n, 48 ≤ c.toNat ∧ c.toNat ≤ 57 := by
  induction n using Nat.strongRecOn with
  | _ n ih =>
  by_cases h : n < 10
  · rw [digits_small n h]
    intro c hc
    rw [List.mem_singleton] at hc
    rw [hc, dig_val]; omega
  · rw [digits_big n h]
    intro c hc
    rw [List.mem_append, List.mem_singleton] at hc
    rcases hc with hc | hc
    · exact ih (n / 10) (by omega) c hc
    · rw [hc, dig_val]; omega
theorem dec_nil (n : Nat) : Lib.decDigits n ≠ [] := by
  by_cases h : n < 10
  · rw [digits_small n h]; simp
  · rw [digits_big n h]; simp
def deval (l : List UInt8) : Nat := l.foldl (fun a d => a * 10 + (d.toNat - 48)) 0
theorem deval_dec (n : Nat) : deval (Lib.decDigits n) = n := by
  induction n using Nat.strongRecOn with
  | _ n ih =>
  by_cases h : n < 10
  · rw [digits_small n h]
    show 0 * 10 + ((dig n).toNat - 48) = n
    rw [dig_val]; omega
  · rw [digits_big n h]
    have := ih (n / 10) (by omega)
    unfold deval at this ⊢
    rw [List.foldl_append, this]
    show n / 10 * 10 + ((dig n).toNat - 48) = n
    rw [dig_val]; omega
theorem dec_inj {m n : Nat} (h : Lib.decDigits m = Lib.decDigits n) : m = n := by rw [← deval_dec m, h, deval_dec]
theorem dec_len (n : Nat) (h : n < 1000) : 1 ≤ (Lib.decDigits n).length ∧ (Lib.decDigits n).length ≤ 3 := by
  by_cases h1 : n < 10
  · rw [digits_small n h1]; simp
  · by_cases h2 : n < 100
    · rw [digits_big n h1, digits_small _ (by omega)]; simp
    · rw [digits_big n h1, digits_big _ (by omega), digits_small _ (by omega)]; simp

/-! ### Programs -/
structure Fn where
  ar : Int
  lo : Int
  sl : Int
  code : List Ins
  deriving DecidableEq
abbrev Pg := List Fn
abbrev B := List UInt8
def inB (n lo hi : Int) : Bool := decide (lo ≤ n ∧ n ≤ hi)
def headB (f : Fn) : Bool := inB f.ar 0 16 && (inB f.lo 0 16 && inB f.sl 0 8)
def mayF (f : Fn) : Bool := headB f && (inB f.code.length 1 200 && f.code.all mayI)
def mayP (p : Pg) : Bool := p.all mayF && inB p.length 1 16

/-! ### Texts -/
def lineB (word : B) (l : List Int) : B := word ++ l.flatMap fun n => 32 :: Lib.itoa n
def fieldsB (x : Ins) : List Int := [x.a, x.b].take (opFields x.op).toNat
def funcB : B := [102, 117, 110, 99]
def writtenB (x : Ins) : B := lineB (opName x.op) (fieldsB x)
def headedB (f : Fn) : B := lineB funcB [f.ar, f.lo, f.sl]
def textF (f : Fn) : B := headedB f ++ 10 :: f.code.flatMap fun x => writtenB x ++ [10]
def textP (p : Pg) : B := if mayP p then p.flatMap textF else []

def splitL (c : UInt8) : B → List B
  | [] => [[]]
  | x :: xs => if x = c then [] :: splitL c xs else
    match splitL c xs with
    | h :: t => (x :: h) :: t
    | [] => [[x]]
def joinL (c : UInt8) : List B → B
  | [] => []
  | [x] => x
  | x :: y :: r => x ++ c :: joinL c (y :: r)
theorem splitL_ne (c : UInt8) (s : B) : splitL c s ≠ [] := by
  cases s with
  | nil => simp [splitL]
  | cons x xs =>
    unfold splitL
    split
    · simp
    · split <;> simp
theorem splitL_cut (c : UInt8) (a b : B) (ha : ∀ y ∈ a, y ≠ c) : splitL c (a ++ c :: b) = a :: splitL c b := by
  induction a with
  | nil => simp [splitL]
  | cons y a ih =>
    rw [List.cons_append, splitL, if_neg (ha y (by simp)), ih (fun z hz => ha z (by simp [hz]))]
theorem splitL_one (c : UInt8) (a : B) (ha : ∀ y ∈ a, y ≠ c) : splitL c a = [a] := by
  induction a with
  | nil => simp [splitL]
  | cons y a ih =>
    rw [splitL, if_neg (ha y (by simp)), ih (fun z hz => ha z (by simp [hz]))]
theorem cut_cases (c : UInt8) (s : B) : (∀ y ∈ s, y ≠ c) ∨ ∃ a b, s = a ++ c :: b ∧ ∀ y ∈ a, y ≠ c := by
  induction s with
  | nil => left; simp
  | cons x xs ih =>
    by_cases h : x = c
    · right; exact ⟨[], xs, by simp [h], by simp⟩
    · rcases ih with ih | ⟨a, b, e, ha⟩
      · left
        intro y hy
        rw [List.mem_cons] at hy
        rcases hy with rfl | hy
        · exact h
        · exact ih y hy
      · right
        refine ⟨x :: a, b, by rw [e]; rfl, ?_⟩
        intro y hy
        rw [List.mem_cons] at hy
        rcases hy with rfl | hy
        · exact h
        · exact ha y hy
theorem cons_join (c : UInt8) (a : B) {l : List B} (h : l ≠ []) : joinL c (a :: l) = a ++ c :: joinL c l := by
  cases l with
  | nil => exact absurd rfl h
  | cons y r => rfl
theorem join_split (c : UInt8) (s : B) : joinL c (splitL c s) = s := by
  induction hn : s.length using Nat.strongRecOn generalizing s with
  | _ n ih =>
  rcases cut_cases c s with h | ⟨a, b, rfl, ha⟩
  · rw [splitL_one c s h]; rfl
  · rw [splitL_cut c a b ha, cons_join c a (splitL_ne c b), ih b.length (by rw [← hn]; simp; omega) b rfl]
theorem split_join (c : UInt8) (l : List B) (h : l ≠ []) (hc : ∀ a ∈ l, ∀ y ∈ a, y ≠ c) : splitL c (joinL c l) = l := by
  induction l with
  | nil => exact absurd rfl h
  | cons a l ih =>
    cases l with
    | nil => exact splitL_one c a (hc a (by simp))
    | cons b r =>
      rw [cons_join c a (by simp), splitL_cut c a _ (hc a (by simp)), ih (by simp) (fun x hx => hc x (by simp [hx]))]

/-! ### A line read -/
def wordOf (s : B) : B := (splitL 32 s).headD []
def addI : Pg → Ins → Pg
  | [], _ => []
  | [f], x => [{ f with code := f.code ++ [x] }]
  | f :: g :: r, x => f :: addI (g :: r) x
def lastN (p : Pg) : Nat := (p.getLast?.map fun f => f.code.length).getD 0
inductive Step (p : Pg) (s : B) : Pg → Prop
  | head (f : Fn) (h : headB f = true) (h0 : f.code = []) (hs : headedB f = s) (hl : p.length < 16) (hp : p = [] ∨ lastN p ≠ 0) : Step p s (p ++ [f])
  | ins (x : Ins) (h : mayI x = true) (hs : writtenB x = s) (hp : p ≠ []) (hl : lastN p ≠ 200) : Step p s (addI p x)

theorem itoa_nat {n : Int} (h : 0 ≤ n) : Lib.itoa n = Lib.decDigits n.toNat := by unfold Lib.itoa; rw [if_neg (by omega)]
theorem itoa_clean (n : Int) (c : UInt8) (h : c.toNat < 45) : ∀ y ∈ Lib.itoa n, y ≠ c := by
  intro y hy e
  subst e
  unfold Lib.itoa at hy
  split at hy
  · rw [List.mem_cons] at hy
    rcases hy with hy | hy
    · rw [hy] at h; exact absurd h (by decide)
    · have := dec_ne _ _ hy; omega
  · have := dec_ne _ _ hy; omega
theorem itoa_inj {m n : Int} (h : Lib.itoa m = Lib.itoa n) : m = n := by
  have key : ∀ (a b : Nat), (45 : UInt8) :: Lib.decDigits a ≠ Lib.decDigits b := fun a b e => by
    have := dec_ne b 45 (by rw [← e]; simp)
    exact absurd this.1 (by decide)
  unfold Lib.itoa at h
  by_cases h1 : m < 0 <;> by_cases h2 : n < 0
  · rw [if_pos h1, if_pos h2] at h
    injection h with _ h
    have := dec_inj h; omega
  · rw [if_pos h1, if_neg h2] at h
    exact absurd h (key _ _)
  · rw [if_neg h1, if_pos h2] at h
    exact absurd h.symm (key _ _)
  · rw [if_neg h1, if_neg h2] at h
    have := dec_inj h; omega
theorem line_join (w : B) (l : List Int) : lineB w l = joinL 32 (w :: l.map Lib.itoa) := by
  induction l generalizing w with
  | nil => simp [lineB, joinL]
  | cons n l ih =>
    have := ih (Lib.itoa n)
    unfold lineB at this ⊢
    rw [List.map_cons, cons_join 32 w (by simp), ← this]
    simp
theorem line_split (w : B) (l : List Int) (hw : ∀ y ∈ w, y ≠ 32) : splitL 32 (lineB w l) = w :: l.map Lib.itoa := by
  rw [line_join]
  refine split_join 32 _ (by simp) ?_
  intro a ha
  rw [List.mem_cons] at ha
  rcases ha with rfl | ha
  · exact hw
  · rw [List.mem_map] at ha
    obtain ⟨n, _, rfl⟩ := ha
    exact itoa_clean n 32 (by decide)
theorem map_itoa_inj {l k : List Int} (h : l.map Lib.itoa = k.map Lib.itoa) : l = k := by
  induction l generalizing k with
  | nil => cases k with
    | nil => rfl
    | cons y k => cases h
  | cons x l ih => cases k with
    | nil => cases h
    | cons y k =>
      rw [List.map_cons, List.map_cons] at h
      injection h with h1 h2
      rw [itoa_inj h1, ih h2]
theorem line_inj {w v : B} {l k : List Int} (hw : ∀ y ∈ w, y ≠ 32) (hv : ∀ y ∈ v, y ≠ 32) (h : lineB w l = lineB v k) : w = v ∧ l = k := by
  have := line_split w l hw
  rw [h, line_split v k hv] at this
  injection this with h1 h2
  exact ⟨h1.symm, (map_itoa_inj h2).symm⟩
theorem name_clean (n : Int) : ∀ y ∈ opName n, y ≠ 32 ∧ y ≠ 10 := by
  unfold opName
  split
  · have h : ∀ l ∈ names, ∀ y ∈ l, y ≠ 32 ∧ y ≠ 10 := by decide
    intro y hy
    by_cases hn : n.toNat < names.length
    · rw [List.getD_eq_getElem?_getD, List.getElem?_eq_getElem hn, Option.getD_some] at hy
      exact h _ (List.getElem_mem hn) y hy
    · rw [List.getD_eq_getElem?_getD, List.getElem?_eq_none (by omega)] at hy
      cases hy
  · intro y hy; cases hy
theorem func_clean : ∀ y ∈ funcB, y ≠ 32 ∧ y ≠ 10 := by decide
theorem func_none : ∀ n, opName n ≠ funcB := by
  intro n
  unfold opName
  split
  · have h : ∀ l ∈ names, l ≠ funcB := by decide
    by_cases hn : n.toNat < names.length
    · rw [List.getD_eq_getElem?_getD, List.getElem?_eq_getElem hn, Option.getD_some]
      exact h _ (List.getElem_mem hn)
    · rw [List.getD_eq_getElem?_getD, List.getElem?_eq_none (by omega)]
      decide
  · decide
theorem name_inj {m n : Int} (hm : isOp m = true) (h : opName m = opName n) : m = n := by
  have hm' : 0 ≤ m ∧ m < 17 := by unfold isOp at hm; simpa using hm
  by_cases hn : isOp n = true
  · have hn' : 0 ≤ n ∧ n < 17 := by unfold isOp at hn; simpa using hn
    unfold opName at h
    rw [if_pos hm, if_pos hn] at h
    have key : ∀ a : Fin 17, ∀ b : Fin 17, names.getD a.1 [] = names.getD b.1 [] → a = b := by decide
    have := key ⟨m.toNat, by omega⟩ ⟨n.toNat, by omega⟩ h
    have := congrArg Fin.val this
    simp at this
    omega
  · have e : opName n = [] := by unfold opName; rw [if_neg hn]
    have key : ∀ a : Fin 17, names.getD a.1 [] ≠ [] := by decide
    rw [e] at h
    unfold opName at h
    rw [if_pos hm] at h
    exact absurd h (key ⟨m.toNat, by omega⟩)
theorem fields_len (n : Int) : opFields n = 0 ∨ opFields n = 1 ∨ opFields n = 2 := by
  unfold opFields
  split
  · by_cases hn : n.toNat < fieldsL.length
    · have h : ∀ x ∈ fieldsL, x = 0 ∨ x = 1 ∨ x = 2 := by decide
      rw [List.getD_eq_getElem?_getD, List.getElem?_eq_getElem hn, Option.getD_some]
      exact h _ (List.getElem_mem hn)
    · rw [List.getD_eq_getElem?_getD, List.getElem?_eq_none (by omega)]
      left; rfl
  · left; rfl
end Go.Proofs.YtedkfipjooafeaaGreatDoor.Code
set_option linter.unusedSimpArgs false
set_option linter.unusedVariables false
namespace Go.Proofs.YtedkfipjooafeaaGreatDoor.Code
open Go Go.RowKit Go.Proofs.YtedkfipjooafeaaGreatDoor Go.Proofs.YtedkfipjooafeaaGreatDoor.Op

def Reads (w : World) (B size : Nat) (v : Value) (n : Nat) (xs : List Value) : Prop :=
  xs.length = n * size ∧ ∃ A c, v = .slice A n c ∧ (0 < n → ∃ a : Addr, A = some a ∧ a.block < B ∧ ∀ (j : Nat) u, xs[j]? = some u → w.cell? (a.add j) = some u)
theorem add_block (a : Addr) (n : Nat) : (a.add n).block = a.block := by unfold Addr.add; split <;> rfl
theorem add_add (a : Addr) (i j : Nat) : (a.add i).add j = a.add (i + j) := by
  unfold Addr.add
  by_cases hi : i = 0 <;> by_cases hj : j = 0 <;> simp [hi, hj, Nat.add_assoc]
section
variable {w w' : World} {B B' size n : Nat} {v : Value} {xs : List Value}
theorem Reads.keep (h : Reads w B size v n xs) (hk : ∀ p : Addr, p.block < B → w'.cell? p = w.cell? p) : Reads w' B size v n xs := by
  obtain ⟨hl, A, c, hv, hc⟩ := h
  refine ⟨hl, A, c, hv, fun hn => ?_⟩
  obtain ⟨a, e, hb, hu⟩ := hc hn
  exact ⟨a, e, hb, fun j u hj => (hk _ (by rw [add_block]; exact hb)).trans (hu j u hj)⟩
theorem Reads.below (h : Reads w B size v n xs) (hb : Below B w w') : Reads w' B size v n xs := h.keep fun _ hp => hb.cell hp
theorem Reads.more (h : Reads w B size v n xs) (hB : B ≤ B') : Reads w B' size v n xs := by
  obtain ⟨hl, A, c, hv, hc⟩ := h
  refine ⟨hl, A, c, hv, fun hn => ?_⟩
  obtain ⟨a, e, hb, hu⟩ := hc hn
  exact ⟨a, e, by omega, hu⟩
theorem Reads.nil (w : World) (B size : Nat) : Reads w B size (.slice none 0 0) 0 [] := ⟨by simp, none, 0, rfl, fun h => absurd h (by omega)⟩
end

def insL (x : Ins) : List Value := [.int .i64 x.op, .int .i64 x.a, .int .i64 x.b]
def fnL (f : Fn) (v : Value) : List Value := [.int .i64 f.ar, .int .i64 f.lo, .int .i64 f.sl, v]
def CodeAt (w : World) (B : Nat) (v : Value) (l : List Ins) : Prop := Reads w B 3 v l.length (l.flatMap insL)
def ProgAt (w : World) (B : Nat) (v : Value) (p : Pg) : Prop :=
  ∃ vs : List Value, vs.length = p.length ∧ Reads w B 4 v p.length ((p.zip vs).flatMap fun x => fnL x.1 x.2) ∧ ∀ (i : Nat) f u, p[i]? = some f → vs[i]? = some u → CodeAt w B u f.code
theorem CodeAt.below {w w' : World} {B : Nat} {v : Value} {l : List Ins} (h : CodeAt w B v l) (hb : Below B w w') : CodeAt w' B v l := Reads.below h hb
theorem CodeAt.more {w : World} {B B' : Nat} {v : Value} {l : List Ins} (h : CodeAt w B v l) (hB : B ≤ B') : CodeAt w B' v l := Reads.more h hB
theorem ProgAt.below {w w' : World} {B : Nat} {v : Value} {p : Pg} (h : ProgAt w B v p) (hb : Below B w w') : ProgAt w' B v p := by
  obtain ⟨vs, h1, h2, h3⟩ := h
  exact ⟨vs, h1, h2.below hb, fun i f u hi hu => (h3 i f u hi hu).below hb⟩
theorem ProgAt.more {w : World} {B B' : Nat} {v : Value} {p : Pg} (h : ProgAt w B v p) (hB : B ≤ B') : ProgAt w B' v p := by
  obtain ⟨vs, h1, h2, h3⟩ := h
  exact ⟨vs, h1, h2.more hB, fun i f u hi hu => (h3 i f u hi hu).more hB⟩
theorem flat_get {α : Type} (f : α → List Value) (s : Nat) (hf : ∀ x, (f x).length = s) : ∀ (l : List α) (k j : Nat) (x : α), l[k]? = some x → j < s → (l.flatMap f)[k * s + j]? = (f x)[j]?
  | [], k, j, x, h, _ => by simp at h
  | y :: l, 0, j, x, h, hj => by
    simp only [List.getElem?_cons_zero, Option.some.injEq] at h
    subst h
    rw [List.flatMap_cons, Nat.zero_mul, Nat.zero_add, List.getElem?_append_left (by rw [hf]; exact hj)]
  | y :: l, k + 1, j, x, h, hj => by
    rw [List.getElem?_cons_succ] at h
    rw [List.flatMap_cons, List.getElem?_append_right (by rw [hf, Nat.succ_mul]; omega), hf]
    have := flat_get f s hf l k j x h hj
    rw [← this]
    congr 1
    rw [Nat.succ_mul]; omega
theorem flat_len {α : Type} (f : α → List Value) (s : Nat) (hf : ∀ x, (f x).length = s) (l : List α) : (l.flatMap f).length = l.length * s := by
  induction l with
  | nil => simp
  | cons y l ih => rw [List.flatMap_cons, List.length_append, ih, hf, List.length_cons, Nat.succ_mul]; omega
theorem add_off (a : Addr) (i j : Nat) (hj : j ≠ 0) : (⟨(a.add i).block, (a.add i).off + j, none⟩ : Addr) = a.add (i + j) := by
  rw [← add_add]
  unfold Addr.add
  simp [hj]
theorem CodeAt.at_ {w : World} {B : Nat} {v : Value} {l : List Ins} (h : CodeAt w B v l) {k : Nat} (hk : k < l.length) :
    ∃ (a : Addr) (c : Nat), v = .slice (some a) l.length c ∧ a.block < B ∧ w.cell? (a.add (k * 3)) = some (.int .i64 l[k].op) ∧ w.cell? ⟨(a.add (k * 3)).block, (a.add (k * 3)).off + 1, none⟩ = some (.int .i64 l[k].a) ∧ w.cell? ⟨(a.add (k * 3)).block, (a.add (k * 3)).off + 2, none⟩ = some (.int .i64 l[k].b) := by
  obtain ⟨hl, A, c, rfl, hc⟩ := h
  obtain ⟨a, rfl, hb, hu⟩ := hc (by omega)
  have hx : l[k]? = some l[k] := List.getElem?_eq_getElem hk
  refine ⟨a, c, rfl, hb, hu (k * 3) _ ?_, (add_off a (k * 3) 1 (by decide)) ▸ hu (k * 3 + 1) _ ?_, (add_off a (k * 3) 2 (by decide)) ▸ hu (k * 3 + 2) _ ?_⟩
  · exact flat_get insL 3 (fun _ => rfl) l k 0 _ hx (by omega)
  · exact flat_get insL 3 (fun _ => rfl) l k 1 _ hx (by omega)
  · exact flat_get insL 3 (fun _ => rfl) l k 2 _ hx (by omega)
theorem CodeAt.form {w : World} {B : Nat} {v : Value} {l : List Ins} (h : CodeAt w B v l) : ∃ A c, v = .slice A l.length c := by
  obtain ⟨_, A, c, e, _⟩ := h; exact ⟨A, c, e⟩
theorem ProgAt.form {w : World} {B : Nat} {v : Value} {p : Pg} (h : ProgAt w B v p) : ∃ A c, v = .slice A p.length c := by
  obtain ⟨_, _, ⟨_, A, c, e, _⟩, _⟩ := h; exact ⟨A, c, e⟩
theorem ProgAt.at_ {w : World} {B : Nat} {v : Value} {p : Pg} (h : ProgAt w B v p) {k : Nat} (hk : k < p.length) :
    ∃ (a : Addr) (c : Nat) (u : Value), v = .slice (some a) p.length c ∧ a.block < B ∧ w.cell? (a.add (k * 4)) = some (.int .i64 p[k].ar) ∧ w.cell? ⟨(a.add (k * 4)).block, (a.add (k * 4)).off + 1, none⟩ = some (.int .i64 p[k].lo) ∧
      w.cell? ⟨(a.add (k * 4)).block, (a.add (k * 4)).off + 2, none⟩ = some (.int .i64 p[k].sl) ∧ w.cell? ⟨(a.add (k * 4)).block, (a.add (k * 4)).off + 3, none⟩ = some u ∧ CodeAt w B u p[k].code := by
  obtain ⟨vs, hv, ⟨hl, A, c, rfl, hc⟩, hcode⟩ := h
  obtain ⟨a, rfl, hb, hu⟩ := hc (by omega)
  have hkv : k < vs.length := by omega
  have hx : (p.zip vs)[k]? = some (p[k], vs[k]) := by
    rw [List.getElem?_eq_getElem (by simp; omega), List.getElem_zip]
  have hp : p[k]? = some p[k] := List.getElem?_eq_getElem hk
  refine ⟨a, c, vs[k], rfl, hb, hu (k * 4) _ ?_, (add_off a (k * 4) 1 (by decide)) ▸ hu (k * 4 + 1) _ ?_, (add_off a (k * 4) 2 (by decide)) ▸ hu (k * 4 + 2) _ ?_, (add_off a (k * 4) 3 (by decide)) ▸ hu (k * 4 + 3) _ ?_, hcode k _ _ hp (List.getElem?_eq_getElem hkv)⟩
  · exact flat_get (fun x => fnL x.1 x.2) 4 (fun _ => rfl) (p.zip vs) k 0 _ hx (by omega)
  · exact flat_get (fun x => fnL x.1 x.2) 4 (fun _ => rfl) (p.zip vs) k 1 _ hx (by omega)
  · exact flat_get (fun x => fnL x.1 x.2) 4 (fun _ => rfl) (p.zip vs) k 2 _ hx (by omega)
  · exact flat_get (fun x => fnL x.1 x.2) 4 (fun _ => rfl) (p.zip vs) k 3 _ hx (by omega)
theorem ProgAt.at2 {w w' : World} {B : Nat} {v : Value} {p : Pg} (h : ProgAt w B v p) (hw : Below B w w') {k : Nat} (hk : k < p.length) :
    ∃ (a : Addr) (c : Nat) (u : Value), v = .slice (some a) p.length c ∧ a.block < B ∧ w'.cell? (a.add (k * 4)) = some (.int .i64 p[k].ar) ∧ w'.cell? ⟨(a.add (k * 4)).block, (a.add (k * 4)).off + 1, none⟩ = some (.int .i64 p[k].lo) ∧
      w'.cell? ⟨(a.add (k * 4)).block, (a.add (k * 4)).off + 2, none⟩ = some (.int .i64 p[k].sl) ∧ w'.cell? ⟨(a.add (k * 4)).block, (a.add (k * 4)).off + 3, none⟩ = some u ∧ CodeAt w B u p[k].code := by
  obtain ⟨a, c, u, e, hb, c0, c1, c2, c3, hc⟩ := h.at_ hk
  refine ⟨a, c, u, e, hb, (hw.cell ?_).trans c0, (hw.cell ?_).trans c1, (hw.cell ?_).trans c2, (hw.cell ?_).trans c3, hc⟩ <;> simp only [add_block] <;> exact hb
theorem CodeAt.at2 {w w' : World} {B : Nat} {v : Value} {l : List Ins} (h : CodeAt w B v l) (hw : Below B w w') {k : Nat} (hk : k < l.length) :
    ∃ (a : Addr) (c : Nat), v = .slice (some a) l.length c ∧ a.block < B ∧ w'.cell? (a.add (k * 3)) = some (.int .i64 l[k].op) ∧ w'.cell? ⟨(a.add (k * 3)).block, (a.add (k * 3)).off + 1, none⟩ = some (.int .i64 l[k].a) ∧ w'.cell? ⟨(a.add (k * 3)).block, (a.add (k * 3)).off + 2, none⟩ = some (.int .i64 l[k].b) := (h.below hw).at_ hk
theorem CodeAt.stays {w : World} {v : Value} {l : List Ins} (h : CodeAt w w.heap.size v l) : ∀ W, Below w.heap.size w W → CodeAt W W.heap.size v l := fun W hW => (h.below hW).more hW.size
theorem ProgAt.stays {w : World} {v : Value} {p : Pg} (h : ProgAt w w.heap.size v p) : ∀ W, Below w.heap.size w W → ProgAt W W.heap.size v p := fun W hW => (h.below hW).more hW.size
end Go.Proofs.YtedkfipjooafeaaGreatDoor.Code
set_option linter.unusedSimpArgs false
set_option linter.unusedVariables false
namespace Go.Proofs.YtedkfipjooafeaaGreatDoor
open Go Go.RowKit Go.ChangeShapes Go.WideShapes Go.Proofs.YtedkfipjooafeaaGreatDoor.Code

structure Cod (α : Type) where
  n : Nat
  rep : World → Nat → α → List Value → Prop
  len : ∀ {w B a cs}, rep w B a cs → cs.length = n
  keep : ∀ {w w' B a cs}, (∀ p : Addr, p.block < B → w'.cell? p = w.cell? p) → rep w B a cs → rep w' B a cs
  more : ∀ {w B B' a cs}, B ≤ B' → rep w B a cs → rep w B' a cs
theorem Cod.below {α : Type} (c : Cod α) {w w' : World} {B : Nat} {a : α} {cs : List Value} (h : c.rep w B a cs) (hb : Below B w w') : c.rep w' B a cs := c.keep (fun _ hp => hb.cell hp) h
def codUnit : Cod Unit := ⟨0, fun _ _ _ cs => cs = [], fun h => by rw [h]; rfl, fun _ h => h, fun _ h => h⟩
def codInt : Cod Int := ⟨1, fun _ _ a cs => cs = [.int .i64 a], fun h => by rw [h]; rfl, fun _ h => h, fun _ h => h⟩
def codPair {α β : Type} (c : Cod α) (d : Cod β) : Cod (α × β) where
  n := c.n + d.n
  rep w B x cs := ∃ xs ys, cs = xs ++ ys ∧ c.rep w B x.1 xs ∧ d.rep w B x.2 ys
  len := by rintro w B a cs ⟨xs, ys, rfl, h1, h2⟩; rw [List.length_append, c.len h1, d.len h2]
  keep := by rintro w w' B a cs hk ⟨xs, ys, rfl, h1, h2⟩; exact ⟨xs, ys, rfl, c.keep hk h1, d.keep hk h2⟩
  more := by rintro w B B' a cs hk ⟨xs, ys, rfl, h1, h2⟩; exact ⟨xs, ys, rfl, c.more hk h1, d.more hk h2⟩
def codIso {α β : Type} (c : Cod α) (g : β → α) : Cod β := ⟨c.n, fun w B b cs => c.rep w B (g b) cs, c.len, c.keep, c.more⟩
def codSlice {α : Type} (c : Cod α) : Cod (List α) where
  n := 1
  rep w B l cs := ∃ (v : Value) (css : List (List Value)), cs = [v] ∧ css.length = l.length ∧ Reads w B c.n v l.length css.flatten ∧ ∀ (i : Nat) a xs, l[i]? = some a → css[i]? = some xs → c.rep w B a xs
  len := by rintro w B a cs ⟨v, css, rfl, _⟩; rfl
  keep := by rintro w w' B a cs hk ⟨v, css, rfl, h1, h2, h3⟩; exact ⟨v, css, rfl, h1, h2.keep hk, fun i a xs hi hx => c.keep hk (h3 i a xs hi hx)⟩
  more := by rintro w B B' a cs hk ⟨v, css, rfl, h1, h2, h3⟩; exact ⟨v, css, rfl, h1, h2.more hk, fun i a xs hi hx => c.more hk (h3 i a xs hi hx)⟩

structure Opn (P : Program) (t : TypeId) {α : Type} (c : Cod α) (ok : α → Prop) : Prop where
  op : ∀ {H : Type} {enc : TypeId × Value → H} {w : World} {base : Nat} {spare : Nat → Bool} {held : Bool} {fuel : Nat} {cs : List Value} {x : DataW H × List MemPlace},
    DataW.trod enc P w base spare held fuel t cs = some x → (∀ p ∈ x.2, p.block < w.heap.size) → (∀ k ∈ x.1.weights P t, k ≤ reachBytes) → ∃ a, c.rep w w.heap.size a cs ∧ ok a
def InI (n : Int) : Prop := -9223372036854775808 ≤ n ∧ n ≤ 9223372036854775807
theorem opn_int {P : Program} {t : TypeId} (ht : P.underlying t = some (.int .i64)) : Opn P t codInt InI := ⟨by
  intro H enc w base spare held fuel cs x h _ _
  obtain ⟨n, rfl, _, hw⟩ := DataW.trod_int ht h
  refine ⟨n, rfl, ?_⟩
  have := Go.bounds_i64 hw
  unfold InI
  omega⟩
structure OpnFs (P : Program) (fs : List Field) (off : Nat) {α : Type} (c : Cod α) (ok : α → Prop) : Prop where
  op : ∀ {H : Type} {enc : TypeId × Value → H} {w : World} {base : Nat} {spare : Nat → Bool} {held : Bool} {fuel : Nat} {cs : List Value} {xs : List (DataW H × List MemPlace)}, xs.length = fs.length → cs.length = off + c.n →
    (∀ (i : Nat) (f : Field), fs[i]? = some f → DataW.trod enc P w base spare held fuel f.type ((cs.drop f.offset).take (P.cellsOf f.type)) = xs[i]?) →
    (∀ x ∈ xs, ∀ p ∈ x.2, p.block < w.heap.size) → (∀ k ∈ DataW.weightsEach P (fs.map (·.type)) (xs.map (·.1)), k ≤ reachBytes) → ∃ a, c.rep w w.heap.size a (cs.drop off) ∧ ok a
theorem opn_nil {P : Program} {off : Nat} : OpnFs P [] off codUnit (fun _ => True) := ⟨by
  intro H enc w base spare held fuel cs xs _ hl _ _ _
  refine ⟨(), ?_, trivial⟩
  show cs.drop off = []
  exact List.drop_eq_nil_of_le (by rw [hl]; exact Nat.le_refl _)⟩
theorem opn_cons {P : Program} {f : Field} {fs : List Field} {off : Nat} {α β : Type} {c : Cod α} {d : Cod β} {ok : α → Prop} {ok' : β → Prop} (ho : f.offset = off) (hc : P.cellsOf f.type = c.n)
    (h1 : Opn P f.type c ok) (h2 : OpnFs P fs (off + c.n) d ok') : OpnFs P (f :: fs) off (codPair c d) (fun x => ok x.1 ∧ ok' x.2) := ⟨by
  intro H enc w base spare held fuel cs xs hx hl hf hp hw
  match xs, hx with
  | x :: xs, hx =>
    have h0 := hf 0 f rfl
    rw [ho, hc] at h0
    simp only [List.getElem?_cons_zero] at h0
    rw [List.map_cons, List.map_cons, DataW.weightsEach] at hw
    obtain ⟨a, ha, hoa⟩ := h1.op h0 (hp x (by simp)) (fun k hk => hw k (List.mem_append_left _ hk))
    have hl' : cs.length = off + c.n + d.n := by rw [hl]; show off + (c.n + d.n) = _; omega
    obtain ⟨b, hb, hob⟩ := h2.op (by simpa using hx) hl' (fun i g hg => by
      have := hf (i + 1) g (by simpa using hg)
      simpa using this) (fun y hy => hp y (by simp [hy])) (fun k hk => hw k (List.mem_append_right _ hk))
    refine ⟨(a, b), ⟨_, _, ?_, ha, hb⟩, hoa, hob⟩
    rw [← List.drop_drop, List.take_append_drop]⟩
theorem opn_struct {P : Program} {t : TypeId} {fs : Array Field} {α : Type} {c : Cod α} {ok : α → Prop} (ht : P.underlying t = some (.struct fs)) (hc : P.cellsOf t = c.n) (h : OpnFs P fs.toList 0 c ok) : Opn P t c ok := ⟨by
  intro H enc w base spare held fuel cs x hx hp hw
  obtain ⟨xs, n, _, rfl, hl, hxl, hf⟩ := DataW.trod_struct ht hx
  rw [DataW.weights, ht] at hw
  obtain ⟨a, ha, ho⟩ := h.op (by rw [hxl, Array.length_toList]) (by rw [hl, hc, Nat.zero_add]) (fun i f hi => hf i f (by simpa using hi)) (fun y hy p hp' => hp p (List.mem_flatMap.2 ⟨y, hy, hp'⟩)) hw
  exact ⟨a, by simpa using ha, ho⟩⟩
theorem opn_iso {P : Program} {t : TypeId} {α β : Type} {c : Cod α} {ok : α → Prop} {g : β → α} (f : α → β) (hg : ∀ a, g (f a) = a) (h : Opn P t c ok) : Opn P t (codIso c g) (fun b => ok (g b)) := ⟨by
  intro H enc w base spare held fuel cs x hx hp hw
  obtain ⟨a, ha, ho⟩ := h.op hx hp hw
  exact ⟨f a, by show c.rep w w.heap.size (g (f a)) cs; rw [hg]; exact ha, by rw [hg]; exact ho⟩⟩
theorem opn_weaken {P : Program} {t : TypeId} {α : Type} {c : Cod α} {ok ok' : α → Prop} (h : Opn P t c ok) (hk : ∀ a, ok a → ok' a) : Opn P t c ok' := ⟨by
  intro H enc w base spare held fuel cs x hx hp hw
  obtain ⟨a, ha, ho⟩ := h.op hx hp hw
  exact ⟨a, ha, hk a ho⟩⟩
theorem weightsAll_mem {H : Type} {P : Program} {e : TypeId} : ∀ {l : List (DataW H)} {d : DataW H}, d ∈ l → ∀ k ∈ d.weights P e, k ∈ DataW.weightsAll P e l
  | y :: l, d, hd, k, hk => by
    rw [DataW.weightsAll]
    rcases List.mem_cons.1 hd with rfl | hd
    · exact List.mem_append_left _ hk
    · exact List.mem_append_right _ (weightsAll_mem hd k hk)
theorem flatten_get {α : Type} {css : List (List α)} {n : Nat} (hn : ∀ cs ∈ css, cs.length = n) : ∀ {j : Nat} {u : α}, css.flatten[j]? = some u → ∃ (i k : Nat) (cs : List α), css[i]? = some cs ∧ k < n ∧ j = i * n + k ∧ cs[k]? = some u := by
  induction css with
  | nil => intro j u h; simp at h
  | cons c css ih =>
    intro j u h
    have hc := hn c (by simp)
    by_cases hj : j < n
    · rw [List.flatten_cons, List.getElem?_append_left (by omega)] at h
      exact ⟨0, j, c, rfl, hj, by omega, h⟩
    · rw [List.flatten_cons, List.getElem?_append_right (by omega), hc] at h
      obtain ⟨i, k, cs, h1, h2, h3, h4⟩ := ih (fun cs hcs => hn cs (by simp [hcs])) h
      exact ⟨i + 1, k, cs, by simpa using h1, h2, by rw [Nat.succ_mul]; omega, h4⟩
theorem flatten_len {α : Type} {css : List (List α)} {n : Nat} (hn : ∀ cs ∈ css, cs.length = n) : css.flatten.length = css.length * n := by
  induction css with
  | nil => simp
  | cons c css ih => rw [List.flatten_cons, List.length_append, ih (fun cs hcs => hn cs (by simp [hcs])), hn c (by simp), List.length_cons, Nat.succ_mul]; omega
theorem choose_list {α : Type} {n : Nat} {p : Nat → α → Prop} (h : ∀ i, i < n → ∃ x, p i x) : ∃ l : List α, l.length = n ∧ ∀ i a, l[i]? = some a → p i a := by
  induction n with
  | zero => exact ⟨[], rfl, fun i a hi => by simp at hi⟩
  | succ n ih =>
    obtain ⟨l, hl, hp⟩ := ih (fun i hi => h i (by omega))
    obtain ⟨x, hx⟩ := h n (by omega)
    refine ⟨l ++ [x], by simp [hl], fun i a hi => ?_⟩
    by_cases hlt : i < l.length
    · rw [List.getElem?_append_left hlt] at hi; exact hp i a hi
    · rw [List.getElem?_append_right (by omega)] at hi
      have : i - l.length = 0 := by
        have := (List.getElem?_eq_some_iff.1 hi).1
        simp at this; omega
      rw [this] at hi
      simp only [List.getElem?_cons_zero, Option.some.injEq] at hi
      subst hi
      rw [show i = n by omega]; exact hx
theorem opn_slice {P : Program} {t e : TypeId} {α : Type} {c : Cod α} {ok : α → Prop} (b : Nat) (ht : P.underlying t = some (.slice e)) (hc : P.cellsOf e = c.n) (h0 : 0 < c.n) (hb : P.bytesOf e = b) (he : Opn P e c ok) :
    Opn P t (codSlice c) (fun l => l.length * b ≤ reachBytes ∧ ∀ a ∈ l, ok a) := ⟨by
  intro H enc w base spare held fuel cs x hx hp hw
  rcases DataW.trod_slice ht hx with ⟨rfl, rfl⟩ | ⟨a, len, cap, elems, rest, n, _, rfl, rfl, hb', hl, hm, hlen, hel, hsp, hns⟩
  · exact ⟨[], ⟨_, [], rfl, rfl, Reads.nil _ _ _, fun i a xs hi => by simp at hi⟩, by simp, fun a ha => by cases ha⟩
  · rw [DataW.weights, ht] at hw
    rw [hc] at hel hp
    have key : ∀ i, i < len → ∃ y : α × List Value, c.rep w w.heap.size y.1 y.2 ∧ ok y.1 ∧ ∀ j, j < c.n → w.cell? ((a.add (i * c.n)).add j) = y.2[j]? := by
      intro i hi
      have hi' : i < elems.length := by omega
      have h1 := hel i hi
      rw [List.getElem?_eq_getElem hi'] at h1
      rw [Option.bind_eq_some_iff] at h1
      obtain ⟨cs', hcs, htr⟩ := h1
      obtain ⟨y, hy, hoy⟩ := he.op htr (fun p hp' => hp p (List.mem_append_right _ (List.mem_flatMap.2 ⟨elems[i], by simp, hp'⟩))) (fun k hk => hw k (List.mem_cons_of_mem _ (List.mem_append_left _ (weightsAll_mem (List.mem_map.2 ⟨elems[i], by simp, rfl⟩) k hk))))
      obtain ⟨_, _, hat⟩ := World.cells?_some hcs
      exact ⟨(y, cs'), hy, hoy, fun j hj => hat j hj⟩
    obtain ⟨l, hll, hlp⟩ := choose_list key
    have hln : ∀ cs ∈ l.map (·.2), cs.length = c.n := by
      intro cs hcs
      obtain ⟨y, hy, rfl⟩ := List.mem_map.1 hcs
      obtain ⟨i, hi⟩ := List.getElem?_of_mem hy
      exact c.len (hlp i y hi).1
    refine ⟨l.map (·.1), ⟨_, l.map (·.2), rfl, by simp, ⟨?_, some a, cap, by simp [hll], fun hpos => ⟨a, rfl, ?_, fun j u hj => ?_⟩⟩, ?_⟩, ?_, ?_⟩
    · rw [flatten_len hln]; simp
    · have hin : MemPlace.cell a.block (a.off + 0) ∈ MemPlace.row a ((elems.length + rest.length) * c.n) := by
        unfold MemPlace.row
        refine List.mem_map.2 ⟨0, List.mem_range.2 ?_, rfl⟩
        have : 0 < elems.length := by simp at hpos; omega
        exact Nat.mul_pos (by omega) h0
      have := hp _ (List.mem_append_left _ hin)
      exact this
    · obtain ⟨i, k, cs, h1, h2, h3, h4⟩ := flatten_get hln hj
      rw [List.getElem?_map] at h1
      cases hli : l[i]? with
      | none => rw [hli] at h1; cases h1
      | some y =>
        rw [hli] at h1
        simp only [Option.map_some, Option.some.injEq] at h1
        subst h1
        have := (hlp i y hli).2.2 k h2
        rw [Code.add_add] at this
        rw [h3, this, h4]
    · intro i y ys hi hys
      rw [List.getElem?_map] at hi hys
      cases hli : l[i]? with
      | none => rw [hli] at hi; cases hi
      | some z =>
        rw [hli] at hi hys
        simp only [Option.map_some, Option.some.injEq] at hi hys
        subst hi hys
        exact (hlp i z hli).1
    · have := hw _ (List.mem_cons_self ..)
      rw [hb] at this
      rw [List.length_map, hll]
      simp only [List.length_map] at this
      exact Nat.le_trans (Nat.mul_le_mul_right _ (by omega)) this
    · intro y hy
      obtain ⟨z, hz, rfl⟩ := List.mem_map.1 hy
      obtain ⟨i, hi⟩ := List.getElem?_of_mem hz
      exact (hlp i z hi).2.1⟩
end Go.Proofs.YtedkfipjooafeaaGreatDoor
namespace Go.Proofs.YtedkfipjooafeaaGreatDoor.Laws
open Go Go.ChangeShapes Go.WideShapes Go.ChangeAt Go.RowKit Go.Joins Go.Proofs.YtedkfipjooafeaaGreatDoor

section
variable {H : Type} {enc : TypeId × Value → H} {P : Program}
theorem trodAll_stays (hl : laidOutB P = true) {W W' : World} {sp : Nat → Bool} (hb : Below W.heap.size W W') : ∀ {ts : List TypeId} {vs : List Value} {ds : List (DataW H)} {ps : List MemPlace},
    (∀ t ∈ ts, P.readableRec t = true ∧ t < P.types.size) → DataW.TrodAll enc P W 0 (fun _ => true) true ts vs ds ps → (∀ p ∈ ps, p.block < W.heap.size) → (∀ p ∈ ps, sp p.block = true) → DataW.TrodAll enc P W' 0 sp true ts vs ds ps
  | [], vs, ds, ps, _, h, _, _ => by
    cases vs with
    | nil =>
      obtain ⟨_, rfl, rfl⟩ := trodAll_nil h
      exact trodAll_mk0
    | cons v vs =>
      obtain ⟨hv, _⟩ := trodAll_nil h
      cases hv
  | t :: ts, vs, ds, ps, hr, h, hlt, hsp => by
    obtain ⟨v, vs', d, ds', p, q, rfl, rfl, rfl, h1, h2⟩ := trodAll_cons h
    obtain ⟨r1, r2⟩ := hr t (by simp)
    exact trodAll_cons_mk (WideElems.Trod_stays hl r1 r2 h1 (fun x hx => hb.same (hlt x (List.mem_append_left _ hx))) (fun x hx => hsp x (List.mem_append_left _ hx)))
      (trodAll_stays hl hb (fun u hu => hr u (by simp [hu])) h2 (fun x hx => hlt x (List.mem_append_right _ hx)) (fun x hx => hsp x (List.mem_append_right _ hx)))
theorem post_true {f : Func} {s : ChangeSpec} {W W' : World} {args : Array Value} {ds gs : List (DataW H)} {before : List MemPlace} {tb : TypeId} (hl : laidOutB P = true) (hr : ∀ t ∈ f.params.toList, P.readableRec t = true ∧ t < P.types.size)
    (hvars : s.vars = []) (hfn : s.fn H (ds ++ gs) = { results := [.lit (.bool true)], args := ds }) (hres : f.resultTypes = #[tb]) (htb : P.underlying tb = some .bool)
    (hW : DataW.Whole enc P f.params.toList s.vars false W args.toList ds gs before) (hg : Below W.heap.size W W') :
    s.post enc P f false true false false W args (.bool true) W' := by
  have inOld : ∀ p ∈ before, p.block < W.heap.size := fun p hp => hW.lt p hp
  have old : ∀ p ∈ before, decide (p.block < W.heap.size) = true := fun p hp => decide_eq_true (inOld p hp)
  have hW' := hW
  obtain ⟨pa, pv, hA, hV, rfl, frz, nod⟩ := hW'
  rw [hvars] at hV
  obtain ⟨rfl, rfl⟩ := trodVars_none hV
  simp only [List.append_nil] at *
  have hargs : ∀ sp : Nat → Bool, (∀ p ∈ pa, sp p.block = true) → DataW.TrodAll enc P W' 0 sp true f.params.toList args.toList (s.fn H ds).args pa := fun sp hsp => by
    rw [hfn]; exact trodAll_stays hl hg hr hA inOld hsp
  have hres' : ∀ (b : Nat) (sp : Nat → Bool) (hd : Bool), DataW.TrodAll enc P W' b sp hd f.resultTypes.toList ((Value.bool true).resultList f.resultTypes.size) (s.fn H ds).results [] := fun b sp hd => by
    rw [hfn, hres]; exact trodAll_cons_mk (shut_bool htb _) trodAll_mk0
  have hvars' : ∀ sp : Nat → Bool, DataW.TrodVars enc P W' sp s.vars (s.fn H ds).vars [] := fun sp => by rw [hvars, hfn]; rfl
  have hok := ok_one (P := P) (W' := W') hres rfl (okWide_bool_mk htb true)
  refine ⟨ds, [], pa, [], pa, [], by simpa using hW, ?_, ?_, ?_, ?_, fun _ => ⟨hok, ?_⟩⟩
  · simpa using hres' _ _ _
  · simpa using hargs _ old
  · simpa using hvars' _
  · exact World.keptBut_mono (fun p hp => ⟨hp, by simpa using hp⟩) (hg.frame (· ∈ pa))
  · refine ⟨_, _, ([] ++ pa) ++ [], ⟨[] ++ pa, [], trodAll_append (by simpa using hargs _ (fun _ _ => rfl)) (by simpa using hres' _ _ _), by simpa using hvars' _, rfl, ?_, ?_⟩, ?_⟩
    · intro b off hp
      have hin : MemPlace.cell b off ∈ pa := by simpa using hp
      rw [hg.frozen (inOld _ hin)]
      exact frz b off (by simpa using hin)
    · intro ha
      simpa using nod ha
    · intro p hp _
      simpa using hp
end
theorem own : ownKnob Tryz.prog.godebug = none := by kernel_rfl
theorem laidOut : laidOutB Tryz.prog = true := by kernel_rfl
end Go.Proofs.YtedkfipjooafeaaGreatDoor.Laws
