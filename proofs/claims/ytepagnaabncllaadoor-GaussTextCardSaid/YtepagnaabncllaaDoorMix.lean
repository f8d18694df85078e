/-
  A world that has grown: below its first new block it is as it was. And regions that draw their order, whose operations read what was there, or call what only makes new memory:
  one walk of the order of the text serves every order; behind them operations that wait for all others are walked in turn.
-/
import Derived.WalkKit
import Derived.Deep.Quiet
import Derived.StillTail
import Derived.BigQuiet
namespace Go.Proofs.YtepagnaabncllaaDoor
open Go Go.RowKit

open Classical in
/-- x, if it is w grown; else w itself. -/
noncomputable def mix (w x : World) : World := if Below w.heap.size w x then x else w

theorem below_mix (w x : World) : Below w.heap.size w (mix w x) := by
  unfold mix
  by_cases h : Below w.heap.size w x
  · rw [if_pos h]; exact h
  · rw [if_neg h]; exact Below.refl _ _

theorem mix_of {w x : World} (h : Below w.heap.size w x) : x = mix w x := by unfold mix; rw [if_pos h]

theorem bcell {W w1 : World} (hb : Below W.heap.size W w1) : (∀ b o, b < W.heap.size → w1.cell? ⟨b, o, none⟩ = W.cell? ⟨b, o, none⟩) ∧ (∀ b o, b < W.heap.size → w1.frozen? ⟨b, o, none⟩ = W.frozen? ⟨b, o, none⟩) :=
  ⟨fun b o h => hb.cell (p := ⟨b, o, none⟩) h, fun b o h => hb.frozen (p := ⟨b, o, none⟩) h⟩
theorem to_mix {w x : World} (h : Below w.heap.size w x) : ∃ y, x = mix w y := ⟨x, mix_of h⟩

@[simp, go_sem] theorem mix_cell (w x : World) (a : Addr) (h : a.block < w.heap.size) : (mix w x).cell? a = w.cell? a := (below_mix w x).cell h
@[simp, go_sem] theorem mix_frozen (w x : World) (a : Addr) (h : a.block < w.heap.size) : (mix w x).frozen? a = w.frozen? a := (below_mix w x).frozen h
theorem mix_some {w x : World} {a : Addr} {v : Value} (h : w.cell? a = some v) : (mix w x).cell? a = some v := by
  rw [mix_cell _ _ _ (World.block_lt_of_cell? w a h)]; exact h
theorem mix_size (w x : World) : w.heap.size ≤ (mix w x).heap.size := (below_mix w x).size

/-- Below w's blocks, through a step more. -/
theorem below_step {B : Nat} {a w : World} (h : Below B a w) (x : World) (hB : B ≤ w.heap.size) : Below B a (mix w x) := h.trans ((below_mix w x).mono hB)

theorem to_mix2 {w x z : World} (h : Below (mix w x).heap.size (mix w x) z) : ∃ y, z = mix w y := to_mix ((below_mix w x).trans (h.mono (mix_size w x)))
theorem mix_size' {w x w' : World} (h : w' = mix w x) : w.heap.size ≤ w'.heap.size := by rw [h]; exact mix_size w x
theorem mix_flat {w x w' : World} (h : ∃ y, w' = mix (mix w x) y) : ∃ y, w' = mix w y := by
  obtain ⟨y, rfl⟩ := h
  exact to_mix2 (below_mix _ _)
theorem mix_drewN (w : World) (n : Nat) : Below w.heap.size w (w.drewN n) := ⟨rfl, rfl, rfl, Nat.le_refl _, fun _ _ => rfl⟩

section
variable {P : Program} {ops : Array Oper} {md : Region.Mode} {C : World → Prop}

def wpAnyC (P : Program) (md : Region.Mode) (ops : Array Oper) (C : World → Prop) (n : Nat) (L : Array Bool → Act → Prop) : Nat → Array Bool → Act → Prop
  | 0, listed, a => L listed a
  | f + 1, listed, a => Region.ready md ops listed ≠ [] ∧ ∀ i ∈ Region.ready md ops listed, i < n ∧ qOp P ops C i (wpAnyC P md ops C n L f (listed.setIfInBounds i true)) a

theorem wpAny_of_headC {n g : Nat} {L : Array Bool → Act → Prop} {Q' : Exit → Act → World → Prop} (hL : ∀ listed a w, C w → L listed a → wpAny P md ops Q' g listed a w) :
    ∀ (f : Nat) (listed : Array Bool) (a : Act) (w : World), C w → wpAnyC P md ops C n L f listed a → wpAny P md ops Q' (f + g) listed a w
  | 0, listed, a, w, hw, h => by rw [Nat.zero_add]; exact hL _ _ _ hw h
  | f + 1, listed, a, w, hw, h => by
    rw [show f + 1 + g = (f + g) + 1 by omega]
    exact ⟨fun h0 => absurd h0 h.1, fun i hi => wpOp_of_qOp hw (fun a' w' hw' h' => wpAny_of_headC hL f _ a' w' hw' h') (h.2 i hi).2⟩

theorem wpAnyC_first {n i : Nat} {oi : Oper} {v : Value} {L : Array Bool → Act → Prop} (hi : ops[i]? = some oi) (hsel : ∀ (j : Nat) (o : Oper) cs b, ops[j]? = some o → o.op ≠ .select cs b)
    (hs : Region.sinkB md ops n = true) (hc : Region.chainB md ops n = true) (hn : n < ops.size) (hin : i < n)
    (hdone : ∀ listed a, L listed a → ∀ j ∈ Region.ready md ops listed, n ≤ j) :
    ∀ (f : Nat) (listed : Array Bool) (a : Act), HeadInv md ops n listed →
      (∀ j oj, ops[j]? = some oj → j ≠ i → listed.getD j true = false → (∀ e ∈ oj.after, Region.binds md e = true → e.on ≠ i) → oi.apart ops oj = true) →
      i ∈ Region.ready md ops listed → YieldsIn P ops C oi v a →
      wpAnyC P md ops C n L f (listed.setIfInBounds i true) (a.put oi.dst v) → wpAnyC P md ops C n L (f + 1) listed a := by
  intro f
  induction f with
  | zero =>
    intro listed a inv _ hr hy H
    have hun := (mem_ready.1 hr).1
    refine ⟨fun h => (by rw [h] at hr; cases hr), fun j hj => ?_⟩
    have hjn : j < n := (Nat.lt_or_ge j n).elim id fun h => absurd hj (tail_waits hs hc hn inv _ i rfl hin hun j h)
    refine ⟨hjn, ?_⟩
    by_cases hji : j = i
    · subst hji; exact hy.qOp hi H
    · have := hdone _ _ H j (ready_mono hj hji)
      omega
  | succ f ih =>
    intro listed a inv hfree hr hy H
    have hun := (mem_ready.1 hr).1
    refine ⟨fun h => (by rw [h] at hr; cases hr), fun j hj => ?_⟩
    have hjn : j < n := (Nat.lt_or_ge j n).elim id fun h => absurd hj (tail_waits hs hc hn inv _ i rfl hin hun j h)
    refine ⟨hjn, ?_⟩
    by_cases hji : j = i
    · subst hji; exact hy.qOp hi H
    · have h1 := (H.2 j (ready_mono hj hji)).2
      obtain ⟨hjun, oj, hoj, hall⟩ := mem_ready.1 hj
      have hnot : ∀ e ∈ oj.after, Region.binds md e = true → e.on ≠ i := fun e he hb heq => by
        have h1 := hall e he hb
        rw [heq, getD_both hun] at h1
        cases h1
      have h2 := qOp_put hoj (hfree j oj hoj hji hjun hnot) (fun cs b => hsel i oi cs b hi) (fun cs b => hsel j oj cs b hoj) hy h1
      have hfree' : ∀ k ok, ops[k]? = some ok → k ≠ i → (listed.setIfInBounds j true).getD k true = false →
          (∀ e ∈ ok.after, Region.binds md e = true → e.on ≠ i) → oi.apart ops ok = true := fun k ok hk hki hun hno => by
        refine hfree k ok hk hki ?_ hno
        by_cases hjk : j = k
        · subst hjk; exact hjun
        · rw [getD_set_ne true hjk] at hun; exact hun
      refine qOp_mono (fun a' h3 => ih (listed.setIfInBounds j true) a' (inv.set hj hjn) hfree' (ready_mono hr (Ne.symm hji)) h3.1 ?_) h2
      rw [Array.setIfInBounds_comm _ _ hji]
      exact h3.2

theorem wpAnyC_lex {n g : Nat} {Lq : Act → Prop} (hsel : Region.noSelect ops = true) (hs : Region.sinkB md ops n = true) (hc : Region.chainB md ops n = true) (hn : n < ops.size) :
    ∀ (l : List Oper) (k : Nat) (listed : Array Bool) (a : Act), (∀ j, j < l.length → l[j]? = ops[k + j]?) → k + l.length = n → HeadInv md ops n listed →
    Region.lexHead md ops g l.length k listed = true → wpQuiet P ops C Lq l a →
    wpAnyC P md ops C n (fun listed' a' => Region.seqB md ops g n listed' = true ∧ Lq a') l.length listed a
  | [], k, listed, a, _, hk, _, hB, h => by
    have : k = n := by simpa using hk
    subst this
    exact ⟨by simpa [Region.lexHead] using hB, h⟩
  | o :: l, k, listed, a, hl, hk, inv, hB, h => by
    have h0 : ops[k]? = some o := by simpa using (hl 0 (by simp)).symm
    simp only [List.length_cons, Region.lexHead, Bool.and_eq_true] at hB
    obtain ⟨⟨hr, hf⟩, hB'⟩ := hB
    have hkn : k < n := by simp only [List.length_cons] at hk; omega
    have hr' : k ∈ Region.ready md ops listed := by simpa using hr
    have hst : qOp P ops C k (wpQuiet P ops C Lq l) a := by unfold qOp; simp only [h0]; exact h
    obtain ⟨v, hy, hK⟩ := yieldsIn_of_qOp h0 hst
    exact wpAnyC_first h0 (Region.noSelect_spec hsel) hs hc hn hkn (fun listed' a' hL => seqB_ready hL.1) l.length listed a inv (Region.free_spec h0 hf) hr' hy
      (wpAnyC_lex hsel hs hc hn l (k + 1) _ _ (fun j hj => by have := hl (j + 1) (by simp; omega); simpa [Nat.add_assoc, Nat.add_comm 1 j] using this) (by simp only [List.length_cons] at hk; omega) (inv.set hr' hkn) hB' hK)

/-- The first n operations are quiet in the class; the others wait for all of them and for one another. -/
theorem wp_region_class_tail {id : Nat} {Q : Exit → Act → World → Prop} {a : Act} {w : World} {l : List Oper} (n : Nat) (hm : P.follows .mixedOrders = true) (hB : Region.lexTailB .any l.toArray n = true)
    (hC : C { w with drawn := w.drawn + 1 })
    (h : wpQuiet P l.toArray C (fun a' => ∀ w', C w' → wpList P l.toArray Q (l.drop n) a' w') (l.take n) a) : (Code.region id l.toArray true).wp P Q a w := by
  simp only [Region.lexTailB, Bool.and_eq_true, decide_eq_true_eq] at hB
  obtain ⟨⟨⟨⟨hsel, hn⟩, hs⟩, hc⟩, hlex⟩ := hB
  have hn' : n < l.length := by simpa using hn
  have htl : (l.take n).length = n := by simp; omega
  have hdl : (l.drop n).length = l.toArray.size - n := by simp
  have inv0 : HeadInv .any l.toArray n (Array.replicate l.toArray.size false) :=
    ⟨by simp, fun j oj _ hl => (by rw [getD_replicate_false] at hl; cases hl), fun t _ ht => getD_in (by simpa using ht) (getD_replicate_false _ _)⟩
  have H := wpAnyC_lex (md := .any) (C := C) (g := l.toArray.size - n) hsel hs hc hn (l.take n) 0 _ a (fun j hj => by
    have hj' : j < n := by rw [htl] at hj; exact hj
    simp [hj']) (by simpa using htl) inv0 (by rw [htl]; exact hlex) h
  refine wp_region_any hm ?_
  have := wpAny_of_headC (C := C) (Q' := Q) (g := l.toArray.size - n) (fun listed a' w' hw' hL => by
    have := wpAny_of_seq (md := .any) (Q' := Q) (l.drop n) n listed a' w' (fun j => by simp [List.getElem?_drop]) (by rw [hdl]; exact hL.1) (hL.2 w' hw')
    rwa [hdl] at this) _ _ _ _ hC H
  rw [htl, show n + (l.toArray.size - n) = l.toArray.size by omega] at this
  exact this
end

/-- The same at the class 'w, grown'. -/
theorem wp_region_mix {P : Program} {id : Nat} {Q : Exit → Act → World → Prop} {a : Act} {w : World} {l : List Oper} (n : Nat) (hm : P.follows .mixedOrders = true) (hB : Region.lexTailB .any l.toArray n = true)
    (h : wpQuiet P l.toArray (fun w' => ∃ x, w' = mix w x) (fun a' => ∀ w', (∃ x, w' = mix w x) → wpList P l.toArray Q (l.drop n) a' w') (l.take n) a) : (Code.region id l.toArray true).wp P Q a w :=
  wp_region_class_tail (C := fun w' => ∃ x, w' = mix w x) n hm hB (to_mix ⟨rfl, rfl, rfl, Nat.le_refl _, fun _ _ => rfl⟩) h

/-- A callee's contract at a world grown. -/
theorem mix_call {P : Program} {f : FuncId} {args : Array Value} {w x : World} {v : Value}
    (h : Calls P f args (mix w x) fun e w' => e = .returned v ∧ Below (mix w x).heap.size (mix w x) w') : Calls P f args (mix w x) fun e w' => e = .returned v ∧ ∃ y, w' = mix w y :=
  h.mono fun _ _ ⟨he, hb⟩ => ⟨he, to_mix ((below_mix w x).trans (hb.mono (mix_size w x)))⟩
theorem mix_call_same {P : Program} {f : FuncId} {args : Array Value} {w x : World} {v : Value}
    (h : Calls P f args (mix w x) fun e w' => e = .returned v ∧ mix w x = w') : Calls P f args (mix w x) fun e w' => e = .returned v ∧ ∃ y, w' = mix w y :=
  h.mono fun _ _ ⟨he, hb⟩ => ⟨he, x, hb.symm⟩

theorem grow_alloc {a w : World} (h : Below a.heap.size a w) (o : Obj) : Below a.heap.size a (w.alloc o) := h.alloc h.size o
theorem grow_mix {a w : World} (h : Below a.heap.size a w) (x : World) : Below a.heap.size a (mix w x) := below_step h x h.size
theorem grow_drew {a w : World} (h : Below a.heap.size a w) : Below a.heap.size a w.drew := h.drew
theorem grow_drewN {a w : World} (h : Below a.heap.size a w) (n : Nat) : Below a.heap.size a (w.drewN n) := h.trans ⟨rfl, rfl, rfl, Nat.le_refl _, fun _ _ => rfl⟩
theorem grow_set {a w : World} (h : Below a.heap.size a w) {p : Addr} (hp : a.heap.size ≤ p.block) (u : Value) : Below a.heap.size a (w.setCell p u) := h.setCell hp u
theorem grow_same {a w : World} (h : a = w) : Below a.heap.size a w := by subst h; exact Below.refl _ _
@[simp, go_sem] theorem mix_lt {b : Nat} (w x : World) (h : b < w.heap.size) : (b < (mix w x).heap.size) = True := eq_true (Nat.lt_of_lt_of_le h (mix_size w x))
@[simp, go_sem] theorem mix_le {b : Nat} (w x : World) (h : b ≤ w.heap.size) : (b ≤ (mix w x).heap.size) = True := eq_true (Nat.le_trans h (mix_size w x))
@[simp, go_sem] theorem mix_ne {b : Nat} (w x : World) (h : b < w.heap.size) : (b = (mix w x).heap.size) = False := eq_false (Nat.ne_of_lt (Nat.lt_of_lt_of_le h (mix_size w x)))
@[simp, go_sem] theorem mix_ne' {b : Nat} (w x : World) (h : b < w.heap.size) : ((mix w x).heap.size = b) = False := eq_false (Nat.ne_of_gt (Nat.lt_of_lt_of_le h (mix_size w x)))
@[simp, go_sem] theorem lt_up2 (n : Nat) : (n < n + 1 + 1) = True := eq_true (by omega)
@[simp, go_sem] theorem lt_up3 (n : Nat) : (n < n + 1 + 1 + 1) = True := eq_true (by omega)
@[simp, go_sem] theorem lt_up4 (n : Nat) : (n < n + 1 + 1 + 1 + 1) = True := eq_true (by omega)
@[simp, go_sem] theorem lt_up5 (n : Nat) : (n < n + 1 + 1 + 1 + 1 + 1) = True := eq_true (by omega)
@[simp, go_sem] theorem lt_up6 (n : Nat) : (n < n + 1 + 1 + 1 + 1 + 1 + 1) = True := eq_true (by omega)
@[simp, go_sem] theorem lt_up7 (n : Nat) : (n < n + 1 + 1 + 1 + 1 + 1 + 1 + 1) = True := eq_true (by omega)
@[simp, go_sem] theorem lt_up8 (n : Nat) : (n < n + 1 + 1 + 1 + 1 + 1 + 1 + 1 + 1) = True := eq_true (by omega)
@[simp, go_sem] theorem lt_up9 (n : Nat) : (n < n + 1 + 1 + 1 + 1 + 1 + 1 + 1 + 1 + 1) = True := eq_true (by omega)
@[simp, go_sem] theorem lt_up10 (n : Nat) : (n < n + 1 + 1 + 1 + 1 + 1 + 1 + 1 + 1 + 1 + 1) = True := eq_true (by omega)
@[simp, go_sem] theorem lt_up11 (n : Nat) : (n < n + 1 + 1 + 1 + 1 + 1 + 1 + 1 + 1 + 1 + 1 + 1) = True := eq_true (by omega)
@[simp, go_sem] theorem lt_up12 (n : Nat) : (n < n + 1 + 1 + 1 + 1 + 1 + 1 + 1 + 1 + 1 + 1 + 1 + 1) = True := eq_true (by omega)
@[simp, go_sem] theorem le_up1 (n : Nat) : (n ≤ n + 1) = True := eq_true (by omega)
@[simp, go_sem] theorem le_up2 (n : Nat) : (n ≤ n + 1 + 1) = True := eq_true (by omega)
@[simp, go_sem] theorem le_up3 (n : Nat) : (n ≤ n + 1 + 1 + 1) = True := eq_true (by omega)
@[simp, go_sem] theorem le_up4 (n : Nat) : (n ≤ n + 1 + 1 + 1 + 1) = True := eq_true (by omega)
@[simp, go_sem] theorem le_up5 (n : Nat) : (n ≤ n + 1 + 1 + 1 + 1 + 1) = True := eq_true (by omega)
@[simp, go_sem] theorem le_up6 (n : Nat) : (n ≤ n + 1 + 1 + 1 + 1 + 1 + 1) = True := eq_true (by omega)
@[simp, go_sem] theorem le_up7 (n : Nat) : (n ≤ n + 1 + 1 + 1 + 1 + 1 + 1 + 1) = True := eq_true (by omega)
@[simp, go_sem] theorem le_up8 (n : Nat) : (n ≤ n + 1 + 1 + 1 + 1 + 1 + 1 + 1 + 1) = True := eq_true (by omega)
@[simp, go_sem] theorem le_up9 (n : Nat) : (n ≤ n + 1 + 1 + 1 + 1 + 1 + 1 + 1 + 1 + 1) = True := eq_true (by omega)
@[simp, go_sem] theorem le_up10 (n : Nat) : (n ≤ n + 1 + 1 + 1 + 1 + 1 + 1 + 1 + 1 + 1 + 1) = True := eq_true (by omega)
@[simp, go_sem] theorem le_up11 (n : Nat) : (n ≤ n + 1 + 1 + 1 + 1 + 1 + 1 + 1 + 1 + 1 + 1 + 1) = True := eq_true (by omega)
@[simp, go_sem] theorem le_up12 (n : Nat) : (n ≤ n + 1 + 1 + 1 + 1 + 1 + 1 + 1 + 1 + 1 + 1 + 1 + 1) = True := eq_true (by omega)
@[simp, go_sem] theorem mix_lt_up1 {b : Nat} (w x : World) (h : b < w.heap.size) : (b < (mix w x).heap.size + 1) = True := eq_true (by have := mix_size w x; omega)
@[simp, go_sem] theorem mix_ne_up1 {b : Nat} (w x : World) (h : b < w.heap.size) : (b = (mix w x).heap.size + 1) = False := eq_false (by have := mix_size w x; omega)
@[simp, go_sem] theorem mix_ne_up'1 {b : Nat} (w x : World) (h : b < w.heap.size) : ((mix w x).heap.size + 1 = b) = False := eq_false (by have := mix_size w x; omega)
@[simp, go_sem] theorem mix_lt_up2 {b : Nat} (w x : World) (h : b < w.heap.size) : (b < (mix w x).heap.size + 1 + 1) = True := eq_true (by have := mix_size w x; omega)
@[simp, go_sem] theorem mix_ne_up2 {b : Nat} (w x : World) (h : b < w.heap.size) : (b = (mix w x).heap.size + 1 + 1) = False := eq_false (by have := mix_size w x; omega)
@[simp, go_sem] theorem mix_ne_up'2 {b : Nat} (w x : World) (h : b < w.heap.size) : ((mix w x).heap.size + 1 + 1 = b) = False := eq_false (by have := mix_size w x; omega)
@[simp, go_sem] theorem mix_lt_up3 {b : Nat} (w x : World) (h : b < w.heap.size) : (b < (mix w x).heap.size + 1 + 1 + 1) = True := eq_true (by have := mix_size w x; omega)
@[simp, go_sem] theorem mix_ne_up3 {b : Nat} (w x : World) (h : b < w.heap.size) : (b = (mix w x).heap.size + 1 + 1 + 1) = False := eq_false (by have := mix_size w x; omega)
@[simp, go_sem] theorem mix_ne_up'3 {b : Nat} (w x : World) (h : b < w.heap.size) : ((mix w x).heap.size + 1 + 1 + 1 = b) = False := eq_false (by have := mix_size w x; omega)
@[simp, go_sem] theorem mix_lt_up4 {b : Nat} (w x : World) (h : b < w.heap.size) : (b < (mix w x).heap.size + 1 + 1 + 1 + 1) = True := eq_true (by have := mix_size w x; omega)
@[simp, go_sem] theorem mix_ne_up4 {b : Nat} (w x : World) (h : b < w.heap.size) : (b = (mix w x).heap.size + 1 + 1 + 1 + 1) = False := eq_false (by have := mix_size w x; omega)
@[simp, go_sem] theorem mix_ne_up'4 {b : Nat} (w x : World) (h : b < w.heap.size) : ((mix w x).heap.size + 1 + 1 + 1 + 1 = b) = False := eq_false (by have := mix_size w x; omega)
@[simp, go_sem] theorem mix_lt_up5 {b : Nat} (w x : World) (h : b < w.heap.size) : (b < (mix w x).heap.size + 1 + 1 + 1 + 1 + 1) = True := eq_true (by have := mix_size w x; omega)
@[simp, go_sem] theorem mix_ne_up5 {b : Nat} (w x : World) (h : b < w.heap.size) : (b = (mix w x).heap.size + 1 + 1 + 1 + 1 + 1) = False := eq_false (by have := mix_size w x; omega)
@[simp, go_sem] theorem mix_ne_up'5 {b : Nat} (w x : World) (h : b < w.heap.size) : ((mix w x).heap.size + 1 + 1 + 1 + 1 + 1 = b) = False := eq_false (by have := mix_size w x; omega)
@[simp, go_sem] theorem mix_lt_up6 {b : Nat} (w x : World) (h : b < w.heap.size) : (b < (mix w x).heap.size + 1 + 1 + 1 + 1 + 1 + 1) = True := eq_true (by have := mix_size w x; omega)
@[simp, go_sem] theorem mix_ne_up6 {b : Nat} (w x : World) (h : b < w.heap.size) : (b = (mix w x).heap.size + 1 + 1 + 1 + 1 + 1 + 1) = False := eq_false (by have := mix_size w x; omega)
@[simp, go_sem] theorem mix_ne_up'6 {b : Nat} (w x : World) (h : b < w.heap.size) : ((mix w x).heap.size + 1 + 1 + 1 + 1 + 1 + 1 = b) = False := eq_false (by have := mix_size w x; omega)
@[go_sem] theorem unary_negF (k : FloatKind) (b : Nat) : Op.unary .neg (.float k b) = pure (.float k (Op.negFloat k b)) := rfl
/-- A block of cells, known whole. -/
def Has (w : World) (b : Nat) (cs : Array Value) (t : TypeId) : Prop := w.heap[b]? = some (.cells cs t (0, 0))
theorem Has.lt {w : World} {b : Nat} {cs : Array Value} {t : TypeId} (h : Has w b cs t) : b < w.heap.size := by
  rcases Nat.lt_or_ge b w.heap.size with h' | h'
  · exact h'
  · unfold Has at h; rw [Array.getElem?_eq_none h'] at h; cases h
theorem Has.cell {w : World} {b : Nat} {cs : Array Value} {t : TypeId} (h : Has w b cs t) (i : Nat) : w.cell? ⟨b, i, none⟩ = cs[i]? := by
  unfold Has at h; simp [World.cell?, h]
theorem Has.frozen {w : World} {b : Nat} {cs : Array Value} {t : TypeId} (h : Has w b cs t) (i : Nat) : w.frozen? ⟨b, i, none⟩ = false := by
  unfold Has at h; simp [World.frozen?, h]
theorem Has.new (w : World) (cs : Array Value) (t : TypeId) : Has (w.alloc (.cells cs t)) w.heap.size cs t := by
  unfold Has World.alloc; simp
theorem Has.new' {w : World} {b : Nat} (hb : b = w.heap.size) (cs : Array Value) (t : TypeId) : Has (w.alloc (.cells cs t)) b cs t := by
  subst hb; exact Has.new w cs t
theorem Has.alloc {w : World} {b : Nat} {cs : Array Value} {t : TypeId} (h : Has w b cs t) (o : Obj) : Has (w.alloc o) b cs t := by
  have := h.lt
  unfold Has World.alloc at *
  rw [Array.getElem?_push, if_neg (by omega)]; exact h
theorem Has.below {w w' : World} {B b : Nat} {cs : Array Value} {t : TypeId} (h : Has w b cs t) (hb : Below B w w') (hl : b < B) : Has w' b cs t := by
  unfold Has at *; rw [hb.block b hl]; exact h
theorem Has.below' {w w' : World} {b : Nat} {cs : Array Value} {t : TypeId} (h : Has w b cs t) (hb : Below w.heap.size w w') : Has w' b cs t := h.below hb h.lt
theorem Has.mix {w : World} {b : Nat} {cs : Array Value} {t : TypeId} (h : Has w b cs t) (x : World) : Has (mix w x) b cs t := h.below (below_mix w x) h.lt
theorem Has.drew {w : World} {b : Nat} {cs : Array Value} {t : TypeId} (h : Has w b cs t) : Has w.drew b cs t := h
theorem Has.drewN {w : World} {b : Nat} {cs : Array Value} {t : TypeId} (h : Has w b cs t) (n : Nat) : Has (w.drewN n) b cs t := h
theorem Has.set_same {w : World} {b i : Nat} {cs cs' : Array Value} {t : TypeId} {v : Value} (h : Has w b cs t) (e : cs.setIfInBounds i v = cs') : Has (w.setCell ⟨b, i, none⟩ v) b cs' t := by
  subst e
  unfold Has World.setCell at *
  rw [Array.getElem?_modify]
  simp [h]
theorem Has.set_other {w : World} {b : Nat} {cs : Array Value} {t : TypeId} (h : Has w b cs t) {p : Addr} {v : Value} (hp : b ≠ p.block) : Has (w.setCell p v) b cs t := by
  unfold Has World.setCell at *
  rw [Array.getElem?_modify, if_neg (fun e => hp e.symm)]
  exact h
section
variable {P : Program} {w : World} {b : Nat} {t t' ty : TypeId}
theorem run_loadVar_has {cs : List Value} (h : Has w b cs.toArray t') (ha : ∀ w, (isAgg ty).run P w = .ok true w) (hs : ∀ w, (sizeOf ty).run P w = .ok cs.length w) :
    (loadVar ty ⟨b, 0, none⟩).run P w = .ok (.agg cs.toArray) w := by
  have hc := run_loadCells_list (P := P) w ⟨b, 0, none⟩ cs (fun j v hj => by
    have : (⟨b, 0, none⟩ : Addr).add j = ⟨b, j, none⟩ := by unfold Addr.add; by_cases e : j = 0 <;> simp [e]
    rw [this, h.cell]; simpa using hj)
  simp only [loadVar, Sem.run_bind, ha, hs, Result.andThen_ok, if_true, hc, Sem.run_pure]

/-- A struct result, out of its block. -/
theorem ret_cell {fn : Func} {R : Ending → World → Prop} {a : Act} {cs : List Value} {k : Tmp} (hres : fn.results = #[.cell k ty]) (hk : a.tmps.getD k undef = .pointer (some ⟨b, 0, none⟩)) (ha : ∀ w, (isAgg ty).run P w = .ok true w) (hs : ∀ w, (sizeOf ty).run P w = .ok cs.length w)
    (hd : a.defers = []) (h : Has w b cs.toArray t') (hR : R (.returned (.agg cs.toArray)) w) : bodyPost P fn R .ret a w := by
  refine bodyPost_ret (v := .agg cs.toArray) ?_ hd hR
  have := run_loadVar_has h ha hs
  have e : a.tmps[k]?.getD undef = .pointer (some ⟨b, 0, none⟩) := by rw [← Array.getD_eq_getD_getElem?]; exact hk
  simp [results, hres, hk, e, asAddr, this]

/-- A struct result, and one in a slot. -/
theorem ret_cell_tmp {fn : Func} {R : Ending → World → Prop} {a : Act} {cs : List Value} {k u : Tmp} (hres : fn.results = #[.cell k ty, .tmp u]) (hk : a.tmps.getD k undef = .pointer (some ⟨b, 0, none⟩)) (ha : ∀ w, (isAgg ty).run P w = .ok true w) (hs : ∀ w, (sizeOf ty).run P w = .ok cs.length w)
    (hd : a.defers = []) (h : Has w b cs.toArray t') (hR : R (.returned (.tuple #[.agg cs.toArray, a.tmps.getD u undef])) w) : bodyPost P fn R .ret a w := by
  refine bodyPost_ret (v := .tuple #[.agg cs.toArray, a.tmps.getD u undef]) ?_ hd hR
  have := run_loadVar_has h ha hs
  have e : a.tmps[k]?.getD undef = .pointer (some ⟨b, 0, none⟩) := by rw [← Array.getD_eq_getD_getElem?]; exact hk
  simp [results, hres, hk, e, asAddr, this]
end
@[simp] theorem le_mix (w x : World) : w.heap.size ≤ (mix w x).heap.size := mix_size w x
end Go.Proofs.YtepagnaabncllaaDoor
