/-
  Contracts of the reference's programs: an instruction read. Contracts of the reference's programs, told as data: numbers, instructions. Programs told as data are programs in memory. Contracts of the reference's programs, told as data: whether two programs are the same. Contracts of the reference's programs, told as data: whether two programs are the same (the walk). Contracts of the reference's programs, told as data: an instruction read. Contracts of the reference's programs, told as data: a function read. Contracts of the reference's programs, told as data: a program read of bytes. Contracts of the reference's programs, told as data: a text cut. Contracts of the reference's programs, told as data: a number of digits, a name found. What a line does to a program, as the reference tells; no program in sight.
-/
import Derived.Test.YtedkfipjooafeaaGreatDoorT1
import Derived.Test.YtedkfipjooafeaaGreatDoorT3
import Derived.Test.YtedkfipjooafeaaGreatDoorT4
import Derived.Test.YtedkfipjooafeaaGreatDoorT5
import Derived.Test.YtedkfipjooafeaaGreatDoorT7
set_option linter.unusedSimpArgs false
set_option linter.unusedVariables false
set_option linter.unusedSimpArgs false
set_option linter.unusedVariables false
namespace Go.Proofs.YtedkfipjooafeaaGreatDoor.Code
open Go Go.RowKit Go.Proofs.YtedkfipjooafeaaGreatDoor Go.Proofs.YtedkfipjooafeaaGreatDoor.Op Go.Proofs.YtedkfipjooafeaaGreatDoor.Wire

theorem step_err (s : B) (k : Nat) (x : Ins) (i : Nat) (e : Int) (he : e ≠ 0) (hx : putF x k 0 = x) : stepS s k (x, i, e) = (x, i, e) := by
  have hm : ∀ b, mustE e b = e := fun b => if_neg (fun h => he h.1)
  have hn : ∀ hi, numS s 0 hi i e = (0, i, e) := fun hi => if_pos he
  unfold stepS fieldS
  split
  · simp only [hn, hm, hx]
  · simp only [hm]
theorem insS_bad (s : B) (i : Nat) (e : Int) (he : e ≠ 0) : insS s i e = (⟨0, 0, 0⟩, i, e) := by
  have ho : opS s i e = (0, i, e) := if_pos he
  unfold insS
  rw [ho]
  show stepS s 1 (stepS s 0 (⟨0, 0, 0⟩, i, e)) = _
  rw [step_err s 0 _ i e he rfl, step_err s 1 _ i e he rfl]
theorem insS_end (s : B) (i : Nat) (h : s.length ≤ i) : insS s i 0 = (⟨0, 0, 0⟩, i, 10) := by
  have ho : opS s i 0 = (0, i, 10) := by unfold opS; rw [if_neg (by simp), List.getElem?_eq_none h]
  unfold insS
  rw [ho]
  show stepS s 1 (stepS s 0 (⟨0, 0, 0⟩, i, 10)) = _
  rw [step_err s 0 _ i 10 (by decide) rfl, step_err s 1 _ i 10 (by decide) rfl]
section
variable {s : B} {i : Nat} {c : UInt8} (hc : s[i]? = some c)
include hc
theorem insS_out (h : ¬ c.toNat < 17) : insS s i 0 = (⟨c.toNat, 0, 0⟩, i + 1, 71) := by
  have ho : opS s i 0 = ((c.toNat : Int), i + 1, 71) := by unfold opS; rw [if_neg (by simp), hc]; simp [h]
  unfold insS
  rw [ho]
  show stepS s 1 (stepS s 0 (⟨c.toNat, 0, 0⟩, i + 1, 71)) = _
  rw [step_err s 0 _ _ 71 (by decide) rfl, step_err s 1 _ _ 71 (by decide) rfl]
theorem insS_0 (h : c.toNat < 17) (hf : opFields c.toNat = 0) : insS s i 0 = (⟨c.toNat, 0, 0⟩, i + 1, 0) := by
  have ho : opS s i 0 = ((c.toNat : Int), i + 1, 0) := by unfold opS; rw [if_neg (by simp), hc]; simp [h]
  have hm : mayI ⟨c.toNat, 0, 0⟩ = true := by
    revert hf
    generalize c.toNat = n at h
    have key : ∀ n : Fin 17, opFields (n.val : Int) = 0 → mayI ⟨n.val, 0, 0⟩ = true := by decide
    exact key ⟨n, h⟩
  unfold insS
  rw [ho]
  show stepS s 1 (stepS s 0 (⟨c.toNat, 0, 0⟩, i + 1, 0)) = _
  unfold stepS fieldS
  simp only [hf]
  simp [hm, mustE, hf]
theorem insS_1 (h : c.toNat < 17) (hf : opFields c.toNat = 1) {n : Int} {j : Nat} {f : Int} (hn : numS s 0 281474976710656 (i + 1) 0 = (n, j, f)) : insS s i 0 = (⟨c.toNat, n, 0⟩, j, mustE f (mayI ⟨c.toNat, n, 0⟩)) := by
  have ho : opS s i 0 = ((c.toNat : Int), i + 1, 0) := by unfold opS; rw [if_neg (by simp), hc]; simp [h]
  rw [numS_top] at hn
  unfold insS
  rw [ho]
  show stepS s 1 (stepS s 0 (⟨c.toNat, 0, 0⟩, i + 1, 0)) = _
  have e1 : stepS s 0 (⟨c.toNat, 0, 0⟩, i + 1, 0) = (⟨c.toNat, n, 0⟩, j, mustE f (mayI ⟨c.toNat, n, 0⟩)) := by
    unfold stepS fieldS
    simp only [hf, hn]
    rfl
  rw [e1]
  unfold stepS fieldS
  simp only [hf]
  rw [if_neg (by simp)]
  simp only
  unfold mustE
  split
  · rfl
  · rfl
theorem insS_2 (h : c.toNat < 17) (hf : opFields c.toNat = 2) {n m : Int} {j k : Nat} {f g : Int} (hn : numS s 0 281474976710656 (i + 1) 0 = (n, j, f)) (hm : numS s 0 281474976710656 j (mustE f (mayI ⟨c.toNat, n, 0⟩)) = (m, k, g)) : insS s i 0 = (⟨c.toNat, n, m⟩, k, mustE g (mayI ⟨c.toNat, n, m⟩)) := by
  have ho : opS s i 0 = ((c.toNat : Int), i + 1, 0) := by unfold opS; rw [if_neg (by simp), hc]; simp [h]
  rw [numS_top] at hn hm
  unfold insS
  rw [ho]
  show stepS s 1 (stepS s 0 (⟨c.toNat, 0, 0⟩, i + 1, 0)) = _
  have e1 : stepS s 0 (⟨c.toNat, 0, 0⟩, i + 1, 0) = (⟨c.toNat, n, 0⟩, j, mustE f (mayI ⟨c.toNat, n, 0⟩)) := by
    unfold stepS fieldS
    simp only [hf, hn]
    rfl
  rw [e1]
  unfold stepS fieldS
  simp only [hf, hm]
  rfl
end
end Go.Proofs.YtedkfipjooafeaaGreatDoor.Code
set_option linter.unusedSimpArgs false
set_option linter.unusedVariables false
namespace Go.Proofs.YtedkfipjooafeaaGreatDoor.Ab
open Go Go.RowKit Go.Proofs.YtedkfipjooafeaaGreatDoor Go.Proofs.YtedkfipjooafeaaGreatDoor.Code Go.Proofs.YtedkfipjooafeaaGreatDoor.Op

abbrev sA (s : B) : AV := .im (.v (str s))
abbrev atG (s : B) (i : Nat) (e : Int) : AT := .g [sA s, iA i, iA e]
abbrev insG (x : Ins) : AT := .g [iA x.op, iA x.a, iA x.b]
theorem fieldsR_a (n : Int) : ACalls Tryz.prog 51 [iT n] (iT (opFields n)) :=
  acalls_plain (vs := [.int .i64 n]) (r := .int .i64 (opFields n)) (by kernel_rfl) rfl (fun W => FieldsR_calls n W)
theorem mayIR_a (x : Ins) : ACalls Tryz.prog 38 [insG x] (bT (mayI x)) :=
  acalls_plain (vs := [insV x]) (r := .bool (mayI x)) (by kernel_rfl) rfl (fun W => MayR_calls x W)
theorem numberR_a (s : B) (i : Nat) (e lo hi : Int) (hi' : i ≤ s.length) (hs : s.length ≤ 9223372036854775000) : ACalls Tryz.prog 31 [atG s i e, iT lo, iT hi] (.u [iT (numS s lo hi i e).1, atG s (numS s lo hi i e).2.1 (numS s lo hi i e).2.2]) :=
  acalls_plain (vs := [atV s i e, .int .i64 lo, .int .i64 hi]) (r := .tuple #[.int .i64 (numS s lo hi i e).1, atV s (numS s lo hi i e).2.1 (numS s lo hi i e).2.2]) (by kernel_rfl) rfl (fun W => numberR_calls s i e lo hi hi' hs W)
end Go.Proofs.YtedkfipjooafeaaGreatDoor.Ab
set_option linter.unusedSimpArgs false
set_option linter.unusedVariables false
namespace Go.Proofs.YtedkfipjooafeaaGreatDoor.Ab
open Go Go.RowKit Go.Proofs.YtedkfipjooafeaaGreatDoor Go.Proofs.YtedkfipjooafeaaGreatDoor.Code Go.Proofs.YtedkfipjooafeaaGreatDoor.Op

theorem us_flat {α : Type} (f : α → List Value) (c : Nat) (hc : 0 < c) (hf : ∀ x, (f x).length = c) (l : List α) (us : List Value) (hl : us.length = l.length * c) (h : ∀ (i : Nat) x, l[i]? = some x → ∀ (j : Nat) u, j < c → us[i * c + j]? = some u → (f x)[j]? = some u) : us = l.flatMap f := by
  apply List.ext_getElem?
  intro k
  by_cases hk : k < us.length
  · have hd : k = (k / c) * c + k % c := by rw [Nat.mul_comm]; exact (Nat.div_add_mod k c).symm
    have hm : k % c < c := Nat.mod_lt _ hc
    have hi : k / c < l.length := by rw [hl] at hk; exact Nat.div_lt_of_lt_mul (by rw [Nat.mul_comm]; exact hk)
    have hx := List.getElem?_eq_getElem hi
    have hu : us[(k / c) * c + k % c]? = some us[k] := by rw [← hd]; exact List.getElem?_eq_getElem hk
    have := h _ _ hx _ _ hm hu
    rw [List.getElem?_eq_getElem hk, ← this]
    conv => rhs; rw [hd]
    exact (flat_get f c hf l _ _ _ hx hm).symm
  · rw [List.getElem?_eq_none (by omega), List.getElem?_eq_none (by rw [flat_len f c hf, ← hl]; omega)]
theorem rep_int {O : Nat → Prop} {w : World} {n : Int} {u : Value} (h : RepI O w (.v (.int .i64 n)) u) : u = .int .i64 n := by cases h; rfl
theorem codeAt_of {O : Nat → Prop} {w : World} {l : List Ins} {v : Value} (h : RepI O w (codeI l) v) : CodeAt w w.heap.size v l := by
  unfold codeI at h
  generalize hr0 : l.map insI = rows at h
  cases h with
  | sl c rows A cap us ha hl ho hr hc h =>
    subst hr0
    rw [List.length_map] at hl
    have e : us = l.flatMap insL := us_flat insL 3 (by decide) (fun _ => rfl) l us hl fun i x hx j u hj hu => by
      have hrow : (l.map insI)[i]? = some (insI x) := by rw [List.getElem?_map, hx]; rfl
      have hcase : j = 0 ∨ j = 1 ∨ j = 2 := by omega
      rcases hcase with rfl | rfl | rfl
      · rw [rep_int (h i _ hrow 0 _ rfl u hu)]; rfl
      · rw [rep_int (h i _ hrow 1 _ rfl u hu)]; rfl
      · rw [rep_int (h i _ hrow 2 _ rfl u hu)]; rfl
    refine ⟨by rw [← e, hl], A, cap, by rw [List.length_map], fun hn => ?_⟩
    obtain ⟨a, h1, h2, h3, h4⟩ := ha (by intro h; rw [List.map_eq_nil_iff] at h; rw [h] at hn; exact absurd hn (by decide))
    exact ⟨a, h1, h3, fun j u hj => h4 j u (by rw [e]; exact hj)⟩
theorem progAt_of {O : Nat → Prop} {w : World} {p : Pg} {v : Value} (h : RepI O w (progI p) v) : ProgAt w w.heap.size v p := by
  unfold progI at h
  generalize hr0 : p.map fnI = rows at h
  cases h with
  | sl c rows A cap us ha hl ho hr hc h =>
    subst hr0
    rw [List.length_map] at hl
    let vs := (List.range p.length).map fun i => us.getD (i * 4 + 3) undef
    have hvl : vs.length = p.length := by simp [vs]
    have hvs : ∀ i u, vs[i]? = some u → us[i * 4 + 3]? = some u := fun i u hu => by
      have hi : i < p.length := by rw [← hvl]; exact (List.getElem?_eq_some_iff.1 hu).1
      have h3 : i * 4 + 3 < us.length := by omega
      simp only [vs, List.getElem?_map, List.getElem?_range hi, Option.map_some, Option.some.injEq] at hu
      rw [List.getD_eq_getElem?_getD, List.getElem?_eq_getElem h3] at hu
      rw [List.getElem?_eq_getElem h3]
      simpa using hu
    have e : us = (p.zip vs).flatMap fun x => fnL x.1 x.2 := us_flat (fun x => fnL x.1 x.2) 4 (by decide) (fun _ => rfl) (p.zip vs) us (by rw [List.length_zip, hvl, Nat.min_self]; exact hl) fun i x hx j u hj hu => by
      obtain ⟨f, y⟩ := x
      rw [List.getElem?_zip_eq_some] at hx
      have hrow : (p.map fnI)[i]? = some (fnI f) := by rw [List.getElem?_map, hx.1]; rfl
      have hcase : j = 0 ∨ j = 1 ∨ j = 2 ∨ j = 3 := by omega
      rcases hcase with rfl | rfl | rfl | rfl
      · rw [rep_int (h i _ hrow 0 _ rfl u hu)]; rfl
      · rw [rep_int (h i _ hrow 1 _ rfl u hu)]; rfl
      · rw [rep_int (h i _ hrow 2 _ rfl u hu)]; rfl
      · have := hvs i y hx.2
        rw [this] at hu
        injection hu with hu
        rw [← hu]; rfl
    refine ⟨vs, hvl, ⟨by rw [← e, hl], A, cap, by rw [List.length_map], fun hn => ?_⟩, fun i f u hf hu => ?_⟩
    · obtain ⟨a, h1, h2, h3, h4⟩ := ha (by intro h; rw [List.map_eq_nil_iff] at h; rw [h] at hn; exact absurd hn (by decide))
      exact ⟨a, h1, h3, fun j u hj => h4 j u (by rw [e]; exact hj)⟩
    · have hrow : (p.map fnI)[i]? = some (fnI f) := by rw [List.getElem?_map, hf]; rfl
      exact codeAt_of (h i _ hrow 3 _ rfl u (hvs i u hu))
theorem acalls_prog {P : Program} {f : FuncId} {p : Pg} {r : Value} (he : entersB P f = true) (h : ∀ (v : Value) (w : World), ProgAt w w.heap.size v p → Calls P f #[v] w fun e w' => e = .returned r ∧ Below w.heap.size w w') : ACalls P f [.c (.im (progI p))] (AT.ofValue r) := by
  refine ⟨he, fun O w us hO hl hr => ?_⟩
  obtain ⟨v, rfl⟩ : ∃ v, us = #[v] := by
    refine ⟨us[0]'(by simp at hl; omega), ?_⟩
    apply Array.ext
    · simpa using hl
    · intro i h1 h2
      have : i = 0 := by simp at h2; omega
      subst this; rfl
  have h0 := hr 0 _ rfl v rfl
  cases h0 with
  | c h0 _ => cases h0 with
    | im h0 => exact (h v w (progAt_of h0)).mono fun e w' ⟨h1, h2⟩ => ⟨r, h1, h2, rep_ofValue r⟩
end Go.Proofs.YtedkfipjooafeaaGreatDoor.Ab
set_option linter.unusedSimpArgs false
set_option linter.unusedVariables false
namespace Go.Proofs.YtedkfipjooafeaaGreatDoor.Ab
open Go Go.RowKit Go.Proofs.YtedkfipjooafeaaGreatDoor Go.Proofs.YtedkfipjooafeaaGreatDoor.Code Go.Proofs.YtedkfipjooafeaaGreatDoor.Op

def codeN (l : List Ins) : IV := .sn 3 (l.map insI)
def fnN (f : Code.Fn) : List IV := [.v (.int .i64 f.ar), .v (.int .i64 f.lo), .v (.int .i64 f.sl), codeN f.code]
def progN (p : Pg) : IV := .sn 4 (p.map fnN)
theorem repN_code {w : World} {l : List Ins} {v : Value} (h : CodeAt w w.heap.size v l) : RepI (fun _ => False) w (codeN l) v := by
  obtain ⟨hl, A, c, rfl, hc⟩ := h
  have key : RepI (fun _ => False) w (.sn 3 (l.map insI)) (.slice A (l.map insI).length c) := by
    refine .sn 3 (l.map insI) A c (l.flatMap insL) (fun hne => ?_) (by rw [hl, List.length_map]) (fun u hu => ?_) (fun row hr => ?_) (fun i row hi j x hj u hu => ?_)
    · have hn : 0 < l.length := List.length_pos_iff.2 fun h => hne (by rw [h]; rfl)
      obtain ⟨a, h1, h2, h3⟩ := hc hn
      exact ⟨a, h1, fun h => h, h2, h3⟩
    · obtain ⟨x, _, hx⟩ := List.mem_flatMap.1 hu
      simp only [insL, List.mem_cons, List.not_mem_nil, or_false] at hx
      rcases hx with rfl | rfl | rfl <;> rfl
    · obtain ⟨x, _, rfl⟩ := List.mem_map.1 hr; rfl
    · rw [List.getElem?_map] at hi
      cases hx : l[i]? with
      | none => rw [hx] at hi; cases hi
      | some y =>
        rw [hx] at hi
        simp only [Option.map_some, Option.some.injEq] at hi
        subst hi
        have hj3 : j < 3 := (List.getElem?_eq_some_iff.1 hj).1
        rw [flat_get insL 3 (fun _ => rfl) l i j y hx hj3] at hu
        have hcase : j = 0 ∨ j = 1 ∨ j = 2 := by omega
        rcases hcase with rfl | rfl | rfl
        all_goals
          injection hj with hj
          injection hu with hu
          subst hj hu
          exact .v _
  rw [List.length_map] at key
  exact key
theorem repN_prog {w : World} {p : Pg} {v : Value} (h : ProgAt w w.heap.size v p) : RepI (fun _ => False) w (progN p) v := by
  obtain ⟨vs, hvl, ⟨hl, A, c, rfl, hc⟩, hcode⟩ := h
  have hone : ∀ (i : Nat) f y, p[i]? = some f → vs[i]? = some y → isOne y = true := fun i f y h1 h2 => by
    obtain ⟨A, c, rfl⟩ := (hcode i f y h1 h2).form; rfl
  have key : RepI (fun _ => False) w (.sn 4 (p.map fnN)) (.slice A (p.map fnN).length c) := by
    refine .sn 4 (p.map fnN) A c ((p.zip vs).flatMap fun x => fnL x.1 x.2) (fun hne => ?_) (by rw [hl, List.length_map]) (fun u hu => ?_) (fun row hr => ?_) (fun i row hi j x hj u hu => ?_)
    · have hn : 0 < p.length := List.length_pos_iff.2 fun h => hne (by rw [h]; rfl)
      obtain ⟨a, h1, h2, h3⟩ := hc hn
      exact ⟨a, h1, fun h => h, h2, h3⟩
    · obtain ⟨⟨f, y⟩, hz, hx⟩ := List.mem_flatMap.1 hu
      obtain ⟨i, hi⟩ := List.getElem?_of_mem hz
      rw [List.getElem?_zip_eq_some] at hi
      simp only [fnL, List.mem_cons, List.not_mem_nil, or_false] at hx
      rcases hx with rfl | rfl | rfl | rfl
      · rfl
      · rfl
      · rfl
      · exact hone i f _ hi.1 hi.2
    · obtain ⟨x, _, rfl⟩ := List.mem_map.1 hr; rfl
    · rw [List.getElem?_map] at hi
      cases hx : p[i]? with
      | none => rw [hx] at hi; cases hi
      | some f =>
        rw [hx] at hi
        simp only [Option.map_some, Option.some.injEq] at hi
        subst hi
        have hj3 : j < 4 := (List.getElem?_eq_some_iff.1 hj).1
        have hip : i < p.length := (List.getElem?_eq_some_iff.1 hx).1
        have hy : vs[i]? = some (vs[i]'(by omega)) := List.getElem?_eq_getElem _
        have hz : (p.zip vs)[i]? = some (f, vs[i]'(by omega)) := List.getElem?_zip_eq_some.2 ⟨hx, hy⟩
        rw [flat_get (fun x => fnL x.1 x.2) 4 (fun _ => rfl) (p.zip vs) i j _ hz hj3] at hu
        have hcase : j = 0 ∨ j = 1 ∨ j = 2 ∨ j = 3 := by omega
        rcases hcase with rfl | rfl | rfl | rfl
        all_goals
          injection hj with hj
          injection hu with hu
          subst hj hu
        · exact .v _
        · exact .v _
        · exact .v _
        · exact repN_code (hcode i f _ hx hy)
  rw [List.length_map] at key
  exact key
section
variable {B : Nat} {ops : List Oper} {s : St} {o : Oper} {K : St → Fp → Prop}
theorem rep_insG {O : Nat → Prop} {m : Nat → Option Loc} {w : World} {x : Ins} {v : Value} (h : RepT O m w (insG x) v) : v = insV x :=
  rep_plain (v := insV x) h rfl
theorem x1_neI {x y : Ins} {a b : Operand} {ty : TypeId} (hop : o.op = .binOp .neq 64 a b ty) (ha : s.ev a = insG x) (hb : s.ev b = insG y) (h : K (s.put o.dst (bT (!decide (x = y)))) noFp) : X1 Tryz.prog B ops s o K := ⟨by
  unfold Ex
  rw [hop]
  refine .inr ⟨noFp, _, fun hw hd => sem_read (rd := []) hw hd fun O m w act hv hr => ⟨.bool (!eqI x y), ?_, .c (.im (.v _)) rfl⟩, h⟩
  have e1 := hr a (by rw [hop]; simp [Op.operands])
  have e2 := hr b (by rw [hop]; simp [Op.operands])
  rw [ha] at e1
  rw [hb] at e2
  have := neq_ins x y w
  have hq : Tryz.prog.eqGuardType Tryz.prog.depth 64 = false := by kernel_rfl
  simp [execOp, hop, rep_insG e1, rep_insG e2, eqGuard, this, hq]⟩
end
end Go.Proofs.YtedkfipjooafeaaGreatDoor.Ab
set_option linter.unusedSimpArgs false
set_option linter.unusedVariables false
namespace Go.Proofs.YtedkfipjooafeaaGreatDoor.Ab
open Go Go.RowKit Go.Proofs.YtedkfipjooafeaaGreatDoor Go.Proofs.YtedkfipjooafeaaGreatDoor.Code Go.Proofs.YtedkfipjooafeaaGreatDoor.Op

def samF (p q : Pg) (i : Nat) : St := ⟨tmpsOf 74 [(0, .c (.im (progN p))), (1, .c (.im (progN q))), (5, iT i)], []⟩
def samG (p q : Pg) (f g : Code.Fn) (i k : Nat) : St := ⟨tmpsOf 74 [(0, .c (.im (progN p))), (1, .c (.im (progN q))), (5, iT i), (6, .c (.op 0 0 0)), (7, .c (.op 1 0 0)), (8, iT k)],
  [some ⟨39, 4, [(fnN f).map .im], true⟩, some ⟨39, 4, [(fnN g).map .im], true⟩]⟩
theorem take_next {α : Type} {l m : List α} {k : Nat} {x : α} (h : l.take k = m.take k) (hx : l[k]? = some x) (hy : m[k]? = some x) : l.take (k + 1) = m.take (k + 1) := by
  rw [List.take_add_one, List.take_add_one, h, hx, hy]
set_option maxRecDepth 20000 in
set_option maxHeartbeats 16000000 in
theorem SameR_a (p q : Pg) (hp : p.length ≤ 9223372036854775) (hq : q.length ≤ 9223372036854775) (hpc : ∀ f ∈ p, f.code.length ≤ 9223372036854775) (hqc : ∀ f ∈ q, f.code.length ≤ 9223372036854775) :
    ACalls Tryz.prog 23 [.c (.im (progN p)), .c (.im (progN q))] (bT (decide (p = q))) := by
  refine acalls_w Tryz.func23 rfl (by decide) (fun E hE => ?_)
  simp only [Tryz.ntmps23, List.length_cons, List.length_nil, Nat.reduceAdd, Nat.reduceSub, List.replicate_succ, List.replicate_zero, List.cons_append, List.nil_append]
  have hlp : (p.map fnN).length = p.length := by simp
  have hlq : (q.map fnN).length = q.length := by simp
  have q0 := tf23; have q1 := tf3; have q2 := tf39; have q3 := tf37; have q4 := tf64
  repeat' (first | (refine r1_step rfl ?_) | (refine r1_guard hO rfl rfl (fun hb => ?_) (fun hb => ?_) <;> (first | (cases hb; done) | ((try simp only [Bool.not_true, Bool.not_false] at hb); (try simp only [hb]); first | (have hp := of_decide_eq_true hb; (try (exfalso; omega; done))) | (have hp := of_decide_eq_false hb; (try (exfalso; omega; done))) | skip))) | (refine r1_skip hO rfl rfl ?_) | ((try simp only [St.put, St.upd, St.new, St.app, killH, List.foldl_cons, List.foldl_nil, List.length_cons, List.length_nil, List.length_append, List.cons_append, List.nil_append, List.set_cons_succ, List.set_cons_zero, cast_succ, noFp, ba_size, List.length_map, Nat.reduceAdd, List.drop_zero, List.drop_succ_cons, List.map_cons, List.map_nil, Bool.not_true, Bool.not_false]); refine s1_next ?_) | (refine x1_move_c rfl rfl ?_) | (refine x1_assign_c rfl rfl ?_) | (refine x1_fld_o rfl (by assumption) rfl rfl (by decide) rfl ?_) | (refine x1_load_o rfl (by assumption) rfl rfl rfl rfl rfl ?_) | (refine x1_load_og rfl (by assumption) rfl rfl rfl rfl rfl ?_) | (refine x1_add rfl rfl rfl (by omega) (by omega) ?_) | (refine x1_pred rfl rfl rfl (by omega) ?_) | (refine x1_sub rfl rfl rfl (by omega) (by omega) ?_) | (refine x1_mul rfl rfl rfl (by omega) (by omega) ?_) | (refine x1_eqS rfl rfl rfl ?_) | (refine x1_neS rfl rfl rfl ?_) | (refine x1_bin rfl rfl rfl rfl ?_) | (refine x1_store rfl rfl (by assumption) rfl rfl rfl rfl rfl rfl ?_) | (refine x1_storeg rfl rfl (by assumption) rfl rfl rfl rfl rfl rfl ?_) | (refine x1_pick_t rfl rfl rfl ?_) | (refine x1_pick_f rfl rfl rfl ?_) | (refine x1_not rfl rfl ?_) | (refine x1_len rfl (by assumption) rfl rfl ?_) | (refine x1_ext_c rfl rfl rfl ?_) | (refine x1_ext_g rfl rfl rfl ?_) | (refine x1_move_g rfl rfl ?_) | (refine x1_move_u rfl rfl ?_) | (refine x1_assign_g rfl rfl ?_) | (refine x1_fld_i rfl (by assumption) rfl rfl (by decide) rfl ?_) | (refine x1_load_i rfl (by assumption) rfl rfl rfl ?_) | (refine x1_load_ig rfl (by assumption) rfl rfl rfl ?_) | (fail) | (refine r1_nil ?_; clear hO; refine hK _ ?_; clear hK K) | (refine r1_nil ⟨(by rw [hO]; kernel_rfl), ?_⟩; clear hO; refine hK _ ?_; clear hK K) | (refine w1_seq fun K hK => ?_) | (refine w1_region rfl (by kernel_rfl) fun OPS hO => ?_) | (refine w1_draw (by kernel_rfl) rfl (by kernel_rfl) fun OPS hO => ?_) | (refine w1_ret ?_) | (refine w1_skip ?_; refine hK _ ?_; clear hK K) | (refine w1_cond _ rfl (fun hb => ?_) (fun hb => ?_) <;> (first | (cases hb; done) | ((try simp only [Bool.not_true, Bool.not_false] at hb); (try simp only [hb]); first | (have hp := of_decide_eq_true hb; (try (exfalso; omega; done))) | (have hp := of_decide_eq_false hb; (try (exfalso; omega; done))) | skip))) | (refine w1_block ?_) | (refine w1_exit ?_; simp only [thenA, blockA, eq_self, reduceIte, if_true]; first | (refine hK _ ?_; clear hK K) | (clear hK K; refine hK _ ?_; clear hK K) | (clear hK K; clear hK K; refine hK _ ?_; clear hK K) | (clear hK K; clear hK K; clear hK K; refine hK _ ?_; clear hK K)) | (refine r1_nil ?_; clear hO) | (refine X1.mk ?_; simp only [Ex, ExC, St.ev, St.put, St.new, St.upd, St.app, St.hp, killH, AT.ofValue, isOne, loadA, fieldA, partA, indexA, elemOf?, addOff, cut, cellsA, storeA, appA, rowsA, lenA, lenOk, binA, fillA, placeS, partsA, zeroL, splice, chunk, blkOf, tf23, tf3, tf39, tf37, tf64, List.getD_cons_succ, List.getD_cons_zero, List.getElem?_cons_succ, List.getElem?_cons_zero, List.set_cons_succ, List.set_cons_zero, List.length_cons, List.length_nil, List.map_cons, List.map_nil, List.append_nil, List.nil_append, List.cons_append, List.drop_zero, List.drop_succ_cons, List.take_succ_cons, List.take_zero, List.replicate_succ, List.replicate_zero, List.flatten_cons, List.flatten_nil, List.foldl_cons, List.foldl_nil, List.cons.injEq, ba_size, List.all_cons, List.all_nil, List.length_map, List.length_append, List.getElem?_map, Option.some.injEq, Option.map_some, Option.map_none, Option.join_some, Option.join_none, Option.isSome_some, Bool.and_self, AT.c.injEq, AT.u.injEq, AT.g.injEq, AV.im.injEq, IV.v.injEq, Value.bool.injEq, Value.int.injEq, TK.sl.injEq, Prod.mk.injEq, exists_eq_left', exists_eq_left, exists_eq', exists_and_left, and_assoc, ite_true, if_true, ite_false, if_false, Bool.false_eq_true, true_and, and_true, eq_self, reduceIte, Bool.and_true, Bool.true_and, Bool.not_true, Bool.not_false, Int.natCast_nonneg, Int.toNat_natCast, Int.reduceToNat, Int.reduceLE, Int.reduceLT, Nat.reduceAdd, Nat.reduceMul, Nat.reduceLT, Nat.reduceLeDiff, Nat.reduceEqDiff, Nat.lt_irrefl, Nat.le_refl, Nat.zero_le, Nat.zero_add, Nat.add_zero, Nat.zero_mul, Nat.succ_ne_zero]; refine s1_next ?_))
  · have hne : decide (p = q) = false := decide_eq_false fun h => by subst h; omega
    rw [hne]
    exact end_ret (rs := [bT false]) rfl rfl (by repeat' constructor)
  have hpq : p.length = q.length := by omega
  refine w1_loop (α := {i : Nat // i ≤ p.length ∧ p.take i = q.take i}) (fun x => samF p q x.1) (fun x => p.length - x.1) ⟨0, by omega, by simp⟩ ?_ ?_
  · refine sub_base hE [] rfl (by decide) ?_ ?_
    · simp [samF, tmpsOf, subTs, subT, subA, renL]
    · simp [samF, subH]
  rintro ⟨i, hi, hT⟩
  simp only [samF, tmpsOf, List.foldl_cons, List.foldl_nil, List.replicate_succ, List.replicate_zero, List.set_cons_succ, List.set_cons_zero]
  by_cases hlt : i < p.length
  · obtain ⟨f, hf⟩ : ∃ f, p[i]? = some f := ⟨_, List.getElem?_eq_getElem hlt⟩
    obtain ⟨g, hg⟩ : ∃ g, q[i]? = some g := ⟨_, List.getElem?_eq_getElem (by omega)⟩
    have hfc := hpc f (List.mem_of_getElem? hf)
    have hgc := hqc g (List.mem_of_getElem? hg)
    have hix : (p.map fnN)[((i : Nat) : Int).toNat]? = some (fnN f) := by rw [Int.toNat_natCast, List.getElem?_map, hf]; rfl
    have hiy : (q.map fnN)[((i : Nat) : Int).toNat]? = some (fnN g) := by rw [Int.toNat_natCast, List.getElem?_map, hg]; rfl
    have hno : f ≠ g → decide (p = q) = false := fun h => decide_eq_false fun e => by subst e; rw [hf] at hg; injection hg with hg; exact h hg
    have hlf : (f.code.map insI).length = f.code.length := by simp
    have hlg : (g.code.map insI).length = g.code.length := by simp
    have q0 := tf23; have q1 := tf3; have q2 := tf39; have q3 := tf37; have q4 := tf64
    repeat' (first | (refine r1_step rfl ?_) | (refine r1_guard hO rfl rfl (fun hb => ?_) (fun hb => ?_) <;> (first | (cases hb; done) | ((try simp only [Bool.not_true, Bool.not_false] at hb); (try simp only [hb]); first | (have hp := of_decide_eq_true hb; (try (exfalso; omega; done))) | (have hp := of_decide_eq_false hb; (try (exfalso; omega; done))) | skip))) | (refine r1_skip hO rfl rfl ?_) | ((try simp only [St.put, St.upd, St.new, St.app, killH, List.foldl_cons, List.foldl_nil, List.length_cons, List.length_nil, List.length_append, List.cons_append, List.nil_append, List.set_cons_succ, List.set_cons_zero, cast_succ, noFp, ba_size, List.length_map, Nat.reduceAdd, List.drop_zero, List.drop_succ_cons, List.map_cons, List.map_nil, Bool.not_true, Bool.not_false]); refine s1_next ?_) | (refine x1_move_c rfl rfl ?_) | (refine x1_assign_c rfl rfl ?_) | (refine x1_fld_o rfl (by assumption) rfl rfl (by decide) rfl ?_) | (refine x1_load_o rfl (by assumption) rfl rfl rfl rfl rfl ?_) | (refine x1_load_og rfl (by assumption) rfl rfl rfl rfl rfl ?_) | (refine x1_add rfl rfl rfl (by omega) (by omega) ?_) | (refine x1_pred rfl rfl rfl (by omega) ?_) | (refine x1_sub rfl rfl rfl (by omega) (by omega) ?_) | (refine x1_mul rfl rfl rfl (by omega) (by omega) ?_) | (refine x1_eqS rfl rfl rfl ?_) | (refine x1_neS rfl rfl rfl ?_) | (refine x1_bin rfl rfl rfl rfl ?_) | (refine x1_store rfl rfl (by assumption) rfl rfl rfl rfl rfl rfl ?_) | (refine x1_storeg rfl rfl (by assumption) rfl rfl rfl rfl rfl rfl ?_) | (refine x1_pick_t rfl rfl rfl ?_) | (refine x1_pick_f rfl rfl rfl ?_) | (refine x1_not rfl rfl ?_) | (refine x1_len rfl (by assumption) rfl rfl ?_) | (refine x1_ext_c rfl rfl rfl ?_) | (refine x1_ext_g rfl rfl rfl ?_) | (refine x1_move_g rfl rfl ?_) | (refine x1_move_u rfl rfl ?_) | (refine x1_assign_g rfl rfl ?_) | (refine x1_fld_i rfl (by assumption) rfl rfl (by decide) rfl ?_) | (refine x1_load_i rfl (by assumption) rfl rfl rfl ?_) | (refine x1_load_ig rfl (by assumption) rfl rfl rfl ?_) | (refine x1_ix_n rfl tf23 rfl tf39 rfl rfl rfl (by omega) hix ?_) | (refine x1_ix_n rfl tf23 rfl tf39 rfl rfl rfl (by omega) hiy ?_) | (refine r1_nil ?_; clear hO; refine hK _ ?_; clear hK K) | (refine r1_nil ⟨(by rw [hO]; kernel_rfl), ?_⟩; clear hO; refine hK _ ?_; clear hK K) | (refine w1_seq fun K hK => ?_) | (refine w1_region rfl (by kernel_rfl) fun OPS hO => ?_) | (refine w1_draw (by kernel_rfl) rfl (by kernel_rfl) fun OPS hO => ?_) | (refine w1_ret ?_) | (refine w1_skip ?_; refine hK _ ?_; clear hK K) | (refine w1_cond _ rfl (fun hb => ?_) (fun hb => ?_) <;> (first | (cases hb; done) | ((try simp only [Bool.not_true, Bool.not_false] at hb); (try simp only [hb]); first | (have hp := of_decide_eq_true hb; (try (exfalso; omega; done))) | (have hp := of_decide_eq_false hb; (try (exfalso; omega; done))) | skip))) | (refine w1_block ?_) | (refine w1_exit ?_; simp only [thenA, blockA, eq_self, reduceIte, if_true]; first | (refine hK _ ?_; clear hK K) | (clear hK K; refine hK _ ?_; clear hK K) | (clear hK K; clear hK K; refine hK _ ?_; clear hK K) | (clear hK K; clear hK K; clear hK K; refine hK _ ?_; clear hK K)) | (refine r1_nil ?_; clear hO) | (refine X1.mk ?_; simp only [Ex, ExC, St.ev, St.put, St.new, St.upd, St.app, St.hp, killH, AT.ofValue, isOne, loadA, fieldA, partA, indexA, elemOf?, addOff, cut, cellsA, storeA, appA, rowsA, lenA, lenOk, binA, fillA, placeS, partsA, zeroL, splice, chunk, blkOf, tf23, tf3, tf39, tf37, tf64, List.getD_cons_succ, List.getD_cons_zero, List.getElem?_cons_succ, List.getElem?_cons_zero, List.set_cons_succ, List.set_cons_zero, List.length_cons, List.length_nil, List.map_cons, List.map_nil, List.append_nil, List.nil_append, List.cons_append, List.drop_zero, List.drop_succ_cons, List.take_succ_cons, List.take_zero, List.replicate_succ, List.replicate_zero, List.flatten_cons, List.flatten_nil, List.foldl_cons, List.foldl_nil, List.cons.injEq, ba_size, List.all_cons, List.all_nil, List.length_map, List.length_append, List.getElem?_map, Option.some.injEq, Option.map_some, Option.map_none, Option.join_some, Option.join_none, Option.isSome_some, Bool.and_self, AT.c.injEq, AT.u.injEq, AT.g.injEq, AV.im.injEq, IV.v.injEq, Value.bool.injEq, Value.int.injEq, TK.sl.injEq, Prod.mk.injEq, exists_eq_left', exists_eq_left, exists_eq', exists_and_left, and_assoc, ite_true, if_true, ite_false, if_false, Bool.false_eq_true, true_and, and_true, eq_self, reduceIte, Bool.and_true, Bool.true_and, Bool.not_true, Bool.not_false, Int.natCast_nonneg, Int.toNat_natCast, Int.reduceToNat, Int.reduceLE, Int.reduceLT, Nat.reduceAdd, Nat.reduceMul, Nat.reduceLT, Nat.reduceLeDiff, Nat.reduceEqDiff, Nat.lt_irrefl, Nat.le_refl, Nat.zero_le, Nat.zero_add, Nat.add_zero, Nat.zero_mul, Nat.succ_ne_zero]; refine s1_next ?_))
    · rw [hno fun e => by subst e; omega]
      exact end_ret (rs := [bT false]) rfl rfl (by repeat' constructor)
    · have hcl : f.code.length = g.code.length := by omega
      have hfld : f.ar = g.ar ∧ f.lo = g.lo ∧ f.sl = g.sl := by omega
      refine w1_loop (α := {k : Nat // k ≤ f.code.length ∧ f.code.take k = g.code.take k}) (fun x => samG p q f g i x.1) (fun x => f.code.length - x.1) ⟨0, by omega, by simp⟩ ?_ ?_
      · refine sub_base hE [some 0, some 1] rfl (by decide) ?_ ?_
        · simp [samG, tmpsOf, subTs, subT, subA, renL]
        · simp [samG, subH, subR, subAs, subA, renL, St.hp, fnN]
      rintro ⟨k, hk, hTk⟩
      simp only [samG, tmpsOf, List.foldl_cons, List.foldl_nil, List.replicate_succ, List.replicate_zero, List.set_cons_succ, List.set_cons_zero]
      by_cases hkl : k < f.code.length
      · obtain ⟨x, hx⟩ : ∃ x, f.code[k]? = some x := ⟨_, List.getElem?_eq_getElem hkl⟩
        obtain ⟨y, hy⟩ : ∃ y, g.code[k]? = some y := ⟨_, List.getElem?_eq_getElem (by omega)⟩
        have hkx : (f.code.map insI)[((k : Nat) : Int).toNat]? = some (insI x) := by rw [Int.toNat_natCast, List.getElem?_map, hx]; rfl
        have hky : (g.code.map insI)[((k : Nat) : Int).toNat]? = some (insI y) := by rw [Int.toNat_natCast, List.getElem?_map, hy]; rfl
        have q0 := tf23; have q1 := tf3; have q2 := tf39; have q3 := tf37; have q4 := tf64
        repeat' (first | (refine r1_step rfl ?_) | (refine r1_guard hO rfl rfl (fun hb => ?_) (fun hb => ?_) <;> (first | (cases hb; done) | ((try simp only [Bool.not_true, Bool.not_false] at hb); (try simp only [hb]); first | (have hp := of_decide_eq_true hb; (try (exfalso; omega; done))) | (have hp := of_decide_eq_false hb; (try (exfalso; omega; done))) | skip))) | (refine r1_skip hO rfl rfl ?_) | ((try simp only [St.put, St.upd, St.new, St.app, killH, List.foldl_cons, List.foldl_nil, List.length_cons, List.length_nil, List.length_append, List.cons_append, List.nil_append, List.set_cons_succ, List.set_cons_zero, cast_succ, noFp, ba_size, List.length_map, Nat.reduceAdd, List.drop_zero, List.drop_succ_cons, List.map_cons, List.map_nil, Bool.not_true, Bool.not_false]); refine s1_next ?_) | (refine x1_move_c rfl rfl ?_) | (refine x1_assign_c rfl rfl ?_) | (refine x1_fld_o rfl (by assumption) rfl rfl (by decide) rfl ?_) | (refine x1_load_o rfl (by assumption) rfl rfl rfl rfl rfl ?_) | (refine x1_load_og rfl (by assumption) rfl rfl rfl rfl rfl ?_) | (refine x1_add rfl rfl rfl (by omega) (by omega) ?_) | (refine x1_pred rfl rfl rfl (by omega) ?_) | (refine x1_sub rfl rfl rfl (by omega) (by omega) ?_) | (refine x1_mul rfl rfl rfl (by omega) (by omega) ?_) | (refine x1_eqS rfl rfl rfl ?_) | (refine x1_neS rfl rfl rfl ?_) | (refine x1_bin rfl rfl rfl rfl ?_) | (refine x1_store rfl rfl (by assumption) rfl rfl rfl rfl rfl rfl ?_) | (refine x1_storeg rfl rfl (by assumption) rfl rfl rfl rfl rfl rfl ?_) | (refine x1_pick_t rfl rfl rfl ?_) | (refine x1_pick_f rfl rfl rfl ?_) | (refine x1_not rfl rfl ?_) | (refine x1_len rfl (by assumption) rfl rfl ?_) | (refine x1_ext_c rfl rfl rfl ?_) | (refine x1_ext_g rfl rfl rfl ?_) | (refine x1_move_g rfl rfl ?_) | (refine x1_move_u rfl rfl ?_) | (refine x1_assign_g rfl rfl ?_) | (refine x1_fld_i rfl (by assumption) rfl rfl (by decide) rfl ?_) | (refine x1_load_i rfl (by assumption) rfl rfl rfl ?_) | (refine x1_load_ig rfl (by assumption) rfl rfl rfl ?_) | (refine x1_ix_n rfl tf37 rfl tf64 rfl rfl rfl (by omega) hkx ?_) | (refine x1_ix_n rfl tf37 rfl tf64 rfl rfl rfl (by omega) hky ?_) | (refine x1_neI (x := x) (y := y) rfl rfl rfl ?_) | (refine r1_nil ?_; clear hO; refine hK _ ?_; clear hK K) | (refine r1_nil ⟨(by rw [hO]; kernel_rfl), ?_⟩; clear hO; refine hK _ ?_; clear hK K) | (refine w1_seq fun K hK => ?_) | (refine w1_region rfl (by kernel_rfl) fun OPS hO => ?_) | (refine w1_draw (by kernel_rfl) rfl (by kernel_rfl) fun OPS hO => ?_) | (refine w1_ret ?_) | (refine w1_skip ?_; refine hK _ ?_; clear hK K) | (refine w1_cond _ rfl (fun hb => ?_) (fun hb => ?_) <;> (first | (cases hb; done) | ((try simp only [Bool.not_true, Bool.not_false] at hb); (try simp only [hb]); first | (have hp := of_decide_eq_true hb; (try (exfalso; omega; done))) | (have hp := of_decide_eq_false hb; (try (exfalso; omega; done))) | skip))) | (refine w1_block ?_) | (refine w1_exit ?_; simp only [thenA, blockA, eq_self, reduceIte, if_true]; first | (refine hK _ ?_; clear hK K) | (clear hK K; refine hK _ ?_; clear hK K) | (clear hK K; clear hK K; refine hK _ ?_; clear hK K) | (clear hK K; clear hK K; clear hK K; refine hK _ ?_; clear hK K)) | (refine r1_nil ?_; clear hO) | (refine X1.mk ?_; simp only [Ex, ExC, St.ev, St.put, St.new, St.upd, St.app, St.hp, killH, AT.ofValue, isOne, loadA, fieldA, partA, indexA, elemOf?, addOff, cut, cellsA, storeA, appA, rowsA, lenA, lenOk, binA, fillA, placeS, partsA, zeroL, splice, chunk, blkOf, tf23, tf3, tf39, tf37, tf64, List.getD_cons_succ, List.getD_cons_zero, List.getElem?_cons_succ, List.getElem?_cons_zero, List.set_cons_succ, List.set_cons_zero, List.length_cons, List.length_nil, List.map_cons, List.map_nil, List.append_nil, List.nil_append, List.cons_append, List.drop_zero, List.drop_succ_cons, List.take_succ_cons, List.take_zero, List.replicate_succ, List.replicate_zero, List.flatten_cons, List.flatten_nil, List.foldl_cons, List.foldl_nil, List.cons.injEq, ba_size, List.all_cons, List.all_nil, List.length_map, List.length_append, List.getElem?_map, Option.some.injEq, Option.map_some, Option.map_none, Option.join_some, Option.join_none, Option.isSome_some, Bool.and_self, AT.c.injEq, AT.u.injEq, AT.g.injEq, AV.im.injEq, IV.v.injEq, Value.bool.injEq, Value.int.injEq, TK.sl.injEq, Prod.mk.injEq, exists_eq_left', exists_eq_left, exists_eq', exists_and_left, and_assoc, ite_true, if_true, ite_false, if_false, Bool.false_eq_true, true_and, and_true, eq_self, reduceIte, Bool.and_true, Bool.true_and, Bool.not_true, Bool.not_false, Int.natCast_nonneg, Int.toNat_natCast, Int.reduceToNat, Int.reduceLE, Int.reduceLT, Nat.reduceAdd, Nat.reduceMul, Nat.reduceLT, Nat.reduceLeDiff, Nat.reduceEqDiff, Nat.lt_irrefl, Nat.le_refl, Nat.zero_le, Nat.zero_add, Nat.add_zero, Nat.zero_mul, Nat.succ_ne_zero]; refine s1_next ?_))
        · have hh : (!decide (x = y)) = true := by assumption
          have hxy : x ≠ y := by simpa using hh
          rw [hno fun e => by subst e; rw [hx] at hy; injection hy with hy; exact hxy hy]
          exact end_ret (rs := [bT false]) rfl rfl (by repeat' constructor)
        · have hh : (!decide (x = y)) = false := by assumption
          have hxy : x = y := by simpa using hh
          have hm : f.code.length - (k + 1) < f.code.length - k := by omega
          refine ⟨⟨k + 1, by omega, take_next hTk hx (hxy ▸ hy)⟩, hm, sub_base hE [some 0, some 1] rfl (by decide) ?_ ?_⟩
          · simp [subTs, subT, subA, renL]
          · simp [subH, subR, subAs, subA, renL, St.hp, fnN]
      · have hfg : f = g := by
          have e1 : k = f.code.length := by omega
          rw [e1, List.take_length, hcl, List.take_length] at hTk
          obtain ⟨a, b, c, d⟩ := f
          obtain ⟨a', b', c', d'⟩ := g
          simp only at hfld hTk
          rw [hfld.1, hfld.2.1, hfld.2.2, hTk]
        have hm : p.length - (i + 1) < p.length - i := by omega
        have q0 := tf23; have q1 := tf3; have q2 := tf39; have q3 := tf37; have q4 := tf64
        repeat' (first | (refine r1_step rfl ?_) | (refine r1_guard hO rfl rfl (fun hb => ?_) (fun hb => ?_) <;> (first | (cases hb; done) | ((try simp only [Bool.not_true, Bool.not_false] at hb); (try simp only [hb]); first | (have hp := of_decide_eq_true hb; (try (exfalso; omega; done))) | (have hp := of_decide_eq_false hb; (try (exfalso; omega; done))) | skip))) | (refine r1_skip hO rfl rfl ?_) | ((try simp only [St.put, St.upd, St.new, St.app, killH, List.foldl_cons, List.foldl_nil, List.length_cons, List.length_nil, List.length_append, List.cons_append, List.nil_append, List.set_cons_succ, List.set_cons_zero, cast_succ, noFp, ba_size, List.length_map, Nat.reduceAdd, List.drop_zero, List.drop_succ_cons, List.map_cons, List.map_nil, Bool.not_true, Bool.not_false]); refine s1_next ?_) | (refine x1_move_c rfl rfl ?_) | (refine x1_assign_c rfl rfl ?_) | (refine x1_fld_o rfl (by assumption) rfl rfl (by decide) rfl ?_) | (refine x1_load_o rfl (by assumption) rfl rfl rfl rfl rfl ?_) | (refine x1_load_og rfl (by assumption) rfl rfl rfl rfl rfl ?_) | (refine x1_add rfl rfl rfl (by omega) (by omega) ?_) | (refine x1_pred rfl rfl rfl (by omega) ?_) | (refine x1_sub rfl rfl rfl (by omega) (by omega) ?_) | (refine x1_mul rfl rfl rfl (by omega) (by omega) ?_) | (refine x1_eqS rfl rfl rfl ?_) | (refine x1_neS rfl rfl rfl ?_) | (refine x1_bin rfl rfl rfl rfl ?_) | (refine x1_store rfl rfl (by assumption) rfl rfl rfl rfl rfl rfl ?_) | (refine x1_storeg rfl rfl (by assumption) rfl rfl rfl rfl rfl rfl ?_) | (refine x1_pick_t rfl rfl rfl ?_) | (refine x1_pick_f rfl rfl rfl ?_) | (refine x1_not rfl rfl ?_) | (refine x1_len rfl (by assumption) rfl rfl ?_) | (refine x1_ext_c rfl rfl rfl ?_) | (refine x1_ext_g rfl rfl rfl ?_) | (refine x1_move_g rfl rfl ?_) | (refine x1_move_u rfl rfl ?_) | (refine x1_assign_g rfl rfl ?_) | (refine x1_fld_i rfl (by assumption) rfl rfl (by decide) rfl ?_) | (refine x1_load_i rfl (by assumption) rfl rfl rfl ?_) | (refine x1_load_ig rfl (by assumption) rfl rfl rfl ?_) | (fail) | (refine r1_nil ?_; clear hO; refine hK _ ?_; clear hK K) | (refine r1_nil ⟨(by rw [hO]; kernel_rfl), ?_⟩; clear hO; refine hK _ ?_; clear hK K) | (refine w1_seq fun K hK => ?_) | (refine w1_region rfl (by kernel_rfl) fun OPS hO => ?_) | (refine w1_draw (by kernel_rfl) rfl (by kernel_rfl) fun OPS hO => ?_) | (refine w1_ret ?_) | (refine w1_skip ?_; refine hK _ ?_; clear hK K) | (refine w1_cond _ rfl (fun hb => ?_) (fun hb => ?_) <;> (first | (cases hb; done) | ((try simp only [Bool.not_true, Bool.not_false] at hb); (try simp only [hb]); first | (have hp := of_decide_eq_true hb; (try (exfalso; omega; done))) | (have hp := of_decide_eq_false hb; (try (exfalso; omega; done))) | skip))) | (refine w1_block ?_) | (refine w1_exit ?_; simp only [thenA, blockA, eq_self, reduceIte, if_true]; first | (refine hK _ ?_; clear hK K) | (clear hK K; refine hK _ ?_; clear hK K) | (clear hK K; clear hK K; refine hK _ ?_; clear hK K) | (clear hK K; clear hK K; clear hK K; refine hK _ ?_; clear hK K)) | (refine r1_nil ?_; clear hO) | (refine X1.mk ?_; simp only [Ex, ExC, St.ev, St.put, St.new, St.upd, St.app, St.hp, killH, AT.ofValue, isOne, loadA, fieldA, partA, indexA, elemOf?, addOff, cut, cellsA, storeA, appA, rowsA, lenA, lenOk, binA, fillA, placeS, partsA, zeroL, splice, chunk, blkOf, tf23, tf3, tf39, tf37, tf64, List.getD_cons_succ, List.getD_cons_zero, List.getElem?_cons_succ, List.getElem?_cons_zero, List.set_cons_succ, List.set_cons_zero, List.length_cons, List.length_nil, List.map_cons, List.map_nil, List.append_nil, List.nil_append, List.cons_append, List.drop_zero, List.drop_succ_cons, List.take_succ_cons, List.take_zero, List.replicate_succ, List.replicate_zero, List.flatten_cons, List.flatten_nil, List.foldl_cons, List.foldl_nil, List.cons.injEq, ba_size, List.all_cons, List.all_nil, List.length_map, List.length_append, List.getElem?_map, Option.some.injEq, Option.map_some, Option.map_none, Option.join_some, Option.join_none, Option.isSome_some, Bool.and_self, AT.c.injEq, AT.u.injEq, AT.g.injEq, AV.im.injEq, IV.v.injEq, Value.bool.injEq, Value.int.injEq, TK.sl.injEq, Prod.mk.injEq, exists_eq_left', exists_eq_left, exists_eq', exists_and_left, and_assoc, ite_true, if_true, ite_false, if_false, Bool.false_eq_true, true_and, and_true, eq_self, reduceIte, Bool.and_true, Bool.true_and, Bool.not_true, Bool.not_false, Int.natCast_nonneg, Int.toNat_natCast, Int.reduceToNat, Int.reduceLE, Int.reduceLT, Nat.reduceAdd, Nat.reduceMul, Nat.reduceLT, Nat.reduceLeDiff, Nat.reduceEqDiff, Nat.lt_irrefl, Nat.le_refl, Nat.zero_le, Nat.zero_add, Nat.add_zero, Nat.zero_mul, Nat.succ_ne_zero]; refine s1_next ?_))
        · refine ⟨⟨i + 1, by omega, take_next hT hf (hfg ▸ hg)⟩, hm, sub_base hE [] rfl (by decide) ?_ ?_⟩
          · simp [subTs, subT, subA, renL]
          · simp [subH]
    · rw [hno fun e => by subst e; omega]
      exact end_ret (rs := [bT false]) rfl rfl (by repeat' constructor)
    · rw [hno fun e => by subst e; omega]
      exact end_ret (rs := [bT false]) rfl rfl (by repeat' constructor)
    · rw [hno fun e => by subst e; omega]
      exact end_ret (rs := [bT false]) rfl rfl (by repeat' constructor)
  · have he : p = q := by
      have e1 : i = p.length := by omega
      rw [e1, List.take_length, hpq, List.take_length] at hT
      exact hT
    have q0 := tf23; have q1 := tf3; have q2 := tf39; have q3 := tf37; have q4 := tf64
    repeat' (first | (refine r1_step rfl ?_) | (refine r1_guard hO rfl rfl (fun hb => ?_) (fun hb => ?_) <;> (first | (cases hb; done) | ((try simp only [Bool.not_true, Bool.not_false] at hb); (try simp only [hb]); first | (have hp := of_decide_eq_true hb; (try (exfalso; omega; done))) | (have hp := of_decide_eq_false hb; (try (exfalso; omega; done))) | skip))) | (refine r1_skip hO rfl rfl ?_) | ((try simp only [St.put, St.upd, St.new, St.app, killH, List.foldl_cons, List.foldl_nil, List.length_cons, List.length_nil, List.length_append, List.cons_append, List.nil_append, List.set_cons_succ, List.set_cons_zero, cast_succ, noFp, ba_size, List.length_map, Nat.reduceAdd, List.drop_zero, List.drop_succ_cons, List.map_cons, List.map_nil, Bool.not_true, Bool.not_false]); refine s1_next ?_) | (refine x1_move_c rfl rfl ?_) | (refine x1_assign_c rfl rfl ?_) | (refine x1_fld_o rfl (by assumption) rfl rfl (by decide) rfl ?_) | (refine x1_load_o rfl (by assumption) rfl rfl rfl rfl rfl ?_) | (refine x1_load_og rfl (by assumption) rfl rfl rfl rfl rfl ?_) | (refine x1_add rfl rfl rfl (by omega) (by omega) ?_) | (refine x1_pred rfl rfl rfl (by omega) ?_) | (refine x1_sub rfl rfl rfl (by omega) (by omega) ?_) | (refine x1_mul rfl rfl rfl (by omega) (by omega) ?_) | (refine x1_eqS rfl rfl rfl ?_) | (refine x1_neS rfl rfl rfl ?_) | (refine x1_bin rfl rfl rfl rfl ?_) | (refine x1_store rfl rfl (by assumption) rfl rfl rfl rfl rfl rfl ?_) | (refine x1_storeg rfl rfl (by assumption) rfl rfl rfl rfl rfl rfl ?_) | (refine x1_pick_t rfl rfl rfl ?_) | (refine x1_pick_f rfl rfl rfl ?_) | (refine x1_not rfl rfl ?_) | (refine x1_len rfl (by assumption) rfl rfl ?_) | (refine x1_ext_c rfl rfl rfl ?_) | (refine x1_ext_g rfl rfl rfl ?_) | (refine x1_move_g rfl rfl ?_) | (refine x1_move_u rfl rfl ?_) | (refine x1_assign_g rfl rfl ?_) | (refine x1_fld_i rfl (by assumption) rfl rfl (by decide) rfl ?_) | (refine x1_load_i rfl (by assumption) rfl rfl rfl ?_) | (refine x1_load_ig rfl (by assumption) rfl rfl rfl ?_) | (fail) | (refine r1_nil ?_; clear hO; refine hK _ ?_; clear hK K) | (refine r1_nil ⟨(by rw [hO]; kernel_rfl), ?_⟩; clear hO; refine hK _ ?_; clear hK K) | (refine w1_seq fun K hK => ?_) | (refine w1_region rfl (by kernel_rfl) fun OPS hO => ?_) | (refine w1_draw (by kernel_rfl) rfl (by kernel_rfl) fun OPS hO => ?_) | (refine w1_ret ?_) | (refine w1_skip ?_; refine hK _ ?_; clear hK K) | (refine w1_cond _ rfl (fun hb => ?_) (fun hb => ?_) <;> (first | (cases hb; done) | ((try simp only [Bool.not_true, Bool.not_false] at hb); (try simp only [hb]); first | (have hp := of_decide_eq_true hb; (try (exfalso; omega; done))) | (have hp := of_decide_eq_false hb; (try (exfalso; omega; done))) | skip))) | (refine w1_block ?_) | (refine w1_exit ?_; simp only [thenA, blockA, eq_self, reduceIte, if_true]; first | (refine hK _ ?_; clear hK K) | (clear hK K; refine hK _ ?_; clear hK K) | (clear hK K; clear hK K; refine hK _ ?_; clear hK K) | (clear hK K; clear hK K; clear hK K; refine hK _ ?_; clear hK K)) | (refine r1_nil ?_; clear hO) | (refine X1.mk ?_; simp only [Ex, ExC, St.ev, St.put, St.new, St.upd, St.app, St.hp, killH, AT.ofValue, isOne, loadA, fieldA, partA, indexA, elemOf?, addOff, cut, cellsA, storeA, appA, rowsA, lenA, lenOk, binA, fillA, placeS, partsA, zeroL, splice, chunk, blkOf, tf23, tf3, tf39, tf37, tf64, List.getD_cons_succ, List.getD_cons_zero, List.getElem?_cons_succ, List.getElem?_cons_zero, List.set_cons_succ, List.set_cons_zero, List.length_cons, List.length_nil, List.map_cons, List.map_nil, List.append_nil, List.nil_append, List.cons_append, List.drop_zero, List.drop_succ_cons, List.take_succ_cons, List.take_zero, List.replicate_succ, List.replicate_zero, List.flatten_cons, List.flatten_nil, List.foldl_cons, List.foldl_nil, List.cons.injEq, ba_size, List.all_cons, List.all_nil, List.length_map, List.length_append, List.getElem?_map, Option.some.injEq, Option.map_some, Option.map_none, Option.join_some, Option.join_none, Option.isSome_some, Bool.and_self, AT.c.injEq, AT.u.injEq, AT.g.injEq, AV.im.injEq, IV.v.injEq, Value.bool.injEq, Value.int.injEq, TK.sl.injEq, Prod.mk.injEq, exists_eq_left', exists_eq_left, exists_eq', exists_and_left, and_assoc, ite_true, if_true, ite_false, if_false, Bool.false_eq_true, true_and, and_true, eq_self, reduceIte, Bool.and_true, Bool.true_and, Bool.not_true, Bool.not_false, Int.natCast_nonneg, Int.toNat_natCast, Int.reduceToNat, Int.reduceLE, Int.reduceLT, Nat.reduceAdd, Nat.reduceMul, Nat.reduceLT, Nat.reduceLeDiff, Nat.reduceEqDiff, Nat.lt_irrefl, Nat.le_refl, Nat.zero_le, Nat.zero_add, Nat.add_zero, Nat.zero_mul, Nat.succ_ne_zero]; refine s1_next ?_))
    · rw [decide_eq_true he]
      exact end_ret (rs := [bT true]) rfl rfl (by repeat' constructor)
end Go.Proofs.YtedkfipjooafeaaGreatDoor.Ab
set_option linter.unusedSimpArgs false
set_option linter.unusedVariables false
namespace Go.Proofs.YtedkfipjooafeaaGreatDoor.Ab
open Go Go.RowKit Go.Proofs.YtedkfipjooafeaaGreatDoor Go.Proofs.YtedkfipjooafeaaGreatDoor.Code Go.Proofs.YtedkfipjooafeaaGreatDoor.Op

theorem eta3 {α β γ : Type} (x : α × β × γ) : x = (x.1, x.2.1, x.2.2) := rfl
theorem opFields_bd (n : Int) : 0 ≤ opFields n ∧ opFields n ≤ 2 := by rcases fields_len n with h | h | h <;> omega
set_option maxRecDepth 20000 in
set_option maxHeartbeats 16000000 in
theorem instrR_a (s : B) (i : Nat) (e : Int) (hi : i ≤ s.length) (hs : s.length ≤ 9223372036854775000) :
    ACalls Tryz.prog 66 [atG s i e] (.u [insG (insS s i e).1, atG s (insS s i e).2.1 (insS s i e).2.2]) := by
  refine acalls_w Tryz.func66 rfl (by decide) (fun E hE => ?_)
  simp only [Tryz.ntmps66, List.length_cons, List.length_nil, Nat.reduceAdd, Nat.reduceSub, List.replicate_succ, List.replicate_zero, List.cons_append, List.nil_append]
  by_cases hlt : i < s.length
  · obtain ⟨c, hc⟩ : ∃ c, s[i]? = some c := ⟨_, List.getElem?_eq_getElem hlt⟩
    have hcl : c.toNat < 256 := c.toNat_lt
    have ho := opFields_bd c.toNat
    have hout : ¬ c.toNat < 17 → opFields c.toNat = 0 := fun h => by unfold opFields isOp; rw [if_neg (by simp; omega)]
    by_cases he : e = 0
    · subst he
      by_cases hf : c.toNat < 17
      · clear hout
        have q0 := tf55; have q1 := tf64; have q2 := tf3; have q3 := tf26; have q4 := tf9
        repeat' (first | (refine r1_step rfl ?_) | (refine r1_guard hO rfl rfl (fun hb => ?_) (fun hb => ?_) <;> (first | (cases hb; done) | ((try simp only [Bool.not_true, Bool.not_false] at hb); (try simp only [hb]); first | (have hp := of_decide_eq_true hb; (try (exfalso; omega; done))) | (have hp := of_decide_eq_false hb; (try (exfalso; omega; done))) | skip))) | (refine r1_skip hO rfl rfl ?_) | ((try simp only [St.put, St.upd, St.new, St.app, killH, List.foldl_cons, List.foldl_nil, List.length_cons, List.length_nil, List.length_append, List.cons_append, List.nil_append, List.set_cons_succ, List.set_cons_zero, cast_succ, noFp, ba_size, List.length_map, Nat.reduceAdd, List.drop_zero, List.drop_succ_cons, List.map_cons, List.map_nil, Bool.not_true, Bool.not_false]); refine s1_next ?_) | (refine x1_move_c rfl rfl ?_) | (refine x1_assign_c rfl rfl ?_) | (refine x1_fld_o rfl (by assumption) rfl rfl (by decide) rfl ?_) | (refine x1_load_o rfl (by assumption) rfl rfl rfl rfl rfl ?_) | (refine x1_load_og rfl (by assumption) rfl rfl rfl rfl rfl ?_) | (refine x1_add rfl rfl rfl (by omega) (by omega) ?_) | (refine x1_pred rfl rfl rfl (by omega) ?_) | (refine x1_sub rfl rfl rfl (by omega) (by omega) ?_) | (refine x1_mul rfl rfl rfl (by omega) (by omega) ?_) | (refine x1_eqS rfl rfl rfl ?_) | (refine x1_neS rfl rfl rfl ?_) | (refine x1_bin rfl rfl rfl rfl ?_) | (refine x1_store rfl rfl (by assumption) rfl rfl rfl rfl rfl rfl ?_) | (refine x1_storeg rfl rfl (by assumption) rfl rfl rfl rfl rfl rfl ?_) | (refine x1_pick_t rfl rfl rfl ?_) | (refine x1_pick_f rfl rfl rfl ?_) | (refine x1_not rfl rfl ?_) | (refine x1_len rfl (by assumption) rfl rfl ?_) | (refine x1_ext_c rfl rfl rfl ?_) | (refine x1_ext_g rfl rfl rfl ?_) | (refine x1_move_g rfl rfl ?_) | (refine x1_move_u rfl rfl ?_) | (refine x1_assign_g rfl rfl ?_) | (refine x1_fld_i rfl (by assumption) rfl rfl (by decide) rfl ?_) | (refine x1_load_i rfl (by assumption) rfl rfl rfl ?_) | (refine x1_load_ig rfl (by assumption) rfl rfl rfl ?_) | (refine x1_byte rfl tf9 rfl rfl rfl (by omega) (c := c) (by simpa using hc) ?_) | (refine x1_conv rfl Tryz.underlying5 Tryz.underlying3 rfl ?_; rw [wrap_u8]) | (refine x1_call rfl rfl (fieldsR_a _) rfl (by repeat' constructor) ?_) | (refine x1_call rfl rfl (mayIR_a ⟨_, _, _⟩) rfl (by repeat' constructor) ?_) | (refine x1_call rfl rfl (numberR_a s _ _ _ _ (by first | omega | exact numS_le (by omega)) hs) rfl (by repeat' constructor) ?_) | (refine r1_nil ?_; clear hO; refine hK _ ?_; clear hK K) | (refine r1_nil ⟨(by rw [hO]; kernel_rfl), ?_⟩; clear hO; refine hK _ ?_; clear hK K) | (refine w1_seq fun K hK => ?_) | (refine w1_region rfl (by kernel_rfl) fun OPS hO => ?_) | (refine w1_draw (by kernel_rfl) rfl (by kernel_rfl) fun OPS hO => ?_) | (refine w1_ret ?_) | (refine w1_skip ?_; refine hK _ ?_; clear hK K) | (refine w1_cond _ rfl (fun hb => ?_) (fun hb => ?_) <;> (first | (cases hb; done) | ((try simp only [Bool.not_true, Bool.not_false] at hb); (try simp only [hb]); first | (have hp := of_decide_eq_true hb; (try (exfalso; omega; done))) | (have hp := of_decide_eq_false hb; (try (exfalso; omega; done))) | skip))) | (refine w1_block ?_) | (refine w1_exit ?_; simp only [thenA, blockA, eq_self, reduceIte, if_true]; first | (refine hK _ ?_; clear hK K) | (clear hK K; refine hK _ ?_; clear hK K) | (clear hK K; clear hK K; refine hK _ ?_; clear hK K) | (clear hK K; clear hK K; clear hK K; refine hK _ ?_; clear hK K)) | (refine r1_nil ?_; clear hO) | (refine X1.mk ?_; simp only [Ex, ExC, St.ev, St.put, St.new, St.upd, St.app, St.hp, killH, AT.ofValue, isOne, loadA, fieldA, partA, indexA, elemOf?, addOff, cut, cellsA, storeA, appA, rowsA, lenA, lenOk, binA, fillA, placeS, partsA, zeroL, splice, chunk, blkOf, tf55, tf64, tf3, tf26, tf9, List.getD_cons_succ, List.getD_cons_zero, List.getElem?_cons_succ, List.getElem?_cons_zero, List.set_cons_succ, List.set_cons_zero, List.length_cons, List.length_nil, List.map_cons, List.map_nil, List.append_nil, List.nil_append, List.cons_append, List.drop_zero, List.drop_succ_cons, List.take_succ_cons, List.take_zero, List.replicate_succ, List.replicate_zero, List.flatten_cons, List.flatten_nil, List.foldl_cons, List.foldl_nil, List.cons.injEq, ba_size, List.all_cons, List.all_nil, List.length_map, List.length_append, List.getElem?_map, Option.some.injEq, Option.map_some, Option.map_none, Option.join_some, Option.join_none, Option.isSome_some, Bool.and_self, AT.c.injEq, AT.u.injEq, AT.g.injEq, AV.im.injEq, IV.v.injEq, Value.bool.injEq, Value.int.injEq, TK.sl.injEq, Prod.mk.injEq, exists_eq_left', exists_eq_left, exists_eq', exists_and_left, and_assoc, ite_true, if_true, ite_false, if_false, Bool.false_eq_true, true_and, and_true, eq_self, reduceIte, Bool.and_true, Bool.true_and, Bool.not_true, Bool.not_false, Int.natCast_nonneg, Int.toNat_natCast, Int.reduceToNat, Int.reduceLE, Int.reduceLT, Nat.reduceAdd, Nat.reduceMul, Nat.reduceLT, Nat.reduceLeDiff, Nat.reduceEqDiff, Nat.lt_irrefl, Nat.le_refl, Nat.zero_le, Nat.zero_add, Nat.add_zero, Nat.zero_mul, Nat.succ_ne_zero]; refine s1_next ?_))
        all_goals refine end_ret (rs := [.g [_, _, _], .g [_, _, _]]) rfl ?_ (by repeat' constructor)
        all_goals show AT.u _ = AT.u _
        all_goals (try simp only [Bool.not_eq_true', Bool.not_eq_false'] at *)
        all_goals first
          | (rw [insS_0 hc hf (by omega)] <;> rfl)
          | (rw [insS_1 hc hf (by omega) (eta3 _)]; simp_all [mustE]; done)
          | (rw [insS_2 hc hf (by omega) (eta3 _) (eta3 _)]; simp_all [mustE]; done)
      · have h0 := hout hf
        have q0 := tf55; have q1 := tf64; have q2 := tf3; have q3 := tf26; have q4 := tf9
        repeat' (first | (refine r1_step rfl ?_) | (refine r1_guard hO rfl rfl (fun hb => ?_) (fun hb => ?_) <;> (first | (cases hb; done) | ((try simp only [Bool.not_true, Bool.not_false] at hb); (try simp only [hb]); first | (have hp := of_decide_eq_true hb; (try (exfalso; omega; done))) | (have hp := of_decide_eq_false hb; (try (exfalso; omega; done))) | skip))) | (refine r1_skip hO rfl rfl ?_) | ((try simp only [St.put, St.upd, St.new, St.app, killH, List.foldl_cons, List.foldl_nil, List.length_cons, List.length_nil, List.length_append, List.cons_append, List.nil_append, List.set_cons_succ, List.set_cons_zero, cast_succ, noFp, ba_size, List.length_map, Nat.reduceAdd, List.drop_zero, List.drop_succ_cons, List.map_cons, List.map_nil, Bool.not_true, Bool.not_false]); refine s1_next ?_) | (refine x1_move_c rfl rfl ?_) | (refine x1_assign_c rfl rfl ?_) | (refine x1_fld_o rfl (by assumption) rfl rfl (by decide) rfl ?_) | (refine x1_load_o rfl (by assumption) rfl rfl rfl rfl rfl ?_) | (refine x1_load_og rfl (by assumption) rfl rfl rfl rfl rfl ?_) | (refine x1_add rfl rfl rfl (by omega) (by omega) ?_) | (refine x1_pred rfl rfl rfl (by omega) ?_) | (refine x1_sub rfl rfl rfl (by omega) (by omega) ?_) | (refine x1_mul rfl rfl rfl (by omega) (by omega) ?_) | (refine x1_eqS rfl rfl rfl ?_) | (refine x1_neS rfl rfl rfl ?_) | (refine x1_bin rfl rfl rfl rfl ?_) | (refine x1_store rfl rfl (by assumption) rfl rfl rfl rfl rfl rfl ?_) | (refine x1_storeg rfl rfl (by assumption) rfl rfl rfl rfl rfl rfl ?_) | (refine x1_pick_t rfl rfl rfl ?_) | (refine x1_pick_f rfl rfl rfl ?_) | (refine x1_not rfl rfl ?_) | (refine x1_len rfl (by assumption) rfl rfl ?_) | (refine x1_ext_c rfl rfl rfl ?_) | (refine x1_ext_g rfl rfl rfl ?_) | (refine x1_move_g rfl rfl ?_) | (refine x1_move_u rfl rfl ?_) | (refine x1_assign_g rfl rfl ?_) | (refine x1_fld_i rfl (by assumption) rfl rfl (by decide) rfl ?_) | (refine x1_load_i rfl (by assumption) rfl rfl rfl ?_) | (refine x1_load_ig rfl (by assumption) rfl rfl rfl ?_) | (refine x1_byte rfl tf9 rfl rfl rfl (by omega) (c := c) (by simpa using hc) ?_) | (refine x1_conv rfl Tryz.underlying5 Tryz.underlying3 rfl ?_; rw [wrap_u8]) | (refine x1_call rfl rfl (fieldsR_a _) rfl (by repeat' constructor) ?_) | (refine x1_call rfl rfl (mayIR_a ⟨_, _, _⟩) rfl (by repeat' constructor) ?_) | (refine x1_call rfl rfl (numberR_a s _ _ _ _ (by first | omega | exact numS_le (by omega)) hs) rfl (by repeat' constructor) ?_) | (refine r1_nil ?_; clear hO; refine hK _ ?_; clear hK K) | (refine r1_nil ⟨(by rw [hO]; kernel_rfl), ?_⟩; clear hO; refine hK _ ?_; clear hK K) | (refine w1_seq fun K hK => ?_) | (refine w1_region rfl (by kernel_rfl) fun OPS hO => ?_) | (refine w1_draw (by kernel_rfl) rfl (by kernel_rfl) fun OPS hO => ?_) | (refine w1_ret ?_) | (refine w1_skip ?_; refine hK _ ?_; clear hK K) | (refine w1_cond _ rfl (fun hb => ?_) (fun hb => ?_) <;> (first | (cases hb; done) | ((try simp only [Bool.not_true, Bool.not_false] at hb); (try simp only [hb]); first | (have hp := of_decide_eq_true hb; (try (exfalso; omega; done))) | (have hp := of_decide_eq_false hb; (try (exfalso; omega; done))) | skip))) | (refine w1_block ?_) | (refine w1_exit ?_; simp only [thenA, blockA, eq_self, reduceIte, if_true]; first | (refine hK _ ?_; clear hK K) | (clear hK K; refine hK _ ?_; clear hK K) | (clear hK K; clear hK K; refine hK _ ?_; clear hK K) | (clear hK K; clear hK K; clear hK K; refine hK _ ?_; clear hK K)) | (refine r1_nil ?_; clear hO) | (refine X1.mk ?_; simp only [Ex, ExC, St.ev, St.put, St.new, St.upd, St.app, St.hp, killH, AT.ofValue, isOne, loadA, fieldA, partA, indexA, elemOf?, addOff, cut, cellsA, storeA, appA, rowsA, lenA, lenOk, binA, fillA, placeS, partsA, zeroL, splice, chunk, blkOf, tf55, tf64, tf3, tf26, tf9, List.getD_cons_succ, List.getD_cons_zero, List.getElem?_cons_succ, List.getElem?_cons_zero, List.set_cons_succ, List.set_cons_zero, List.length_cons, List.length_nil, List.map_cons, List.map_nil, List.append_nil, List.nil_append, List.cons_append, List.drop_zero, List.drop_succ_cons, List.take_succ_cons, List.take_zero, List.replicate_succ, List.replicate_zero, List.flatten_cons, List.flatten_nil, List.foldl_cons, List.foldl_nil, List.cons.injEq, ba_size, List.all_cons, List.all_nil, List.length_map, List.length_append, List.getElem?_map, Option.some.injEq, Option.map_some, Option.map_none, Option.join_some, Option.join_none, Option.isSome_some, Bool.and_self, AT.c.injEq, AT.u.injEq, AT.g.injEq, AV.im.injEq, IV.v.injEq, Value.bool.injEq, Value.int.injEq, TK.sl.injEq, Prod.mk.injEq, exists_eq_left', exists_eq_left, exists_eq', exists_and_left, and_assoc, ite_true, if_true, ite_false, if_false, Bool.false_eq_true, true_and, and_true, eq_self, reduceIte, Bool.and_true, Bool.true_and, Bool.not_true, Bool.not_false, Int.natCast_nonneg, Int.toNat_natCast, Int.reduceToNat, Int.reduceLE, Int.reduceLT, Nat.reduceAdd, Nat.reduceMul, Nat.reduceLT, Nat.reduceLeDiff, Nat.reduceEqDiff, Nat.lt_irrefl, Nat.le_refl, Nat.zero_le, Nat.zero_add, Nat.add_zero, Nat.zero_mul, Nat.succ_ne_zero]; refine s1_next ?_))
        all_goals refine end_ret (rs := [.g [_, _, _], .g [_, _, _]]) rfl ?_ (by repeat' constructor)
        all_goals show AT.u _ = AT.u _
        all_goals (rw [insS_out hc hf] <;> rfl)
    · skip
      have q0 := tf55; have q1 := tf64; have q2 := tf3; have q3 := tf26; have q4 := tf9
      repeat' (first | (refine r1_step rfl ?_) | (refine r1_guard hO rfl rfl (fun hb => ?_) (fun hb => ?_) <;> (first | (cases hb; done) | ((try simp only [Bool.not_true, Bool.not_false] at hb); (try simp only [hb]); first | (have hp := of_decide_eq_true hb; (try (exfalso; omega; done))) | (have hp := of_decide_eq_false hb; (try (exfalso; omega; done))) | skip))) | (refine r1_skip hO rfl rfl ?_) | ((try simp only [St.put, St.upd, St.new, St.app, killH, List.foldl_cons, List.foldl_nil, List.length_cons, List.length_nil, List.length_append, List.cons_append, List.nil_append, List.set_cons_succ, List.set_cons_zero, cast_succ, noFp, ba_size, List.length_map, Nat.reduceAdd, List.drop_zero, List.drop_succ_cons, List.map_cons, List.map_nil, Bool.not_true, Bool.not_false]); refine s1_next ?_) | (refine x1_move_c rfl rfl ?_) | (refine x1_assign_c rfl rfl ?_) | (refine x1_fld_o rfl (by assumption) rfl rfl (by decide) rfl ?_) | (refine x1_load_o rfl (by assumption) rfl rfl rfl rfl rfl ?_) | (refine x1_load_og rfl (by assumption) rfl rfl rfl rfl rfl ?_) | (refine x1_add rfl rfl rfl (by omega) (by omega) ?_) | (refine x1_pred rfl rfl rfl (by omega) ?_) | (refine x1_sub rfl rfl rfl (by omega) (by omega) ?_) | (refine x1_mul rfl rfl rfl (by omega) (by omega) ?_) | (refine x1_eqS rfl rfl rfl ?_) | (refine x1_neS rfl rfl rfl ?_) | (refine x1_bin rfl rfl rfl rfl ?_) | (refine x1_store rfl rfl (by assumption) rfl rfl rfl rfl rfl rfl ?_) | (refine x1_storeg rfl rfl (by assumption) rfl rfl rfl rfl rfl rfl ?_) | (refine x1_pick_t rfl rfl rfl ?_) | (refine x1_pick_f rfl rfl rfl ?_) | (refine x1_not rfl rfl ?_) | (refine x1_len rfl (by assumption) rfl rfl ?_) | (refine x1_ext_c rfl rfl rfl ?_) | (refine x1_ext_g rfl rfl rfl ?_) | (refine x1_move_g rfl rfl ?_) | (refine x1_move_u rfl rfl ?_) | (refine x1_assign_g rfl rfl ?_) | (refine x1_fld_i rfl (by assumption) rfl rfl (by decide) rfl ?_) | (refine x1_load_i rfl (by assumption) rfl rfl rfl ?_) | (refine x1_load_ig rfl (by assumption) rfl rfl rfl ?_) | (refine r1_nil ?_; clear hO; refine hK _ ?_; clear hK K) | (refine r1_nil ⟨(by rw [hO]; kernel_rfl), ?_⟩; clear hO; refine hK _ ?_; clear hK K) | (refine w1_seq fun K hK => ?_) | (refine w1_region rfl (by kernel_rfl) fun OPS hO => ?_) | (refine w1_draw (by kernel_rfl) rfl (by kernel_rfl) fun OPS hO => ?_) | (refine w1_ret ?_) | (refine w1_skip ?_; refine hK _ ?_; clear hK K) | (refine w1_cond _ rfl (fun hb => ?_) (fun hb => ?_) <;> (first | (cases hb; done) | ((try simp only [Bool.not_true, Bool.not_false] at hb); (try simp only [hb]); first | (have hp := of_decide_eq_true hb; (try (exfalso; omega; done))) | (have hp := of_decide_eq_false hb; (try (exfalso; omega; done))) | skip))) | (refine w1_block ?_) | (refine w1_exit ?_; simp only [thenA, blockA, eq_self, reduceIte, if_true]; first | (refine hK _ ?_; clear hK K) | (clear hK K; refine hK _ ?_; clear hK K) | (clear hK K; clear hK K; refine hK _ ?_; clear hK K) | (clear hK K; clear hK K; clear hK K; refine hK _ ?_; clear hK K)) | (refine r1_nil ?_; clear hO) | (refine X1.mk ?_; simp only [Ex, ExC, St.ev, St.put, St.new, St.upd, St.app, St.hp, killH, AT.ofValue, isOne, loadA, fieldA, partA, indexA, elemOf?, addOff, cut, cellsA, storeA, appA, rowsA, lenA, lenOk, binA, fillA, placeS, partsA, zeroL, splice, chunk, blkOf, tf55, tf64, tf3, tf26, tf9, List.getD_cons_succ, List.getD_cons_zero, List.getElem?_cons_succ, List.getElem?_cons_zero, List.set_cons_succ, List.set_cons_zero, List.length_cons, List.length_nil, List.map_cons, List.map_nil, List.append_nil, List.nil_append, List.cons_append, List.drop_zero, List.drop_succ_cons, List.take_succ_cons, List.take_zero, List.replicate_succ, List.replicate_zero, List.flatten_cons, List.flatten_nil, List.foldl_cons, List.foldl_nil, List.cons.injEq, ba_size, List.all_cons, List.all_nil, List.length_map, List.length_append, List.getElem?_map, Option.some.injEq, Option.map_some, Option.map_none, Option.join_some, Option.join_none, Option.isSome_some, Bool.and_self, AT.c.injEq, AT.u.injEq, AT.g.injEq, AV.im.injEq, IV.v.injEq, Value.bool.injEq, Value.int.injEq, TK.sl.injEq, Prod.mk.injEq, exists_eq_left', exists_eq_left, exists_eq', exists_and_left, and_assoc, ite_true, if_true, ite_false, if_false, Bool.false_eq_true, true_and, and_true, eq_self, reduceIte, Bool.and_true, Bool.true_and, Bool.not_true, Bool.not_false, Int.natCast_nonneg, Int.toNat_natCast, Int.reduceToNat, Int.reduceLE, Int.reduceLT, Nat.reduceAdd, Nat.reduceMul, Nat.reduceLT, Nat.reduceLeDiff, Nat.reduceEqDiff, Nat.lt_irrefl, Nat.le_refl, Nat.zero_le, Nat.zero_add, Nat.add_zero, Nat.zero_mul, Nat.succ_ne_zero]; refine s1_next ?_))
      all_goals refine end_ret (rs := [.g [_, _, _], .g [_, _, _]]) rfl ?_ (by repeat' constructor)
      all_goals show AT.u _ = AT.u _
      all_goals (rw [insS_bad s i e he] <;> rfl)
  · skip
    have q0 := tf55; have q1 := tf64; have q2 := tf3; have q3 := tf26; have q4 := tf9
    repeat' (first | (refine r1_step rfl ?_) | (refine r1_guard hO rfl rfl (fun hb => ?_) (fun hb => ?_) <;> (first | (cases hb; done) | ((try simp only [Bool.not_true, Bool.not_false] at hb); (try simp only [hb]); first | (have hp := of_decide_eq_true hb; (try (exfalso; omega; done))) | (have hp := of_decide_eq_false hb; (try (exfalso; omega; done))) | skip))) | (refine r1_skip hO rfl rfl ?_) | ((try simp only [St.put, St.upd, St.new, St.app, killH, List.foldl_cons, List.foldl_nil, List.length_cons, List.length_nil, List.length_append, List.cons_append, List.nil_append, List.set_cons_succ, List.set_cons_zero, cast_succ, noFp, ba_size, List.length_map, Nat.reduceAdd, List.drop_zero, List.drop_succ_cons, List.map_cons, List.map_nil, Bool.not_true, Bool.not_false]); refine s1_next ?_) | (refine x1_move_c rfl rfl ?_) | (refine x1_assign_c rfl rfl ?_) | (refine x1_fld_o rfl (by assumption) rfl rfl (by decide) rfl ?_) | (refine x1_load_o rfl (by assumption) rfl rfl rfl rfl rfl ?_) | (refine x1_load_og rfl (by assumption) rfl rfl rfl rfl rfl ?_) | (refine x1_add rfl rfl rfl (by omega) (by omega) ?_) | (refine x1_pred rfl rfl rfl (by omega) ?_) | (refine x1_sub rfl rfl rfl (by omega) (by omega) ?_) | (refine x1_mul rfl rfl rfl (by omega) (by omega) ?_) | (refine x1_eqS rfl rfl rfl ?_) | (refine x1_neS rfl rfl rfl ?_) | (refine x1_bin rfl rfl rfl rfl ?_) | (refine x1_store rfl rfl (by assumption) rfl rfl rfl rfl rfl rfl ?_) | (refine x1_storeg rfl rfl (by assumption) rfl rfl rfl rfl rfl rfl ?_) | (refine x1_pick_t rfl rfl rfl ?_) | (refine x1_pick_f rfl rfl rfl ?_) | (refine x1_not rfl rfl ?_) | (refine x1_len rfl (by assumption) rfl rfl ?_) | (refine x1_ext_c rfl rfl rfl ?_) | (refine x1_ext_g rfl rfl rfl ?_) | (refine x1_move_g rfl rfl ?_) | (refine x1_move_u rfl rfl ?_) | (refine x1_assign_g rfl rfl ?_) | (refine x1_fld_i rfl (by assumption) rfl rfl (by decide) rfl ?_) | (refine x1_load_i rfl (by assumption) rfl rfl rfl ?_) | (refine x1_load_ig rfl (by assumption) rfl rfl rfl ?_) | (refine r1_nil ?_; clear hO; refine hK _ ?_; clear hK K) | (refine r1_nil ⟨(by rw [hO]; kernel_rfl), ?_⟩; clear hO; refine hK _ ?_; clear hK K) | (refine w1_seq fun K hK => ?_) | (refine w1_region rfl (by kernel_rfl) fun OPS hO => ?_) | (refine w1_draw (by kernel_rfl) rfl (by kernel_rfl) fun OPS hO => ?_) | (refine w1_ret ?_) | (refine w1_skip ?_; refine hK _ ?_; clear hK K) | (refine w1_cond _ rfl (fun hb => ?_) (fun hb => ?_) <;> (first | (cases hb; done) | ((try simp only [Bool.not_true, Bool.not_false] at hb); (try simp only [hb]); first | (have hp := of_decide_eq_true hb; (try (exfalso; omega; done))) | (have hp := of_decide_eq_false hb; (try (exfalso; omega; done))) | skip))) | (refine w1_block ?_) | (refine w1_exit ?_; simp only [thenA, blockA, eq_self, reduceIte, if_true]; first | (refine hK _ ?_; clear hK K) | (clear hK K; refine hK _ ?_; clear hK K) | (clear hK K; clear hK K; refine hK _ ?_; clear hK K) | (clear hK K; clear hK K; clear hK K; refine hK _ ?_; clear hK K)) | (refine r1_nil ?_; clear hO) | (refine X1.mk ?_; simp only [Ex, ExC, St.ev, St.put, St.new, St.upd, St.app, St.hp, killH, AT.ofValue, isOne, loadA, fieldA, partA, indexA, elemOf?, addOff, cut, cellsA, storeA, appA, rowsA, lenA, lenOk, binA, fillA, placeS, partsA, zeroL, splice, chunk, blkOf, tf55, tf64, tf3, tf26, tf9, List.getD_cons_succ, List.getD_cons_zero, List.getElem?_cons_succ, List.getElem?_cons_zero, List.set_cons_succ, List.set_cons_zero, List.length_cons, List.length_nil, List.map_cons, List.map_nil, List.append_nil, List.nil_append, List.cons_append, List.drop_zero, List.drop_succ_cons, List.take_succ_cons, List.take_zero, List.replicate_succ, List.replicate_zero, List.flatten_cons, List.flatten_nil, List.foldl_cons, List.foldl_nil, List.cons.injEq, ba_size, List.all_cons, List.all_nil, List.length_map, List.length_append, List.getElem?_map, Option.some.injEq, Option.map_some, Option.map_none, Option.join_some, Option.join_none, Option.isSome_some, Bool.and_self, AT.c.injEq, AT.u.injEq, AT.g.injEq, AV.im.injEq, IV.v.injEq, Value.bool.injEq, Value.int.injEq, TK.sl.injEq, Prod.mk.injEq, exists_eq_left', exists_eq_left, exists_eq', exists_and_left, and_assoc, ite_true, if_true, ite_false, if_false, Bool.false_eq_true, true_and, and_true, eq_self, reduceIte, Bool.and_true, Bool.true_and, Bool.not_true, Bool.not_false, Int.natCast_nonneg, Int.toNat_natCast, Int.reduceToNat, Int.reduceLE, Int.reduceLT, Nat.reduceAdd, Nat.reduceMul, Nat.reduceLT, Nat.reduceLeDiff, Nat.reduceEqDiff, Nat.lt_irrefl, Nat.le_refl, Nat.zero_le, Nat.zero_add, Nat.add_zero, Nat.zero_mul, Nat.succ_ne_zero]; refine s1_next ?_))
    all_goals refine end_ret (rs := [.g [_, _, _], .g [_, _, _]]) rfl ?_ (by repeat' constructor)
    all_goals show AT.u _ = AT.u _
    all_goals first
      | (rw [insS_bad s i e (by omega)] <;> rfl)
      | (obtain rfl : e = 0 := by omega
         rw [insS_end s i (by omega)] <;> rfl)
end Go.Proofs.YtedkfipjooafeaaGreatDoor.Ab
set_option linter.unusedSimpArgs false
set_option linter.unusedVariables false
namespace Go.Proofs.YtedkfipjooafeaaGreatDoor.Ab
open Go Go.RowKit Go.Proofs.YtedkfipjooafeaaGreatDoor Go.Proofs.YtedkfipjooafeaaGreatDoor.Code Go.Proofs.YtedkfipjooafeaaGreatDoor.Op

abbrev insR (x : Ins) : List AV := [iA x.op, iA x.a, iA x.b]
abbrev fnG (f : Code.Fn) : AT := .g [iA f.ar, iA f.lo, iA f.sl, .im (codeI f.code)]
theorem numberR_at {s : B} {i : Nat} {e lo hi n f : Int} {j : Nat} (h : numS s lo hi i e = (n, j, f)) (hi' : i ≤ s.length) (hs : s.length ≤ 9223372036854775000) : ACalls Tryz.prog 31 [atG s i e, iT lo, iT hi] (.u [iT n, atG s j f]) := by
  have := numberR_a s i e lo hi hi' hs
  rw [h] at this; exact this
theorem instrR_at {s : B} {i j : Nat} {e f : Int} {x : Ins} (h : insS s i e = (x, j, f)) (hi' : i ≤ s.length) (hs : s.length ≤ 9223372036854775000) : ACalls Tryz.prog 66 [atG s i e] (.u [insG x, atG s j f]) := by
  have := instrR_a s i e hi' hs
  rw [h] at this; exact this
def funF (s : B) (a1 a2 a3 : Int) (q : Nat) (xs : List Ins) (j : Nat) (f : Int) : St :=
  ⟨tmpsOf 61 [(2, .c (.op 0 0 0)), (3, .c (.op 1 0 0)), (4, .c (.op 2 0 0)), (5, iT q), (6, .c (.op 3 0 0)), (7, iT xs.length)],
   [some ⟨39, 4, [[iA 0, iA 0, iA 0, .im (.v (.slice none 0 0))]], true⟩, some ⟨55, 3, [[.im (.v (.string ⟨#[]⟩)), iA 0, iA 0]], true⟩, some ⟨39, 4, [[iA a1, iA a2, iA a3, .os 4 0 xs.length]], true⟩, some ⟨55, 3, [[sA s, iA j, iA f]], true⟩, some ⟨64, 3, xs.map insR, false⟩]⟩
set_option maxRecDepth 20000 in
set_option maxHeartbeats 16000000 in
theorem functionR_a (s : B) (i : Nat) (e : Int) (hi : i ≤ s.length) (hs : s.length ≤ 9223372036854775000) :
    ACalls Tryz.prog 32 [atG s i e] (.u [fnG (funS s i e).1, atG s (funS s i e).2.1 (funS s i e).2.2]) := by
  obtain ⟨a1, i1, e1, h1⟩ : ∃ a i' e', numS s 0 16 i e = (a, i', e') := ⟨_, _, _, rfl⟩
  obtain ⟨a2, i2, e2, h2⟩ : ∃ a i' e', numS s 0 16 i1 e1 = (a, i', e') := ⟨_, _, _, rfl⟩
  obtain ⟨a3, i3, e3, h3⟩ : ∃ a i' e', numS s 0 8 i2 e2 = (a, i', e') := ⟨_, _, _, rfl⟩
  obtain ⟨a4, i4, e4, h4⟩ : ∃ a i' e', numS s 1 200 i3 e3 = (a, i', e') := ⟨_, _, _, rfl⟩
  have l1 : i1 ≤ s.length := by have := numS_le (s := s) (lo := 0) (hi := 16) (i := i) (e := e) hi; rw [h1] at this; exact this
  have l2 : i2 ≤ s.length := by have := numS_le (s := s) (lo := 0) (hi := 16) (i := i1) (e := e1) l1; rw [h2] at this; exact this
  have l3 : i3 ≤ s.length := by have := numS_le (s := s) (lo := 0) (hi := 8) (i := i2) (e := e2) l2; rw [h3] at this; exact this
  have l4 : i4 ≤ s.length := by have := numS_le (s := s) (lo := 1) (hi := 200) (i := i3) (e := e3) l3; rw [h4] at this; exact this
  have p4 : 0 ≤ a4 := by have := numS_nat s 1 200 i3 e3; rw [h4] at this; exact this
  have k4 : e4 = 0 → 1 ≤ a4 ∧ a4 ≤ 200 := fun he => by have := numS_ok (s := s) (lo := 1) (hi := 200) (i := i3) (e := e3) (by rw [h4]; exact he); rw [h4] at this; exact inB_bd this.2
  obtain ⟨q, rfl⟩ := Int.eq_ofNat_of_zero_le p4
  have HF : funS s i e = (⟨a1, a2, a3, (codeS s q ([], i4, e4)).1⟩, (codeS s q ([], i4, e4)).2.1, (codeS s q ([], i4, e4)).2.2) := by unfold funS; simp only [h1, h2, h3, h4, Int.toNat_natCast]
  rw [HF]
  refine acalls_w Tryz.func32 rfl (by decide) (fun E hE => ?_)
  simp only [Tryz.ntmps32, List.length_cons, List.length_nil, Nat.reduceAdd, Nat.reduceSub, List.replicate_succ, List.replicate_zero, List.cons_append, List.nil_append]
  have q0 := tf55; have q1 := tf64; have q2 := tf3; have q3 := tf26; have q4 := tf9; have q5 := tf39; have q6 := tf37
  repeat' (first | (refine r1_step rfl ?_) | (refine r1_guard hO rfl rfl (fun hb => ?_) (fun hb => ?_) <;> (first | (cases hb; done) | ((try simp only [Bool.not_true, Bool.not_false] at hb); (try simp only [hb]); first | (have hp := of_decide_eq_true hb; (try (exfalso; omega; done))) | (have hp := of_decide_eq_false hb; (try (exfalso; omega; done))) | skip))) | (refine r1_skip hO rfl rfl ?_) | ((try simp only [St.put, St.upd, St.new, St.app, killH, List.foldl_cons, List.foldl_nil, List.length_cons, List.length_nil, List.length_append, List.cons_append, List.nil_append, List.set_cons_succ, List.set_cons_zero, cast_succ, noFp, ba_size, List.length_map, Nat.reduceAdd, List.drop_zero, List.drop_succ_cons, List.map_cons, List.map_nil, Bool.not_true, Bool.not_false]); refine s1_next ?_) | (refine x1_move_c rfl rfl ?_) | (refine x1_assign_c rfl rfl ?_) | (refine x1_fld_o rfl (by assumption) rfl rfl (by decide) rfl ?_) | (refine x1_load_o rfl (by assumption) rfl rfl rfl rfl rfl ?_) | (refine x1_load_og rfl (by assumption) rfl rfl rfl rfl rfl ?_) | (refine x1_add rfl rfl rfl (by omega) (by omega) ?_) | (refine x1_pred rfl rfl rfl (by omega) ?_) | (refine x1_sub rfl rfl rfl (by omega) (by omega) ?_) | (refine x1_mul rfl rfl rfl (by omega) (by omega) ?_) | (refine x1_eqS rfl rfl rfl ?_) | (refine x1_neS rfl rfl rfl ?_) | (refine x1_bin rfl rfl rfl rfl ?_) | (refine x1_store rfl rfl (by assumption) rfl rfl rfl rfl rfl rfl ?_) | (refine x1_storeg rfl rfl (by assumption) rfl rfl rfl rfl rfl rfl ?_) | (refine x1_pick_t rfl rfl rfl ?_) | (refine x1_pick_f rfl rfl rfl ?_) | (refine x1_not rfl rfl ?_) | (refine x1_len rfl (by assumption) rfl rfl ?_) | (refine x1_ext_c rfl rfl rfl ?_) | (refine x1_ext_g rfl rfl rfl ?_) | (refine x1_move_g rfl rfl ?_) | (refine x1_move_u rfl rfl ?_) | (refine x1_assign_g rfl rfl ?_) | (refine x1_fld_i rfl (by assumption) rfl rfl (by decide) rfl ?_) | (refine x1_load_i rfl (by assumption) rfl rfl rfl ?_) | (refine x1_load_ig rfl (by assumption) rfl rfl rfl ?_) | (refine x1_call rfl rfl (numberR_at h1 hi hs) rfl (by repeat' constructor) ?_) | (refine x1_call rfl rfl (numberR_at h2 l1 hs) rfl (by repeat' constructor) ?_) | (refine x1_call rfl rfl (numberR_at h3 l2 hs) rfl (by repeat' constructor) ?_) | (refine x1_call rfl rfl (numberR_at h4 l3 hs) rfl (by repeat' constructor) ?_) | (refine r1_nil ?_; clear hO; refine hK _ ?_; clear hK K) | (refine r1_nil ⟨(by rw [hO]; kernel_rfl), ?_⟩; clear hO; refine hK _ ?_; clear hK K) | (refine w1_seq fun K hK => ?_) | (refine w1_region rfl (by kernel_rfl) fun OPS hO => ?_) | (refine w1_draw (by kernel_rfl) rfl (by kernel_rfl) fun OPS hO => ?_) | (refine w1_ret ?_) | (refine w1_skip ?_; refine hK _ ?_; clear hK K) | (refine w1_cond _ rfl (fun hb => ?_) (fun hb => ?_) <;> (first | (cases hb; done) | ((try simp only [Bool.not_true, Bool.not_false] at hb); (try simp only [hb]); first | (have hp := of_decide_eq_true hb; (try (exfalso; omega; done))) | (have hp := of_decide_eq_false hb; (try (exfalso; omega; done))) | skip))) | (refine w1_block ?_) | (refine w1_exit ?_; simp only [thenA, blockA, eq_self, reduceIte, if_true]; first | (refine hK _ ?_; clear hK K) | (clear hK K; refine hK _ ?_; clear hK K) | (clear hK K; clear hK K; refine hK _ ?_; clear hK K) | (clear hK K; clear hK K; clear hK K; refine hK _ ?_; clear hK K)) | (refine r1_nil ?_; clear hO) | (refine X1.mk ?_; simp only [Ex, ExC, St.ev, St.put, St.new, St.upd, St.app, St.hp, killH, AT.ofValue, isOne, loadA, fieldA, partA, indexA, elemOf?, addOff, cut, cellsA, storeA, appA, rowsA, lenA, lenOk, binA, fillA, placeS, partsA, zeroL, splice, chunk, blkOf, tf55, tf64, tf3, tf26, tf9, tf39, tf37, List.getD_cons_succ, List.getD_cons_zero, List.getElem?_cons_succ, List.getElem?_cons_zero, List.set_cons_succ, List.set_cons_zero, List.length_cons, List.length_nil, List.map_cons, List.map_nil, List.append_nil, List.nil_append, List.cons_append, List.drop_zero, List.drop_succ_cons, List.take_succ_cons, List.take_zero, List.replicate_succ, List.replicate_zero, List.flatten_cons, List.flatten_nil, List.foldl_cons, List.foldl_nil, List.cons.injEq, ba_size, List.all_cons, List.all_nil, List.length_map, List.length_append, List.getElem?_map, Option.some.injEq, Option.map_some, Option.map_none, Option.join_some, Option.join_none, Option.isSome_some, Bool.and_self, AT.c.injEq, AT.u.injEq, AT.g.injEq, AV.im.injEq, IV.v.injEq, Value.bool.injEq, Value.int.injEq, TK.sl.injEq, Prod.mk.injEq, exists_eq_left', exists_eq_left, exists_eq', exists_and_left, and_assoc, ite_true, if_true, ite_false, if_false, Bool.false_eq_true, true_and, and_true, eq_self, reduceIte, Bool.and_true, Bool.true_and, Bool.not_true, Bool.not_false, Int.natCast_nonneg, Int.toNat_natCast, Int.reduceToNat, Int.reduceLE, Int.reduceLT, Nat.reduceAdd, Nat.reduceMul, Nat.reduceLT, Nat.reduceLeDiff, Nat.reduceEqDiff, Nat.lt_irrefl, Nat.le_refl, Nat.zero_le, Nat.zero_add, Nat.add_zero, Nat.zero_mul, Nat.succ_ne_zero]; refine s1_next ?_))
  refine w1_loop (α := {x : List Ins × Nat × Int // x.1.length ≤ q ∧ x.2.1 ≤ s.length ∧ codeS s (q - x.1.length) x = codeS s q ([], i4, e4) ∧ (x.2.2 = 0 → q ≤ 200)}) (fun x => funF s a1 a2 a3 q x.1.1 x.1.2.1 x.1.2.2) (fun x => q - x.1.1.length) ⟨([], i4, e4), by simp, l4, rfl, fun h => by have := k4 h; omega⟩ ?_ ?_
  · refine sub_base hE [some 1, some 2, some 3, some 4, none] rfl (by decide) ?_ ?_
    · simp [funF, tmpsOf, subTs, subT, subA, renL]
    · simp [funF, subH, subR, subAs, subA, renL, St.hp]
  · rintro ⟨⟨xs, j, f⟩, hq, hj, hS, hb200⟩
    simp only at hq hj hS hb200
    simp only [funF, tmpsOf, List.foldl_cons, List.foldl_nil, List.replicate_succ, List.replicate_zero, List.set_cons_succ, List.set_cons_zero]
    obtain ⟨x, j2, f2, hx⟩ : ∃ x j' f', insS s j f = (x, j', f') := ⟨_, _, _, rfl⟩
    have hj2 : j2 ≤ s.length := by have := insS_le (s := s) (e := f) hj; rw [hx] at this; exact this
    have q0 := tf55; have q1 := tf64; have q2 := tf3; have q3 := tf26; have q4 := tf9; have q5 := tf39; have q6 := tf37
    repeat' (first | (refine r1_step rfl ?_) | (refine r1_guard hO rfl rfl (fun hb => ?_) (fun hb => ?_) <;> (first | (cases hb; done) | ((try simp only [Bool.not_true, Bool.not_false] at hb); (try simp only [hb]); first | (have hp := of_decide_eq_true hb; (try (exfalso; omega; done))) | (have hp := of_decide_eq_false hb; (try (exfalso; omega; done))) | skip))) | (refine r1_skip hO rfl rfl ?_) | ((try simp only [St.put, St.upd, St.new, St.app, killH, List.foldl_cons, List.foldl_nil, List.length_cons, List.length_nil, List.length_append, List.cons_append, List.nil_append, List.set_cons_succ, List.set_cons_zero, cast_succ, noFp, ba_size, List.length_map, Nat.reduceAdd, List.drop_zero, List.drop_succ_cons, List.map_cons, List.map_nil, Bool.not_true, Bool.not_false]); refine s1_next ?_) | (refine x1_move_c rfl rfl ?_) | (refine x1_assign_c rfl rfl ?_) | (refine x1_fld_o rfl (by assumption) rfl rfl (by decide) rfl ?_) | (refine x1_load_o rfl (by assumption) rfl rfl rfl rfl rfl ?_) | (refine x1_load_og rfl (by assumption) rfl rfl rfl rfl rfl ?_) | (refine x1_add rfl rfl rfl (by omega) (by omega) ?_) | (refine x1_pred rfl rfl rfl (by omega) ?_) | (refine x1_sub rfl rfl rfl (by omega) (by omega) ?_) | (refine x1_mul rfl rfl rfl (by omega) (by omega) ?_) | (refine x1_eqS rfl rfl rfl ?_) | (refine x1_neS rfl rfl rfl ?_) | (refine x1_bin rfl rfl rfl rfl ?_) | (refine x1_store rfl rfl (by assumption) rfl rfl rfl rfl rfl rfl ?_) | (refine x1_storeg rfl rfl (by assumption) rfl rfl rfl rfl rfl rfl ?_) | (refine x1_pick_t rfl rfl rfl ?_) | (refine x1_pick_f rfl rfl rfl ?_) | (refine x1_not rfl rfl ?_) | (refine x1_len rfl (by assumption) rfl rfl ?_) | (refine x1_ext_c rfl rfl rfl ?_) | (refine x1_ext_g rfl rfl rfl ?_) | (refine x1_move_g rfl rfl ?_) | (refine x1_move_u rfl rfl ?_) | (refine x1_assign_g rfl rfl ?_) | (refine x1_fld_i rfl (by assumption) rfl rfl (by decide) rfl ?_) | (refine x1_load_i rfl (by assumption) rfl rfl rfl ?_) | (refine x1_load_ig rfl (by assumption) rfl rfl rfl ?_) | (refine x1_call rfl rfl (instrR_at hx hj hs) rfl (by repeat' constructor) ?_) | (refine x1_app_oo rfl tf37 rfl tf64 (by decide) rfl rfl rfl rfl rfl rfl rfl rfl (by simp) rfl (by simp; omega) (by simp; omega) ?_) | (refine r1_nil ?_; clear hO; refine hK _ ?_; clear hK K) | (refine r1_nil ⟨(by rw [hO]; kernel_rfl), ?_⟩; clear hO; refine hK _ ?_; clear hK K) | (refine w1_seq fun K hK => ?_) | (refine w1_region rfl (by kernel_rfl) fun OPS hO => ?_) | (refine w1_draw (by kernel_rfl) rfl (by kernel_rfl) fun OPS hO => ?_) | (refine w1_ret ?_) | (refine w1_skip ?_; refine hK _ ?_; clear hK K) | (refine w1_cond _ rfl (fun hb => ?_) (fun hb => ?_) <;> (first | (cases hb; done) | ((try simp only [Bool.not_true, Bool.not_false] at hb); (try simp only [hb]); first | (have hp := of_decide_eq_true hb; (try (exfalso; omega; done))) | (have hp := of_decide_eq_false hb; (try (exfalso; omega; done))) | skip))) | (refine w1_block ?_) | (refine w1_exit ?_; simp only [thenA, blockA, eq_self, reduceIte, if_true]; first | (refine hK _ ?_; clear hK K) | (clear hK K; refine hK _ ?_; clear hK K) | (clear hK K; clear hK K; refine hK _ ?_; clear hK K) | (clear hK K; clear hK K; clear hK K; refine hK _ ?_; clear hK K)) | (refine r1_nil ?_; clear hO) | (refine X1.mk ?_; simp only [Ex, ExC, St.ev, St.put, St.new, St.upd, St.app, St.hp, killH, AT.ofValue, isOne, loadA, fieldA, partA, indexA, elemOf?, addOff, cut, cellsA, storeA, appA, rowsA, lenA, lenOk, binA, fillA, placeS, partsA, zeroL, splice, chunk, blkOf, tf55, tf64, tf3, tf26, tf9, tf39, tf37, List.getD_cons_succ, List.getD_cons_zero, List.getElem?_cons_succ, List.getElem?_cons_zero, List.set_cons_succ, List.set_cons_zero, List.length_cons, List.length_nil, List.map_cons, List.map_nil, List.append_nil, List.nil_append, List.cons_append, List.drop_zero, List.drop_succ_cons, List.take_succ_cons, List.take_zero, List.replicate_succ, List.replicate_zero, List.flatten_cons, List.flatten_nil, List.foldl_cons, List.foldl_nil, List.cons.injEq, ba_size, List.all_cons, List.all_nil, List.length_map, List.length_append, List.getElem?_map, Option.some.injEq, Option.map_some, Option.map_none, Option.join_some, Option.join_none, Option.isSome_some, Bool.and_self, AT.c.injEq, AT.u.injEq, AT.g.injEq, AV.im.injEq, IV.v.injEq, Value.bool.injEq, Value.int.injEq, TK.sl.injEq, Prod.mk.injEq, exists_eq_left', exists_eq_left, exists_eq', exists_and_left, and_assoc, ite_true, if_true, ite_false, if_false, Bool.false_eq_true, true_and, and_true, eq_self, reduceIte, Bool.and_true, Bool.true_and, Bool.not_true, Bool.not_false, Int.natCast_nonneg, Int.toNat_natCast, Int.reduceToNat, Int.reduceLE, Int.reduceLT, Nat.reduceAdd, Nat.reduceMul, Nat.reduceLT, Nat.reduceLeDiff, Nat.reduceEqDiff, Nat.lt_irrefl, Nat.le_refl, Nat.zero_le, Nat.zero_add, Nat.add_zero, Nat.zero_mul, Nat.succ_ne_zero]; refine s1_next ?_))
    · have hm : q - (xs ++ [x]).length < q - xs.length := by simp; omega
      refine ⟨⟨(xs ++ [x], j2, f2), by simp; omega, hj2, ?_, fun _ => hb200 (by assumption)⟩, hm, sub_base hE [some 0, some 1, some 2, some 3, some 8] rfl (by decide) ?_ ?_⟩
      · rw [← hS]
        obtain ⟨m, hmm⟩ : ∃ m, q - xs.length = m + 1 := ⟨q - xs.length - 1, by omega⟩
        show codeS s (q - (xs ++ [x]).length) (xs ++ [x], j2, f2) = _
        rw [hmm, codeS_step (by assumption) hx, show q - (xs ++ [x]).length = m by simp; omega]
      · simp [funF, tmpsOf, subTs, subT, subA, renL]
      · have hR := subR_map (ρ := renL [some 0, some 1, some 2, some 3, some 8]) insR (by simp [insR]) (xs ++ [x])
        simp [funF, subH, subR, subAs, subA, renL, St.hp]
        simpa [renL] using hR
    all_goals
      have HE : codeS s q ([], i4, e4) = (xs, j, f) := by
        rw [← hS]
        cases hqk : q - xs.length with
        | zero => rfl
        | succ m => unfold codeS; rw [if_neg (fun hf : f = 0 => by first | (exact absurd hf (by assumption)) | omega)]
      rw [HE]
      refine end_frz hE 4 (xs.map insI) rfl (by simp [insI]) (rs := [.g [iA a1, iA a2, iA a3, .im (.sl 3 (xs.map insI))], .g [sA s, iA j, iA f]]) ?_ rfl (by repeat' constructor)
      simp [resA, Tryz.results32, tf39, tf55, loadA, cut, St.tmp, St.hp, St.frz, frT, frA, frB, frH]
      exact List.take_of_length_le (by simp)
end Go.Proofs.YtedkfipjooafeaaGreatDoor.Ab
set_option linter.unusedSimpArgs false
set_option linter.unusedVariables false
namespace Go.Proofs.YtedkfipjooafeaaGreatDoor.Ab
open Go Go.RowKit Go.Proofs.YtedkfipjooafeaaGreatDoor Go.Proofs.YtedkfipjooafeaaGreatDoor.Code Go.Proofs.YtedkfipjooafeaaGreatDoor.Op

abbrev fnR (f : Code.Fn) : List AV := [iA f.ar, iA f.lo, iA f.sl, .im (codeI f.code)]
theorem functionR_at {s : B} {i j : Nat} {e f : Int} {x : Code.Fn} (h : funS s i e = (x, j, f)) (hi' : i ≤ s.length) (hs : s.length ≤ 9223372036854775000) : ACalls Tryz.prog 32 [atG s i e] (.u [fnG x, atG s j f]) := by
  have := functionR_a s i e hi' hs
  rw [h] at this; exact this
def decF (s : B) (q : Nat) (ps : Pg) (j : Nat) (f : Int) : St :=
  ⟨tmpsOf 48 [(0, .c (sA s)), (4, iT q), (5, .c (.op 0 0 0)), (6, .c (.os 1 0 ps.length)), (7, iT ps.length)],
   [some ⟨55, 3, [[sA s, iA j, iA f]], true⟩, some ⟨39, 4, ps.map fnR, false⟩]⟩
set_option maxRecDepth 20000 in
set_option maxHeartbeats 16000000 in
theorem DecodeR_a (s : B) (hs : s.length ≤ 9223372036854775000) :
    ACalls Tryz.prog 14 [.c (sA s)] (.u [.c (.im (progI (decS s).1)), iT (decS s).2]) := by
  obtain ⟨a1, i1, e1, h1⟩ : ∃ a i' e', numS s 1 16 0 0 = (a, i', e') := ⟨_, _, _, rfl⟩
  have l1 : i1 ≤ s.length := by have := numS_le (s := s) (lo := 1) (hi := 16) (i := 0) (e := 0) (by omega); rw [h1] at this; exact this
  have p1 : 0 ≤ a1 := by have := numS_nat s 1 16 0 0; rw [h1] at this; exact this
  have k1 : e1 = 0 → 1 ≤ a1 ∧ a1 ≤ 16 := fun he => by have := numS_ok (s := s) (lo := 1) (hi := 16) (i := 0) (e := 0) (by rw [h1]; exact he); rw [h1] at this; exact inB_bd this.2
  obtain ⟨q, rfl⟩ := Int.eq_ofNat_of_zero_le p1
  have HD : decS s = if (funsS s q ([], i1, e1)).2.2 ≠ 0 then ([], (funsS s q ([], i1, e1)).2.2) else if (funsS s q ([], i1, e1)).2.1 < s.length then ([], 72) else ((funsS s q ([], i1, e1)).1, 0) := by unfold decS; simp only [h1, Int.toNat_natCast]
  rw [HD]
  have hN := numberR_at (s := s) (i := 0) h1 (Nat.zero_le _) hs
  refine acalls_w Tryz.func14 rfl (by decide) (fun E hE => ?_)
  simp only [Tryz.ntmps14, List.length_cons, List.length_nil, Nat.reduceAdd, Nat.reduceSub, List.replicate_succ, List.replicate_zero, List.cons_append, List.nil_append]
  have q0 := tf55; have q1 := tf39; have q2 := tf3; have q3 := tf26; have q4 := tf9; have q5 := tf23
  repeat' (first | (refine r1_step rfl ?_) | (refine r1_guard hO rfl rfl (fun hb => ?_) (fun hb => ?_) <;> (first | (cases hb; done) | ((try simp only [Bool.not_true, Bool.not_false] at hb); (try simp only [hb]); first | (have hp := of_decide_eq_true hb; (try (exfalso; omega; done))) | (have hp := of_decide_eq_false hb; (try (exfalso; omega; done))) | skip))) | (refine r1_skip hO rfl rfl ?_) | ((try simp only [St.put, St.upd, St.new, St.app, killH, List.foldl_cons, List.foldl_nil, List.length_cons, List.length_nil, List.length_append, List.cons_append, List.nil_append, List.set_cons_succ, List.set_cons_zero, cast_succ, noFp, ba_size, List.length_map, Nat.reduceAdd, List.drop_zero, List.drop_succ_cons, List.map_cons, List.map_nil, Bool.not_true, Bool.not_false]); refine s1_next ?_) | (refine x1_move_c rfl rfl ?_) | (refine x1_assign_c rfl rfl ?_) | (refine x1_fld_o rfl (by assumption) rfl rfl (by decide) rfl ?_) | (refine x1_load_o rfl (by assumption) rfl rfl rfl rfl rfl ?_) | (refine x1_load_og rfl (by assumption) rfl rfl rfl rfl rfl ?_) | (refine x1_add rfl rfl rfl (by omega) (by omega) ?_) | (refine x1_pred rfl rfl rfl (by omega) ?_) | (refine x1_sub rfl rfl rfl (by omega) (by omega) ?_) | (refine x1_mul rfl rfl rfl (by omega) (by omega) ?_) | (refine x1_eqS rfl rfl rfl ?_) | (refine x1_neS rfl rfl rfl ?_) | (refine x1_bin rfl rfl rfl rfl ?_) | (refine x1_store rfl rfl (by assumption) rfl rfl rfl rfl rfl rfl ?_) | (refine x1_storeg rfl rfl (by assumption) rfl rfl rfl rfl rfl rfl ?_) | (refine x1_pick_t rfl rfl rfl ?_) | (refine x1_pick_f rfl rfl rfl ?_) | (refine x1_not rfl rfl ?_) | (refine x1_len rfl (by assumption) rfl rfl ?_) | (refine x1_ext_c rfl rfl rfl ?_) | (refine x1_ext_g rfl rfl rfl ?_) | (refine x1_move_g rfl rfl ?_) | (refine x1_move_u rfl rfl ?_) | (refine x1_assign_g rfl rfl ?_) | (refine x1_fld_i rfl (by assumption) rfl rfl (by decide) rfl ?_) | (refine x1_load_i rfl (by assumption) rfl rfl rfl ?_) | (refine x1_load_ig rfl (by assumption) rfl rfl rfl ?_) | (refine x1_call rfl rfl hN rfl (by repeat' constructor) ?_) | (refine r1_nil ?_; clear hO; refine hK _ ?_; clear hK K) | (refine r1_nil ⟨(by rw [hO]; kernel_rfl), ?_⟩; clear hO; refine hK _ ?_; clear hK K) | (refine w1_seq fun K hK => ?_) | (refine w1_region rfl (by kernel_rfl) fun OPS hO => ?_) | (refine w1_draw (by kernel_rfl) rfl (by kernel_rfl) fun OPS hO => ?_) | (refine w1_ret ?_) | (refine w1_skip ?_; refine hK _ ?_; clear hK K) | (refine w1_cond _ rfl (fun hb => ?_) (fun hb => ?_) <;> (first | (cases hb; done) | ((try simp only [Bool.not_true, Bool.not_false] at hb); (try simp only [hb]); first | (have hp := of_decide_eq_true hb; (try (exfalso; omega; done))) | (have hp := of_decide_eq_false hb; (try (exfalso; omega; done))) | skip))) | (refine w1_block ?_) | (refine w1_exit ?_; simp only [thenA, blockA, eq_self, reduceIte, if_true]; first | (refine hK _ ?_; clear hK K) | (clear hK K; refine hK _ ?_; clear hK K) | (clear hK K; clear hK K; refine hK _ ?_; clear hK K) | (clear hK K; clear hK K; clear hK K; refine hK _ ?_; clear hK K)) | (refine r1_nil ?_; clear hO) | (refine X1.mk ?_; simp only [Ex, ExC, St.ev, St.put, St.new, St.upd, St.app, St.hp, killH, AT.ofValue, isOne, loadA, fieldA, partA, indexA, elemOf?, addOff, cut, cellsA, storeA, appA, rowsA, lenA, lenOk, binA, fillA, placeS, partsA, zeroL, splice, chunk, blkOf, tf55, tf39, tf3, tf26, tf9, tf23, List.getD_cons_succ, List.getD_cons_zero, List.getElem?_cons_succ, List.getElem?_cons_zero, List.set_cons_succ, List.set_cons_zero, List.length_cons, List.length_nil, List.map_cons, List.map_nil, List.append_nil, List.nil_append, List.cons_append, List.drop_zero, List.drop_succ_cons, List.take_succ_cons, List.take_zero, List.replicate_succ, List.replicate_zero, List.flatten_cons, List.flatten_nil, List.foldl_cons, List.foldl_nil, List.cons.injEq, ba_size, List.all_cons, List.all_nil, List.length_map, List.length_append, List.getElem?_map, Option.some.injEq, Option.map_some, Option.map_none, Option.join_some, Option.join_none, Option.isSome_some, Bool.and_self, AT.c.injEq, AT.u.injEq, AT.g.injEq, AV.im.injEq, IV.v.injEq, Value.bool.injEq, Value.int.injEq, TK.sl.injEq, Prod.mk.injEq, exists_eq_left', exists_eq_left, exists_eq', exists_and_left, and_assoc, ite_true, if_true, ite_false, if_false, Bool.false_eq_true, true_and, and_true, eq_self, reduceIte, Bool.and_true, Bool.true_and, Bool.not_true, Bool.not_false, Int.natCast_nonneg, Int.toNat_natCast, Int.reduceToNat, Int.reduceLE, Int.reduceLT, Nat.reduceAdd, Nat.reduceMul, Nat.reduceLT, Nat.reduceLeDiff, Nat.reduceEqDiff, Nat.lt_irrefl, Nat.le_refl, Nat.zero_le, Nat.zero_add, Nat.add_zero, Nat.zero_mul, Nat.succ_ne_zero]; refine s1_next ?_))
  refine w1_loop (α := {x : Pg × Nat × Int // x.1.length ≤ q ∧ x.2.1 ≤ s.length ∧ funsS s (q - x.1.length) x = funsS s q ([], i1, e1) ∧ (x.2.2 = 0 → q ≤ 16)}) (fun x => decF s q x.1.1 x.1.2.1 x.1.2.2) (fun x => q - x.1.1.length) ⟨([], i1, e1), by simp, l1, rfl, fun h => by have := k1 h; omega⟩ ?_ ?_
  · refine sub_base hE [some 0, some 1] rfl (by decide) ?_ ?_
    · simp [decF, tmpsOf, subTs, subT, subA, renL]
    · simp [decF, subH, subR, subAs, subA, renL, St.hp]
  · rintro ⟨⟨ps, j, f⟩, hq, hj, hS, hb16⟩
    simp only at hq hj hS hb16
    simp only [decF, tmpsOf, List.foldl_cons, List.foldl_nil, List.replicate_succ, List.replicate_zero, List.set_cons_succ, List.set_cons_zero]
    obtain ⟨x, j2, f2, hx⟩ : ∃ x j' f', funS s j f = (x, j', f') := ⟨_, _, _, rfl⟩
    have hj2 : j2 ≤ s.length := by have := funS_le (s := s) (e := f) hj; rw [hx] at this; exact this
    have q0 := tf55; have q1 := tf39; have q2 := tf3; have q3 := tf26; have q4 := tf9; have q5 := tf23
    repeat' (first | (refine r1_step rfl ?_) | (refine r1_guard hO rfl rfl (fun hb => ?_) (fun hb => ?_) <;> (first | (cases hb; done) | ((try simp only [Bool.not_true, Bool.not_false] at hb); (try simp only [hb]); first | (have hp := of_decide_eq_true hb; (try (exfalso; omega; done))) | (have hp := of_decide_eq_false hb; (try (exfalso; omega; done))) | skip))) | (refine r1_skip hO rfl rfl ?_) | ((try simp only [St.put, St.upd, St.new, St.app, killH, List.foldl_cons, List.foldl_nil, List.length_cons, List.length_nil, List.length_append, List.cons_append, List.nil_append, List.set_cons_succ, List.set_cons_zero, cast_succ, noFp, ba_size, List.length_map, Nat.reduceAdd, List.drop_zero, List.drop_succ_cons, List.map_cons, List.map_nil, Bool.not_true, Bool.not_false]); refine s1_next ?_) | (refine x1_move_c rfl rfl ?_) | (refine x1_assign_c rfl rfl ?_) | (refine x1_fld_o rfl (by assumption) rfl rfl (by decide) rfl ?_) | (refine x1_load_o rfl (by assumption) rfl rfl rfl rfl rfl ?_) | (refine x1_load_og rfl (by assumption) rfl rfl rfl rfl rfl ?_) | (refine x1_add rfl rfl rfl (by omega) (by omega) ?_) | (refine x1_pred rfl rfl rfl (by omega) ?_) | (refine x1_sub rfl rfl rfl (by omega) (by omega) ?_) | (refine x1_mul rfl rfl rfl (by omega) (by omega) ?_) | (refine x1_eqS rfl rfl rfl ?_) | (refine x1_neS rfl rfl rfl ?_) | (refine x1_bin rfl rfl rfl rfl ?_) | (refine x1_store rfl rfl (by assumption) rfl rfl rfl rfl rfl rfl ?_) | (refine x1_storeg rfl rfl (by assumption) rfl rfl rfl rfl rfl rfl ?_) | (refine x1_pick_t rfl rfl rfl ?_) | (refine x1_pick_f rfl rfl rfl ?_) | (refine x1_not rfl rfl ?_) | (refine x1_len rfl (by assumption) rfl rfl ?_) | (refine x1_ext_c rfl rfl rfl ?_) | (refine x1_ext_g rfl rfl rfl ?_) | (refine x1_move_g rfl rfl ?_) | (refine x1_move_u rfl rfl ?_) | (refine x1_assign_g rfl rfl ?_) | (refine x1_fld_i rfl (by assumption) rfl rfl (by decide) rfl ?_) | (refine x1_load_i rfl (by assumption) rfl rfl rfl ?_) | (refine x1_load_ig rfl (by assumption) rfl rfl rfl ?_) | (refine x1_call rfl rfl (functionR_at hx hj hs) rfl (by repeat' constructor) ?_) | (refine x1_app_oo rfl tf23 rfl tf39 (by decide) rfl rfl rfl rfl rfl rfl rfl rfl (by simp) rfl (by simp; omega) (by simp; omega) ?_) | (refine r1_nil ?_; clear hO; refine hK _ ?_; clear hK K) | (refine r1_nil ⟨(by rw [hO]; kernel_rfl), ?_⟩; clear hO; refine hK _ ?_; clear hK K) | (refine w1_seq fun K hK => ?_) | (refine w1_region rfl (by kernel_rfl) fun OPS hO => ?_) | (refine w1_draw (by kernel_rfl) rfl (by kernel_rfl) fun OPS hO => ?_) | (refine w1_ret ?_) | (refine w1_skip ?_; refine hK _ ?_; clear hK K) | (refine w1_cond _ rfl (fun hb => ?_) (fun hb => ?_) <;> (first | (cases hb; done) | ((try simp only [Bool.not_true, Bool.not_false] at hb); (try simp only [hb]); first | (have hp := of_decide_eq_true hb; (try (exfalso; omega; done))) | (have hp := of_decide_eq_false hb; (try (exfalso; omega; done))) | skip))) | (refine w1_block ?_) | (refine w1_exit ?_; simp only [thenA, blockA, eq_self, reduceIte, if_true]; first | (refine hK _ ?_; clear hK K) | (clear hK K; refine hK _ ?_; clear hK K) | (clear hK K; clear hK K; refine hK _ ?_; clear hK K) | (clear hK K; clear hK K; clear hK K; refine hK _ ?_; clear hK K)) | (refine r1_nil ?_; clear hO) | (refine X1.mk ?_; simp only [Ex, ExC, St.ev, St.put, St.new, St.upd, St.app, St.hp, killH, AT.ofValue, isOne, loadA, fieldA, partA, indexA, elemOf?, addOff, cut, cellsA, storeA, appA, rowsA, lenA, lenOk, binA, fillA, placeS, partsA, zeroL, splice, chunk, blkOf, tf55, tf39, tf3, tf26, tf9, tf23, List.getD_cons_succ, List.getD_cons_zero, List.getElem?_cons_succ, List.getElem?_cons_zero, List.set_cons_succ, List.set_cons_zero, List.length_cons, List.length_nil, List.map_cons, List.map_nil, List.append_nil, List.nil_append, List.cons_append, List.drop_zero, List.drop_succ_cons, List.take_succ_cons, List.take_zero, List.replicate_succ, List.replicate_zero, List.flatten_cons, List.flatten_nil, List.foldl_cons, List.foldl_nil, List.cons.injEq, ba_size, List.all_cons, List.all_nil, List.length_map, List.length_append, List.getElem?_map, Option.some.injEq, Option.map_some, Option.map_none, Option.join_some, Option.join_none, Option.isSome_some, Bool.and_self, AT.c.injEq, AT.u.injEq, AT.g.injEq, AV.im.injEq, IV.v.injEq, Value.bool.injEq, Value.int.injEq, TK.sl.injEq, Prod.mk.injEq, exists_eq_left', exists_eq_left, exists_eq', exists_and_left, and_assoc, ite_true, if_true, ite_false, if_false, Bool.false_eq_true, true_and, and_true, eq_self, reduceIte, Bool.and_true, Bool.true_and, Bool.not_true, Bool.not_false, Int.natCast_nonneg, Int.toNat_natCast, Int.reduceToNat, Int.reduceLE, Int.reduceLT, Nat.reduceAdd, Nat.reduceMul, Nat.reduceLT, Nat.reduceLeDiff, Nat.reduceEqDiff, Nat.lt_irrefl, Nat.le_refl, Nat.zero_le, Nat.zero_add, Nat.add_zero, Nat.zero_mul, Nat.succ_ne_zero]; refine s1_next ?_))
    · have hm : q - (ps ++ [x]).length < q - ps.length := by simp; omega
      refine ⟨⟨(ps ++ [x], j2, f2), by simp; omega, hj2, ?_, fun _ => hb16 (by assumption)⟩, hm, sub_base hE [some 0, some 5] rfl (by decide) ?_ ?_⟩
      · rw [← hS]
        obtain ⟨m, hmm⟩ : ∃ m, q - ps.length = m + 1 := ⟨q - ps.length - 1, by omega⟩
        show funsS s (q - (ps ++ [x]).length) (ps ++ [x], j2, f2) = _
        rw [hmm, funsS_step (by assumption) hx, show q - (ps ++ [x]).length = m by simp; omega]
      · simp [decF, tmpsOf, subTs, subT, subA, renL]
      · have hR := subR_map (ρ := renL [some 0, some 5]) fnR (by simp [fnR]) (ps ++ [x])
        simp [decF, subH, subR, subAs, subA, renL, St.hp]
        simpa [renL] using hR
    all_goals
      have HE : funsS s q ([], i1, e1) = (ps, j, f) := by
        rw [← hS]
        cases hqk : q - ps.length with
        | zero => rfl
        | succ m => unfold funsS; rw [if_neg (fun hf : f = 0 => by first | (exact absurd hf (by assumption)) | omega)]
      rw [HE]
    · rw [if_pos (by assumption)]
      exact end_sub (sub_nil 2 4 rfl) (end_ret (rs := [.c (.im (.sl 4 [])), iT f]) rfl rfl (by repeat' constructor))
    · rw [if_pos (by assumption)]
      exact end_sub (sub_nil 2 4 rfl) (end_ret (rs := [.c (.im (.sl 4 [])), iT f]) rfl rfl (by repeat' constructor))
    · rw [if_neg (by assumption), if_pos (show j < s.length by omega)]
      exact end_sub (sub_nil 2 4 rfl) (end_ret (rs := [.c (.im (.sl 4 [])), iT 72]) rfl rfl (by repeat' constructor))
    · rw [if_neg (by assumption), if_neg (show ¬ j < s.length by omega)]
      refine end_frz hE 1 (ps.map fnI) rfl (by simp [fnI]) (rs := [.c (.im (.sl 4 (ps.map fnI))), iT 0]) ?_ rfl (by repeat' constructor)
      simp [resA, Tryz.results14, St.tmp, St.frz, frT, frA, frB, frH]
      exact List.take_of_length_le (by simp)
end Go.Proofs.YtedkfipjooafeaaGreatDoor.Ab
set_option linter.unusedSimpArgs false
set_option linter.unusedVariables false
namespace Go.Proofs.YtedkfipjooafeaaGreatDoor.Ab
open Go Go.RowKit Go.Proofs.YtedkfipjooafeaaGreatDoor Go.Proofs.YtedkfipjooafeaaGreatDoor.Code Go.Proofs.YtedkfipjooafeaaGreatDoor.Op

structure Cutting (c : UInt8) (s : B) (out : List B) (fr i : Nat) : Prop where
  le : fr ≤ i
  top : i ≤ s.length + 1
  few : out.length ≤ i
  on : i ≤ s.length → splitL c s = out ++ splitL c (s.drop fr) ∧ ∀ y ∈ (s.take i).drop fr, y ≠ c
  off : i = s.length + 1 → splitL c s = out
theorem cut_part {s : B} {fr i : Nat} (h : fr ≤ i) (hi : i ≤ s.length) : s.drop fr = (s.take i).drop fr ++ s.drop i := by
  have e : s.drop fr = (s.take i ++ s.drop i).drop fr := by rw [List.take_append_drop]
  rw [e, List.drop_append_of_le_length (by simp; omega)]
theorem Cutting.start (c : UInt8) (s : B) : Cutting c s [] 0 0 := ⟨by omega, by omega, by simp, fun _ => ⟨by simp, by simp⟩, fun h => by omega⟩
theorem Cutting.hit {c : UInt8} {s : B} {out : List B} {fr i : Nat} (h : Cutting c s out fr i) (hi : s[i]? = some c) : Cutting c s (out ++ [(s.take i).drop fr]) (i + 1) (i + 1) := by
  have hl : i < s.length := (List.getElem?_eq_some_iff.1 hi).1
  have hc : s[i] = c := (List.getElem?_eq_some_iff.1 hi).2
  have h1 := h.on (by omega)
  refine ⟨by omega, by omega, by have := h.few; simp; omega, fun _ => ⟨?_, by simp⟩, fun he => by omega⟩
  have hd : s.drop i = c :: s.drop (i + 1) := by rw [List.drop_eq_getElem_cons hl, hc]
  rw [h1.1, cut_part h.le (by omega), hd, splitL_cut c _ _ h1.2, List.append_assoc]
  rfl
theorem Cutting.last {c : UInt8} {s : B} {out : List B} {fr : Nat} (h : Cutting c s out fr s.length) : Cutting c s (out ++ [(s.take s.length).drop fr]) (s.length + 1) (s.length + 1) := by
  have h1 := h.on (by omega)
  refine ⟨by omega, by omega, by have := h.few; simp; omega, fun h => by omega, fun _ => ?_⟩
  have hd := cut_part h.le (Nat.le_refl s.length)
  rw [h1.1, hd, List.drop_length, List.append_nil, splitL_one c _ h1.2]
theorem Cutting.miss {c : UInt8} {s : B} {out : List B} {fr i : Nat} {y : UInt8} (h : Cutting c s out fr i) (hi : s[i]? = some y) (hy : y ≠ c) : Cutting c s out fr (i + 1) := by
  have hl : i < s.length := (List.getElem?_eq_some_iff.1 hi).1
  have hc : s[i] = y := (List.getElem?_eq_some_iff.1 hi).2
  have h1 := h.on (by omega)
  refine ⟨by have := h.le; omega, by omega, by have := h.few; omega, fun _ => ⟨h1.1, ?_⟩, fun he => by omega⟩
  rw [List.take_succ_eq_append_getElem hl, List.drop_append_of_le_length (by have := h.le; simp; omega), hc]
  intro z hz
  rw [List.mem_append, List.mem_singleton] at hz
  rcases hz with hz | rfl
  · exact h1.2 z hz
  · exact hy
abbrev strR (s : B) : List AV := [sA s]
abbrev strI (s : B) : List IV := [.v (str s)]
abbrev strsA (l : List B) : AV := .im (.sl 1 (l.map strI))
def cutF (s : B) (c : UInt8) (out : List B) (fr i : Nat) : St :=
  ⟨tmpsOf 36 [(0, .c (sA s)), (1, .c (.im (.v (.int .u8 c.toNat)))), (5, .c (.os 0 0 out.length)), (6, iT fr), (7, iT i)],
   [some ⟨9, 1, out.map strR, false⟩]⟩
set_option maxRecDepth 20000 in
set_option maxHeartbeats 16000000 in
theorem SplitR_a (s : B) (c : UInt8) (hs : s.length ≤ 4294967296) :
    ACalls Tryz.prog 27 [.c (sA s), .c (.im (.v (.int .u8 c.toNat)))] (.c (strsA (splitL c s))) := by
  refine acalls_w Tryz.func27 rfl (by decide) (fun E hE => ?_)
  simp only [Tryz.ntmps27, List.length_cons, List.length_nil, Nat.reduceAdd, Nat.reduceSub, List.replicate_succ, List.replicate_zero, List.cons_append, List.nil_append]
  have q0 := tf9; have q1 := tf45; have q2 := tf3; have q3 := tf5
  repeat' (first | (refine r1_step rfl ?_) | (refine r1_guard hO rfl rfl (fun hb => ?_) (fun hb => ?_) <;> (first | (cases hb; done) | ((try simp only [Bool.not_true, Bool.not_false] at hb); (try simp only [hb]); first | (have hp := of_decide_eq_true hb; (try (exfalso; omega; done))) | (have hp := of_decide_eq_false hb; (try (exfalso; omega; done))) | skip))) | (refine r1_skip hO rfl rfl ?_) | ((try simp only [St.put, St.upd, St.new, St.app, killH, List.foldl_cons, List.foldl_nil, List.length_cons, List.length_nil, List.length_append, List.cons_append, List.nil_append, List.set_cons_succ, List.set_cons_zero, cast_succ, noFp, ba_size, List.length_map, Nat.reduceAdd, List.drop_zero, List.drop_succ_cons, List.map_cons, List.map_nil, Bool.not_true, Bool.not_false]); refine s1_next ?_) | (refine x1_move_c rfl rfl ?_) | (refine x1_assign_c rfl rfl ?_) | (refine x1_fld_o rfl (by assumption) rfl rfl (by decide) rfl ?_) | (refine x1_load_o rfl (by assumption) rfl rfl rfl rfl rfl ?_) | (refine x1_load_og rfl (by assumption) rfl rfl rfl rfl rfl ?_) | (refine x1_add rfl rfl rfl (by omega) (by omega) ?_) | (refine x1_pred rfl rfl rfl (by omega) ?_) | (refine x1_sub rfl rfl rfl (by omega) (by omega) ?_) | (refine x1_mul rfl rfl rfl (by omega) (by omega) ?_) | (refine x1_eqS rfl rfl rfl ?_) | (refine x1_neS rfl rfl rfl ?_) | (refine x1_bin rfl rfl rfl rfl ?_) | (refine x1_store rfl rfl (by assumption) rfl rfl rfl rfl rfl rfl ?_) | (refine x1_storeg rfl rfl (by assumption) rfl rfl rfl rfl rfl rfl ?_) | (refine x1_pick_t rfl rfl rfl ?_) | (refine x1_pick_f rfl rfl rfl ?_) | (refine x1_not rfl rfl ?_) | (refine x1_len rfl (by assumption) rfl rfl ?_) | (refine x1_ext_c rfl rfl rfl ?_) | (refine x1_ext_g rfl rfl rfl ?_) | (refine x1_move_g rfl rfl ?_) | (refine x1_move_u rfl rfl ?_) | (refine x1_assign_g rfl rfl ?_) | (refine x1_fld_i rfl (by assumption) rfl rfl (by decide) rfl ?_) | (refine x1_load_i rfl (by assumption) rfl rfl rfl ?_) | (refine x1_load_ig rfl (by assumption) rfl rfl rfl ?_) | (fail) | (refine r1_nil ?_; clear hO; refine hK _ ?_; clear hK K) | (refine r1_nil ⟨(by rw [hO]; kernel_rfl), ?_⟩; clear hO; refine hK _ ?_; clear hK K) | (refine w1_seq fun K hK => ?_) | (refine w1_region rfl (by kernel_rfl) fun OPS hO => ?_) | (refine w1_draw (by kernel_rfl) rfl (by kernel_rfl) fun OPS hO => ?_) | (refine w1_ret ?_) | (refine w1_skip ?_; refine hK _ ?_; clear hK K) | (refine w1_cond _ rfl (fun hb => ?_) (fun hb => ?_) <;> (first | (cases hb; done) | ((try simp only [Bool.not_true, Bool.not_false] at hb); (try simp only [hb]); first | (have hp := of_decide_eq_true hb; (try (exfalso; omega; done))) | (have hp := of_decide_eq_false hb; (try (exfalso; omega; done))) | skip))) | (refine w1_block ?_) | (refine w1_exit ?_; simp only [thenA, blockA, eq_self, reduceIte, if_true]; first | (refine hK _ ?_; clear hK K) | (clear hK K; refine hK _ ?_; clear hK K) | (clear hK K; clear hK K; refine hK _ ?_; clear hK K) | (clear hK K; clear hK K; clear hK K; refine hK _ ?_; clear hK K)) | (refine r1_nil ?_; clear hO) | (refine X1.mk ?_; simp only [Ex, ExC, St.ev, St.put, St.new, St.upd, St.app, St.hp, killH, AT.ofValue, isOne, loadA, fieldA, partA, indexA, elemOf?, addOff, cut, cellsA, storeA, appA, rowsA, lenA, lenOk, binA, fillA, placeS, partsA, zeroL, splice, chunk, blkOf, tf9, tf45, tf3, tf5, List.getD_cons_succ, List.getD_cons_zero, List.getElem?_cons_succ, List.getElem?_cons_zero, List.set_cons_succ, List.set_cons_zero, List.length_cons, List.length_nil, List.map_cons, List.map_nil, List.append_nil, List.nil_append, List.cons_append, List.drop_zero, List.drop_succ_cons, List.take_succ_cons, List.take_zero, List.replicate_succ, List.replicate_zero, List.flatten_cons, List.flatten_nil, List.foldl_cons, List.foldl_nil, List.cons.injEq, ba_size, List.all_cons, List.all_nil, List.length_map, List.length_append, List.getElem?_map, Option.some.injEq, Option.map_some, Option.map_none, Option.join_some, Option.join_none, Option.isSome_some, Bool.and_self, AT.c.injEq, AT.u.injEq, AT.g.injEq, AV.im.injEq, IV.v.injEq, Value.bool.injEq, Value.int.injEq, TK.sl.injEq, Prod.mk.injEq, exists_eq_left', exists_eq_left, exists_eq', exists_and_left, and_assoc, ite_true, if_true, ite_false, if_false, Bool.false_eq_true, true_and, and_true, eq_self, reduceIte, Bool.and_true, Bool.true_and, Bool.not_true, Bool.not_false, Int.natCast_nonneg, Int.toNat_natCast, Int.reduceToNat, Int.reduceLE, Int.reduceLT, Nat.reduceAdd, Nat.reduceMul, Nat.reduceLT, Nat.reduceLeDiff, Nat.reduceEqDiff, Nat.lt_irrefl, Nat.le_refl, Nat.zero_le, Nat.zero_add, Nat.add_zero, Nat.zero_mul, Nat.succ_ne_zero]; refine s1_next ?_))
  refine w1_loop (α := {x : List B × Nat × Nat // Cutting c s x.1 x.2.1 x.2.2}) (fun x => cutF s c x.1.1 x.1.2.1 x.1.2.2) (fun x => s.length + 1 - x.1.2.2) ⟨([], 0, 0), Cutting.start c s⟩ ?_ ?_
  · refine sub_base hE [some 0] rfl (by decide) ?_ ?_
    · simp [cutF, tmpsOf, subTs, subT, subA, renL]
    · simp [cutF, subH, subR, subAs, subA, renL, St.hp]
  · rintro ⟨⟨out, fr, i⟩, hC⟩
    simp only at hC
    simp only [cutF, tmpsOf, List.foldl_cons, List.foldl_nil, List.replicate_succ, List.replicate_zero, List.set_cons_succ, List.set_cons_zero]
    have h1 := hC.le
    have h2 := hC.top
    have h3 := hC.few
    obtain ⟨y, hy⟩ : ∃ y, i < s.length → s[i]? = some y := by
      by_cases h : i < s.length
      · exact ⟨s[i], fun _ => List.getElem?_eq_getElem h⟩
      · exact ⟨0, fun h' => absurd h' h⟩
    have q0 := tf9; have q1 := tf45; have q2 := tf3; have q3 := tf5
    repeat' (first | (refine r1_step rfl ?_) | (refine r1_guard hO rfl rfl (fun hb => ?_) (fun hb => ?_) <;> (first | (cases hb; done) | ((try simp only [Bool.not_true, Bool.not_false] at hb); (try simp only [hb]); first | (have hp := of_decide_eq_true hb; (try (exfalso; omega; done))) | (have hp := of_decide_eq_false hb; (try (exfalso; omega; done))) | skip))) | (refine r1_skip hO rfl rfl ?_) | ((try simp only [St.put, St.upd, St.new, St.app, killH, List.foldl_cons, List.foldl_nil, List.length_cons, List.length_nil, List.length_append, List.cons_append, List.nil_append, List.set_cons_succ, List.set_cons_zero, cast_succ, noFp, ba_size, List.length_map, Nat.reduceAdd, List.drop_zero, List.drop_succ_cons, List.map_cons, List.map_nil, Bool.not_true, Bool.not_false]); refine s1_next ?_) | (refine x1_move_c rfl rfl ?_) | (refine x1_assign_c rfl rfl ?_) | (refine x1_fld_o rfl (by assumption) rfl rfl (by decide) rfl ?_) | (refine x1_load_o rfl (by assumption) rfl rfl rfl rfl rfl ?_) | (refine x1_load_og rfl (by assumption) rfl rfl rfl rfl rfl ?_) | (refine x1_add rfl rfl rfl (by omega) (by omega) ?_) | (refine x1_pred rfl rfl rfl (by omega) ?_) | (refine x1_sub rfl rfl rfl (by omega) (by omega) ?_) | (refine x1_mul rfl rfl rfl (by omega) (by omega) ?_) | (refine x1_eqS rfl rfl rfl ?_) | (refine x1_neS rfl rfl rfl ?_) | (refine x1_bin rfl rfl rfl rfl ?_) | (refine x1_store rfl rfl (by assumption) rfl rfl rfl rfl rfl rfl ?_) | (refine x1_storeg rfl rfl (by assumption) rfl rfl rfl rfl rfl rfl ?_) | (refine x1_pick_t rfl rfl rfl ?_) | (refine x1_pick_f rfl rfl rfl ?_) | (refine x1_not rfl rfl ?_) | (refine x1_len rfl (by assumption) rfl rfl ?_) | (refine x1_ext_c rfl rfl rfl ?_) | (refine x1_ext_g rfl rfl rfl ?_) | (refine x1_move_g rfl rfl ?_) | (refine x1_move_u rfl rfl ?_) | (refine x1_assign_g rfl rfl ?_) | (refine x1_fld_i rfl (by assumption) rfl rfl (by decide) rfl ?_) | (refine x1_load_i rfl (by assumption) rfl rfl rfl ?_) | (refine x1_load_ig rfl (by assumption) rfl rfl rfl ?_) | (refine x1_byte rfl tf9 rfl rfl rfl (by omega) (c := y) (by simpa using hy (by omega)) ?_) | (refine x1_cutS rfl tf9 rfl rfl rfl rfl (by omega) (by omega) (by omega) ?_) | (refine x1_app_oo rfl tf45 rfl tf9 (by decide) rfl rfl rfl rfl rfl rfl rfl rfl (by simp) rfl (by simp; omega) (by simp; omega) ?_) | (refine r1_nil ?_; clear hO; refine hK _ ?_; clear hK K) | (refine r1_nil ⟨(by rw [hO]; kernel_rfl), ?_⟩; clear hO; refine hK _ ?_; clear hK K) | (refine w1_seq fun K hK => ?_) | (refine w1_region rfl (by kernel_rfl) fun OPS hO => ?_) | (refine w1_draw (by kernel_rfl) rfl (by kernel_rfl) fun OPS hO => ?_) | (refine w1_ret ?_) | (refine w1_skip ?_; refine hK _ ?_; clear hK K) | (refine w1_cond _ rfl (fun hb => ?_) (fun hb => ?_) <;> (first | (cases hb; done) | ((try simp only [Bool.not_true, Bool.not_false] at hb); (try simp only [hb]); first | (have hp := of_decide_eq_true hb; (try (exfalso; omega; done))) | (have hp := of_decide_eq_false hb; (try (exfalso; omega; done))) | skip))) | (refine w1_block ?_) | (refine w1_exit ?_; simp only [thenA, blockA, eq_self, reduceIte, if_true]; first | (refine hK _ ?_; clear hK K) | (clear hK K; refine hK _ ?_; clear hK K) | (clear hK K; clear hK K; refine hK _ ?_; clear hK K) | (clear hK K; clear hK K; clear hK K; refine hK _ ?_; clear hK K)) | (refine r1_nil ?_; clear hO) | (refine X1.mk ?_; simp only [Ex, ExC, St.ev, St.put, St.new, St.upd, St.app, St.hp, killH, AT.ofValue, isOne, loadA, fieldA, partA, indexA, elemOf?, addOff, cut, cellsA, storeA, appA, rowsA, lenA, lenOk, binA, fillA, placeS, partsA, zeroL, splice, chunk, blkOf, tf9, tf45, tf3, tf5, List.getD_cons_succ, List.getD_cons_zero, List.getElem?_cons_succ, List.getElem?_cons_zero, List.set_cons_succ, List.set_cons_zero, List.length_cons, List.length_nil, List.map_cons, List.map_nil, List.append_nil, List.nil_append, List.cons_append, List.drop_zero, List.drop_succ_cons, List.take_succ_cons, List.take_zero, List.replicate_succ, List.replicate_zero, List.flatten_cons, List.flatten_nil, List.foldl_cons, List.foldl_nil, List.cons.injEq, ba_size, List.all_cons, List.all_nil, List.length_map, List.length_append, List.getElem?_map, Option.some.injEq, Option.map_some, Option.map_none, Option.join_some, Option.join_none, Option.isSome_some, Bool.and_self, AT.c.injEq, AT.u.injEq, AT.g.injEq, AV.im.injEq, IV.v.injEq, Value.bool.injEq, Value.int.injEq, TK.sl.injEq, Prod.mk.injEq, exists_eq_left', exists_eq_left, exists_eq', exists_and_left, and_assoc, ite_true, if_true, ite_false, if_false, Bool.false_eq_true, true_and, and_true, eq_self, reduceIte, Bool.and_true, Bool.true_and, Bool.not_true, Bool.not_false, Int.natCast_nonneg, Int.toNat_natCast, Int.reduceToNat, Int.reduceLE, Int.reduceLT, Nat.reduceAdd, Nat.reduceMul, Nat.reduceLT, Nat.reduceLeDiff, Nat.reduceEqDiff, Nat.lt_irrefl, Nat.le_refl, Nat.zero_le, Nat.zero_add, Nat.add_zero, Nat.zero_mul, Nat.succ_ne_zero]; refine s1_next ?_))
    · have hC' := hC.hit (by rw [hy (by omega)]; congr 1; apply UInt8.toNat_inj.1; omega)
      have hm : s.length + 1 - (i + 1) < s.length + 1 - i := by omega
      refine ⟨⟨(out ++ [(s.take i).drop fr], i + 1, i + 1), hC'⟩, hm, sub_base hE [some 2] rfl (by decide) ?_ ?_⟩
      · simp [subTs, subT, subA, renL]
      · have hR := subR_map (ρ := renL [some 2]) strR (by simp [strR]) (out ++ [(s.take i).drop fr])
        simp [subH, subR, subAs, subA, renL, St.hp]
        simpa [renL] using hR
    · have hC' := hC.miss (hy (by omega)) (fun h => by subst h; omega)
      have hm : s.length + 1 - (i + 1) < s.length + 1 - i := by omega
      refine ⟨⟨(out, fr, i + 1), hC'⟩, hm, sub_base hE [some 0] rfl (by decide) ?_ ?_⟩
      · simp [subTs, subT, subA, renL]
      · have hR := subR_map (ρ := renL [some 0]) strR (by simp [strR]) out
        simp [subH, subR, subAs, subA, renL, St.hp]
        try simpa [renL] using hR
    · obtain rfl : i = s.length := by omega
      have hC' := hC.last
      have hm : s.length + 1 - (s.length + 1) < s.length + 1 - s.length := by omega
      refine ⟨⟨(out ++ [(s.take s.length).drop fr], s.length + 1, s.length + 1), hC'⟩, hm, sub_base hE [some 2] rfl (by decide) ?_ ?_⟩
      · simp [subTs, subT, subA, renL]
      · have hR := subR_map (ρ := renL [some 2]) strR (by simp [strR]) (out ++ [(s.take s.length).drop fr])
        simp [subH, subR, subAs, subA, renL, St.hp]
        simpa [renL] using hR
    · rw [hC.off (by omega)]
      refine end_frz hE 0 (out.map strI) rfl (by simp [strI]) (rs := [.c (.im (.sl 1 (out.map strI)))]) ?_ rfl (by repeat' constructor)
      simp [resA, Tryz.results27, St.tmp, St.frz, frT, frA, frB, frH]
      exact List.take_of_length_le (by simp)
end Go.Proofs.YtedkfipjooafeaaGreatDoor.Ab
set_option linter.unusedSimpArgs false
set_option linter.unusedVariables false
namespace Go.Proofs.YtedkfipjooafeaaGreatDoor.Ab
open Go Go.RowKit Go.Proofs.YtedkfipjooafeaaGreatDoor Go.Proofs.YtedkfipjooafeaaGreatDoor.Code Go.Proofs.YtedkfipjooafeaaGreatDoor.Op

def foldN (l : B) (i : Nat) : Int := (l.take i).foldl (fun a d => 10 * a + d.toNat - 48) 0
theorem foldN_succ {l : B} {i : Nat} {c : UInt8} (h : l[i]? = some c) : foldN l (i + 1) = 10 * foldN l i + c.toNat - 48 := by
  unfold foldN
  have hl := (List.getElem?_eq_some_iff.1 h).1
  rw [List.take_succ_eq_append_getElem hl, List.foldl_append, (List.getElem?_eq_some_iff.1 h).2]
  rfl
def numN (l : B) : Int := if 3 < l.length then -1 else if foldN l l.length < 0 ∨ Lib.itoa (foldN l l.length) ≠ l then -1 else foldN l l.length
theorem numN_itoa {l : B} (h : 0 ≤ numN l) : Lib.itoa (numN l) = l := by
  unfold numN at h ⊢
  by_cases h1 : 3 < l.length
  · rw [if_pos h1] at h; omega
  · rw [if_neg h1] at h ⊢
    by_cases h2 : foldN l l.length < 0 ∨ Lib.itoa (foldN l l.length) ≠ l
    · rw [if_pos h2] at h; omega
    · rw [if_neg h2]
      exact Classical.byContradiction fun h3 => h2 (.inr h3)
theorem fold_dec (l : B) (h : ∀ c ∈ l, 48 ≤ c.toNat ∧ c.toNat ≤ 57) : l.foldl (fun (a : Int) d => 10 * a + d.toNat - 48) 0 = deval l := by
  have key : ∀ (l : B) (a : Nat), (∀ c ∈ l, 48 ≤ c.toNat ∧ c.toNat ≤ 57) → l.foldl (fun (a : Int) d => 10 * a + d.toNat - 48) (a : Int) = ((l.foldl (fun a d => a * 10 + (d.toNat - 48)) a : Nat) : Int) := by
    intro l
    induction l with
    | nil => intro a _; rfl
    | cons c l ih =>
      intro a hc
      have := hc c (by simp)
      rw [List.foldl_cons, List.foldl_cons, ← ih _ (fun d hd => hc d (by simp [hd]))]
      congr 1; omega
  exact key l 0 h
theorem itoa_numN {n : Int} (h0 : 0 ≤ n) (h1 : n < 1000) : numN (Lib.itoa n) = n := by
  have hl := itoa_len h0 h1
  have hf : foldN (Lib.itoa n) (Lib.itoa n).length = n := by
    unfold foldN
    rw [List.take_length, itoa_nat h0, fold_dec _ (dec_ne _), deval_dec]
    omega
  unfold numN
  rw [if_neg (by omega), hf, if_neg (by intro h; rcases h with h | h; · omega
                                        · exact h rfl)]
theorem foldN_bd (l : B) (i : Nat) (hi : i ≤ l.length) : (i = 0 → foldN l i = 0) ∧ (i ≤ 1 → -100 ≤ foldN l i ∧ foldN l i ≤ 300) ∧ (i ≤ 2 → -2000 ≤ foldN l i ∧ foldN l i ≤ 4000) ∧ (i ≤ 3 → -30000 ≤ foldN l i ∧ foldN l i ≤ 50000) := by
  induction i with
  | zero =>
    have e : foldN l 0 = 0 := rfl
    rw [e]; omega
  | succ i ih =>
    have := ih (by omega)
    have hc := foldN_succ (List.getElem?_eq_getElem (show i < l.length by omega))
    have hb := (l[i]).toNat_lt
    rw [hc]
    omega
theorem digitsR_a {n : Int} (h0 : 0 ≤ n) (h1 : n ≤ 9223372036854775807) : ACalls Tryz.prog 74 [iT n] (.c (sA (Lib.itoa n))) :=
  acalls_plain (vs := [.int .i64 n]) (r := str (Lib.itoa n)) (by kernel_rfl) rfl (fun W => DigitsI_calls n h0 h1 W)
def numF (s : B) (i : Nat) : St := ⟨tmpsOf 31 [(0, .c (sA s)), (3, iT (foldN s i)), (4, iT i)], []⟩
set_option maxRecDepth 20000 in
set_option maxHeartbeats 16000000 in
theorem NumberR_a (s : B) (hs : s.length ≤ 4294967296) :
    ACalls Tryz.prog 60 [.c (sA s)] (iT (numN s)) := by
  refine acalls_w Tryz.func60 rfl (by decide) (fun E hE => ?_)
  simp only [Tryz.ntmps60, List.length_cons, List.length_nil, Nat.reduceAdd, Nat.reduceSub, List.replicate_succ, List.replicate_zero, List.cons_append, List.nil_append]
  have q0 := tf9; have q1 := tf3; have q2 := tf5
  repeat' (first | (refine r1_step rfl ?_) | (refine r1_guard hO rfl rfl (fun hb => ?_) (fun hb => ?_) <;> (first | (cases hb; done) | ((try simp only [Bool.not_true, Bool.not_false] at hb); (try simp only [hb]); first | (have hp := of_decide_eq_true hb; (try (exfalso; omega; done))) | (have hp := of_decide_eq_false hb; (try (exfalso; omega; done))) | skip))) | (refine r1_skip hO rfl rfl ?_) | ((try simp only [St.put, St.upd, St.new, St.app, killH, List.foldl_cons, List.foldl_nil, List.length_cons, List.length_nil, List.length_append, List.cons_append, List.nil_append, List.set_cons_succ, List.set_cons_zero, cast_succ, noFp, ba_size, List.length_map, Nat.reduceAdd, List.drop_zero, List.drop_succ_cons, List.map_cons, List.map_nil, Bool.not_true, Bool.not_false]); refine s1_next ?_) | (refine x1_move_c rfl rfl ?_) | (refine x1_assign_c rfl rfl ?_) | (refine x1_fld_o rfl (by assumption) rfl rfl (by decide) rfl ?_) | (refine x1_load_o rfl (by assumption) rfl rfl rfl rfl rfl ?_) | (refine x1_load_og rfl (by assumption) rfl rfl rfl rfl rfl ?_) | (refine x1_add rfl rfl rfl (by omega) (by omega) ?_) | (refine x1_pred rfl rfl rfl (by omega) ?_) | (refine x1_sub rfl rfl rfl (by omega) (by omega) ?_) | (refine x1_mul rfl rfl rfl (by omega) (by omega) ?_) | (refine x1_eqS rfl rfl rfl ?_) | (refine x1_neS rfl rfl rfl ?_) | (refine x1_bin rfl rfl rfl rfl ?_) | (refine x1_store rfl rfl (by assumption) rfl rfl rfl rfl rfl rfl ?_) | (refine x1_storeg rfl rfl (by assumption) rfl rfl rfl rfl rfl rfl ?_) | (refine x1_pick_t rfl rfl rfl ?_) | (refine x1_pick_f rfl rfl rfl ?_) | (refine x1_not rfl rfl ?_) | (refine x1_len rfl (by assumption) rfl rfl ?_) | (refine x1_ext_c rfl rfl rfl ?_) | (refine x1_ext_g rfl rfl rfl ?_) | (refine x1_move_g rfl rfl ?_) | (refine x1_move_u rfl rfl ?_) | (refine x1_assign_g rfl rfl ?_) | (refine x1_fld_i rfl (by assumption) rfl rfl (by decide) rfl ?_) | (refine x1_load_i rfl (by assumption) rfl rfl rfl ?_) | (refine x1_load_ig rfl (by assumption) rfl rfl rfl ?_) | (fail) | (refine r1_nil ?_; clear hO; refine hK _ ?_; clear hK K) | (refine r1_nil ⟨(by rw [hO]; kernel_rfl), ?_⟩; clear hO; refine hK _ ?_; clear hK K) | (refine w1_seq fun K hK => ?_) | (refine w1_region rfl (by kernel_rfl) fun OPS hO => ?_) | (refine w1_draw (by kernel_rfl) rfl (by kernel_rfl) fun OPS hO => ?_) | (refine w1_ret ?_) | (refine w1_skip ?_; refine hK _ ?_; clear hK K) | (refine w1_cond _ rfl (fun hb => ?_) (fun hb => ?_) <;> (first | (cases hb; done) | ((try simp only [Bool.not_true, Bool.not_false] at hb); (try simp only [hb]); first | (have hp := of_decide_eq_true hb; (try (exfalso; omega; done))) | (have hp := of_decide_eq_false hb; (try (exfalso; omega; done))) | skip))) | (refine w1_block ?_) | (refine w1_exit ?_; simp only [thenA, blockA, eq_self, reduceIte, if_true]; first | (refine hK _ ?_; clear hK K) | (clear hK K; refine hK _ ?_; clear hK K) | (clear hK K; clear hK K; refine hK _ ?_; clear hK K) | (clear hK K; clear hK K; clear hK K; refine hK _ ?_; clear hK K)) | (refine r1_nil ?_; clear hO) | (refine X1.mk ?_; simp only [Ex, ExC, St.ev, St.put, St.new, St.upd, St.app, St.hp, killH, AT.ofValue, isOne, loadA, fieldA, partA, indexA, elemOf?, addOff, cut, cellsA, storeA, appA, rowsA, lenA, lenOk, binA, fillA, placeS, partsA, zeroL, splice, chunk, blkOf, tf9, tf3, tf5, List.getD_cons_succ, List.getD_cons_zero, List.getElem?_cons_succ, List.getElem?_cons_zero, List.set_cons_succ, List.set_cons_zero, List.length_cons, List.length_nil, List.map_cons, List.map_nil, List.append_nil, List.nil_append, List.cons_append, List.drop_zero, List.drop_succ_cons, List.take_succ_cons, List.take_zero, List.replicate_succ, List.replicate_zero, List.flatten_cons, List.flatten_nil, List.foldl_cons, List.foldl_nil, List.cons.injEq, ba_size, List.all_cons, List.all_nil, List.length_map, List.length_append, List.getElem?_map, Option.some.injEq, Option.map_some, Option.map_none, Option.join_some, Option.join_none, Option.isSome_some, Bool.and_self, AT.c.injEq, AT.u.injEq, AT.g.injEq, AV.im.injEq, IV.v.injEq, Value.bool.injEq, Value.int.injEq, TK.sl.injEq, Prod.mk.injEq, exists_eq_left', exists_eq_left, exists_eq', exists_and_left, and_assoc, ite_true, if_true, ite_false, if_false, Bool.false_eq_true, true_and, and_true, eq_self, reduceIte, Bool.and_true, Bool.true_and, Bool.not_true, Bool.not_false, Int.natCast_nonneg, Int.toNat_natCast, Int.reduceToNat, Int.reduceLE, Int.reduceLT, Nat.reduceAdd, Nat.reduceMul, Nat.reduceLT, Nat.reduceLeDiff, Nat.reduceEqDiff, Nat.lt_irrefl, Nat.le_refl, Nat.zero_le, Nat.zero_add, Nat.add_zero, Nat.zero_mul, Nat.succ_ne_zero]; refine s1_next ?_))
  · rw [show numN s = -1 by unfold numN; rw [if_pos (by omega)]]
    exact end_ret (rs := [iT (-1)]) rfl rfl (by repeat' constructor)
  refine w1_loop (α := {x : Nat // x ≤ s.length}) (fun x => numF s x.1) (fun x => s.length - x.1) ⟨0, by omega⟩ ?_ ?_
  · refine sub_base hE [] rfl (by decide) ?_ ?_
    · simp [numF, tmpsOf, subTs, subT, subA, renL, foldN]
    · simp [numF, subH, subR, subAs, subA, renL, St.hp]
  · rintro ⟨i, hi⟩
    simp only [numF, tmpsOf, List.foldl_cons, List.foldl_nil, List.replicate_succ, List.replicate_zero, List.set_cons_succ, List.set_cons_zero]
    have hb := foldN_bd s i hi
    obtain ⟨y, hy⟩ : ∃ y, i < s.length → s[i]? = some y := by
      by_cases h : i < s.length
      · exact ⟨s[i], fun _ => List.getElem?_eq_getElem h⟩
      · exact ⟨0, fun h' => absurd h' h⟩
    have hy2 := y.toNat_lt
    have q0 := tf9; have q1 := tf3; have q2 := tf5
    repeat' (first | (refine r1_step rfl ?_) | (refine r1_guard hO rfl rfl (fun hb => ?_) (fun hb => ?_) <;> (first | (cases hb; done) | ((try simp only [Bool.not_true, Bool.not_false] at hb); (try simp only [hb]); first | (have hp := of_decide_eq_true hb; (try (exfalso; omega; done))) | (have hp := of_decide_eq_false hb; (try (exfalso; omega; done))) | skip))) | (refine r1_skip hO rfl rfl ?_) | ((try simp only [St.put, St.upd, St.new, St.app, killH, List.foldl_cons, List.foldl_nil, List.length_cons, List.length_nil, List.length_append, List.cons_append, List.nil_append, List.set_cons_succ, List.set_cons_zero, cast_succ, noFp, ba_size, List.length_map, Nat.reduceAdd, List.drop_zero, List.drop_succ_cons, List.map_cons, List.map_nil, Bool.not_true, Bool.not_false]); refine s1_next ?_) | (refine x1_move_c rfl rfl ?_) | (refine x1_assign_c rfl rfl ?_) | (refine x1_fld_o rfl (by assumption) rfl rfl (by decide) rfl ?_) | (refine x1_load_o rfl (by assumption) rfl rfl rfl rfl rfl ?_) | (refine x1_load_og rfl (by assumption) rfl rfl rfl rfl rfl ?_) | (refine x1_add rfl rfl rfl (by omega) (by omega) ?_) | (refine x1_pred rfl rfl rfl (by omega) ?_) | (refine x1_sub rfl rfl rfl (by omega) (by omega) ?_) | (refine x1_mul rfl rfl rfl (by omega) (by omega) ?_) | (refine x1_eqS rfl rfl rfl ?_) | (refine x1_neS rfl rfl rfl ?_) | (refine x1_bin rfl rfl rfl rfl ?_) | (refine x1_store rfl rfl (by assumption) rfl rfl rfl rfl rfl rfl ?_) | (refine x1_storeg rfl rfl (by assumption) rfl rfl rfl rfl rfl rfl ?_) | (refine x1_pick_t rfl rfl rfl ?_) | (refine x1_pick_f rfl rfl rfl ?_) | (refine x1_not rfl rfl ?_) | (refine x1_len rfl (by assumption) rfl rfl ?_) | (refine x1_ext_c rfl rfl rfl ?_) | (refine x1_ext_g rfl rfl rfl ?_) | (refine x1_move_g rfl rfl ?_) | (refine x1_move_u rfl rfl ?_) | (refine x1_assign_g rfl rfl ?_) | (refine x1_fld_i rfl (by assumption) rfl rfl (by decide) rfl ?_) | (refine x1_load_i rfl (by assumption) rfl rfl rfl ?_) | (refine x1_load_ig rfl (by assumption) rfl rfl rfl ?_) | (refine x1_byte rfl tf9 rfl rfl rfl (by omega) (c := y) (by simpa using hy (by omega)) ?_) | (refine x1_conv rfl Tryz.underlying5 Tryz.underlying3 rfl ?_; rw [wrap_u8]) | (refine x1_call rfl rfl (digitsR_a (n := foldN s i) (by omega) (by omega)) rfl (by repeat' constructor) ?_) | (refine r1_nil ?_; clear hO; refine hK _ ?_; clear hK K) | (refine r1_nil ⟨(by rw [hO]; kernel_rfl), ?_⟩; clear hO; refine hK _ ?_; clear hK K) | (refine w1_seq fun K hK => ?_) | (refine w1_region rfl (by kernel_rfl) fun OPS hO => ?_) | (refine w1_draw (by kernel_rfl) rfl (by kernel_rfl) fun OPS hO => ?_) | (refine w1_ret ?_) | (refine w1_skip ?_; refine hK _ ?_; clear hK K) | (refine w1_cond _ rfl (fun hb => ?_) (fun hb => ?_) <;> (first | (cases hb; done) | ((try simp only [Bool.not_true, Bool.not_false] at hb); (try simp only [hb]); first | (have hp := of_decide_eq_true hb; (try (exfalso; omega; done))) | (have hp := of_decide_eq_false hb; (try (exfalso; omega; done))) | skip))) | (refine w1_block ?_) | (refine w1_exit ?_; simp only [thenA, blockA, eq_self, reduceIte, if_true]; first | (refine hK _ ?_; clear hK K) | (clear hK K; refine hK _ ?_; clear hK K) | (clear hK K; clear hK K; refine hK _ ?_; clear hK K) | (clear hK K; clear hK K; clear hK K; refine hK _ ?_; clear hK K)) | (refine r1_nil ?_; clear hO) | (refine X1.mk ?_; simp only [Ex, ExC, St.ev, St.put, St.new, St.upd, St.app, St.hp, killH, AT.ofValue, isOne, loadA, fieldA, partA, indexA, elemOf?, addOff, cut, cellsA, storeA, appA, rowsA, lenA, lenOk, binA, fillA, placeS, partsA, zeroL, splice, chunk, blkOf, tf9, tf3, tf5, List.getD_cons_succ, List.getD_cons_zero, List.getElem?_cons_succ, List.getElem?_cons_zero, List.set_cons_succ, List.set_cons_zero, List.length_cons, List.length_nil, List.map_cons, List.map_nil, List.append_nil, List.nil_append, List.cons_append, List.drop_zero, List.drop_succ_cons, List.take_succ_cons, List.take_zero, List.replicate_succ, List.replicate_zero, List.flatten_cons, List.flatten_nil, List.foldl_cons, List.foldl_nil, List.cons.injEq, ba_size, List.all_cons, List.all_nil, List.length_map, List.length_append, List.getElem?_map, Option.some.injEq, Option.map_some, Option.map_none, Option.join_some, Option.join_none, Option.isSome_some, Bool.and_self, AT.c.injEq, AT.u.injEq, AT.g.injEq, AV.im.injEq, IV.v.injEq, Value.bool.injEq, Value.int.injEq, TK.sl.injEq, Prod.mk.injEq, exists_eq_left', exists_eq_left, exists_eq', exists_and_left, and_assoc, ite_true, if_true, ite_false, if_false, Bool.false_eq_true, true_and, and_true, eq_self, reduceIte, Bool.and_true, Bool.true_and, Bool.not_true, Bool.not_false, Int.natCast_nonneg, Int.toNat_natCast, Int.reduceToNat, Int.reduceLE, Int.reduceLT, Nat.reduceAdd, Nat.reduceMul, Nat.reduceLT, Nat.reduceLeDiff, Nat.reduceEqDiff, Nat.lt_irrefl, Nat.le_refl, Nat.zero_le, Nat.zero_add, Nat.add_zero, Nat.zero_mul, Nat.succ_ne_zero]; refine s1_next ?_))
    · have hm : s.length - (i + 1) < s.length - i := by omega
      refine ⟨⟨i + 1, by omega⟩, hm, sub_base hE [] rfl (by decide) ?_ ?_⟩
      · simp [subTs, subT, subA, renL, foldN_succ (hy (by omega))]
      · simp [subH, subR, subAs, subA, renL, St.hp]
    all_goals obtain rfl : i = s.length := by omega
    · rw [show numN s = -1 by unfold numN; rw [if_neg (by omega), if_pos (.inr (by simpa using hb))]]
      exact end_ret (rs := [iT (-1)]) rfl rfl (by repeat' constructor)
    · rw [show numN s = foldN s s.length by unfold numN; rw [if_neg (by omega), if_neg (fun h => h.elim (fun h => by omega) (fun h => h (by simpa using hb)))]]
      exact end_ret (rs := [iT (foldN s s.length)]) rfl rfl (by repeat' constructor)
    · rw [show numN s = -1 by unfold numN; rw [if_neg (by omega), if_pos (.inl (by omega))]]
      exact end_ret (rs := [iT (-1)]) rfl rfl (by repeat' constructor)
def findN (s : B) : Int := if s ∈ names then (names.idxOf s : Nat) else -1
theorem findN_is {s : B} (h : isOp (findN s) = true) : opName (findN s) = s := by
  unfold findN at h ⊢
  by_cases hm : s ∈ names
  · rw [if_pos hm] at h ⊢
    unfold opName
    rw [if_pos h, Int.toNat_natCast, List.getD_eq_getElem?_getD, List.getElem?_eq_getElem (List.idxOf_lt_length_of_mem hm), List.getElem_idxOf]; rfl
  · rw [if_neg hm] at h; exact absurd h (by decide)
theorem findN_name {n : Int} (h : isOp n = true) : findN (opName n) = n := by
  have hn : 0 ≤ n ∧ n < 17 := by unfold isOp at h; simpa using h
  have key : ∀ a : _root_.Fin 17, findN (opName (a.1 : Int)) = a.1 := by decide
  have := key ⟨n.toNat, by omega⟩
  simp only [Int.toNat_of_nonneg hn.1] at this
  exact this
abbrev namesI : List (List IV) := names.map strI
set_option maxRecDepth 20000 in
theorem namesR_a : ACalls Tryz.prog 85 [] (.c (.im (.sl 1 namesI))) := by
  refine acalls_w Tryz.func85 rfl (by decide) (fun E hE => ?_)
  simp only [Tryz.ntmps85, List.length_cons, List.length_nil, Nat.reduceAdd, Nat.reduceSub, List.replicate_succ, List.replicate_zero, List.cons_append, List.nil_append]
  have q0 := tf9; have q1 := tf45; have q2 := tf3; have q3 := tf5
  repeat' (first | (refine r1_step rfl ?_) | (refine r1_guard hO rfl rfl (fun hb => ?_) (fun hb => ?_) <;> (first | (cases hb; done) | ((try simp only [Bool.not_true, Bool.not_false] at hb); (try simp only [hb]); first | (have hp := of_decide_eq_true hb; (try (exfalso; omega; done))) | (have hp := of_decide_eq_false hb; (try (exfalso; omega; done))) | skip))) | (refine r1_skip hO rfl rfl ?_) | ((try simp only [St.put, St.upd, St.new, St.app, killH, List.foldl_cons, List.foldl_nil, List.length_cons, List.length_nil, List.length_append, List.cons_append, List.nil_append, List.set_cons_succ, List.set_cons_zero, cast_succ, noFp, ba_size, List.length_map, Nat.reduceAdd, List.drop_zero, List.drop_succ_cons, List.map_cons, List.map_nil, Bool.not_true, Bool.not_false]); refine s1_next ?_) | (refine x1_move_c rfl rfl ?_) | (refine x1_assign_c rfl rfl ?_) | (refine x1_fld_o rfl (by assumption) rfl rfl (by decide) rfl ?_) | (refine x1_load_o rfl (by assumption) rfl rfl rfl rfl rfl ?_) | (refine x1_load_og rfl (by assumption) rfl rfl rfl rfl rfl ?_) | (refine x1_add rfl rfl rfl (by omega) (by omega) ?_) | (refine x1_pred rfl rfl rfl (by omega) ?_) | (refine x1_sub rfl rfl rfl (by omega) (by omega) ?_) | (refine x1_mul rfl rfl rfl (by omega) (by omega) ?_) | (refine x1_eqS rfl rfl rfl ?_) | (refine x1_neS rfl rfl rfl ?_) | (refine x1_bin rfl rfl rfl rfl ?_) | (refine x1_store rfl rfl (by assumption) rfl rfl rfl rfl rfl rfl ?_) | (refine x1_storeg rfl rfl (by assumption) rfl rfl rfl rfl rfl rfl ?_) | (refine x1_pick_t rfl rfl rfl ?_) | (refine x1_pick_f rfl rfl rfl ?_) | (refine x1_not rfl rfl ?_) | (refine x1_len rfl (by assumption) rfl rfl ?_) | (refine x1_ext_c rfl rfl rfl ?_) | (refine x1_ext_g rfl rfl rfl ?_) | (refine x1_move_g rfl rfl ?_) | (refine x1_move_u rfl rfl ?_) | (refine x1_assign_g rfl rfl ?_) | (refine x1_fld_i rfl (by assumption) rfl rfl (by decide) rfl ?_) | (refine x1_load_i rfl (by assumption) rfl rfl rfl ?_) | (refine x1_load_ig rfl (by assumption) rfl rfl rfl ?_) | (fail) | (refine r1_nil ?_; clear hO; refine hK _ ?_; clear hK K) | (refine r1_nil ⟨(by rw [hO]; kernel_rfl), ?_⟩; clear hO; refine hK _ ?_; clear hK K) | (refine w1_seq fun K hK => ?_) | (refine w1_region rfl (by kernel_rfl) fun OPS hO => ?_) | (refine w1_draw (by kernel_rfl) rfl (by kernel_rfl) fun OPS hO => ?_) | (refine w1_ret ?_) | (refine w1_skip ?_; refine hK _ ?_; clear hK K) | (refine w1_cond _ rfl (fun hb => ?_) (fun hb => ?_) <;> (first | (cases hb; done) | ((try simp only [Bool.not_true, Bool.not_false] at hb); (try simp only [hb]); first | (have hp := of_decide_eq_true hb; (try (exfalso; omega; done))) | (have hp := of_decide_eq_false hb; (try (exfalso; omega; done))) | skip))) | (refine w1_block ?_) | (refine w1_exit ?_; simp only [thenA, blockA, eq_self, reduceIte, if_true]; first | (refine hK _ ?_; clear hK K) | (clear hK K; refine hK _ ?_; clear hK K) | (clear hK K; clear hK K; refine hK _ ?_; clear hK K) | (clear hK K; clear hK K; clear hK K; refine hK _ ?_; clear hK K)) | (refine r1_nil ?_; clear hO) | (refine X1.mk ?_; simp only [Ex, ExC, St.ev, St.put, St.new, St.upd, St.app, St.hp, killH, AT.ofValue, isOne, loadA, fieldA, partA, indexA, elemOf?, addOff, cut, cellsA, storeA, appA, rowsA, lenA, lenOk, binA, fillA, placeS, partsA, zeroL, splice, chunk, blkOf, tf9, tf45, tf3, tf5, List.getD_cons_succ, List.getD_cons_zero, List.getElem?_cons_succ, List.getElem?_cons_zero, List.set_cons_succ, List.set_cons_zero, List.length_cons, List.length_nil, List.map_cons, List.map_nil, List.append_nil, List.nil_append, List.cons_append, List.drop_zero, List.drop_succ_cons, List.take_succ_cons, List.take_zero, List.replicate_succ, List.replicate_zero, List.flatten_cons, List.flatten_nil, List.foldl_cons, List.foldl_nil, List.cons.injEq, ba_size, List.all_cons, List.all_nil, List.length_map, List.length_append, List.getElem?_map, Option.some.injEq, Option.map_some, Option.map_none, Option.join_some, Option.join_none, Option.isSome_some, Bool.and_self, AT.c.injEq, AT.u.injEq, AT.g.injEq, AV.im.injEq, IV.v.injEq, Value.bool.injEq, Value.int.injEq, TK.sl.injEq, Prod.mk.injEq, exists_eq_left', exists_eq_left, exists_eq', exists_and_left, and_assoc, ite_true, if_true, ite_false, if_false, Bool.false_eq_true, true_and, and_true, eq_self, reduceIte, Bool.and_true, Bool.true_and, Bool.not_true, Bool.not_false, Int.natCast_nonneg, Int.toNat_natCast, Int.reduceToNat, Int.reduceLE, Int.reduceLT, Nat.reduceAdd, Nat.reduceMul, Nat.reduceLT, Nat.reduceLeDiff, Nat.reduceEqDiff, Nat.lt_irrefl, Nat.le_refl, Nat.zero_le, Nat.zero_add, Nat.add_zero, Nat.zero_mul, Nat.succ_ne_zero]; refine s1_next ?_))
  refine end_frz hE 0 namesI rfl rfl (rs := [.c (.im (.sl 1 namesI))]) ?_ rfl (by repeat' constructor)
  rfl
theorem findN_at {s : B} {i : Nat} (h : names[i]? = some s) : findN s = i := by
  have hi : i < 17 := (List.getElem?_eq_some_iff.1 h).1
  have key : ∀ a : _root_.Fin 17, findN (names.getD a.1 []) = a.1 := by decide
  have := key ⟨i, hi⟩
  rwa [List.getD_eq_getElem?_getD, h] at this
theorem findN_no {s : B} (h : ∀ j, j < 17 → names[j]? ≠ some s) : findN s = -1 := by
  unfold findN
  rw [if_neg]
  intro hm
  obtain ⟨j, hj, e⟩ := List.mem_iff_getElem.1 hm
  exact h j hj (by rw [List.getElem?_eq_getElem hj, e])
def finF (s : B) (i : Nat) : St := ⟨tmpsOf 19 [(0, .c (sA s)), (3, .c (.im (.sl 1 namesI))), (4, iT i)], []⟩
set_option maxRecDepth 20000 in
set_option maxHeartbeats 16000000 in
theorem FindR_a (s : B) :
    ACalls Tryz.prog 61 [.c (sA s)] (iT (findN s)) := by
  refine acalls_w Tryz.func61 rfl (by decide) (fun E hE => ?_)
  simp only [Tryz.ntmps61, List.length_cons, List.length_nil, Nat.reduceAdd, Nat.reduceSub, List.replicate_succ, List.replicate_zero, List.cons_append, List.nil_append]
  have q0 := tf9; have q1 := tf45; have q2 := tf3; have q3 := tf5
  repeat' (first | (refine r1_step rfl ?_) | (refine r1_guard hO rfl rfl (fun hb => ?_) (fun hb => ?_) <;> (first | (cases hb; done) | ((try simp only [Bool.not_true, Bool.not_false] at hb); (try simp only [hb]); first | (have hp := of_decide_eq_true hb; (try (exfalso; omega; done))) | (have hp := of_decide_eq_false hb; (try (exfalso; omega; done))) | skip))) | (refine r1_skip hO rfl rfl ?_) | ((try simp only [St.put, St.upd, St.new, St.app, killH, List.foldl_cons, List.foldl_nil, List.length_cons, List.length_nil, List.length_append, List.cons_append, List.nil_append, List.set_cons_succ, List.set_cons_zero, cast_succ, noFp, ba_size, List.length_map, Nat.reduceAdd, List.drop_zero, List.drop_succ_cons, List.map_cons, List.map_nil, Bool.not_true, Bool.not_false]); refine s1_next ?_) | (refine x1_move_c rfl rfl ?_) | (refine x1_assign_c rfl rfl ?_) | (refine x1_fld_o rfl (by assumption) rfl rfl (by decide) rfl ?_) | (refine x1_load_o rfl (by assumption) rfl rfl rfl rfl rfl ?_) | (refine x1_load_og rfl (by assumption) rfl rfl rfl rfl rfl ?_) | (refine x1_add rfl rfl rfl (by omega) (by omega) ?_) | (refine x1_pred rfl rfl rfl (by omega) ?_) | (refine x1_sub rfl rfl rfl (by omega) (by omega) ?_) | (refine x1_mul rfl rfl rfl (by omega) (by omega) ?_) | (refine x1_eqS rfl rfl rfl ?_) | (refine x1_neS rfl rfl rfl ?_) | (refine x1_bin rfl rfl rfl rfl ?_) | (refine x1_store rfl rfl (by assumption) rfl rfl rfl rfl rfl rfl ?_) | (refine x1_storeg rfl rfl (by assumption) rfl rfl rfl rfl rfl rfl ?_) | (refine x1_pick_t rfl rfl rfl ?_) | (refine x1_pick_f rfl rfl rfl ?_) | (refine x1_not rfl rfl ?_) | (refine x1_len rfl (by assumption) rfl rfl ?_) | (refine x1_ext_c rfl rfl rfl ?_) | (refine x1_ext_g rfl rfl rfl ?_) | (refine x1_move_g rfl rfl ?_) | (refine x1_move_u rfl rfl ?_) | (refine x1_assign_g rfl rfl ?_) | (refine x1_fld_i rfl (by assumption) rfl rfl (by decide) rfl ?_) | (refine x1_load_i rfl (by assumption) rfl rfl rfl ?_) | (refine x1_load_ig rfl (by assumption) rfl rfl rfl ?_) | (refine x1_call rfl rfl namesR_a rfl (by repeat' constructor) ?_) | (refine r1_nil ?_; clear hO; refine hK _ ?_; clear hK K) | (refine r1_nil ⟨(by rw [hO]; kernel_rfl), ?_⟩; clear hO; refine hK _ ?_; clear hK K) | (refine w1_seq fun K hK => ?_) | (refine w1_region rfl (by kernel_rfl) fun OPS hO => ?_) | (refine w1_draw (by kernel_rfl) rfl (by kernel_rfl) fun OPS hO => ?_) | (refine w1_ret ?_) | (refine w1_skip ?_; refine hK _ ?_; clear hK K) | (refine w1_cond _ rfl (fun hb => ?_) (fun hb => ?_) <;> (first | (cases hb; done) | ((try simp only [Bool.not_true, Bool.not_false] at hb); (try simp only [hb]); first | (have hp := of_decide_eq_true hb; (try (exfalso; omega; done))) | (have hp := of_decide_eq_false hb; (try (exfalso; omega; done))) | skip))) | (refine w1_block ?_) | (refine w1_exit ?_; simp only [thenA, blockA, eq_self, reduceIte, if_true]; first | (refine hK _ ?_; clear hK K) | (clear hK K; refine hK _ ?_; clear hK K) | (clear hK K; clear hK K; refine hK _ ?_; clear hK K) | (clear hK K; clear hK K; clear hK K; refine hK _ ?_; clear hK K)) | (refine r1_nil ?_; clear hO) | (refine X1.mk ?_; simp only [Ex, ExC, St.ev, St.put, St.new, St.upd, St.app, St.hp, killH, AT.ofValue, isOne, loadA, fieldA, partA, indexA, elemOf?, addOff, cut, cellsA, storeA, appA, rowsA, lenA, lenOk, binA, fillA, placeS, partsA, zeroL, splice, chunk, blkOf, tf9, tf45, tf3, tf5, List.getD_cons_succ, List.getD_cons_zero, List.getElem?_cons_succ, List.getElem?_cons_zero, List.set_cons_succ, List.set_cons_zero, List.length_cons, List.length_nil, List.map_cons, List.map_nil, List.append_nil, List.nil_append, List.cons_append, List.drop_zero, List.drop_succ_cons, List.take_succ_cons, List.take_zero, List.replicate_succ, List.replicate_zero, List.flatten_cons, List.flatten_nil, List.foldl_cons, List.foldl_nil, List.cons.injEq, ba_size, List.all_cons, List.all_nil, List.length_map, List.length_append, List.getElem?_map, Option.some.injEq, Option.map_some, Option.map_none, Option.join_some, Option.join_none, Option.isSome_some, Bool.and_self, AT.c.injEq, AT.u.injEq, AT.g.injEq, AV.im.injEq, IV.v.injEq, Value.bool.injEq, Value.int.injEq, TK.sl.injEq, Prod.mk.injEq, exists_eq_left', exists_eq_left, exists_eq', exists_and_left, and_assoc, ite_true, if_true, ite_false, if_false, Bool.false_eq_true, true_and, and_true, eq_self, reduceIte, Bool.and_true, Bool.true_and, Bool.not_true, Bool.not_false, Int.natCast_nonneg, Int.toNat_natCast, Int.reduceToNat, Int.reduceLE, Int.reduceLT, Nat.reduceAdd, Nat.reduceMul, Nat.reduceLT, Nat.reduceLeDiff, Nat.reduceEqDiff, Nat.lt_irrefl, Nat.le_refl, Nat.zero_le, Nat.zero_add, Nat.add_zero, Nat.zero_mul, Nat.succ_ne_zero]; refine s1_next ?_))
  refine w1_loop (α := {x : Nat // x ≤ 17 ∧ ∀ j, j < x → names[j]? ≠ some s}) (fun x => finF s x.1) (fun x => 17 - x.1) ⟨0, by omega, fun j h => by omega⟩ ?_ ?_
  · refine sub_base hE [] rfl (by decide) ?_ ?_
    · simp [finF, tmpsOf, subTs, subT, subA, renL]
    · simp [finF, subH, subR, subAs, subA, renL, St.hp]
  · rintro ⟨i, hi, hno⟩
    simp only [finF, tmpsOf, List.foldl_cons, List.foldl_nil, List.replicate_succ, List.replicate_zero, List.set_cons_succ, List.set_cons_zero]
    obtain ⟨y, hy⟩ : ∃ y, i < 17 → names[i]? = some y := by
      by_cases h : i < 17
      · exact ⟨names[i]'h, fun _ => List.getElem?_eq_getElem _⟩
      · exact ⟨[], fun h' => absurd h' h⟩
    have hL : names.length = 17 := rfl
    have q0 := tf9; have q1 := tf3; have q2 := tf45
    repeat' (first | (refine r1_step rfl ?_) | (refine r1_guard hO rfl rfl (fun hb => ?_) (fun hb => ?_) <;> (first | (cases hb; done) | ((try simp only [Bool.not_true, Bool.not_false] at hb); (try simp only [hb]); first | (have hp := of_decide_eq_true hb; (try (exfalso; omega; done))) | (have hp := of_decide_eq_false hb; (try (exfalso; omega; done))) | skip))) | (refine r1_skip hO rfl rfl ?_) | ((try simp only [St.put, St.upd, St.new, St.app, killH, List.foldl_cons, List.foldl_nil, List.length_cons, List.length_nil, List.length_append, List.cons_append, List.nil_append, List.set_cons_succ, List.set_cons_zero, cast_succ, noFp, ba_size, List.length_map, Nat.reduceAdd, List.drop_zero, List.drop_succ_cons, List.map_cons, List.map_nil, Bool.not_true, Bool.not_false]); refine s1_next ?_) | (refine x1_move_c rfl rfl ?_) | (refine x1_assign_c rfl rfl ?_) | (refine x1_fld_o rfl (by assumption) rfl rfl (by decide) rfl ?_) | (refine x1_load_o rfl (by assumption) rfl rfl rfl rfl rfl ?_) | (refine x1_load_og rfl (by assumption) rfl rfl rfl rfl rfl ?_) | (refine x1_add rfl rfl rfl (by omega) (by omega) ?_) | (refine x1_pred rfl rfl rfl (by omega) ?_) | (refine x1_sub rfl rfl rfl (by omega) (by omega) ?_) | (refine x1_mul rfl rfl rfl (by omega) (by omega) ?_) | (refine x1_eqS rfl rfl rfl ?_) | (refine x1_neS rfl rfl rfl ?_) | (refine x1_bin rfl rfl rfl rfl ?_) | (refine x1_store rfl rfl (by assumption) rfl rfl rfl rfl rfl rfl ?_) | (refine x1_storeg rfl rfl (by assumption) rfl rfl rfl rfl rfl rfl ?_) | (refine x1_pick_t rfl rfl rfl ?_) | (refine x1_pick_f rfl rfl rfl ?_) | (refine x1_not rfl rfl ?_) | (refine x1_len rfl (by assumption) rfl rfl ?_) | (refine x1_ext_c rfl rfl rfl ?_) | (refine x1_ext_g rfl rfl rfl ?_) | (refine x1_move_g rfl rfl ?_) | (refine x1_move_u rfl rfl ?_) | (refine x1_assign_g rfl rfl ?_) | (refine x1_fld_i rfl (by assumption) rfl rfl (by decide) rfl ?_) | (refine x1_load_i rfl (by assumption) rfl rfl rfl ?_) | (refine x1_load_ig rfl (by assumption) rfl rfl rfl ?_) | (refine x1_ix_i rfl tf45 rfl tf9 rfl rfl rfl (by omega) (row := strI y) (by simp [namesI, hy (by omega)]) ?_) | (refine r1_nil ?_; clear hO; refine hK _ ?_; clear hK K) | (refine r1_nil ⟨(by rw [hO]; kernel_rfl), ?_⟩; clear hO; refine hK _ ?_; clear hK K) | (refine w1_seq fun K hK => ?_) | (refine w1_region rfl (by kernel_rfl) fun OPS hO => ?_) | (refine w1_draw (by kernel_rfl) rfl (by kernel_rfl) fun OPS hO => ?_) | (refine w1_ret ?_) | (refine w1_skip ?_; refine hK _ ?_; clear hK K) | (refine w1_cond _ rfl (fun hb => ?_) (fun hb => ?_) <;> (first | (cases hb; done) | ((try simp only [Bool.not_true, Bool.not_false] at hb); (try simp only [hb]); first | (have hp := of_decide_eq_true hb; (try (exfalso; omega; done))) | (have hp := of_decide_eq_false hb; (try (exfalso; omega; done))) | skip))) | (refine w1_block ?_) | (refine w1_exit ?_; simp only [thenA, blockA, eq_self, reduceIte, if_true]; first | (refine hK _ ?_; clear hK K) | (clear hK K; refine hK _ ?_; clear hK K) | (clear hK K; clear hK K; refine hK _ ?_; clear hK K) | (clear hK K; clear hK K; clear hK K; refine hK _ ?_; clear hK K)) | (refine r1_nil ?_; clear hO) | (refine X1.mk ?_; simp only [Ex, ExC, St.ev, St.put, St.new, St.upd, St.app, St.hp, killH, AT.ofValue, isOne, loadA, fieldA, partA, indexA, elemOf?, addOff, cut, cellsA, storeA, appA, rowsA, lenA, lenOk, binA, fillA, placeS, partsA, zeroL, splice, chunk, blkOf, tf9, tf3, tf45, List.getD_cons_succ, List.getD_cons_zero, List.getElem?_cons_succ, List.getElem?_cons_zero, List.set_cons_succ, List.set_cons_zero, List.length_cons, List.length_nil, List.map_cons, List.map_nil, List.append_nil, List.nil_append, List.cons_append, List.drop_zero, List.drop_succ_cons, List.take_succ_cons, List.take_zero, List.replicate_succ, List.replicate_zero, List.flatten_cons, List.flatten_nil, List.foldl_cons, List.foldl_nil, List.cons.injEq, ba_size, List.all_cons, List.all_nil, List.length_map, List.length_append, List.getElem?_map, Option.some.injEq, Option.map_some, Option.map_none, Option.join_some, Option.join_none, Option.isSome_some, Bool.and_self, AT.c.injEq, AT.u.injEq, AT.g.injEq, AV.im.injEq, IV.v.injEq, Value.bool.injEq, Value.int.injEq, TK.sl.injEq, Prod.mk.injEq, exists_eq_left', exists_eq_left, exists_eq', exists_and_left, and_assoc, ite_true, if_true, ite_false, if_false, Bool.false_eq_true, true_and, and_true, eq_self, reduceIte, Bool.and_true, Bool.true_and, Bool.not_true, Bool.not_false, Int.natCast_nonneg, Int.toNat_natCast, Int.reduceToNat, Int.reduceLE, Int.reduceLT, Nat.reduceAdd, Nat.reduceMul, Nat.reduceLT, Nat.reduceLeDiff, Nat.reduceEqDiff, Nat.lt_irrefl, Nat.le_refl, Nat.zero_le, Nat.zero_add, Nat.add_zero, Nat.zero_mul, Nat.succ_ne_zero]; refine s1_next ?_))
    · have e : y = s := by assumption
      rw [findN_at (e ▸ hy (by omega))]
      exact end_ret (rs := [iT i]) rfl rfl (by repeat' constructor)
    · have hm : 17 - (i + 1) < 17 - i := by omega
      refine ⟨⟨i + 1, by omega, fun j hj => ?_⟩, hm, sub_base hE [] rfl (by decide) ?_ ?_⟩
      · rcases Nat.lt_or_ge j i with h | h
        · exact hno j h
        · obtain rfl : j = i := by omega
          rw [hy (by omega)]
          intro e
          injection e with e
          contradiction
      · simp [subTs, subT, subA, renL]
      · simp [subH, subR, subAs, subA, renL, St.hp]
    · rw [findN_no fun j hj => hno j (by omega)]
      exact end_ret (rs := [iT (-1)]) rfl rfl (by repeat' constructor)
end Go.Proofs.YtedkfipjooafeaaGreatDoor.Ab
set_option linter.unusedSimpArgs false
set_option linter.unusedVariables false
namespace Go.Proofs.YtedkfipjooafeaaGreatDoor.Ab
open Go Go.RowKit Go.Proofs.YtedkfipjooafeaaGreatDoor Go.Proofs.YtedkfipjooafeaaGreatDoor.Code Go.Proofs.YtedkfipjooafeaaGreatDoor.Op

inductive Lay where
  | no
  | fn (f : Code.Fn)
  | ins (x : Ins)
def numK (wt : List B) (k j : Nat) : Int := if j < k then numN (wt.getD j []) else 0
theorem numK_zero (wt : List B) (j : Nat) : numK wt 0 j = 0 := by unfold numK; rw [if_neg (by omega)]
theorem numK_at {wt : List B} {k : Nat} {v : B} (h : wt[k]? = some v) : numK wt (k + 1) k = numN v := by unfold numK; rw [if_pos (by omega), List.getD_eq_getElem?_getD, h]; rfl
theorem numK_ne (wt : List B) (k j : Nat) (h : j ≠ k) : numK wt (k + 1) j = numK wt k j := by
  unfold numK
  by_cases h1 : j < k
  · rw [if_pos h1, if_pos (by omega)]
  · rw [if_neg h1, if_neg (by omega)]
def layF (wt : List B) : Code.Fn := ⟨numK wt wt.length 0, numK wt wt.length 1, numK wt wt.length 2, []⟩
def layX (w0 : B) (wt : List B) : Ins := ⟨findN w0, numK wt wt.length 0, numK wt wt.length 1⟩
def layO (p : Pg) (w0 : B) (wt : List B) : Lay :=
  if 3 < wt.length ∨ ∃ v ∈ wt, numN v < 0 then .no
  else if w0 = funcB then (if wt.length ≠ 3 ∨ headB (layF wt) = false ∨ (p ≠ [] ∧ lastN p = 0) ∨ 16 ≤ p.length then .no else .fn (layF wt))
  else if mayI (layX w0 wt) = false ∨ (wt.length : Int) ≠ opFields (findN w0) ∨ p = [] ∨ lastN p = 200 then .no else .ins (layX w0 wt)
def layS (p : Pg) : Lay → Option Pg
  | .no => none
  | .fn f => some (p ++ [f])
  | .ins x => some (addI p x)
theorem numK_map (l : List Int) (h : ∀ n ∈ l, 0 ≤ n ∧ n < 1000) (j : Nat) : numK (l.map Lib.itoa) (l.map Lib.itoa).length j = l.getD j 0 := by
  unfold numK
  by_cases hj : j < l.length
  · rw [if_pos (by simpa using hj), List.getD_eq_getElem?_getD, List.getElem?_map, List.getElem?_eq_getElem hj, List.getD_eq_getElem?_getD, List.getElem?_eq_getElem hj]
    have := h _ (List.getElem_mem hj)
    exact itoa_numN this.1 this.2
  · rw [if_neg (by simpa using hj), List.getD_eq_getElem?_getD, List.getElem?_eq_none (by omega)]; rfl
theorem words_line {s w0 : B} {wt : List B} (h : splitL 32 s = w0 :: wt) (hp : ∀ v ∈ wt, 0 ≤ numN v) : s = lineB w0 (wt.map numN) := by
  rw [line_join, ← join_split 32 s, h]
  congr 2
  rw [List.map_map]
  exact (List.map_id wt).symm.trans (List.map_congr_left fun v hv => (numN_itoa (hp v hv)).symm)
theorem numK_list {wt : List B} (j : Nat) : numK wt wt.length j = (wt.map numN).getD j 0 := by
  unfold numK
  by_cases hj : j < wt.length
  · rw [if_pos hj, List.getD_eq_getElem?_getD, List.getD_eq_getElem?_getD, List.getElem?_map, List.getElem?_eq_getElem hj]; rfl
  · rw [if_neg hj, List.getD_eq_getElem?_getD, List.getElem?_eq_none (by simpa using hj)]; rfl
theorem lay_step {p q : Pg} {s w0 : B} {wt : List B} (hw : splitL 32 s = w0 :: wt) (h : layS p (layO p w0 wt) = some q) : Code.Step p s q := by
  unfold layO at h
  by_cases h1 : 3 < wt.length ∨ ∃ v ∈ wt, numN v < 0
  · rw [if_pos h1] at h; cases h
  rw [if_neg h1] at h
  have hp : ∀ v ∈ wt, 0 ≤ numN v := fun v hv => by
    rcases Int.lt_or_le (numN v) 0 with h | h
    · exact absurd (.inr ⟨v, hv, h⟩) h1
    · exact h
  have hs := words_line hw hp
  by_cases hf : w0 = funcB
  · rw [if_pos hf] at h
    by_cases h2 : wt.length ≠ 3 ∨ headB (layF wt) = false ∨ (p ≠ [] ∧ lastN p = 0) ∨ 16 ≤ p.length
    · rw [if_pos h2] at h; cases h
    rw [if_neg h2] at h
    injection h with h
    subst h
    have h3 : wt.length = 3 := Classical.byContradiction fun h => h2 (.inl h)
    refine .head (layF wt) ?_ rfl ?_ ?_ ?_
    · cases hb : headB (layF wt) with
      | true => rfl
      | false => exact absurd (.inr (.inl hb)) h2
    · rw [hs, hf]
      unfold headedB layF
      simp only [numK_list]
      match wt, h3 with
      | [a, b, c], _ => rfl
    · exact Nat.lt_of_not_le fun h => h2 (.inr (.inr (.inr h)))
    · by_cases hn : p = []
      · exact .inl hn
      · exact .inr fun h => h2 (.inr (.inr (.inl ⟨hn, h⟩)))
  · rw [if_neg hf] at h
    by_cases h2 : mayI (layX w0 wt) = false ∨ (wt.length : Int) ≠ opFields (findN w0) ∨ p = [] ∨ lastN p = 200
    · rw [if_pos h2] at h; cases h
    rw [if_neg h2] at h
    injection h with h
    subst h
    have hm : mayI (layX w0 wt) = true := by
      cases hb : mayI (layX w0 wt) with
      | true => rfl
      | false => exact absurd (.inl hb) h2
    have hl : (wt.length : Int) = opFields (findN w0) := Classical.byContradiction fun h => h2 (.inr (.inl h))
    refine .ins (layX w0 wt) hm ?_ (fun h => h2 (.inr (.inr (.inl h)))) (fun h => h2 (.inr (.inr (.inr h))))
    rw [hs]
    unfold writtenB
    congr 1
    · exact findN_is (isOp_of_may hm)
    · unfold fieldsB layX
      simp only [numK_list, ← hl, Int.toNat_natCast]
      rcases fields_len (findN w0) with e | e | e <;> rw [e] at hl
      · match wt, (show wt.length = 0 by omega) with
        | [], _ => rfl
      · match wt, (show wt.length = 1 by omega) with
        | [a], _ => rfl
      · match wt, (show wt.length = 2 by omega) with
        | [a, b], _ => rfl
theorem lay_none {p : Pg} {s w0 : B} {wt : List B} (hw : splitL 32 s = w0 :: wt) (h : layS p (layO p w0 wt) = none) : ∀ q, ¬ Code.Step p s q := by
  intro q hq
  have key : ∀ (n0 : B) (l : List Int), (∀ y ∈ n0, y ≠ 32) → s = lineB n0 l → (∀ n ∈ l, 0 ≤ n ∧ n < 1000) → l.length ≤ 3 → w0 = n0 ∧ wt = l.map Lib.itoa ∧ ¬ (3 < wt.length ∨ ∃ v ∈ wt, numN v < 0) := by
    intro n0 l hn he hb hl
    rw [he, line_split n0 l hn] at hw
    injection hw with e1 e2
    refine ⟨e1.symm, e2.symm, ?_⟩
    rw [← e2]
    rintro (h | ⟨v, hv, h⟩)
    · simp at h; omega
    · obtain ⟨n, hn, rfl⟩ := List.mem_map.1 hv
      rw [itoa_numN (hb n hn).1 (hb n hn).2] at h
      have := hb n hn
      omega
  rcases hq with ⟨f, h1, h0, hs, hl, hp⟩ | ⟨x, h1, hs, hp, hl⟩
  · have hh := h1
    unfold headB inB at hh
    simp only [Bool.and_eq_true, decide_eq_true_eq] at hh
    obtain ⟨e1, e2, e3⟩ := key funcB [f.ar, f.lo, f.sl] (fun y hy => (func_clean y hy).1) hs.symm (by
      intro n hn
      simp only [List.mem_cons, List.not_mem_nil, or_false] at hn
      rcases hn with rfl | rfl | rfl <;> omega) (by simp)
    have hF : layF wt = f := by
      unfold layF
      rw [e2]
      rw [numK_map _ (by
        intro n hn
        simp only [List.mem_cons, List.not_mem_nil, or_false] at hn
        rcases hn with rfl | rfl | rfl <;> omega), numK_map _ (by
        intro n hn
        simp only [List.mem_cons, List.not_mem_nil, or_false] at hn
        rcases hn with rfl | rfl | rfl <;> omega), numK_map _ (by
        intro n hn
        simp only [List.mem_cons, List.not_mem_nil, or_false] at hn
        rcases hn with rfl | rfl | rfl <;> omega)]
      obtain ⟨a, b, c, d⟩ := f
      simp only at h0
      subst h0; rfl
    unfold layO at h
    rw [if_neg e3, if_pos e1, if_neg] at h
    · cases h
    · rintro (h | h | h | h)
      · rw [e2] at h; exact h rfl
      · rw [hF, h1] at h; cases h
      · rcases hp with hp | hp
        · exact h.1 hp
        · exact hp h.2
      · omega
  · have hb := mayI_bd h1
    have hz := may_zero h1
    obtain ⟨e1, e2, e3⟩ := key (opName x.op) (fieldsB x) (fun y hy => (name_clean _ y hy).1) hs.symm (by
      intro n hn
      have := List.mem_of_mem_take hn
      simp only [List.mem_cons, List.not_mem_nil, or_false] at this
      rcases this with rfl | rfl <;> omega) (by unfold fieldsB; simp; omega)
    have hfl : (wt.length : Int) = opFields x.op := by
      rw [e2]
      unfold fieldsB
      rcases fields_len x.op with e | e | e <;> rw [e] <;> simp
    have hX : layX w0 wt = x := by
      unfold layX
      rw [e1, findN_name (isOp_of_may h1), e2]
      have hB : ∀ n ∈ fieldsB x, 0 ≤ n ∧ n < 1000 := by
        intro n hn
        have := List.mem_of_mem_take hn
        simp only [List.mem_cons, List.not_mem_nil, or_false] at this
        rcases this with rfl | rfl <;> omega
      rw [numK_map _ hB, numK_map _ hB]
      obtain ⟨o, a, b⟩ := x
      unfold fieldsB
      simp only at hz ⊢
      rcases fields_len o with e | e | e <;> rw [e] at hz ⊢
      · rw [hz.1 (by omega), hz.2 (by omega)]; rfl
      · rw [hz.2 (by omega)]; rfl
      · rfl
    unfold layO at h
    rw [if_neg e3, if_neg (by rw [e1]; exact func_none x.op), if_neg] at h
    · cases h
    · rintro (h | h | h | h)
      · rw [hX, h1] at h; cases h
      · rw [hfl, e1, findN_name (isOp_of_may h1)] at h; exact h rfl
      · exact hp h
      · exact hl h
end Go.Proofs.YtedkfipjooafeaaGreatDoor.Ab
