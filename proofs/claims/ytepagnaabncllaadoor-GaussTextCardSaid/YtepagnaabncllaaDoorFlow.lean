/-
  A region that draws its order: what it reads and calls with one answer in every world is walked once; operations whose value hangs on the order (a new block's address, a callee's new memory)
  are shown each by itself, and what they give is said of the world behind the region. Behind these the tail, in turn.
-/
import Derived.Test.YtepagnaabncllaaDoorMix
namespace Go.Proofs.YtepagnaabncllaaDoor
open Go Go.RowKit

/-- The block of a new variable. -/
def ownOf : Op → Value → Option Nat
  | .alloc _, .pointer (some a) => some a.block
  | .box _ _, .pointer (some a) => some a.block
  | _, _ => none

/-- What an operation gives in the world w, and that it makes new memory alone. -/
def growUpon (P : Program) (op : Op) (w : World) (φ : Value → World → Prop) : Result Next → Prop
  | .ok (.value u) w' => Below w.heap.size w w' ∧ φ u w' ∧ ∀ b, ownOf op u = some b → w.heap.size ≤ b ∧ b < w'.heap.size
  | .ok (.enter f args) w' => w' = w ∧ (∀ v, ownOf op v = none) ∧ Calls P f args w (fun e w'' => ∃ v, e = .returned v ∧ Below w.heap.size w w'' ∧ φ v w'')
  | _ => False

def GrowAt (P : Program) (o : Oper) (a : Act) (w : World) (φ : Value → World → Prop) : Prop := growUpon P o.op w φ ((execOp a.eval o).run P w)

/-- What is to be shown behind the head: for whatever the blind operations gave. -/
def FlowEnd (ops : Array Oper) (w : World) (K : Act → Prop) : List (Nat × (Value → World → Prop)) → Act → List Nat → Prop
  | [], a, _ => K a
  | (k, φ) :: r, a, us => ∀ v, φ v w → (∀ b, (ops[k]?).bind (fun o => ownOf o.op v) = some b → b ∉ us) →
      FlowEnd ops w K r (a.put ((ops[k]?).bind (·.dst)) v) (((ops[k]?).bind (fun o => ownOf o.op v)).toList ++ us)

def isCallLess (op : Op) : Bool := match op with | .alloc _ | .box _ _ => true | _ => false

/-- The looks at a region: temporaries that a head operation reads or is guarded by, and that a head operation writes, are written by one it waits for, and that is not blind; no two write one. -/
def flowB (ops : Array Oper) (m : Nat) (blind : List Nat) : Bool :=
  ((List.range m).all fun i => match ops[i]? with
    | none => false
    | some o => ((List.range m).all fun k => match (ops[k]?).bind (·.dst) with
        | none => true
        | some d => !(o.looksAt ops).contains d || (decide (k < i) && !blind.contains k && o.after.any fun e => Region.binds .any e && e.on == k)) && o.after.all fun e => !Region.binds .any e || decide (e.on < i)) &&
  ((List.range m).all fun i => (List.range m).all fun k => i == k || (match (ops[i]?).bind (·.dst), (ops[k]?).bind (·.dst) with | some d, some d' => d != d' | _, _ => true)) &&
  (blind.all fun k => decide (k < m) && (match ops[k]? with | some o => o.dst.isSome && o.guard.isNone | none => false)) && decide blind.Nodup

/-- The ready ones are of the head, till all of it is listed; then the tail comes in turn. -/
def sinkS (ops : Array Oper) (m : Nat) (fl : List Nat) : Bool :=
  (List.range m).all fun i => fl.contains i || (List.range (m + 1)).any fun j => decide (i < j) && (j == m || !fl.contains j) && Region.waitsFor .any ops j i
/-- A floating operation is apart from whatever neither waits for it nor is waited for by it. -/
def floatB (ops : Array Oper) (m : Nat) (fl : List Nat) : Bool :=
  fl.all fun i => decide (i < m) && match ops[i]? with
    | none => false
    | some o => o.dst.isSome && o.guard.isNone && (List.range ops.size).all fun j => match ops[j]? with
      | none => true
      | some oj => i == j || Region.waitsFor .any ops j i || Region.waitsFor .any ops i j || o.apart ops oj
def tailB (ops : Array Oper) (m : Nat) (fl : List Nat) : Bool :=
  Region.noSelect ops && decide (m < ops.size) && sinkS ops m fl && floatB ops m fl && Region.chainB .any ops m && Region.seqB .any ops (ops.size - m) m ((Array.replicate m true) ++ (Array.replicate (ops.size - m) false))

section
variable {P : Program} {ops : Array Oper}

theorem tmps_put (a : Act) (d t : Tmp) (v : Value) : (a.put (some d) v).tmps[t]? = if d = t then (if t < a.tmps.size then some v else none) else a.tmps[t]? := by
  simp only [Act.put, Array.getElem?_setIfInBounds]
  split <;> simp_all

theorem size_put (a : Act) (d : Option Tmp) (v : Value) : (a.put d v).tmps.size = a.tmps.size := by cases d <;> simp [Act.put]
theorem defers_put (a : Act) (d : Option Tmp) (v : Value) : (a.put d v).defers = a.defers := by cases d <;> rfl

theorem eval_congr {a a' : Act} {x : Operand} (h : ∀ t, x = .tmp t → a.tmps[t]? = a'.tmps[t]?) : a.eval x = a'.eval x := by
  cases x with
  | tmp t =>
    show a.tmps.getD t undef = a'.tmps.getD t undef
    rw [Array.getD_eq_getD_getElem?, Array.getD_eq_getD_getElem?, h t rfl]
  | _ => rfl

theorem exec_agree {a a' : Act} (o : Oper) (hs : ∀ cs b, o.op ≠ .select cs b) (h : ∀ t ∈ o.looksAt ops, a.tmps[t]? = a'.tmps[t]?) : execOp a.eval o = execOp a'.eval o :=
  execOp_congr o hs fun x hx => eval_congr fun t ht => h t (by
    subst ht
    exact List.mem_append_left _ (List.mem_filterMap.2 ⟨.tmp t, by simpa using hx, rfl⟩))

theorem wanted_agree {a a' : Act} (o : Oper) (h : ∀ t ∈ o.looksAt ops, a.tmps[t]? = a'.tmps[t]?) : Region.wanted o (yielded ops a.tmps) = Region.wanted o (yielded ops a'.tmps) := by
  unfold Region.wanted
  cases hg : o.guard with
  | none => rfl
  | some gw =>
    obtain ⟨g, want⟩ := gw
    have : yielded ops a.tmps g = yielded ops a'.tmps g := by
      unfold yielded
      cases ht : (ops[g]?).bind (·.dst) with
      | none => rfl
      | some t =>
        have := h t (by simp [Oper.looksAt, hg, ht])
        simp [this]
    simp only [this]

/-- The walk's frames: what was there, with the end's values where an operation of l has written. -/
theorem quiet_frame {C : World → Prop} {aEnd : Act} : ∀ (l : List Oper) (a : Act), wpQuiet P ops C (fun a' => a' = aEnd) l a →
    aEnd.defers = a.defers ∧ aEnd.tmps.size = a.tmps.size ∧ ∀ t, (∀ o ∈ l, o.dst ≠ some t) → aEnd.tmps[t]? = a.tmps[t]?
  | [], a, h => by
    have h' : a = aEnd := h
    subst h'
    exact ⟨rfl, rfl, fun _ _ => rfl⟩
  | o :: l, a, h => by
    have step : ∀ v, wpQuiet P ops C (fun a' => a' = aEnd) l (a.put o.dst v) → aEnd.defers = a.defers ∧ aEnd.tmps.size = a.tmps.size ∧ ∀ t, (∀ x ∈ o :: l, x.dst ≠ some t) → aEnd.tmps[t]? = a.tmps[t]? := by
      intro v hv
      obtain ⟨h1, h2, h3⟩ := quiet_frame l _ hv
      refine ⟨by rw [h1, defers_put], by rw [h2, size_put], fun t ht => ?_⟩
      rw [h3 t (fun x hx => ht x (List.mem_cons_of_mem _ hx))]
      cases hd : o.dst with
      | none => rfl
      | some d =>
        rw [tmps_put, if_neg]
        intro e
        exact ht o (List.mem_cons_self ..) (by rw [hd, e])
    unfold wpQuiet at h
    split at h
    · obtain ⟨v, _, hv⟩ := h
      exact step v hv
    · exact step undef h

/-- What the walk shows of an operation of l: at any frame that agrees with the end where it looks. -/
theorem quiet_op {C : World → Prop} {aEnd : Act} : ∀ (l : List Oper) (a : Act), wpQuiet P ops C (fun a' => a' = aEnd) l a →
    (∀ i j : Nat, i ≠ j → ∀ o o', l[i]? = some o → l[j]? = some o' → ∀ d, o.dst = some d → o'.dst ≠ some d) →
    ∀ (i : Nat) (o : Oper), l[i]? = some o → (∀ j o', i ≤ j → l[j]? = some o' → ∀ d, o'.dst = some d → d ∉ o.looksAt ops) → (∀ cs b, o.op ≠ .select cs b) →
    ∀ a' : Act, (∀ t ∈ o.looksAt ops, a'.tmps[t]? = aEnd.tmps[t]?) → ∃ v, (∀ d, o.dst = some d → d < a.tmps.size → aEnd.tmps[d]? = some v) ∧
      ((Region.wanted o (yielded ops a'.tmps) = true ∧ ∀ w, C w → o.quietAt P a' C w v) ∨ (Region.wanted o (yielded ops a'.tmps) = false ∧ v = undef))
  | [], _, _, _, i, o, hi, _, _, _, _ => by simp at hi
  | x :: l, a, h, hd, 0, o, hi, hlk, hsel, a', ha' => by
    have hx : x = o := by simpa using hi
    subst hx
    -- at this frame the looked-at slots hold what the end holds
    have hag : ∀ t ∈ x.looksAt ops, a.tmps[t]? = a'.tmps[t]? := fun t ht => by
      rw [ha' t ht]
      have hfr := (quiet_frame (x :: l) a h).2.2 t (fun y hy hyd => by
        obtain ⟨j, hj⟩ := List.mem_iff_getElem?.1 hy
        exact hlk j y (Nat.zero_le _) hj t hyd ht)
      exact hfr.symm
    have hw := wanted_agree x hag
    have he := exec_agree x hsel hag
    unfold wpQuiet at h
    have fin : ∀ v, wpQuiet P ops C (fun a' => a' = aEnd) l (a.put x.dst v) → ∀ d, x.dst = some d → d < a.tmps.size → aEnd.tmps[d]? = some v := fun v hv d hdd hlt => by
      have h3 := (quiet_frame l _ hv).2.2 d (fun y hy hyd => by
        obtain ⟨j, hj⟩ := List.mem_iff_getElem?.1 hy
        exact hd 0 (j + 1) (by omega) x y (by simp) (by simpa using hj) d hdd hyd)
      rw [h3, hdd, tmps_put, if_pos rfl, if_pos hlt]
    split at h
    · rename_i hwt
      obtain ⟨v, hv, hn⟩ := h
      refine ⟨v, fin v hn, .inl ⟨by rw [← hw]; exact hwt, fun w hCw => ?_⟩⟩
      have := hv w hCw
      unfold Oper.quietAt at *
      rw [← he]; exact this
    · rename_i hwt
      exact ⟨undef, fin undef h, .inr ⟨by rw [← hw]; simpa using hwt, rfl⟩⟩
  | x :: l, a, h, hd, i + 1, o, hi, hlk, hsel, a', ha' => by
    have rec' : ∀ v, wpQuiet P ops C (fun a' => a' = aEnd) l (a.put x.dst v) → _ := fun v hv =>
      quiet_op l (a.put x.dst v) hv (fun i j hij o o' h1 h2 => hd (i + 1) (j + 1) (by omega) o o' (by simpa using h1) (by simpa using h2)) i o (by simpa using hi)
        (fun j o' hj h2 => hlk (j + 1) o' (by omega) (by simpa using h2)) hsel a' ha'
    unfold wpQuiet at h
    split at h
    · obtain ⟨v, _, hn⟩ := h
      obtain ⟨u, h1, h2⟩ := rec' v hn
      exact ⟨u, fun d h3 h4 => h1 d h3 (by rw [size_put]; exact h4), h2⟩
    · obtain ⟨u, h1, h2⟩ := rec' undef h
      exact ⟨u, fun d h3 h4 => h1 d h3 (by rw [size_put]; exact h4), h2⟩
end

/-- The operations of the head that are not blind. -/
def headQ : List Bool → List Oper → List Oper
  | true :: ks, o :: r => o :: headQ ks r
  | false :: ks, _ :: r => headQ ks r
  | _, _ => []

theorem headQ_idx : ∀ (mask : List Bool) (l : List Oper), ∃ idx : Nat → Nat, (∀ i j, i < j → idx i < idx j) ∧
    (∀ (j : Nat) (o : Oper), (headQ mask l)[j]? = some o → l[idx j]? = some o ∧ mask[idx j]? = some true) ∧
    (∀ (i : Nat) (o : Oper), mask[i]? = some true → l[i]? = some o → ∃ j, idx j = i ∧ (headQ mask l)[j]? = some o)
  | [], l => ⟨id, fun _ _ h => h, fun j o h => by simp [headQ] at h, fun i o h => by simp at h⟩
  | b :: ks, [] => ⟨id, fun _ _ h => h, fun j o h => by cases b <;> simp [headQ] at h, fun i o _ h => by simp at h⟩
  | true :: ks, o :: r => by
    obtain ⟨idx, h1, h2, h3⟩ := headQ_idx ks r
    refine ⟨fun j => match j with | 0 => 0 | j + 1 => idx j + 1, ?_, ?_, ?_⟩
    · intro i j hij
      match i, j, hij with
      | 0, j + 1, _ => show 0 < idx j + 1; omega
      | i + 1, j + 1, hij => show idx i + 1 < idx j + 1; have := h1 i j (by omega); omega
    · intro j x hx
      match j with
      | 0 => simpa [headQ] using hx
      | j + 1 => simpa using h2 j x (by simpa [headQ] using hx)
    · intro i x hm hx
      match i with
      | 0 => exact ⟨0, rfl, by simpa [headQ] using hx⟩
      | i + 1 =>
        obtain ⟨j, hj, hh⟩ := h3 i x (by simpa using hm) (by simpa using hx)
        exact ⟨j + 1, by show idx j + 1 = i + 1; omega, by simpa [headQ] using hh⟩
  | false :: ks, o :: r => by
    obtain ⟨idx, h1, h2, h3⟩ := headQ_idx ks r
    refine ⟨fun j => idx j + 1, fun i j hij => by have := h1 i j hij; show idx i + 1 < idx j + 1; omega, ?_, ?_⟩
    · intro j x hx
      simpa using h2 j x (by simpa [headQ] using hx)
    · intro i x hm hx
      match i with
      | 0 => simp at hm
      | i + 1 =>
        obtain ⟨j, hj, hh⟩ := h3 i x (by simpa using hm) (by simpa using hx)
        exact ⟨j, by show idx j + 1 = i + 1; omega, by simpa [headQ] using hh⟩

/-- How many of the head are not listed. -/
def left (m : Nat) (listed : Array Bool) : Nat := (List.range m).countP fun k => listed.getD k true == false

theorem countP_one (p q : Nat → Bool) : ∀ (m i : Nat), i < m → (∀ k, k ≠ i → p k = q k) → p i = true → q i = false → (List.range m).countP p = (List.range m).countP q + 1
  | 0, _, h, _, _, _ => by omega
  | m + 1, i, hi, he, hp, hq => by
    rw [List.range_succ, List.countP_append, List.countP_append]
    by_cases hm : i = m
    · subst hm
      have : (List.range i).countP p = (List.range i).countP q := List.countP_congr fun k hk => by
        rw [he k (by have := List.mem_range.1 hk; omega)]
      simp [this, hp, hq]
    · have := countP_one p q m i (by omega) he hp hq
      have e : p m = q m := he m (by omega)
      simp [List.countP_cons, e]; omega

theorem left_set {m i : Nat} {listed : Array Bool} (hi : i < m) (hu : listed.getD i true = false) : left m listed = left m (listed.setIfInBounds i true) + 1 := by
  refine countP_one _ _ m i hi (fun k hk => by rw [getD_set_ne true (Ne.symm hk)]) (by simp [hu]) ?_
  have hs : i < listed.size := by
    rcases Nat.lt_or_ge i listed.size with h | h
    · exact h
    · simp [Array.getElem?_eq_none h] at hu
  simp [hs]

theorem left_zero {m : Nat} {listed : Array Bool} (h : left m listed = 0) (k : Nat) (hk : k < m) : listed.getD k true = true := by
  unfold left at h
  rw [List.countP_eq_zero] at h
  have := h k (List.mem_range.2 hk)
  simpa using this

/-- The least of the head that is not listed. -/
theorem left_least {m : Nat} {listed : Array Bool} (h : left m listed ≠ 0) : ∃ i, i < m ∧ listed.getD i true = false ∧ ∀ k, k < i → listed.getD k true = true := by
  have hex : ∃ i, i < m ∧ listed.getD i true = false := by
    apply Classical.byContradiction
    intro hn
    apply h
    unfold left
    rw [List.countP_eq_zero]
    intro k hk
    have hk' := List.mem_range.1 hk
    cases hb : listed.getD k true with
    | true => simp
    | false => exact absurd ⟨k, hk', hb⟩ hn
  obtain ⟨i, hi⟩ := hex
  induction i using Nat.strongRecOn with
  | _ i ih =>
    by_cases hk : ∃ k, k < i ∧ listed.getD k true = false
    · obtain ⟨k, hki, hkf⟩ := hk
      exact ih k hki ⟨by omega, hkf⟩
    · refine ⟨i, hi.1, hi.2, fun k hki => ?_⟩
      cases hb : listed.getD k true with
      | true => rfl
      | false => exact absurd ⟨k, hki, hb⟩ hk

section
variable {P : Program}

/-- What holds in the midst of the head. -/
structure Mid (ops : Array Oper) (m : Nat) (blind : List (Nat × (Value → World → Prop))) (a aEnd : Act) (W : World) (listed : Array Bool) (a' : Act) (w : World) : Prop where
  grow : Below W.heap.size W w
  defs : a'.defers = a.defers
  size : a'.tmps.size = a.tmps.size
  old : ∀ t, (∀ k, k < m → (ops[k]?).bind (·.dst) = some t → listed.getD k false = false) → a'.tmps[t]? = a.tmps[t]?
  quiet : ∀ k, k < m → k ∉ blind.map (·.1) → listed.getD k false = true → ∀ d, (ops[k]?).bind (·.dst) = some d → a'.tmps[d]? = aEnd.tmps[d]?
  blinds : ∀ k φ, (k, φ) ∈ blind → listed.getD k false = true → ∀ d, (ops[k]?).bind (·.dst) = some d → d < a.tmps.size → ∃ v, a'.tmps[d]? = some v ∧ φ v w ∧ ∀ b, (ops[k]?).bind (fun o => ownOf o.op v) = some b → b < w.heap.size
  apart : ∀ k k', k ∈ blind.map (·.1) → k' ∈ blind.map (·.1) → k ≠ k' → listed.getD k false = true → listed.getD k' false = true → ∀ d d' v v' b, (ops[k]?).bind (·.dst) = some d → (ops[k']?).bind (·.dst) = some d' →
    a'.tmps[d]? = some v → a'.tmps[d']? = some v' → (ops[k]?).bind (fun o => ownOf o.op v) = some b → (ops[k']?).bind (fun o => ownOf o.op v') ≠ some b

theorem getD_set_self {listed : Array Bool} {i : Nat} (h : listed.getD i true = false) : (listed.setIfInBounds i true).getD i false = true := by
  have hs : i < listed.size := by
    rcases Nat.lt_or_ge i listed.size with h' | h'
    · exact h'
    · simp [Array.getElem?_eq_none h'] at h
  simp [hs]

theorem unique_fst {α : Type} : ∀ {l : List (Nat × α)}, (l.map (·.1)).Nodup → ∀ {k : Nat} {x y : α}, (k, x) ∈ l → (k, y) ∈ l → x = y
  | [], _, _, _, _, h, _ => by cases h
  | (k0, z) :: l, hn, k, x, y, hx, hy => by
    simp only [List.map_cons, List.nodup_cons] at hn
    rcases List.mem_cons.1 hx with hx | hx <;> rcases List.mem_cons.1 hy with hy | hy
    · cases hx; cases hy; rfl
    · cases hx; exact absurd (List.mem_map.2 ⟨_, hy, rfl⟩) hn.1
    · cases hy; exact absurd (List.mem_map.2 ⟨_, hx, rfl⟩) hn.1
    · exact unique_fst hn.2 hx hy

theorem getD_true_iff {listed : Array Bool} {i k : Nat} (h : (listed.setIfInBounds i true).getD k false = true) : k = i ∨ listed.getD k false = true := by
  by_cases e : i = k
  · exact .inl e.symm
  · rw [getD_set_ne false e] at h; exact .inr h

variable {ops : Array Oper} {m : Nat} {blind : List (Nat × (Value → World → Prop))} {a aEnd : Act} {W : World}

/-- One operation of the head more. -/
theorem mid_put (hdist : ∀ i k, i < m → k < m → i ≠ k → ∀ d, (ops[i]?).bind (·.dst) = some d → (ops[k]?).bind (·.dst) ≠ some d)
    (hbm : ∀ k, k ∈ blind.map (·.1) → k < m)
    (mono : ∀ k φ, (k, φ) ∈ blind → ∀ v w w', Below w.heap.size w w' → φ v w → φ v w')
    {listed : Array Bool} {a' : Act} {w w' : World} (h : Mid ops m blind a aEnd W listed a' w) (hw : Below w.heap.size w w') {i : Nat} (hi : i < m) (hu : listed.getD i true = false) {v : Value}
    (hq : i ∉ blind.map (·.1) → ∀ d, (ops[i]?).bind (·.dst) = some d → aEnd.tmps[d]? = if d < a.tmps.size then some v else none)
    (hb : ∀ φ, (i, φ) ∈ blind → φ v w' ∧ ∀ b, (ops[i]?).bind (fun o => ownOf o.op v) = some b → w.heap.size ≤ b ∧ b < w'.heap.size) :
    Mid ops m blind a aEnd W (listed.setIfInBounds i true) (a'.put ((ops[i]?).bind (·.dst)) v) w' := by
  have tp : ∀ d k, k < m → k ≠ i → (ops[k]?).bind (·.dst) = some d → (a'.put ((ops[i]?).bind (·.dst)) v).tmps[d]? = a'.tmps[d]? := fun d k hk hki hd => by
    cases hdi : (ops[i]?).bind (·.dst) with
    | none => rfl
    | some e =>
      rw [tmps_put, if_neg]
      intro he
      subst he
      exact hdist i k hi hk (Ne.symm hki) _ hdi hd
  have ti : ∀ d, (ops[i]?).bind (·.dst) = some d → (a'.put ((ops[i]?).bind (·.dst)) v).tmps[d]? = if d < a.tmps.size then some v else none := fun d hd => by
    rw [hd, tmps_put, if_pos rfl, h.size]
  refine ⟨h.grow.trans (hw.mono h.grow.size), by rw [defers_put, h.defs], by rw [size_put, h.size], ?_, ?_, ?_, ?_⟩
  · intro t ht
    have h1 := h.old t (fun k hk hd => by
      have := ht k hk hd
      by_cases e : i = k
      · subst e; rw [getD_set_self hu] at this; cases this
      · rwa [getD_set_ne false e] at this)
    rw [← h1]
    cases hdi : (ops[i]?).bind (·.dst) with
    | none => rfl
    | some e =>
      rw [tmps_put, if_neg]
      intro he
      subst he
      have := ht i hi hdi
      rw [getD_set_self hu] at this
      cases this
  · intro k hk hkb hl d hd
    rcases getD_true_iff hl with rfl | hl1
    · rw [ti d hd]; exact (hq hkb d hd).symm
    · have hki : k ≠ i := by
        rintro rfl
        rw [getD_both hu] at hl1; cases hl1
      rw [tp d k hk hki hd]; exact h.quiet k hk hkb hl1 d hd
  · intro k φ hm hl d hd hds
    have hk : k < m := hbm k (List.mem_map.2 ⟨_, hm, rfl⟩)
    rcases getD_true_iff hl with rfl | hl1
    · obtain ⟨h1, h2⟩ := hb φ hm
      exact ⟨v, by rw [ti d hd, if_pos hds], h1, fun b hbb => (h2 b hbb).2⟩
    · have hki : k ≠ i := by
        rintro rfl
        rw [getD_both hu] at hl1; cases hl1
      obtain ⟨u, h1, h2, h3⟩ := h.blinds k φ hm hl1 d hd hds
      exact ⟨u, by rw [tp d k hk hki hd]; exact h1, mono k φ hm u w w' hw h2, fun b hbb => Nat.lt_of_lt_of_le (h3 b hbb) hw.size⟩
  · intro k k' hk hk' hne hl hl' d d' u u' b hd hd' hu1 hu2 hb1 hb2
    have key : ∀ k k' d d' u u' b, k ∈ blind.map (·.1) → k = i → k' ∈ blind.map (·.1) → k' ≠ i → listed.getD k' false = true → (ops[k]?).bind (·.dst) = some d → (ops[k']?).bind (·.dst) = some d' →
        (a'.put ((ops[i]?).bind (·.dst)) v).tmps[d]? = some u → (a'.put ((ops[i]?).bind (·.dst)) v).tmps[d']? = some u' →
        (ops[k]?).bind (fun o => ownOf o.op u) = some b → (ops[k']?).bind (fun o => ownOf o.op u') = some b → False := by
      intro k k' d d' u u' b hk hki hk' hki' hl' hd hd' hu1 hu2 hb1 hb2
      subst hki
      rw [ti d hd] at hu1
      split at hu1
      · cases hu1
        obtain ⟨⟨kk, φ⟩, hm, rfl⟩ := List.mem_map.1 hk
        obtain ⟨⟨kk', φ'⟩, hm', rfl⟩ := List.mem_map.1 hk'
        rw [tp d' kk' (hbm _ hk') hki' hd'] at hu2
        have hds : d' < a.tmps.size := by
          rcases Nat.lt_or_ge d' a.tmps.size with h' | h'
          · exact h'
          · rw [← h.size] at h'; rw [Array.getElem?_eq_none h'] at hu2; cases hu2
        obtain ⟨x, hx1, _, hx3⟩ := h.blinds kk' φ' hm' hl' d' hd' hds
        rw [hx1] at hu2
        cases hu2
        have h5 := hx3 b hb2
        have h6 := ((hb φ hm).2 b hb1).1
        omega
      · cases hu1
    rcases getD_true_iff hl with hki | hl1
    · rcases getD_true_iff hl' with hki' | hl2
      · exact hne (hki.trans hki'.symm)
      · have hne' : k' ≠ i := fun e => hne (hki.trans e.symm)
        exact key k k' d d' u u' b hk hki hk' hne' hl2 hd hd' hu1 hu2 hb1 hb2
    · have hki : k ≠ i := by
        rintro rfl
        rw [getD_both hu] at hl1; cases hl1
      rcases getD_true_iff hl' with hki' | hl2
      · exact key k' k d' d u' u b hk' hki' hk hki hl1 hd' hd hu2 hu1 hb2 hb1
      · have hki' : k' ≠ i := by
          rintro rfl
          rw [getD_both hu] at hl2; cases hl2
        rw [tp d k (hbm k hk) hki hd] at hu1
        rw [tp d' k' (hbm k' hk') hki' hd'] at hu2
        exact h.apart k k' hk hk' hne hl1 hl2 d d' u u' b hd hd' hu1 hu2 hb1 hb2

/-- What flowB tells. -/
theorem flow_spec {bl : List Nat} (h : flowB ops m bl = true) :
    (∀ i, i < m → ∃ o, ops[i]? = some o ∧ (∀ k d, k < m → (ops[k]?).bind (·.dst) = some d → d ∈ o.looksAt ops → k < i ∧ k ∉ bl ∧ ∃ e ∈ o.after, Region.binds .any e = true ∧ e.on = k) ∧ ∀ e ∈ o.after, Region.binds .any e = true → e.on < i) ∧
    (∀ i k, i < m → k < m → i ≠ k → ∀ d, (ops[i]?).bind (·.dst) = some d → (ops[k]?).bind (·.dst) ≠ some d) ∧
    (∀ k ∈ bl, k < m ∧ ∃ o d, ops[k]? = some o ∧ o.dst = some d ∧ o.guard = none) ∧ bl.Nodup := by
  unfold flowB at h
  simp only [Bool.and_eq_true, decide_eq_true_eq] at h
  obtain ⟨⟨⟨h1, h2⟩, h3⟩, h4⟩ := h
  refine ⟨fun i hi => ?_, fun i k hi hk hne d hd hd' => ?_, fun k hk => ?_, h4⟩
  · have := List.all_eq_true.1 h1 i (List.mem_range.2 hi)
    cases ho : ops[i]? with
    | none => simp [ho] at this
    | some o =>
      simp only [ho, Bool.and_eq_true] at this
      obtain ⟨ha, hb⟩ := this
      refine ⟨o, rfl, fun k d hk hd hlk => ?_, fun e he hbe => ?_⟩
      · have := List.all_eq_true.1 ha k (List.mem_range.2 hk)
        simp only [hd, Bool.or_eq_true, Bool.not_eq_true', Bool.and_eq_true, decide_eq_true_eq] at this
        rcases this with h' | ⟨⟨h5, h6⟩, h7⟩
        · simp [hlk] at h'
        · obtain ⟨e, he, hbe⟩ := Array.any_eq_true'.1 h7
          simp only [Bool.and_eq_true, beq_iff_eq] at hbe
          exact ⟨h5, by simpa using h6, e, he, hbe.1, hbe.2⟩
      · have := (Array.all_eq_true_iff_forall_mem.1 hb) e he
        simp only [Bool.or_eq_true, Bool.not_eq_true', decide_eq_true_eq] at this
        rcases this with h' | h'
        · rw [hbe] at h'; cases h'
        · exact h'
  · have := List.all_eq_true.1 (List.all_eq_true.1 h2 i (List.mem_range.2 hi)) k (List.mem_range.2 hk)
    simp only [hd, hd', Bool.or_eq_true, beq_iff_eq] at this
    rcases this with h' | h'
    · exact hne h'
    · simp at h'
  · have := List.all_eq_true.1 h3 k hk
    simp only [Bool.and_eq_true, decide_eq_true_eq] at this
    cases ho : ops[k]? with
    | none => simp [ho] at this
    | some o =>
      simp only [ho, Bool.and_eq_true] at this
      obtain ⟨d, hd⟩ := Option.isSome_iff_exists.1 this.2.1
      exact ⟨this.1, o, d, rfl, hd, by simpa using this.2.2⟩

/-- A head operation, come up in whatever order. -/
theorem mid_step {l : List Oper} {mask : List Bool} {Q' : Exit → Act → World → Prop} (hsel : ∀ (j : Nat) (o : Oper) cs b, l.toArray[j]? = some o → o.op ≠ .select cs b)
    (hB : flowB l.toArray m (blind.map (·.1)) = true) (hmask : ∀ i, i < m → (mask[i]? = some true ∧ i ∉ blind.map (·.1)) ∨ (mask[i]? = some false ∧ i ∈ blind.map (·.1))) (hml : mask.length = m)
    (mono : ∀ k φ, (k, φ) ∈ blind → ∀ v w w', Below w.heap.size w w' → φ v w → φ v w')
    (hquiet : ∀ U, Below W.heap.size W U → wpQuiet P l.toArray (fun w' => ∃ x, w' = mix U x) (fun a' => a' = aEnd) (headQ mask l) a)
    (hblind : ∀ k φ, (k, φ) ∈ blind → ∀ o, l.toArray[k]? = some o → ∀ w, Below W.heap.size W w → GrowAt P o aEnd w φ)
    {listed : Array Bool} {a' : Act} {w : World} (h : Mid l.toArray m blind a aEnd W listed a' w) {i : Nat} (hi : i < m) (hr : i ∈ Region.ready .any l.toArray listed) :
    wpOp P l.toArray Q' i (fun a'' w'' => Mid l.toArray m blind a aEnd W (listed.setIfInBounds i true) a'' w'') a' w := by
  obtain ⟨hs1, hdist, hbl, hnd⟩ := flow_spec hB
  obtain ⟨hu, o, ho, hall⟩ := mem_ready.1 hr
  obtain ⟨o', ho', hlook, _⟩ := hs1 i hi
  obtain rfl : o = o' := Option.some.inj (ho.symm.trans ho')
  have hbm : ∀ k, k ∈ blind.map (·.1) → k < m := fun k hk => (hbl k hk).1
  have hW := hquiet w h.grow
  obtain ⟨idx, hmonoi, hget, hsurj⟩ := headQ_idx mask l
  have hlto : ∀ k, l.toArray[k]? = l[k]? := fun k => by rw [List.getElem?_toArray]
  -- where it looks, the frame holds what the end holds
  have hag : ∀ t ∈ o.looksAt l.toArray, a'.tmps[t]? = aEnd.tmps[t]? := fun t ht => by
    by_cases hx : ∃ k, k < m ∧ (l.toArray[k]?).bind (·.dst) = some t
    · obtain ⟨k, hk, hd⟩ := hx
      obtain ⟨_, hkb, e, he, hbe, hon⟩ := hlook k t hk hd ht
      exact h.quiet k hk hkb (by rw [← hon]; exact hall e he hbe) t hd
    · rw [h.old t (fun k hk hd => absurd ⟨k, hk, hd⟩ hx)]
      refine ((quiet_frame _ a hW).2.2 t (fun y hy hyd => ?_)).symm
      obtain ⟨j, hj⟩ := List.mem_iff_getElem?.1 hy
      obtain ⟨h1, h2⟩ := hget j y hj
      refine hx ⟨idx j, ?_, by rw [hlto, h1]; exact hyd⟩
      have := (List.getElem?_eq_some_iff.1 h2).1
      omega
  rcases hmask i hi with ⟨hmi, hib⟩ | ⟨hmi, hib⟩
  · obtain ⟨j, hj, hjo⟩ := hsurj i o hmi (by rw [← hlto]; exact ho)
    obtain ⟨v, hv, hrun⟩ := quiet_op (headQ mask l) a hW (fun p q hpq x y hx hy d hd hd' => by
        obtain ⟨hx1, hx2⟩ := hget p x hx
        obtain ⟨hy1, hy2⟩ := hget q y hy
        have hne : idx p ≠ idx q := fun e => by
          rcases Nat.lt_or_gt_of_ne hpq with hlt | hlt
          · have := hmonoi p q hlt; omega
          · have := hmonoi q p hlt; omega
        have lp := (List.getElem?_eq_some_iff.1 hx2).1
        have lq := (List.getElem?_eq_some_iff.1 hy2).1
        exact hdist (idx p) (idx q) (by omega) (by omega) hne d (by rw [hlto, hx1]; exact hd) (by rw [hlto, hy1]; exact hd'))
      j o hjo (fun q y hq hy d hd hlk => by
        obtain ⟨hy1, hy2⟩ := hget q y hy
        have lq := (List.getElem?_eq_some_iff.1 hy2).1
        obtain ⟨hlt, _⟩ := hlook (idx q) d (by omega) (by rw [hlto, hy1]; exact hd) hlk
        rcases Nat.lt_or_eq_of_le hq with h' | h'
        · have := hmonoi j q h'; omega
        · subst h'; omega)
      (fun cs b => hsel i o cs b ho) a' hag
    have fin : ∀ w', Below w.heap.size w w' → Mid l.toArray m blind a aEnd W (listed.setIfInBounds i true) (a'.put o.dst v) w' := fun w' hw' => by
      have := mid_put hdist hbm mono h hw' hi hu (v := v) (fun _ d hd => by
        have hd' : o.dst = some d := by rw [ho] at hd; simpa using hd
        by_cases hlt : d < a.tmps.size
        · rw [if_pos hlt]; exact hv d hd' hlt
        · rw [if_neg hlt]; exact Array.getElem?_eq_none (by rw [(quiet_frame _ a hW).2.1]; exact Nat.not_lt.1 hlt)) (fun φ hm => absurd (List.mem_map.2 ⟨_, hm, rfl⟩) hib)
      rw [ho] at this
      exact this
    unfold wpOp
    simp only [ho]
    rcases hrun with ⟨hwt, hq⟩ | ⟨hwt, rfl⟩
    · rw [if_pos hwt]
      refine .inl ?_
      have h3 := hq w (to_mix (Below.refl _ _))
      unfold Oper.quietAt at h3
      unfold Oper.wp
      generalize (execOp a'.eval o).run P w = r at *
      cases r with
      | ok n w' =>
        cases n <;> simp only [Oper.quietUpon] at h3 <;> simp only [Oper.upon]
        case value u => obtain ⟨rfl, rfl⟩ := h3; exact fin _ (Below.refl _ _)
        case skip => obtain ⟨rfl, rfl⟩ := h3; exact fin _ (Below.refl _ _)
        case enter f args =>
          obtain ⟨rfl, hc⟩ := h3
          exact hc.mono fun e w'' ⟨he, y, hy⟩ => by subst he; subst hy; exact fin _ (below_mix _ _)
      | halt x w' => simp only [Oper.quietUpon] at h3
    · rw [if_neg (by rw [hwt]; exact Bool.false_ne_true)]
      exact fin _ (Below.refl _ _)
  · obtain ⟨_, o2, d, ho2, hd, hg⟩ := hbl i hib
    obtain rfl : o = o2 := Option.some.inj (ho.symm.trans ho2)
    obtain ⟨⟨i', φ⟩, hm, rfl⟩ := List.mem_map.1 hib
    have hgr := hblind _ φ hm o ho w h.grow
    unfold GrowAt at hgr
    rw [← exec_agree o (fun cs b => hsel _ o cs b ho) hag] at hgr
    have fin : ∀ v w', Below w.heap.size w w' → φ v w' → (∀ b, ownOf o.op v = some b → w.heap.size ≤ b ∧ b < w'.heap.size) → Mid l.toArray m blind a aEnd W (listed.setIfInBounds i' true) (a'.put o.dst v) w' := fun v w' hw' hφ hown => by
      have := mid_put hdist hbm mono h hw' hi hu (v := v) (fun hn => absurd hib hn) (fun φ' hm' => by
        obtain rfl := unique_fst hnd hm hm'
        refine ⟨hφ, fun b hb => hown b ?_⟩
        rw [ho] at hb; simpa using hb)
      rw [ho] at this
      exact this
    unfold wpOp
    simp only [ho]
    rw [if_pos (by unfold Region.wanted; rw [hg])]
    refine .inl ?_
    unfold Oper.wp
    generalize (execOp a'.eval o).run P w = r at *
    cases r with
    | ok n w' =>
      cases n <;> simp only [growUpon] at hgr <;> simp only [Oper.upon]
      case value u => exact fin u w' hgr.1 hgr.2.1 hgr.2.2
      case enter f args =>
        obtain ⟨rfl, hno, hc⟩ := hgr
        refine hc.mono fun e w'' ⟨v, he, hb, hφ⟩ => ?_
        subst he
        exact fin v w'' hb hφ fun b hb' => by rw [hno v] at hb'; cases hb'
    | halt x w' => simp only [growUpon] at hgr

/-- Behind the head the frame is the end's, with what the blind operations gave. -/
theorem flow_end {w : World} {K : Act → Prop} (hdist : ∀ i k, i < m → k < m → i ≠ k → ∀ d, (ops[i]?).bind (·.dst) = some d → (ops[k]?).bind (·.dst) ≠ some d) (hbm : ∀ k ∈ blind.map (·.1), k < m) (hnd : (blind.map (·.1)).Nodup)
    (a' : Act) (hsz : a'.tmps.size = a.tmps.size) :
    ∀ (bl : List (Nat × (Value → World → Prop))), bl.length ≤ blind.length → (∀ x ∈ bl, x ∈ blind) → (bl.map (·.1)).Nodup → ∀ (b : Act) (us : List Nat), b.tmps.size = a'.tmps.size → b.defers = a'.defers →
      (∀ t, (∀ x ∈ bl, (ops[x.1]?).bind (·.dst) ≠ some t) → a'.tmps[t]? = b.tmps[t]?) →
      (∀ x ∈ bl, ∃ d v, (ops[x.1]?).bind (·.dst) = some d ∧ (d < a'.tmps.size → a'.tmps[d]? = some v) ∧ x.2 v w ∧ ∀ q, (ops[x.1]?).bind (fun o => ownOf o.op v) = some q → q ∉ us) →
      (∀ x ∈ bl, ∀ y ∈ bl, x.1 ≠ y.1 → ∀ d d' v v' q, (ops[x.1]?).bind (·.dst) = some d → (ops[y.1]?).bind (·.dst) = some d' → a'.tmps[d]? = some v → a'.tmps[d']? = some v' →
        (ops[x.1]?).bind (fun o => ownOf o.op v) = some q → (ops[y.1]?).bind (fun o => ownOf o.op v') ≠ some q) →
      (∀ x ∈ bl, ∀ d, (ops[x.1]?).bind (·.dst) = some d → d < a'.tmps.size) →
      FlowEnd ops w K bl b us → K a'
  | [], _, _, _, b, us, h1, h2, h3, _, _, _, hK => by
    have e : b = a' := by
      cases b; cases a'
      simp only at *
      obtain rfl := h2
      congr 1
      exact Array.ext_getElem? fun t => (h3 t (fun x hx => by cases hx)).symm
    rw [← e]; exact hK
  | (k, φ) :: r, hl, hin, hn, b, us, h1, h2, h3, h4, h5, h6, hK => by
    obtain ⟨d, v, hd, hv, hφ, hq⟩ := h4 (k, φ) (List.mem_cons_self ..)
    have hds := h6 (k, φ) (List.mem_cons_self ..) d hd
    have hv := hv hds
    have hn' : k ∉ r.map (·.1) ∧ (r.map (·.1)).Nodup := by simpa using hn
    have hK' := hK v hφ hq
    have hne : ∀ x ∈ r, x.1 ≠ k := fun x hx e => hn'.1 (List.mem_map.2 ⟨x, hx, e⟩)
    refine flow_end hdist hbm hnd a' hsz r (by simp at hl; omega) (fun x hx => hin x (List.mem_cons_of_mem _ hx)) hn'.2 _ _ (by rw [size_put]; exact h1) (by rw [defers_put]; exact h2) ?_ ?_ ?_ ?_ hK'
    · intro t ht
      rw [hd, tmps_put]
      by_cases e : d = t
      · subst e; rw [if_pos rfl, if_pos (by rw [h1]; exact hds)]; exact hv
      · rw [if_neg e]
        refine h3 t (fun x hx => ?_)
        rcases List.mem_cons.1 hx with rfl | hx
        · show (ops[k]?).bind (·.dst) ≠ some t
          rw [hd]; intro e'; exact e (Option.some.inj e')
        · exact ht x hx
    · intro x hx
      obtain ⟨d', v', hd', hv', hφ', hq'⟩ := h4 x (List.mem_cons_of_mem _ hx)
      have hds' := h6 x (List.mem_cons_of_mem _ hx) d' hd'
      refine ⟨d', v', hd', hv', hφ', fun q hqq => ?_⟩
      intro hmem
      rcases List.mem_append.1 hmem with hm | hm
      · have : (ops[k]?).bind (fun o => ownOf o.op v) = some q := by simpa using hm
        exact h5 (k, φ) (List.mem_cons_self ..) x (List.mem_cons_of_mem _ hx) (Ne.symm (hne x hx)) d d' v v' q hd hd' hv (hv' hds') this hqq
      · exact hq' q hqq hm
    · intro x hx y hy
      exact h5 x (List.mem_cons_of_mem _ hx) y (List.mem_cons_of_mem _ hy)
    · exact fun x hx => h6 x (List.mem_cons_of_mem _ hx)

theorem tail_waitsS {listed : Array Bool} {fl : List Nat} (hs : sinkS ops m fl = true) (hc : Region.chainB .any ops m = true) (hn : m < ops.size) (inv : HeadInv .any ops m listed) :
    ∀ (d i : Nat), m - i = d → i < m → i ∉ fl → listed.getD i true = false → ∀ t, m ≤ t → t ∉ Region.ready .any ops listed := by
  intro d
  induction d using Nat.strongRecOn with
  | _ d ih =>
    intro i hd hi hfl hun t ht hr
    obtain ⟨_, ot, hot, hall⟩ := mem_ready.1 hr
    have htlt : t < ops.size := (Array.getElem?_eq_some_iff.1 hot).1
    by_cases htn : t = m
    · subst htn
      have h1 := List.all_eq_true.1 hs i (List.mem_range.2 hi)
      simp only [Bool.or_eq_true] at h1
      rcases h1 with h1 | h1
      · exact hfl (by simpa using h1)
      obtain ⟨j, hj, hj2⟩ := List.any_eq_true.1 h1
      simp only [Bool.and_eq_true, decide_eq_true_eq, Bool.or_eq_true, beq_iff_eq, Bool.not_eq_true'] at hj2
      obtain ⟨⟨hij, hjf⟩, hj2⟩ := hj2
      obtain ⟨oj, hoj, e, he, hb, hon⟩ := Region.waitsFor_spec hj2
      have hjle : j ≤ t := by have := List.mem_range.1 hj; omega
      by_cases hjt : j = t
      · subst hjt
        have : oj = ot := Option.some.inj (hoj.symm.trans hot)
        subst this
        have h2 := hall e he hb
        rw [hon, getD_both hun] at h2
        cases h2
      · cases hl : listed.getD j false with
        | true =>
          have h2 := inv.closed j oj hoj hl e he hb
          rw [hon, getD_both hun] at h2
          cases h2
        | false =>
          have hjs : j < listed.size := by rw [inv.size]; omega
          exact ih (t - j) (by omega) j rfl (by omega) (by rcases hjf with h | h; exact absurd h hjt; simpa using h) (getD_in hjs hl) t (Nat.le_refl _) hr
    · have h1 := List.all_eq_true.1 hc t (List.mem_range.2 htlt)
      simp only [Bool.or_eq_true, decide_eq_true_eq] at h1
      rcases h1 with h1 | h1
      · omega
      · obtain ⟨o', ho', e, he, hb, hon⟩ := Region.waitsFor_spec h1
        have : o' = ot := Option.some.inj (ho'.symm.trans hot)
        subst this
        have h2 := hall e he hb
        rw [hon, getD_both (inv.tail (t - 1) (by omega) (by omega))] at h2
        cases h2

/-- **A region that draws its order**: its head in whatever order, its tail in turn. -/
theorem wp_region_flow {id : Nat} {Q : Exit → Act → World → Prop} {w : World} {l : List Oper} (mask : List Bool) (blind : List (Nat × (Value → World → Prop))) (fl : List Nat) (aEnd : Act)
    (hm : P.follows .mixedOrders = true) (hB : flowB l.toArray mask.length (blind.map (·.1)) = true) (hT : tailB l.toArray mask.length fl = true)
    (hmask : ((List.range mask.length).all fun i => mask.getD i true == !(blind.map (·.1)).contains i) = true)
    (hsz : ((blind.map (·.1)).all fun k => match (l.toArray[k]?).bind (·.dst) with | some d => decide (d < a.tmps.size) | none => false) = true)
    (mono : ∀ k φ, (k, φ) ∈ blind → ∀ v w w', Below w.heap.size w w' → φ v w → φ v w')
    (hquiet : ∀ y, wpQuiet P l.toArray (fun w' => ∃ x, w' = mix (mix w y) x) (fun a' => a' = aEnd) (headQ mask l) a)
    (hblind : ∀ k φ, (k, φ) ∈ blind → ∀ o, l.toArray[k]? = some o → ∀ y, GrowAt P o aEnd (mix w y) φ)
    (hQ : ∀ c a d v w, Q (.panic c) (a.put d v) w → Q (.panic c) a w)
    (hflb : (fl.all fun i => !(blind.map (·.1)).contains i) = true)
    (hfl : ∀ i ∈ fl, ∀ o, l.toArray[i]? = some o → ∀ d, o.dst = some d → ∀ W, (execOp aEnd.eval o).run P W = .ok (.value (aEnd.tmps.getD d undef)) W)
    (hend : ∀ y, FlowEnd l.toArray (mix w y) (fun a' => wpList P l.toArray Q (l.drop mask.length) a' (mix w y)) blind aEnd []) :
    (Code.region id l.toArray true).wp P Q a w := by
  obtain ⟨hs1, hdist, hbl, hnd⟩ := flow_spec hB
  simp only [tailB, Bool.and_eq_true, decide_eq_true_eq] at hT
  obtain ⟨⟨⟨⟨⟨hsel, hn⟩, hs⟩, hfb⟩, hc⟩, hseq⟩ := hT
  have hsel' := Region.noSelect_spec hsel
  have hmask' : ∀ i, i < mask.length → (mask[i]? = some true ∧ i ∉ blind.map (·.1)) ∨ (mask[i]? = some false ∧ i ∈ blind.map (·.1)) := fun i hi => by
    have := List.all_eq_true.1 hmask i (List.mem_range.2 hi)
    rw [beq_iff_eq] at this
    have e : mask[i]? = some (mask.getD i true) := by simp [List.getD_eq_getElem?_getD, hi]
    cases hb : (blind.map (·.1)).contains i with
    | true => rw [hb] at this; exact .inr ⟨by rw [e, this]; rfl, by simpa using hb⟩
    | false => rw [hb] at this; exact .inl ⟨by rw [e, this]; rfl, by simpa using hb⟩
  have hquiet' : ∀ U, Below w.heap.size w U → wpQuiet P l.toArray (fun w' => ∃ x, w' = mix U x) (fun a' => a' = aEnd) (headQ mask l) a := fun U hU => by
    rw [mix_of hU]; exact hquiet U
  have hblind' : ∀ k φ, (k, φ) ∈ blind → ∀ o, l.toArray[k]? = some o → ∀ U, Below w.heap.size w U → GrowAt P o aEnd U φ := fun k φ h o ho U hU => by
    rw [mix_of hU]; exact hblind k φ h o ho U
  have hend' : ∀ U, Below w.heap.size w U → FlowEnd l.toArray U (fun a' => wpList P l.toArray Q (l.drop mask.length) a' U) blind aEnd [] := fun U hU => by
    have := hend U
    rw [← mix_of hU] at this; exact this
  -- the head
  have key : ∀ (f : Nat) (listed : Array Bool) (a' : Act) (w' : World), left mask.length listed = f → HeadInv .any l.toArray mask.length listed → Mid l.toArray mask.length blind a aEnd w listed a' w' →
      wpAny P .any l.toArray Q (f + (l.toArray.size - mask.length)) listed a' w' := by
    intro f
    induction f with
    | zero =>
      intro listed a' w' hf inv h
      have hall := left_zero hf
      have hlst : listed = (Array.replicate mask.length true) ++ (Array.replicate (l.toArray.size - mask.length) false) := by
        apply Array.ext_getElem?
        intro k
        have hsz' := inv.size
        rw [Array.getElem?_append]
        simp only [Array.size_replicate]
        rcases Nat.lt_or_ge k mask.length with hk | hk
        · rw [if_pos hk, Array.getElem?_replicate, if_pos hk]
          have := hall k hk
          rw [Array.getD_eq_getD_getElem?] at this
          cases hx : listed[k]? with
          | none => rw [Array.getElem?_eq_none_iff] at hx; omega
          | some b => rw [hx] at this; simpa using this
        · rw [if_neg (by omega), Array.getElem?_replicate]
          by_cases hk2 : k < l.toArray.size
          · rw [if_pos (by omega)]
            have := inv.tail k hk hk2
            rw [Array.getD_eq_getD_getElem?] at this
            cases hx : listed[k]? with
            | none => rw [Array.getElem?_eq_none_iff] at hx; omega
            | some b => rw [hx] at this; simpa using this
          · rw [if_neg (by omega)]
            exact Array.getElem?_eq_none (by omega)
      rw [Nat.zero_add]
      have hdl : (l.drop mask.length).length = l.toArray.size - mask.length := by simp
      have := wpAny_of_seq (P := P) (ops := l.toArray) (md := .any) (Q' := Q) (l.drop mask.length) mask.length listed a' w' (fun j => by simp [List.getElem?_drop]) (by rw [hdl, hlst]; exact hseq) ?_
      · rwa [hdl] at this
      have hlk : ∀ k, k < mask.length → listed.getD k false = true := fun k hk => by
        have := hall k hk
        rw [Array.getD_eq_getD_getElem?] at *
        cases hx : listed[k]? with
        | none =>
          have hsz' := inv.size
          rw [Array.getElem?_eq_none_iff] at hx; omega
        | some b => rw [hx] at this; simpa using this
      have hfr := quiet_frame _ a (hquiet' w' h.grow)
      have hds : ∀ x ∈ blind, ∀ d, (l.toArray[x.1]?).bind (·.dst) = some d → d < a.tmps.size := fun x hx d hd => by
        have := List.all_eq_true.1 hsz x.1 (List.mem_map.2 ⟨x, hx, rfl⟩)
        simp only [hd] at this
        exact of_decide_eq_true this
      refine flow_end (a := a) hdist (fun k hk => (hbl k hk).1) hnd a' h.size blind (Nat.le_refl _) (fun x hx => hx) hnd aEnd [] (by rw [hfr.2.1, h.size]) (by rw [hfr.1, h.defs]) ?_ ?_ ?_ ?_ (hend' w' h.grow)
      · intro t ht
        by_cases hx : ∃ k, k < mask.length ∧ (l.toArray[k]?).bind (·.dst) = some t
        · obtain ⟨k, hk, hd⟩ := hx
          have hkb : k ∉ blind.map (·.1) := fun hkb => by
            obtain ⟨x, hx, rfl⟩ := List.mem_map.1 hkb
            exact ht x hx hd
          exact h.quiet k hk hkb (hlk k hk) t hd
        · rw [h.old t (fun k hk hd => absurd ⟨k, hk, hd⟩ hx)]
          refine (hfr.2.2 t (fun y hy hyd => ?_)).symm
          obtain ⟨idx, _, hget, _⟩ := headQ_idx mask l
          obtain ⟨j, hj⟩ := List.mem_iff_getElem?.1 hy
          obtain ⟨h1, h2⟩ := hget j y hj
          exact hx ⟨idx j, (List.getElem?_eq_some_iff.1 h2).1, by rw [List.getElem?_toArray, h1]; exact hyd⟩
      · intro x hx
        obtain ⟨hk, o, d, ho, hd, _⟩ := hbl x.1 (List.mem_map.2 ⟨x, hx, rfl⟩)
        have hdd : (l.toArray[x.1]?).bind (·.dst) = some d := by rw [ho]; exact hd
        obtain ⟨v, h1, h2, h3⟩ := h.blinds x.1 x.2 hx (hlk _ hk) d hdd (hds x hx d hdd)
        exact ⟨d, v, hdd, fun _ => h1, h2, fun q _ hq => by cases hq⟩
      · intro x hx y hy hne d d' v v' q hd hd' hv hv' hq
        exact h.apart x.1 y.1 (List.mem_map.2 ⟨x, hx, rfl⟩) (List.mem_map.2 ⟨y, hy, rfl⟩) hne (hlk _ (hbl _ (List.mem_map.2 ⟨x, hx, rfl⟩)).1) (hlk _ (hbl _ (List.mem_map.2 ⟨y, hy, rfl⟩)).1) d d' v v' q hd hd' hv hv' hq
      · intro x hx d hd
        rw [h.size]; exact hds x hx d hd
    | succ f ih =>
      intro listed a' w' hf inv h
      obtain ⟨i0, hi0, hu0, hle⟩ := left_least (m := mask.length) (listed := listed) (by omega)
      obtain ⟨o0, ho0, _, hback⟩ := hs1 i0 hi0
      have hr0 : i0 ∈ Region.ready .any l.toArray listed := mem_ready.2 ⟨hu0, o0, ho0, fun e he hb => by
        have := hle e.on (hback e he hb)
        rw [Array.getD_eq_getD_getElem?] at *
        cases hx : listed[e.on]? with
        | none =>
          have hsz' := inv.size
          have := hback e he hb
          rw [Array.getElem?_eq_none_iff] at hx; omega
        | some b => rw [hx] at this; simpa using this⟩
      rw [show f + 1 + (l.toArray.size - mask.length) = (f + (l.toArray.size - mask.length)) + 1 by omega]
      by_cases hif : i0 ∈ fl
      · -- a floating one is taken first
        have hfb0 := List.all_eq_true.1 hfb i0 hif
        rw [ho0] at hfb0
        simp only [Bool.and_eq_true, decide_eq_true_eq] at hfb0
        obtain ⟨_, ⟨hds, hgn⟩, hap⟩ := hfb0
        obtain ⟨d0, hd0⟩ := Option.isSome_iff_exists.1 hds
        have hW := hquiet' w' h.grow
        obtain ⟨idx, _, hget, _⟩ := headQ_idx mask l
        have hag : ∀ t ∈ o0.looksAt l.toArray, a'.tmps[t]? = aEnd.tmps[t]? := fun t ht => by
          obtain ⟨o', ho', hlook, _⟩ := hs1 i0 hi0
          obtain rfl : o0 = o' := Option.some.inj (ho0.symm.trans ho')
          by_cases hx : ∃ k, k < mask.length ∧ (l.toArray[k]?).bind (·.dst) = some t
          · obtain ⟨k, hk, hd⟩ := hx
            obtain ⟨_, hkb, e, he, hbe, hon⟩ := hlook k t hk hd ht
            obtain ⟨_, o2, ho2, hall2⟩ := mem_ready.1 hr0
            obtain rfl : o0 = o2 := Option.some.inj (ho0.symm.trans ho2)
            exact h.quiet k hk hkb (by rw [← hon]; exact hall2 e he hbe) t hd
          · rw [h.old t (fun k hk hd => absurd ⟨k, hk, hd⟩ hx)]
            refine ((quiet_frame _ a hW).2.2 t (fun y hy hyd => ?_)).symm
            obtain ⟨j, hj⟩ := List.mem_iff_getElem?.1 hy
            obtain ⟨h1, h2⟩ := hget j y hj
            exact hx ⟨idx j, (List.getElem?_eq_some_iff.1 h2).1, by rw [List.getElem?_toArray, h1]; exact hyd⟩
        have hexe := exec_agree o0 (fun cs b => hsel' _ o0 cs b ho0) hag
        have hy : Yields P l.toArray o0 (aEnd.tmps.getD d0 undef) a' := by
          refine .inl ⟨by unfold Region.wanted; rw [Option.isNone_iff_eq_none.1 hgn], fun W => ?_⟩
          rw [hexe]
          exact hfl i0 hif o0 ho0 d0 hd0 W
        have hib : i0 ∉ blind.map (·.1) := by
          have := List.all_eq_true.1 hflb i0 hif
          simpa using this
        have hfr := quiet_frame _ a hW
        refine wpAny_first ho0 hsel' (fun c a w h => hQ c a o0.dst _ w h) (f + (l.toArray.size - mask.length)) listed a' w' (fun j oj hoj hji hju hno => ?_) hr0 hy ?_
        · have hj' : j < l.toArray.size := (Array.getElem?_eq_some_iff.1 hoj).1
          have := List.all_eq_true.1 hap j (List.mem_range.2 hj')
          rw [hoj] at this
          simp only [Bool.or_eq_true, beq_iff_eq] at this
          rcases this with ((h1 | h1) | h1) | h1
          · exact absurd h1.symm hji
          · obtain ⟨o', ho', e, he, hb, hon⟩ := Region.waitsFor_spec h1
            obtain rfl : oj = o' := Option.some.inj (hoj.symm.trans ho')
            exact absurd hon (hno e he hb)
          · obtain ⟨o', ho', e, he, hb, hon⟩ := Region.waitsFor_spec h1
            obtain rfl : o0 = o' := Option.some.inj (ho0.symm.trans ho')
            obtain ⟨_, o2, ho2, hall2⟩ := mem_ready.1 hr0
            obtain rfl : o0 = o2 := Option.some.inj (ho0.symm.trans ho2)
            have := hall2 e he hb
            rw [hon, getD_both hju] at this
            cases this
          · exact h1
        · have hmid := mid_put hdist (fun k hk => (hbl k hk).1) mono h (Below.refl _ _) hi0 hu0 (v := aEnd.tmps.getD d0 undef) (fun _ d hd => by
              have hd' : d0 = d := by rw [ho0] at hd; exact Option.some.inj (hd0.symm.trans hd)
              subst hd'
              rw [Array.getD_eq_getD_getElem?]
              by_cases hlt : d0 < a.tmps.size
              · rw [if_pos hlt]
                have : d0 < aEnd.tmps.size := by rw [hfr.2.1]; exact hlt
                rw [Array.getElem?_eq_getElem this]; rfl
              · rw [if_neg hlt]; exact Array.getElem?_eq_none (by rw [hfr.2.1]; exact Nat.not_lt.1 hlt)) (fun φ hm => absurd (List.mem_map.2 ⟨_, hm, rfl⟩) hib)
          rw [ho0] at hmid
          exact ih _ _ w' (by have := left_set hi0 hu0; omega) (inv.set hr0 hi0) hmid
      refine ⟨fun h0 => (by rw [h0] at hr0; cases hr0), fun i hi => ?_⟩
      have him : i < mask.length := (Nat.lt_or_ge i mask.length).elim (fun hlt => hlt) fun hge => absurd hi (tail_waitsS hs hc hn inv _ i0 rfl hi0 hif hu0 i hge)
      have hui := (mem_ready.1 hi).1
      exact wpOp_mono (fun a'' w'' h'' => ih _ a'' w'' (by have := left_set him hui; omega) (inv.set hi him) h'') (mid_step (Q' := Q) hsel' hB hmask' rfl mono hquiet' hblind' h him hi)
  have inv0 : HeadInv .any l.toArray mask.length (Array.replicate l.toArray.size false) :=
    ⟨by simp, fun j oj _ hl => (by rw [getD_replicate_false] at hl; cases hl), fun t _ ht => getD_in (by simpa using ht) (getD_replicate_false _ _)⟩
  have hnl : ∀ k, (Array.replicate l.toArray.size false).getD k false = false := fun k => getD_replicate_false _ _
  have mid0 : Mid l.toArray mask.length blind a aEnd w (Array.replicate l.toArray.size false) a { w with drawn := w.drawn + 1 } :=
    ⟨⟨rfl, rfl, rfl, Nat.le_refl _, fun _ _ => rfl⟩, rfl, rfl, fun _ _ => rfl, fun k _ _ hl => (by rw [hnl] at hl; cases hl), fun k φ _ hl => (by rw [hnl] at hl; cases hl), fun k k' _ _ _ hl => (by rw [hnl] at hl; cases hl)⟩
  have hleft : left mask.length (Array.replicate l.toArray.size false) = mask.length := by
    unfold left
    have hall : ∀ k ∈ List.range mask.length, ((Array.replicate l.toArray.size false).getD k true == false) = true := fun k hk => by
      have hk' := List.mem_range.1 hk
      have : (Array.replicate l.toArray.size false).getD k true = false := getD_in (by rw [Array.size_replicate]; omega) (hnl k)
      rw [this]; rfl
    rw [List.countP_eq_length.2 hall, List.length_range]
  refine wp_region_any hm ?_
  have := key mask.length _ a _ hleft inv0 mid0
  rwa [show mask.length + (l.toArray.size - mask.length) = l.toArray.size by omega] at this

def Mono (φ : Value → World → Prop) : Prop := ∀ v w w', Below w.heap.size w w' → φ v w → φ v w'
def AllMono : List (Nat × (Value → World → Prop)) → Prop
  | [] => True
  | x :: r => Mono x.2 ∧ AllMono r
def AllGrow (P : Program) (ops : Array Oper) (a : Act) (w : World) : List (Nat × (Value → World → Prop)) → Prop
  | [] => True
  | x :: r => (∀ y o, ops[x.1]? = some o → GrowAt P o a (mix w y) x.2) ∧ AllGrow P ops a w r

def AllPure (P : Program) (ops : Array Oper) (a : Act) : List Nat → Prop
  | [] => True
  | i :: r => (∀ o, ops[i]? = some o → ∀ d, o.dst = some d → ∀ W, (execOp a.eval o).run P W = .ok (.value (a.tmps.getD d undef)) W) ∧ AllPure P ops a r
theorem AllPure.mem : ∀ {fl : List Nat}, AllPure P ops a fl → ∀ i ∈ fl, ∀ o, ops[i]? = some o → ∀ d, o.dst = some d → ∀ W, (execOp a.eval o).run P W = .ok (.value (a.tmps.getD d undef)) W
  | [], _, _, h => by cases h
  | x :: r, ⟨h1, h2⟩, i, h => by
    rcases List.mem_cons.1 h with h | h
    · subst h; exact h1
    · exact h2.mem i h

theorem AllMono.mem : ∀ {bl : List (Nat × (Value → World → Prop))}, AllMono bl → ∀ k φ, (k, φ) ∈ bl → Mono φ
  | [], _, _, _, h => by cases h
  | x :: r, ⟨h1, h2⟩, k, φ, h => by
    rcases List.mem_cons.1 h with h | h
    · subst h; exact h1
    · exact h2.mem k φ h
theorem AllGrow.mem {w : World} : ∀ {bl : List (Nat × (Value → World → Prop))}, AllGrow P ops a w bl → ∀ k φ, (k, φ) ∈ bl → ∀ o, ops[k]? = some o → ∀ y, GrowAt P o a (mix w y) φ
  | [], _, _, _, h, _, _, _ => by cases h
  | x :: r, ⟨h1, h2⟩, k, φ, h, o, ho, y => by
    rcases List.mem_cons.1 h with h | h
    · subst h; exact h1 y o ho
    · exact h2.mem k φ h o ho y

theorem wp_flow {id : Nat} {Q : Exit → Act → World → Prop} {w : World} {l : List Oper} (mask : List Bool) (blind : List (Nat × (Value → World → Prop))) (fl : List Nat)
    (hm : P.follows .mixedOrders = true) (hB : flowB l.toArray mask.length (blind.map (·.1)) = true) (hT : tailB l.toArray mask.length fl = true)
    (hmask : ((List.range mask.length).all fun i => mask.getD i true == !(blind.map (·.1)).contains i) = true)
    (hsz : ((blind.map (·.1)).all fun k => match (l.toArray[k]?).bind (·.dst) with | some d => decide (d < a.tmps.size) | none => false) = true)
    (hQ : ∀ c a d v w, Q (.panic c) (a.put d v) w → Q (.panic c) a w)
    (hflb : (fl.all fun i => !(blind.map (·.1)).contains i) = true)
    (mono : AllMono blind)
    (h : ∃ aEnd, (∀ y, wpQuiet P l.toArray (fun w' => ∃ x, w' = mix (mix w y) x) (fun a' => a' = aEnd) (headQ mask l) a) ∧ AllGrow P l.toArray aEnd w blind ∧ AllPure P l.toArray aEnd fl ∧
      ∀ y, FlowEnd l.toArray (mix w y) (fun a' => wpList P l.toArray Q (l.drop mask.length) a' (mix w y)) blind aEnd []) :
    (Code.region id l.toArray true).wp P Q a w :=
  let ⟨aEnd, h1, h2, h4, h3⟩ := h
  wp_region_flow mask blind fl aEnd hm hB hT hmask hsz mono.mem h1 h2.mem hQ hflb h4.mem h3

/-- A new variable: its block, with what it holds. -/
def New (B : Nat) (cs : Array Value) (t : TypeId) (v : Value) (w : World) : Prop := ∃ b, v = .pointer (some ⟨b, 0, none⟩) ∧ Has w b cs t ∧ B ≤ b
theorem New.mono {B : Nat} {cs : Array Value} {t : TypeId} : Mono (New B cs t) := fun _ _ _ hb ⟨b, h1, h2, h3⟩ => ⟨b, h1, h2.below hb h2.lt, h3⟩
theorem grow_new {o : Oper} {w : World} {B : Nat} {cs : Array Value} {t t' : TypeId} (ho : o.op = .alloc t') (hrun : (execOp a.eval o).run P w = .ok (.value (.pointer (some ⟨w.heap.size, 0, none⟩))) (w.alloc (.cells cs t))) (hB : B ≤ w.heap.size) :
    GrowAt P o a w (New B cs t) := by
  unfold GrowAt
  rw [hrun, ho]
  refine ⟨(Below.refl _ _).alloc (Nat.le_refl _) _, ⟨w.heap.size, rfl, Has.new _ _ _, hB⟩, fun b hb => ?_⟩
  simp only [ownOf, Option.some.injEq] at hb
  subst hb
  exact ⟨Nat.le_refl _, by simp⟩
end
end Go.Proofs.YtepagnaabncllaaDoor
