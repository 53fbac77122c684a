/- A statement whose order is open (a region that draws): it may be walked in ONE order. Each operation that yields a value and leaves the world alone may be taken as soon as it is ready; an operation that turns the world is taken where it alone is ready;
   and of those that were taken ahead of it and need not stand ahead of it, it is shown that they yield the same behind it. -/
import Derived.StillTail
import Derived.StillTactics
import Derived.RegionTactic
namespace Go.Proofs.YtbckbkcpfejllaaDoor

def depOf (o : Oper) (i : Nat) : Bool := o.after.any fun e => Region.binds .any e && e.on == i
/-- Each slot has one writer; who looks at it waits for him; who waits, waits for elder ones; no select, no defer. -/
def tidyR (ops : Array Oper) : Bool :=
  Region.noSelect ops &&
  (List.range ops.size).all fun j => match ops[j]? with
    | some oj => (oj.after.all fun e => !Region.binds .any e || decide (e.on < j)) &&
      (List.range ops.size).all fun i => match ops[i]? with
        | some oi => (match oi.dst with
          | some t => (i == j || oj.dst != some t) && (!(oj.looksAt ops).contains t || depOf oj i)
          | none => true)
        | none => false
    | none => false

def putV (o : Oper) (v : Value) (a : Act) : Prop := ∀ t, o.dst = some t → t < a.tmps.size → a.tmps[t]? = some v

/-- The frame aR is a, but for the slots of what is listed in L and not in R. -/
structure Agr (ops : Array Oper) (L R : Array Bool) (a aR : Act) : Prop where
  defers : aR.defers = a.defers
  size : aR.tmps.size = a.tmps.size
  slot : ∀ t, (∀ (i : Nat) (o : Oper), ops[i]? = some o → o.dst = some t → L.getD i false = true → R.getD i false = true) → aR.tmps[t]? = a.tmps[t]?

def ClosedL (ops : Array Oper) (L : Array Bool) : Prop := ∀ (i : Nat) (o : Oper), ops[i]? = some o → L.getD i false = true → ∀ e ∈ o.after, Region.binds .any e = true → L.getD e.on false = true
def cntL (ops : Array Oper) (R : Array Bool) : Nat := ((List.range ops.size).filter fun i => !R.getD i false).length
def UOk (P : Program) (ops : Array Oper) (U : List Nat) (L : Array Bool) (a : Act) (w : World) : Prop := ∀ i ∈ U, L.getD i false = true ∧ ∃ o v, ops[i]? = some o ∧ YieldsAt P ops w o v a ∧ putV o v a

def Reg (P : Program) (ops : Array Oper) (Q : Exit → Act → World → Prop) (U : List Nat) (L : Array Bool) (a : Act) (w : World) : Prop :=
  tidyR ops = true → L.size = ops.size → ClosedL ops L → UOk P ops U L a w → ∀ (f : Nat) (R : Array Bool) (aR : Act), R.size = ops.size → ClosedL ops R → (∀ i, R.getD i false = true → L.getD i false = true) →
    (∀ i, L.getD i false = true → R.getD i false = false → i ∈ U) → Agr ops L R a aR → cntL ops R = f → wpAny P .any ops Q f R aR w

section
variable {P : Program} {ops : Array Oper} {Q : Exit → Act → World → Prop}

theorem tidy_at (ht : tidyR ops = true) {i j : Nat} {oi oj : Oper} (hi : ops[i]? = some oi) (hj : ops[j]? = some oj) {t : Tmp} (hd : oi.dst = some t) :
    (i ≠ j → oj.dst ≠ some t) ∧ (t ∈ oj.looksAt ops → depOf oj i = true) := by
  unfold tidyR at ht
  simp only [Bool.and_eq_true] at ht
  have h1 := List.all_eq_true.1 ht.2 j (List.mem_range.2 (Array.getElem?_eq_some_iff.1 hj).1)
  rw [hj] at h1
  simp only [Bool.and_eq_true] at h1
  have h2 := List.all_eq_true.1 h1.2 i (List.mem_range.2 (Array.getElem?_eq_some_iff.1 hi).1)
  rw [hi] at h2
  simp only [hd, Bool.and_eq_true, Bool.or_eq_true, beq_iff_eq, bne_iff_ne, ne_eq, Bool.not_eq_true', List.contains_eq_mem, decide_eq_false_iff_not] at h2
  refine ⟨fun hne => ?_, fun hm => ?_⟩
  · rcases h2.1 with h | h
    · exact absurd h hne
    · exact h
  · rcases h2.2 with h | h
    · exact absurd hm h
    · exact h
theorem tidy_on (ht : tidyR ops = true) {j : Nat} {oj : Oper} (hj : ops[j]? = some oj) {e : Edge} (he : e ∈ oj.after) (hb : Region.binds .any e = true) : e.on < j := by
  unfold tidyR at ht
  simp only [Bool.and_eq_true] at ht
  have h1 := List.all_eq_true.1 ht.2 j (List.mem_range.2 (Array.getElem?_eq_some_iff.1 hj).1)
  rw [hj] at h1
  simp only [Bool.and_eq_true] at h1
  have h2 := Array.all_eq_true_iff_forall_mem.1 h1.1 e he
  rw [hb] at h2
  simpa using h2
theorem tidy_sel (ht : tidyR ops = true) {j : Nat} {oj : Oper} (hj : ops[j]? = some oj) (cs : Array SelectCase) (b : Bool) : oj.op ≠ .select cs b := by
  unfold tidyR at ht
  simp only [Bool.and_eq_true] at ht
  exact Region.noSelect_spec ht.1 j oj cs b hj
theorem dep_spec {o : Oper} {i : Nat} (h : depOf o i = true) : ∃ e ∈ o.after, Region.binds .any e = true ∧ e.on = i := by
  obtain ⟨k, hk, h⟩ := Array.any_eq_true.1 h
  simp only [Bool.and_eq_true, beq_iff_eq] at h
  exact ⟨_, Array.getElem_mem hk, h.1, h.2⟩

/-- What an operation that is ready in R looks at is the same in both frames. -/
theorem looks_same (ht : tidyR ops = true) {L R : Array Bool} {a aR : Act} (hA : Agr ops L R a aR) {j : Nat} {oj : Oper} (hj : ops[j]? = some oj) (hdeps : ∀ e ∈ oj.after, Region.binds .any e = true → R.getD e.on false = true) :
    ∀ t ∈ oj.looksAt ops, aR.tmps[t]? = a.tmps[t]? := fun t hm => hA.slot t fun i o hi hd hl => by
  obtain ⟨e, he, hb, rfl⟩ := dep_spec ((tidy_at ht hi hj hd).2 hm)
  exact hdeps e he hb
theorem eval_same {ops : Array Oper} {o : Oper} {a aR : Act} (h : ∀ t ∈ o.looksAt ops, aR.tmps[t]? = a.tmps[t]?) : ∀ x ∈ o.op.operands, aR.eval x = a.eval x := fun x hx => by
  cases x with
  | tmp t =>
    have := h t (List.mem_append_left _ (List.mem_filterMap.2 ⟨.tmp t, by simpa using hx, rfl⟩))
    simp only [Act.eval, Array.getD_eq_getD_getElem?, this]
  | _ => rfl
theorem wanted_same {ops : Array Oper} {o : Oper} {a aR : Act} (h : ∀ t ∈ o.looksAt ops, aR.tmps[t]? = a.tmps[t]?) : Region.wanted o (yielded ops aR.tmps) = Region.wanted o (yielded ops a.tmps) := by
  unfold Region.wanted
  cases hg : o.guard with
  | none => rfl
  | some gw =>
    obtain ⟨g, want⟩ := gw
    have hy : yielded ops aR.tmps g = yielded ops a.tmps g := by
      unfold yielded
      cases ht : (ops[g]?).bind (·.dst) with
      | none => rfl
      | some t =>
        have := h t (List.mem_append_right _ (by simp [hg, ht]))
        simp only [Option.bind_some, this]
    simp only [hy]
theorem yields_same {j : Nat} {oj : Oper} {a aR : Act} {w : World} {v : Value} (ht : tidyR ops = true) (hj : ops[j]? = some oj) (h : ∀ t ∈ oj.looksAt ops, aR.tmps[t]? = a.tmps[t]?) (hy : YieldsAt P ops w oj v a) : YieldsAt P ops w oj v aR :=
  hy.of_same (execOp_congr (ρ := aR.eval) (ρ' := a.eval) oj (tidy_sel ht hj) (eval_same h)) (wanted_same h)
theorem yields_op {i : Nat} {o : Oper} {v : Value} {a : Act} {w : World} {K : Act → World → Prop} (hi : ops[i]? = some o) (hy : YieldsAt P ops w o v a) (hK : K (a.put o.dst v) w) : wpOp P ops Q i K a w :=
  wpOp_of_stOp (K := fun a' => K a' w) (fun _ h => h) (hy.stOp hi hK)
theorem upon_put {o : Oper} {a aR : Act} {K K' : Act → World → Prop} (hd : aR.defers = a.defers)
    (hK : ∀ ds v w', K (({ a with defers := ds } : Act).put o.dst v) w' → K' (({ aR with defers := ds } : Act).put o.dst v) w') (r : Result Next) (h : o.upon P a K (fun _ _ _ => False) r) : o.upon P aR K' Q r := by
  have hK0 : ∀ v w', K (a.put o.dst v) w' → K' (aR.put o.dst v) w' := fun v w' h => by
    have := hK a.defers v w' h
    rw [← hd] at this
    exact this
  cases r with
  | ok n w' =>
    cases n <;> simp only [Oper.upon] at h ⊢ <;>
      first
        | exact hK0 _ _ h
        | exact Calls.mono h (fun e w'' he => by cases e <;> first | exact hK0 _ _ he | exact he.elim | (obtain ⟨_, _, he⟩ := he; exact he.elim))
        | exact Rows.mono h (fun _ _ he => hK0 _ _ he)
        | (rw [hd]; exact hK _ _ _ h)
  | halt x w' => cases x <;> simp only [Oper.upon] at h ⊢

/-! ### listed sets -/
theorem getD_in_iff {R : Array Bool} {i : Nat} (hi : i < R.size) (b c : Bool) : R.getD i b = R.getD i c := by simp [Array.getD, hi]
theorem set_getD {R : Array Bool} {i j : Nat} (hi : i < R.size) : (R.setIfInBounds i true).getD j false = (R.getD j false || j == i) := by
  by_cases h : i = j
  · subst h; simp [Array.getD, hi]
  · rw [getD_set_ne false h]
    have : (j == i) = false := by simp [Ne.symm h]
    rw [this]; simp
theorem cnt_set {R : Array Bool} {i : Nat} {f : Nat} (hz : R.size = ops.size) (hi : i < ops.size) (hu : R.getD i false = false) (hf : cntL ops R = f + 1) : cntL ops (R.setIfInBounds i true) = f := by
  unfold cntL at *
  have e1 : (List.range ops.size).filter (fun j => !(R.setIfInBounds i true).getD j false) = ((List.range ops.size).filter fun j => !R.getD j false).erase i := by
    rw [List.Nodup.erase_eq_filter (List.nodup_range.filter _), List.filter_filter]
    refine List.filter_congr fun j hj => ?_
    rw [set_getD (by omega)]
    generalize R.getD j false = x
    cases x <;> simp [bne]
  rw [e1, List.length_erase_of_mem, hf]
  · rfl
  · rw [List.mem_filter, List.mem_range]; exact ⟨hi, by rw [hu]; rfl⟩
theorem ready_iff {R : Array Bool} (hz : R.size = ops.size) {j : Nat} : j ∈ Region.ready .any ops R ↔ R.getD j false = false ∧ ∃ o, ops[j]? = some o ∧ ∀ e ∈ o.after, Region.binds .any e = true → R.getD e.on false = true := by
  rw [mem_ready]
  constructor
  · rintro ⟨h1, o, ho, h2⟩
    exact ⟨getD_both h1, o, ho, h2⟩
  · rintro ⟨h1, o, ho, h2⟩
    exact ⟨by rw [getD_in_iff (by rw [hz]; exact (Array.getElem?_eq_some_iff.1 ho).1) true false]; exact h1, o, ho, h2⟩
theorem closed_set {R : Array Bool} (hz : R.size = ops.size) (hc : ClosedL ops R) {k : Nat} {o : Oper} (ho : ops[k]? = some o) (hd : ∀ e ∈ o.after, Region.binds .any e = true → R.getD e.on false = true) : ClosedL ops (R.setIfInBounds k true) := by
  have hk : k < R.size := by rw [hz]; exact (Array.getElem?_eq_some_iff.1 ho).1
  intro i oi hi hl e he hb
  rw [set_getD hk] at hl ⊢
  simp only [Bool.or_eq_true, beq_iff_eq] at hl ⊢
  rcases hl with hl | rfl
  · exact Or.inl (hc i oi hi hl e he hb)
  · have : oi = o := Option.some.inj (hi.symm.trans ho)
    subst this
    exact Or.inl (hd e he hb)
theorem arr_ext {L R : Array Bool} (hz : R.size = L.size) (h1 : ∀ i, R.getD i false = true → L.getD i false = true) (h2 : ∀ i, L.getD i false = true → R.getD i false = true) : R = L := by
  refine Array.ext hz fun i hi hi' => ?_
  have e1 : R.getD i false = R[i] := by simp [Array.getD, hi]
  have e2 : L.getD i false = L[i] := by simp [Array.getD, hi']
  rw [← e1, ← e2]
  cases ha : R[i] <;> cases hb : L[i]
  · rw [e1, e2, ha, hb]
  · have := h2 i (by rw [e2, hb]); rw [e1, ha] at this; cases this
  · have := h1 i (by rw [e1, ha]); rw [e2, hb] at this; cases this
  · rw [e1, e2, ha, hb]

/-- THE CORE: what is taken ahead may be taken later. -/
theorem reg_core (ht : tidyR ops = true) {U : List Nat} {L : Array Bool} {a : Act} {w : World} (hE : Region.ready .any ops L = [] → Q .normal a w)
    (hJ : L.size = ops.size → ClosedL ops L → UOk P ops U L a w → ∀ (f : Nat) (R : Array Bool) (aR : Act), R.size = ops.size → ClosedL ops R → (∀ i, R.getD i false = true → L.getD i false = true) → (∀ i, L.getD i false = true → R.getD i false = false → i ∈ U) →
      Agr ops L R a aR → cntL ops R = f + 1 → ∀ k o, ops[k]? = some o → L.getD k false = false → (∀ e ∈ o.after, Region.binds .any e = true → R.getD e.on false = true) →
      wpOp P ops Q k (wpAny P .any ops Q f (R.setIfInBounds k true)) aR w) : Reg P ops Q U L a w := by
  intro _ hLz hLc hU
  have main : ∀ (x : Nat) (f : Nat) (R : Array Bool) (aR : Act), R.size = ops.size → ClosedL ops R → (∀ i, R.getD i false = true → L.getD i false = true) →
      (∀ i, L.getD i false = true → R.getD i false = false → i ∈ U) → Agr ops L R a aR → cntL ops R = f → ((List.range ops.size).filter fun i => L.getD i false && !R.getD i false).length = x → wpAny P .any ops Q f R aR w := by
    intro x
    induction x with
    | zero =>
      intro f R aR hz hc hsub hX hA hf hx
      have hRL : R = L := arr_ext (by rw [hz, hLz]) hsub fun i hi => by
        have hil : i < ops.size := by
          refine Nat.lt_of_not_le fun h => ?_
          have : L.getD i false = false := by simp [Array.getD, Nat.not_lt.2 (by omega : L.size ≤ i)]
          rw [this] at hi; cases hi
        have h3 : i ∉ (List.range ops.size).filter fun i => L.getD i false && !R.getD i false := by rw [List.length_eq_zero_iff.1 hx]; simp
        rw [List.mem_filter, List.mem_range] at h3
        cases hg : R.getD i false
        · exact absurd ⟨hil, by rw [hi, hg]; rfl⟩ h3
        · rfl
      have haR : aR = a := by
        obtain ⟨t1, d1⟩ := aR
        obtain ⟨t2, d2⟩ := a
        have e1 : d1 = d2 := hA.defers
        have e2 : t1 = t2 := Array.ext_getElem? fun t => hA.slot t fun i o _ _ hl => by rw [hRL]; exact hl
        rw [e1, e2]
      cases f with
      | zero =>
        have hnil : Region.ready .any ops R = [] := by
          refine List.eq_nil_iff_forall_not_mem.2 fun j hj => ?_
          obtain ⟨h1, o, ho, _⟩ := (ready_iff hz).1 hj
          have hm : j ∈ (List.range ops.size).filter fun i => !R.getD i false := List.mem_filter.2 ⟨List.mem_range.2 (Array.getElem?_eq_some_iff.1 ho).1, by rw [h1]; rfl⟩
          unfold cntL at hf
          rw [List.length_eq_zero_iff.1 hf] at hm
          cases hm
        exact ⟨hnil, by rw [haR]; exact hE (by rw [← hRL]; exact hnil)⟩
      | succ f =>
        refine ⟨fun h => by rw [haR]; exact hE (by rw [← hRL]; exact h), fun k hk => ?_⟩
        obtain ⟨h1, o, ho, h2⟩ := (ready_iff hz).1 hk
        exact hJ hLz hLc hU f R aR hz hc hsub hX hA hf k o ho (by rw [← hRL]; exact h1) h2
    | succ x ih =>
      intro f R aR hz hc hsub hX hA hf hx
      -- the eldest of those that are listed in L alone
      have hex : ∃ i, i < ops.size ∧ L.getD i false = true ∧ R.getD i false = false := by
        cases hl : (List.range ops.size).filter fun i => L.getD i false && !R.getD i false with
        | nil => rw [hl] at hx; cases hx
        | cons y r =>
          have hy : y ∈ (List.range ops.size).filter fun i => L.getD i false && !R.getD i false := by rw [hl]; simp
          rw [List.mem_filter, List.mem_range] at hy
          simp only [Bool.and_eq_true, Bool.not_eq_true'] at hy
          exact ⟨y, hy.1, hy.2.1, hy.2.2⟩
      have hleast : ∀ k, (∃ i, i < k ∧ L.getD i false = true ∧ R.getD i false = false) → ∃ i, L.getD i false = true ∧ R.getD i false = false ∧ ∀ j, j < i → L.getD j false = true → R.getD j false = true := by
        intro k
        induction k with
        | zero => rintro ⟨i, hi, _⟩; omega
        | succ k ihk =>
          rintro ⟨i, hi, h1, h2⟩
          by_cases hlt : ∃ j, j < k ∧ L.getD j false = true ∧ R.getD j false = false
          · exact ihk hlt
          · refine ⟨i, h1, h2, fun j hj hl => ?_⟩
            cases hg : R.getD j false
            · exact absurd ⟨j, by omega, hl, hg⟩ hlt
            · rfl
      obtain ⟨i0, hi0, hl0, hr0⟩ := hex
      obtain ⟨m, hml, hmr, hmj⟩ := hleast ops.size ⟨i0, hi0, hl0, hr0⟩
      have hms : m < ops.size := by
        refine Nat.lt_of_not_le fun h => ?_
        have : L.getD m false = false := by simp [Array.getD, Nat.not_lt.2 (by omega : L.size ≤ m)]
        rw [this] at hml; cases hml
      have hmo : ops[m]? = some ops[m] := by simp [hms]
      have hmready : m ∈ Region.ready .any ops R := (ready_iff hz).2 ⟨hmr, _, hmo, fun e he hb => hmj e.on (tidy_on ht hmo he hb) (hLc m _ hmo hml e he hb)⟩
      have hf1 : ∃ f', f = f' + 1 := by
        cases f with
        | zero =>
          have hm : m ∈ (List.range ops.size).filter fun i => !R.getD i false := List.mem_filter.2 ⟨List.mem_range.2 hms, by rw [hmr]; rfl⟩
          unfold cntL at hf
          rw [List.length_eq_zero_iff.1 hf] at hm
          cases hm
        | succ f => exact ⟨f, rfl⟩
      obtain ⟨f, rfl⟩ := hf1
      refine ⟨fun h => (by rw [h] at hmready; cases hmready), fun k hk => ?_⟩
      obtain ⟨h1, o, ho, h2⟩ := (ready_iff hz).1 hk
      have hks : k < ops.size := (Array.getElem?_eq_some_iff.1 ho).1
      cases hkl : L.getD k false with
      | false => exact hJ hLz hLc hU f R aR hz hc hsub hX hA hf k o ho hkl h2
      | true =>
        obtain ⟨_, o', v, ho', hy, hpv⟩ := hU k (hX k hkl h1)
        have : o' = o := Option.some.inj (ho'.symm.trans ho)
        subst this
        have hlook := looks_same ht hA ho h2
        refine yields_op ho (yields_same ht ho hlook hy) ?_
        have hzR : k < R.size := by omega
        refine ih f (R.setIfInBounds k true) (aR.put o'.dst v) (by simpa using hz) (closed_set hz hc ho h2) (fun i hi => ?_) (fun i hl hr => hX i hl ?_) ⟨?_, ?_, fun t hall => ?_⟩ (cnt_set hz hks h1 hf) ?_
        · rw [set_getD hzR] at hi
          simp only [Bool.or_eq_true, beq_iff_eq] at hi
          rcases hi with hi | rfl
          · exact hsub i hi
          · exact hkl
        · rw [set_getD hzR] at hr
          simp only [Bool.or_eq_false_iff] at hr
          exact hr.1
        · cases o'.dst <;> exact hA.defers
        · cases o'.dst
          · exact hA.size
          · simpa [Act.put] using hA.size
        · cases hdst : o'.dst with
          | none =>
            refine hA.slot t fun i oi hi hd hl => ?_
            have := hall i oi hi hd hl
            rw [set_getD hzR] at this
            simp only [Bool.or_eq_true, beq_iff_eq] at this
            rcases this with h | rfl
            · exact h
            · have : oi = o' := Option.some.inj (hi.symm.trans ho)
              subst this
              rw [hdst] at hd; cases hd
          | some d =>
            by_cases hdt : d = t
            · subst hdt
              simp only [Act.put, Array.getElem?_setIfInBounds, if_true]
              by_cases hlt : d < a.tmps.size
              · rw [if_pos (by rw [hA.size]; exact hlt)]
                exact (hpv d hdst hlt).symm
              · rw [if_neg (by rw [hA.size]; exact hlt)]
                exact (Array.getElem?_eq_none (Nat.le_of_not_lt hlt)).symm
            · simp only [Act.put, Array.getElem?_setIfInBounds_ne hdt]
              refine hA.slot t fun i oi hi hd hl => ?_
              have := hall i oi hi hd hl
              rw [set_getD hzR] at this
              simp only [Bool.or_eq_true, beq_iff_eq] at this
              rcases this with h | rfl
              · exact h
              · have : oi = o' := Option.some.inj (hi.symm.trans ho)
                subst this
                rw [hdst] at hd
                exact absurd (Option.some.inj hd) hdt
        · have e1 : (List.range ops.size).filter (fun j => L.getD j false && !(R.setIfInBounds k true).getD j false) = ((List.range ops.size).filter fun j => L.getD j false && !R.getD j false).erase k := by
            rw [List.Nodup.erase_eq_filter (List.nodup_range.filter _), List.filter_filter]
            refine List.filter_congr fun j hj => ?_
            rw [set_getD hzR]
            generalize R.getD j false = x
            generalize L.getD j false = y
            cases x <;> cases y <;> simp [bne]
          rw [e1, List.length_erase_of_mem, hx]
          · rfl
          · rw [List.mem_filter, List.mem_range]; exact ⟨hks, by rw [hkl, h1]; rfl⟩
  exact fun f R aR hz hc hsub hX hA hf => main _ f R aR hz hc hsub hX hA hf rfl

theorem put_slot_ne {o : Oper} {a : Act} {v : Value} {t : Tmp} (h : o.dst ≠ some t) : (a.put o.dst v).tmps[t]? = a.tmps[t]? := by
  cases hd : o.dst with
  | none => rfl
  | some d =>
    have hdt : d ≠ t := fun e => h (by rw [hd, e])
    simp only [Act.put, Array.getElem?_setIfInBounds_ne hdt]
theorem put_size (o : Oper) (a : Act) (v : Value) : (a.put o.dst v).tmps.size = a.tmps.size := by
  cases o.dst <;> simp [Act.put]
theorem put_defs (o : Oper) (a : Act) (v : Value) : (a.put o.dst v).defers = a.defers := by
  cases o.dst <;> rfl
theorem put_at {o : Oper} {a : Act} {v : Value} {t : Tmp} (hd : o.dst = some t) (h : t < a.tmps.size) : (a.put o.dst v).tmps[t]? = some v := by
  rw [hd]; simp [Act.put, h]
theorem put_past {o : Oper} {a : Act} {v : Value} {t : Tmp} (h : ¬ t < a.tmps.size) : (a.put o.dst v).tmps[t]? = none :=
  Array.getElem?_eq_none (by rw [put_size]; exact Nat.le_of_not_lt h)

/-- A quiet operation that is ready is taken. -/
theorem reg_quiet {U : List Nat} {L : Array Bool} {a : Act} {w : World} (i : Nat) {o : Oper} (hi : ops[i]? = some o) (hr : (Region.ready .any ops L).contains i = true)
    (h : ∀ K : Act → Prop, (∀ a', Reg P ops Q (i :: U) (L.setIfInBounds i true) a' w → K a') → if Region.wanted o (yielded ops a.tmps) = true then o.still P a w K else K (a.put o.dst undef)) : Reg P ops Q U L a w := by
  intro ht hLz hLc hU f R aR hz hc hsub hX hA hf
  have hst : stOp P ops w i (fun a' => Reg P ops Q (i :: U) (L.setIfInBounds i true) a' w) a := by unfold stOp; simp only [hi]; exact h _ (fun _ h => h)
  obtain ⟨v, hy, hK⟩ := yieldsAt_of_stOp hi hst
  obtain ⟨hiL, o', hi', hdeps⟩ := (ready_iff hLz).1 (by simpa using hr)
  have : o' = o := Option.some.inj (hi'.symm.trans hi)
  subst this
  have his : i < L.size := by rw [hLz]; exact (Array.getElem?_eq_some_iff.1 hi).1
  have hlooks : ∀ (j : Nat) (oj : Oper), ops[j]? = some oj → (∀ e ∈ oj.after, Region.binds .any e = true → e.on ≠ i) → ∀ t ∈ oj.looksAt ops, (a.put o'.dst v).tmps[t]? = a.tmps[t]? := fun j oj hj hno t hm => by
    refine put_slot_ne fun hd => ?_
    obtain ⟨e, he, hb, heq⟩ := dep_spec ((tidy_at ht hi hj hd).2 hm)
    exact hno e he hb heq
  refine hK ht (by simpa using hLz) (closed_set hLz hLc hi hdeps) (fun j hj => ?_) f R aR hz hc (fun j hj => getD_set_true (hsub j hj)) (fun j hl hr => ?_) ⟨?_, ?_, fun t hall => ?_⟩ hf
  · rcases List.mem_cons.1 hj with rfl | hj
    · refine ⟨by rw [set_getD his]; simp, o', v, hi, ?_, fun t hd hlt => ?_⟩
      · exact yields_same ht hi (hlooks j o' hi fun e he hb heq => by have := tidy_on ht hi he hb; omega) hy
      · rw [put_size] at hlt
        exact put_at hd hlt
    · obtain ⟨hjL, oj, vj, hoj, hyj, hpj⟩ := hU j hj
      refine ⟨getD_set_true hjL, oj, vj, hoj, ?_, fun t hd hlt => ?_⟩
      · refine yields_same ht hoj (hlooks j oj hoj fun e he hb heq => ?_) hyj
        have := hLc j oj hoj hjL e he hb
        rw [heq, hiL] at this
        cases this
      · rw [put_size] at hlt
        rw [put_slot_ne fun hd' => ?_]
        · exact hpj t hd hlt
        · by_cases hij : i = j
          · subst hij; rw [hiL] at hjL; cases hjL
          · exact (tidy_at ht hi hoj hd').1 hij hd
  · rw [set_getD his] at hl
    simp only [Bool.or_eq_true, beq_iff_eq] at hl
    rcases hl with hl | rfl
    · exact List.mem_cons_of_mem _ (hX j hl hr)
    · exact List.mem_cons_self
  · rw [put_defs]; exact hA.defers
  · rw [put_size]; exact hA.size
  · by_cases hd : o'.dst = some t
    · have hR := hall i o' hi hd (by rw [set_getD his]; simp)
      have := hsub i hR
      rw [hiL] at this
      cases this
    · rw [put_slot_ne hd]
      exact hA.slot t fun j oj hj hdj hl => hall j oj hj hdj (getD_set_true hl)

/-! ### who must stand ahead of an operation -/
def depI (ops : Array Oper) (k i : Nat) : Bool := match ops[k]? with | some o => depOf o i | none => false
def ancGo (ops : Array Oper) : Nat → List Nat → List Nat
  | 0, S => S
  | j + 1, S => ancGo ops j (if S.any (fun m => depI ops m j) then j :: S else S)
def restU (ops : Array Oper) (U : List Nat) (k : Nat) : List Nat := U.filter fun i => !((ancGo ops k [k]).contains i)
theorem anc_spec {R : Array Bool} (hc : ClosedL ops R) {k : Nat} : ∀ (j : Nat) (S : List Nat), (∀ m ∈ S, (m = k ∨ R.getD m false = true) ∧ ∀ o, ops[m]? = some o → ∀ e ∈ o.after, Region.binds .any e = true → R.getD e.on false = true) →
    ∀ m ∈ ancGo ops j S, m = k ∨ R.getD m false = true
  | 0, S, h, m, hm => (h m hm).1
  | j + 1, S, h, m, hm => by
    unfold ancGo at hm
    refine anc_spec hc j _ (fun m' hm' => ?_) m hm
    split at hm'
    · rename_i hany
      rcases List.mem_cons.1 hm' with rfl | hm'
      · obtain ⟨x, hx, hd⟩ := List.any_eq_true.1 hany
        unfold depI at hd
        cases hox : ops[x]? with
        | none => rw [hox] at hd; cases hd
        | some ox =>
          rw [hox] at hd
          obtain ⟨e, he, hb, heq⟩ := dep_spec hd
          have hR := (h x hx).2 ox hox e he hb
          rw [heq] at hR
          exact ⟨Or.inr hR, fun o ho => hc m' o ho hR⟩
      · exact h m' hm'
    · exact h m' hm'

/-- What was taken and may stand behind: it yields the same there. -/
def StayOk (P : Program) (ops : Array Oper) (U : List Nat) (a : Act) (w : World) : Prop :=
  ∀ i ∈ U, ∃ o, ops[i]? = some o ∧ if Region.wanted o (yielded ops a.tmps) = true then o.still P a w (fun a' => a' = a) else a.put o.dst undef = a
theorem StayOk.nil {a : Act} {w : World} : StayOk P ops [] a w := fun _ h => by cases h
theorem StayOk.cons {a : Act} {w : World} {i : Nat} {U : List Nat} {o : Oper} (hi : ops[i]? = some o)
    (h : if Region.wanted o (yielded ops a.tmps) = true then o.still P a w (fun a' => a' = a) else a.put o.dst undef = a) (hs : StayOk P ops U a w) : StayOk P ops (i :: U) a w := fun j hj => by
  rcases List.mem_cons.1 hj with rfl | hj
  · exact ⟨o, hi, h⟩
  · exact hs j hj

def TurnAt (P : Program) (ops : Array Oper) (Q : Exit → Act → World → Prop) (U : List Nat) (L : Array Bool) (a : Act) (w : World) (k : Nat) : Prop :=
  ∃ o U', ops[k]? = some o ∧ restU ops U k = U' ∧ ∀ K : Act → World → Prop, (∀ a' w', StayOk P ops U' a' w' → Reg P ops Q U' (L.setIfInBounds k true) a' w' → K a' w') →
    if Region.wanted o (yielded ops a.tmps) = true then o.wp P a w K (fun _ _ _ => False) else K (a.put o.dst undef) w

/-- Nothing is ready but operations that turn the world: each of them may come up. -/
theorem reg_turns {U : List Nat} {L : Array Bool} {a : Act} {w : World} (rs : List Nat) (hr : Region.ready .any ops L = rs) (hne : rs.isEmpty = false) (h : ∀ k ∈ rs, TurnAt P ops Q U L a w k) : Reg P ops Q U L a w := by
  intro ht
  refine reg_core ht (fun h0 => by rw [← hr, h0] at hne; cases hne) (fun hLz hLc hU f R aR hz hc hsub hX hA hf k o ho hkL hdR => ?_) ht
  have hk : k ∈ rs := by rw [← hr]; exact (ready_iff hLz).2 ⟨hkL, o, ho, fun e he hb => hsub _ (hdR e he hb)⟩
  obtain ⟨o', U', ho', hU', hK⟩ := h k hk
  have : o' = o := Option.some.inj (ho'.symm.trans ho)
  subst this
  have hlook := looks_same ht hA ho hdR
  have hkR : R.getD k false = false := by
    cases hg : R.getD k false
    · rfl
    · rw [hsub k hg] at hkL; cases hkL
  have hks : k < ops.size := (Array.getElem?_eq_some_iff.1 ho).1
  have hkRs : k < R.size := by omega
  have hkLs : k < L.size := by omega
  have hanc := anc_spec hc k [k] (k := k) (fun m hm => by
    have hmk : m = k := by simpa using hm
    subst hmk
    exact ⟨Or.inl rfl, fun o1 ho1 => by have : o1 = o' := Option.some.inj (ho1.symm.trans ho); subst this; exact hdR⟩)
  have main : ∀ ds v w', StayOk P ops U' (({ a with defers := ds } : Act).put o'.dst v) w' → Reg P ops Q U' (L.setIfInBounds k true) (({ a with defers := ds } : Act).put o'.dst v) w' →
      wpAny P .any ops Q f (R.setIfInBounds k true) (({ aR with defers := ds } : Act).put o'.dst v) w' := by
    intro ds v w' hS hG
    refine hG ht (by simpa using hLz) (closed_set hLz hLc ho fun e he hb => hsub _ (hdR e he hb)) (fun i hi => ?_) f _ _ (by simpa using hz) (closed_set hz hc ho hdR) (fun i hi => ?_) (fun i hl hr => ?_) ⟨?_, ?_, fun t hall => ?_⟩ (cnt_set hz hks hkR hf)
    · obtain ⟨oi, hoi, hst⟩ := hS i hi
      rw [← hU'] at hi
      obtain ⟨hiL, _⟩ := hU i (List.mem_filter.1 hi).1
      have hst' : stOp P ops w' i (fun a' => a' = ({ a with defers := ds } : Act).put o'.dst v) (({ a with defers := ds } : Act).put o'.dst v) := by unfold stOp; simp only [hoi]; exact hst
      obtain ⟨u, hy, hput⟩ := yieldsAt_of_stOp hoi hst'
      refine ⟨getD_set_true hiL, oi, u, hoi, hy, fun t hd hlt => ?_⟩
      have := put_at (v := u) hd hlt
      rwa [hput] at this
    · rw [set_getD hkRs] at hi
      rw [set_getD hkLs]
      simp only [Bool.or_eq_true, beq_iff_eq] at hi ⊢
      exact hi.imp_left (hsub i)
    · rw [set_getD hkLs] at hl
      rw [set_getD hkRs] at hr
      simp only [Bool.or_eq_true, beq_iff_eq, Bool.or_eq_false_iff, beq_eq_false_iff_ne] at hl hr
      have hlL : L.getD i false = true := hl.resolve_right hr.2
      rw [← hU']
      refine List.mem_filter.2 ⟨hX i hlL hr.1, ?_⟩
      cases hcon : (ancGo ops k [k]).contains i with
      | false => rfl
      | true =>
        rcases hanc i (by simpa using hcon) with h1 | h1
        · exact absurd h1 hr.2
        · rw [hr.1] at h1; cases h1
    · rw [put_defs, put_defs]
    · rw [put_size, put_size]; exact hA.size
    · by_cases hd : o'.dst = some t
      · by_cases hlt : t < a.tmps.size
        · rw [put_at (a := { aR with defers := ds }) hd (by exact (hA.size ▸ hlt : t < aR.tmps.size)), put_at (a := { a with defers := ds }) hd hlt]
        · rw [put_past (a := { aR with defers := ds }) (by show ¬ t < aR.tmps.size; rw [hA.size]; exact hlt), put_past (a := { a with defers := ds }) hlt]
      · rw [put_slot_ne hd, put_slot_ne hd]
        refine hA.slot t fun j oj hj hdj hl => ?_
        have := hall j oj hj hdj (getD_set_true hl)
        rw [set_getD hkRs] at this
        simp only [Bool.or_eq_true, beq_iff_eq] at this
        rcases this with h1 | rfl
        · exact h1
        · have : oj = o' := Option.some.inj (hj.symm.trans ho)
          subst this
          exact absurd hdj hd
  have hK' := hK (fun a' w' => StayOk P ops U' a' w' ∧ Reg P ops Q U' (L.setIfInBounds k true) a' w') (fun _ _ h1 h2 => ⟨h1, h2⟩)
  unfold wpOp
  simp only [ho]
  rw [wanted_same hlook]
  split
  · rename_i hw
    rw [if_pos hw] at hK'
    refine Or.inl ?_
    unfold Oper.wp at hK' ⊢
    rw [execOp_congr (ρ := aR.eval) (ρ' := a.eval) o' (tidy_sel ht ho) (eval_same hlook)]
    exact upon_put hA.defers (fun ds v w' h => main ds v w' h.1 h.2) _ hK'
  · rename_i hw
    rw [if_neg hw] at hK'
    have := main a.defers undef w hK'.1 hK'.2
    rw [← hA.defers] at this
    exact this
theorem turns_nil' {U : List Nat} {L : Array Bool} {a : Act} {w : World} : ∀ k ∈ ([] : List Nat), TurnAt P ops Q U L a w k := fun _ h => by cases h
theorem turns_cons {U : List Nat} {L : Array Bool} {a : Act} {w : World} {k : Nat} {rs : List Nat} (U' : List Nat) {o : Oper} (hk : ops[k]? = some o) (hU : restU ops U k = U')
    (h : ∀ K : Act → World → Prop, (∀ a' w', StayOk P ops U' a' w' → Reg P ops Q U' (L.setIfInBounds k true) a' w' → K a' w') → if Region.wanted o (yielded ops a.tmps) = true then o.wp P a w K (fun _ _ _ => False) else K (a.put o.dst undef) w)
    (hs : ∀ j ∈ rs, TurnAt P ops Q U L a w j) : ∀ j ∈ k :: rs, TurnAt P ops Q U L a w j := fun j hj => by
  rcases List.mem_cons.1 hj with rfl | hj
  · exact ⟨o, U', hk, hU, h⟩
  · exact hs j hj
theorem reg_turn {U : List Nat} {L : Array Bool} {a : Act} {w : World} (k : Nat) (U' : List Nat) {o : Oper} (hk : ops[k]? = some o) (hr : Region.ready .any ops L = [k]) (hU : restU ops U k = U')
    (h : ∀ K : Act → World → Prop, (∀ a' w', StayOk P ops U' a' w' → Reg P ops Q U' (L.setIfInBounds k true) a' w' → K a' w') → if Region.wanted o (yielded ops a.tmps) = true then o.wp P a w K (fun _ _ _ => False) else K (a.put o.dst undef) w) : Reg P ops Q U L a w :=
  reg_turns [k] hr rfl (turns_cons U' hk hU h turns_nil')
theorem reg_done {U : List Nat} {L : Array Bool} {a : Act} {w : World} (hr : Region.ready .any ops L = []) (h : Q .normal a w) : Reg P ops Q U L a w :=
  fun ht => reg_core ht (fun _ => h) (fun hLz _ _ f R aR hz hc hsub hX hA hf k o ho hkL hdR => by
    have hk : k ∈ Region.ready .any ops L := (ready_iff hLz).2 ⟨hkL, o, ho, fun e he hb => hsub _ (hdR e he hb)⟩
    rw [hr] at hk
    cases hk) ht
theorem wp_region_reg {id : Nat} {a : Act} {w : World} (hm : P.follows .mixedOrders = true) (ht : tidyR ops = true) (h : Reg P ops Q [] (Array.replicate ops.size false) a w.drew) : (Code.region id ops true).wp P Q a w := by
  refine wp_region_any hm ?_
  have hcl : ClosedL ops (Array.replicate ops.size false) := fun j oj _ hl => by rw [getD_replicate_false] at hl; cases hl
  refine h ht (by simp) hcl (fun _ h => by cases h) _ _ a (by simp) hcl (fun _ h => h) (fun i h1 h2 => by rw [h2] at h1; cases h1) ⟨rfl, rfl, fun _ _ => rfl⟩ ?_
  unfold cntL
  rw [List.filter_eq_self.2 (fun j _ => by rw [getD_replicate_false]; rfl), List.length_range]
end
end Go.Proofs.YtbckbkcpfejllaaDoor
