/- A range over a function whose iterator keeps its state in blocks of its own: the law of the statement, at one invariant of the caller's. No word on any program. -/
import Derived.RangeFuncNested
import Derived.RangeFuncBound
import Derived.RangeFuncCalls
import Derived.RangeFuncLeaves
import Derived.OwnWalkIn
import Derived.Test.YtbckbkcpfejllaaDoorBase
namespace Go.Proofs.YtbckbkcpfejllaaDoor
open Go.RowKit

/-- The iterator, over whatever invariant that abides the turning of the iterator's own blocks: it yields the elements of 'all', one behind the other, till a round says 'no more'. -/
def IterK {α : Type} (F : Fence) (n : Nat) (P : Program) (g : Nat) (lb : Array Value) (encs : α → Array Value) (Own : Nat → Prop) (all : List α) (W : World) : Prop :=
  ∀ (l : Nat) (J Jx : List α → World → Prop), (∀ s A B, J s A → Keeps Own A B → J s B) → (∀ s A B, Jx s A → Keeps Own A B → Jx s B) →
    (∀ pre x A, J pre A → pre ++ [x] <+: all → YieldAt F (n - 1) P l (encs x) A fun e B => (e = .returned (.bool true) ∧ J (pre ++ [x]) B ∧ Keeps (fun b => ¬ Own b) A B) ∨ (e = .returned (.bool false) ∧ Jx (pre ++ [x]) B)) →
    J [] W → CallsIn F n P g (#[.func (.yield l) #[] #[]] ++ lb) W fun e B => (∃ v, e = .returned v) ∧ (J all B ∨ ∃ pre, pre <+: all ∧ Jx pre B)

/-- How a round was left: by a jump, or on. -/
def jumpOf : Exit → Option (Option Code)
  | .normal => some none
  | .ret => some (some .ret)
  | .exit id => some (some (.exit id))
  | .goto t => some (some (.goto t))
  | _ => none
def KI {α : Type} (I : List α → World → Prop) (Ix : Code → List α → World → Prop) (xs : List α) (W : World) : Option Code → Prop
  | none => I xs W
  | some c => Ix c xs W
/-- What a round owes: the blocks of S as they were; the invariant. -/
def kPost {α : Type} (S : Nat → Prop) (I : List α → World → Prop) (Ix : Code → List α → World → Prop) (xs : List α) (W : World) (e : Exit) (_ : Act) (W' : World) : Prop :=
  ∃ j, jumpOf e = some j ∧ Keeps (fun b => ¬ S b) W W' ∧ KI I Ix xs W' j

theorem keeps_putObj {S : Nat → Prop} {w : World} {l : Nat} (hS : S l) (o : Obj) : Keeps S w (w.putObj l o) :=
  ⟨rfl, rfl, rfl, by simp, fun _ _ hb => World.putObj_heap_other (fun e => hb (e ▸ hS))⟩

theorem wpIn_range_k {α : Type} {F : Fence} {n : Nat} {P : Program} {g : Operand} {ps : Array Tmp} {assign body : Code} {Q : Exit → Act → World → Prop} {a : Act} {w : World}
    (hro : F.round = none) (h1 : 1 ≤ n) {gf : Nat} {lb : Array Value} (hg : a.eval g = .func (.func gf) #[] lb) (hFg : F.fn gf) (eg : ∀ args w, (callFunc gf args).run P w = .ok (.enter gf args) w)
    {encs : α → Array Value} {Own S : Nat → Prop} {all : List α} (hOwn : ∀ b, Own b → b < w.heap.size) (hS : ∀ b, S b ↔ (Own b ∨ b = w.heap.size ∨ b = w.heap.size + 1))
    (hit : ∀ W, Below w.heap.size w W → IterK F (n - 1) P gf lb encs Own all W) (hps : ∀ x, (encs x).size = ps.size)
    (I : List α → World → Prop) (Ix : Code → List α → World → Prop) (hI : ∀ s A B, I s A → Keeps S A B → I s B) (hIx : ∀ c s A B, Ix c s A → Keeps S A B → Ix c s B) (h0 : I [] w) (a₁ : α → Act)
    (hassign : ∀ (l : Nat) (x : α) (W : World) (K : Act → World → Prop), K (a₁ x) W →
      assign.wpIn (F.inRound l) (n - 1 - 1) P (Exit.then K (fun _ _ _ => False)) { tmps := (ps.zip (encs x)).foldl (fun t (p, v) => t.setIfInBounds p v) a.tmps, defers := [] } W)
    (hbody : ∀ (l : Nat) (pre : List α) (x : α) (W : World), I pre W → w.heap.size + 1 < W.heap.size → pre ++ [x] <+: all → body.wpIn (F.inRound l) (n - 1 - 1) P (kPost S I Ix (pre ++ [x]) W) (a₁ x) W)
    (hdone : ∀ W, I all W → W.heap[w.heap.size]? = some (.deferred (some [])) → Q .normal { a with defers := { target := .collected w.heap.size, args := #[] } :: a.defers } W)
    (hstop : ∀ (c : Code) (pre : List α) (W : World), pre <+: all → Ix c pre W → W.heap[w.heap.size]? = some (.deferred (some [])) → c.wpIn F n P Q { a with defers := { target := .collected w.heap.size, args := #[] } :: a.defers } W) :
    (Code.rangeFunc g ps assign body).wpIn F n P Q a w := by
  refine wpIn_rangeFunc fun fn hfn => ?_
  rw [hro]
  obtain ⟨rec, hrec⟩ : ∃ rec : LoopState → Option Code → Loop, rec = fun st pe => { state := st, pending := pe, fn, tmps := a.tmps, params := ps, assign, body, defers := w.heap.size } := ⟨_, rfl⟩
  have hrun := run_enterLoop_outer (P := P) (w := w) fn a.tmps ps assign body
  have hk1 : Keeps (fun _ => False) w ((w.alloc (.deferred (some []))).alloc (.loop (rec .ready none))) := ((Keeps.refl _ w).alloc _).alloc _
  have hb1 : Below w.heap.size w ((w.alloc (.deferred (some []))).alloc (.loop (rec .ready none))) := hk1.below (Nat.le_refl _) (fun _ _ h => h)
  have hd1 : ((w.alloc (.deferred (some []))).alloc (.loop (rec .ready none))).heap[w.heap.size]? = some (.deferred (some [])) := heap_alloc_of (heap_alloc_at rfl _) _
  have hl1 : ((w.alloc (.deferred (some []))).alloc (.loop (rec .ready none))).heap[w.heap.size + 1]? = some (.loop (rec .ready none)) := heap_alloc_at (by simp) _
  have hz1 := lt_of_heap hl1
  generalize hW1 : (w.alloc (.deferred (some []))).alloc (.loop (rec .ready none)) = W1 at *
  have hrun' : (Instr.enterLoop fn a.tmps ps assign body none).run P w = .ok (w.heap.size + 1, [{ target := .collected w.heap.size, args := #[] }]) W1 := by
    rw [hrun, ← hW1, hrec]
  refine ⟨w.heap.size + 1, [{ target := .collected w.heap.size, args := #[] }], W1, { target := .fn (.func gf) lb, args := #[.func (.yield (w.heap.size + 1)) #[] #[]] }, W1, gf, #[.func (.yield (w.heap.size + 1)) #[] #[]] ++ lb, W1, hrun', ?_, ?_, ?_, fun _ => h1, ?_⟩
  · simp only [resolve, hg]
    simp [go_sem]
  · intro f' hf'
    simp [Target.leads] at hf'
    subst hf'
    exact hFg
  · simp [invoke, go_sem, eg]
  have hSl : S (w.heap.size + 1) := (hS _).2 (Or.inr (Or.inr (by omega)))
  have hSO : ∀ {A B : World}, Keeps Own A B → Keeps S A B := fun h => h.mono fun b _ hb => (hS b).2 (Or.inl hb)
  have hOl : ¬ Own (w.heap.size + 1) := fun h => by have := hOwn _ h; omega
  have hOd : ¬ Own w.heap.size := fun h => by have := hOwn _ h; omega
  refine (hit W1 hb1 (w.heap.size + 1)
    (fun s W => I s W ∧ W.heap[w.heap.size + 1]? = some (.loop (rec .ready none)) ∧ W.heap[w.heap.size]? = some (.deferred (some [])))
    (fun s W => ∃ c, Ix c s W ∧ W.heap[w.heap.size + 1]? = some (.loop (rec .done (some c))) ∧ W.heap[w.heap.size]? = some (.deferred (some [])))
    (fun s A B h hk => ⟨hI s A B h.1 (hSO hk), hk.heap h.2.1 hOl, hk.heap h.2.2 hOd⟩)
    (fun s A B h hk => by obtain ⟨c, h1, h2, h3⟩ := h; exact ⟨c, hIx c s A B h1 (hSO hk), hk.heap h2 hOl, hk.heap h3 hOd⟩)
    ?_ ⟨hI [] w W1 h0 (hk1.mono fun _ _ h => h.elim), hl1, hd1⟩).mono ?_
  · rintro pre x W ⟨hi, hl, hd⟩ hpre
    have hlt := lt_of_heap hl
    have hy := run_yield (P := P) (args := encs x) hl (by rw [hrec]; exact hps x)
    have hr0 : (rec .ready none).state = .ready := by rw [hrec]
    have hbeg := run_beginRound (P := P) hl hr0
    have hl2 : (W.putObj (w.heap.size + 1) (.loop { rec .ready none with state := .busy })).heap[w.heap.size + 1]? = some (.loop { rec .ready none with state := .busy }) := World.putObj_heap_same hlt
    have hd2 : (W.putObj (w.heap.size + 1) (.loop { rec .ready none with state := .busy })).heap[w.heap.size]? = some (.deferred (some [])) := (World.putObj_heap_other (by omega)).trans hd
    have hk2 : Keeps (fun b => b = w.heap.size + 1) W (W.putObj (w.heap.size + 1) (.loop { rec .ready none with state := .busy })) := keeps_putObj (S := fun b => b = w.heap.size + 1) rfl _
    have hi2 := hI _ _ _ hi (hk2.mono fun b _ e => by rw [e]; exact hSl)
    have hs2 : w.heap.size + 1 < (W.putObj (w.heap.size + 1) (.loop { rec .ready none with state := .busy })).heap.size := by simpa using hlt
    generalize W.putObj (w.heap.size + 1) (.loop { rec .ready none with state := .busy }) = W2 at *
    have hb := hbody (w.heap.size + 1) pre x W2 hi2 hs2 hpre
    have ha := hassign (w.heap.size + 1) x W
    have hrn : (rec .ready none).fn = fn := by rw [hrec]
    have hrt : (rec .ready none).tmps = a.tmps := by rw [hrec]
    have hrp : (rec .ready none).params = ps := by rw [hrec]
    have hra : (rec .ready none).assign = assign := by rw [hrec]
    have hrb : (rec .ready none).body = body := by rw [hrec]
    have hrj : ∀ j : Option Code, ({ ({ rec .ready none with state := .busy } : Loop) with state := (if j.isNone then LoopState.ready else LoopState.done), pending := j } : Loop) = rec (if j.isNone then .ready else .done) j := fun j => by rw [hrec]
    rw [hrn, hrt, hrp, hra, hrb] at hy
    refine ⟨fn, _, assign, body, hy, roundIn_of_wpIn hfn (ha _ ⟨W2, hbeg, wpIn_mono hb ?_⟩)⟩
    have fin : ∀ (j : Option Code) (W3 : World), Keeps (fun b => ¬ S b) W2 W3 → KI I Ix (pre ++ [x]) W3 j → ∃ v w', (Instr.endRound (w.heap.size + 1) j).run P W3 = .ok v w' ∧
        ((Ending.returned v = .returned (.bool true) ∧ (I (pre ++ [x]) w' ∧ w'.heap[w.heap.size + 1]? = some (.loop (rec .ready none)) ∧ w'.heap[w.heap.size]? = some (.deferred (some []))) ∧ Keeps (fun b => ¬ Own b) W w') ∨
         (Ending.returned v = .returned (.bool false) ∧ ∃ c, Ix c (pre ++ [x]) w' ∧ w'.heap[w.heap.size + 1]? = some (.loop (rec .done (some c))) ∧ w'.heap[w.heap.size]? = some (.deferred (some [])))) := fun j W3 hk3 hi3 => by
      have hl3 := hk3.heap hl2 (fun h => h hSl)
      have hd3 := hk3.heap hd2 (fun h => h ((hS _).2 (Or.inr (Or.inl (by omega)))))
      have hlt3 := lt_of_heap hl3
      have hend := run_endRound (P := P) j hl3
      rw [hrj] at hend
      have hk4 : Keeps (fun b => b = w.heap.size + 1) W3 (W3.putObj (w.heap.size + 1) (.loop (rec (if j.isNone then .ready else .done) j))) := keeps_putObj (S := fun b => b = w.heap.size + 1) rfl _
      have hl4 : (W3.putObj (w.heap.size + 1) (.loop (rec (if j.isNone then .ready else .done) j))).heap[w.heap.size + 1]? = some (.loop (rec (if j.isNone then .ready else .done) j)) := World.putObj_heap_same hlt3
      have hd4 : (W3.putObj (w.heap.size + 1) (.loop (rec (if j.isNone then .ready else .done) j))).heap[w.heap.size]? = some (.deferred (some [])) := (World.putObj_heap_other (by omega)).trans hd3
      refine ⟨_, _, hend, ?_⟩
      have hkS := hk4.mono (T := S) fun b _ e => by rw [e]; exact hSl
      cases j with
      | none =>
        refine Or.inl ⟨rfl, ⟨hI _ _ _ hi3 hkS, hl4, hd4⟩, ?_⟩
        exact (((hk2.mono (T := fun b => ¬ Own b) fun b _ e => by rw [e]; exact hOl).trans hk3 (fun b _ h => fun ho => h ((hS b).2 (Or.inl ho)))).trans hk4 (fun b _ e => by rw [e]; exact hOl))
      | some c => exact Or.inr ⟨rfl, c, hIx c _ _ _ hi3 hkS, hl4, hd4⟩
    rintro e a3 W3 ⟨j, hj, hk3, hi3⟩
    cases e <;> first | (cases hj; exact fin _ W3 hk3 hi3) | cases hj
  · rintro e W2 ⟨⟨v, rfl⟩, (⟨hi, hl, hd⟩ | ⟨pre, hpre, c, hi, hl, hd⟩)⟩
    · have hk : ∀ o, Keeps S W2 (W2.putObj (w.heap.size + 1) o) := fun o => keeps_putObj hSl o
      have hp : (rec .ready none).pending = none := by rw [hrec]
      have hend := run_endLoop (P := P) hl (by rw [hrec]; simp)
      rw [hp] at hend
      exact ⟨none, _, hend, hdone _ (hI _ _ _ hi (hk _)) ((World.putObj_heap_other (by omega)).trans hd)⟩
    · have hk : ∀ o, Keeps S W2 (W2.putObj (w.heap.size + 1) o) := fun o => keeps_putObj hSl o
      have hp : (rec .done (some c)).pending = some c := by rw [hrec]
      have hend := run_endLoop (P := P) hl (by rw [hrec]; simp)
      rw [hp] at hend
      exact ⟨some c, _, hend, hstop c pre _ hpre (hIx c _ _ _ hi (hk _)) ((World.putObj_heap_other (by omega)).trans hd)⟩
/-- 'append' inside a fence, by its run. -/
theorem wpListIn_append_run {F : Fence} {n : Nat} {P : Program} {w : World} {ops : Array Oper} {rest : List Oper} {o : Oper} {a : Act} {Q : Exit → Act → World → Prop} (hg : o.guard = none) (s x : Operand) (t tx : TypeId)
    (hop : o.op = Op.call { callee := Callee.builtin Builtin.append, args := #[s, x], argTypes := #[t, tx] }) {sv xv v' : Value} {w' : World} (hs : a.eval s = sv) (hx : a.eval x = xv) (hrun : (Builtin.append_ #[t, tx] o.type #[sv, xv]).run P w = .ok v' w')
    (hK : wpListIn F n P ops Q rest (a.put o.dst v') w') : wpListIn F n P ops Q (o :: rest) a w := by
  refine wpListIn_plain hg fun K hK' => ?_
  unfold Oper.wpIn
  refine ⟨?_, ?_⟩
  · simp [Oper.about, hop, resolve, Target.leads, Sem.run_pure]
  · rw [Oper.semAt_plain F _ _ (by rw [hop]; intro c hc'; cases hc')]
    simp [execOp, hop, resolve, invoke, builtin, hs, hx, hrun, Result.andThen]
    exact hK' _ _ hK
end Go.Proofs.YtbckbkcpfejllaaDoor
