/- The walks of package path, first part: which runes may be in a name. -/
import Derived.Test.YtbckbkcpfejllaaDoorSh
import Derived.Test.YtbckbkcpfejllaaDoorPt
import Derived.Shelf.Strings.FuncGrows
import Derived.WalkKit
import Derived.WalkLawsBesides
import Derived.WalkSpells
import Derived.Laws.Runes
import Derived.Deep.LoopGhost
import Derived.Lib.OthersKept
import Derived.Deep.QuietTactic
import Derived.BigQuiet
import Derived.Lib.Hide
import Derived.IntWalk
import Derived.Test.YtbckbkcpfejllaaDoorReg
namespace Go.Proofs.YtbckbkcpfejllaaDoor
open Go.RowKit

/-- What may stand in a name beside letters and digits. -/
abbrev sgn : ByteArray := ⟨#[46, 95, 45, 43, 47]⟩
theorem sgn_dec : ∀ pos, pos < 5 → (Utf8.decode sgn pos).2 = 1 ∧ (Utf8.decode sgn pos).1 < 128 := by decide

set_option maxRecDepth 100000 in
theorem indexRune_err (w : World) : Calls Tryd.prog 123 #[.string sgn, .int .i32 65533] w fun e w' => e = .returned (.int .i64 (-1)) ∧ Below w.heap.size w w' := by
  go_enter Tryd.func123, Tryd.ntmps123
  go_wp2
  go_loopg [] 5 (fun g wx => ∃ pos : Nat, wx.heap[w.heap.size]? = some (.stringIter sgn pos) ∧ Below w.heap.size w wx ∧ pos ≤ 5 ∧ 5 ≤ pos + g)
  case atStart => exact ⟨0, World.iter_heap w sgn 0, (Below.refl _ w).alloc (Nat.le_refl _) _, by omega, by omega⟩
  case round =>
    obtain ⟨pos, hit, hbw, h5, hfu⟩ := hrel
    by_cases hp : pos < 5
    · obtain ⟨g, rfl⟩ : ∃ g, gk = g + 1 := ⟨gk - 1, by omega⟩
      have hnx : ∀ ty, (Instr.next (.pointer (some ⟨w.heap.size, 0, none⟩)) true ty).run Tryd.prog wr = _ := fun ty => Lib.run_next_any_at wr w.heap.size sgn pos ty hit hp
      obtain ⟨hd2, hd1⟩ := sgn_dec pos hp
      rw [hd2] at hnx
      have hit2 := Lib.iterAt_heap wr w.heap.size sgn pos (pos + 1) hit
      have hbw2 := Lib.below_iterAt hbw (k := w.heap.size) (Nat.le_refl _) sgn (pos + 1)
      generalize (Utf8.decode sgn pos).1 = R at *
      obtain ⟨W, hWd⟩ : ∃ W, wr.iterAt w.heap.size sgn (pos + 1) = W := ⟨_, rfl⟩
      rw [hWd] at hnx hit2 hbw2
      have hne : ((R : Int) == 65533) = false := by simp; omega
      clear hd2
      go_wp2
      go_roundg g
      case measure => omega
      case rel => exact ⟨pos + 1, hit2, hbw2, by omega, by omega⟩
    · have hnx : ∀ ty, (Instr.next (.pointer (some ⟨w.heap.size, 0, none⟩)) true ty).run Tryd.prog wr = _ := fun ty => Lib.run_next_end_at wr w.heap.size sgn pos ty hit hp
      go_wp2
      go_ret
      exact ⟨rfl, hbw⟩
set_option maxRecDepth 100000 in
theorem indexRune_bad (r : Int) (h0 : 128 ≤ r) (h1 : r ≤ 1114111) (hn : r ≠ 65533) (hv : Lib.validRune r = false) (w : World) : Calls Tryd.prog 123 #[.string sgn, .int .i32 r] w fun e w' => e = .returned (.int .i64 (-1)) ∧ Below w.heap.size w w' := by
  have hne : (r == 65533) = false := by simpa using hn
  have hd : decide (r < 128) = false := by simp; omega
  go_enter Tryd.func123, Tryd.ntmps123
  go_wp2_with (go_at_call 131; refine (Tryd.utf8_ValidRune _ _).mono ?_; rintro e w' ⟨rfl, rfl⟩)
  go_ret
  exact ⟨rfl, Below.refl _ _⟩
theorem sgn_no (c : UInt8) (h : 128 ≤ c.toNat) (k : Nat) : Lib.indexByte ((bs sgn).drop k) c = -1 := by
  have h1 : ∀ l : Bs, (∀ x ∈ l, x.toNat < 128) → Lib.indexByte l c = -1 := by
    intro l
    induction l with
    | nil => intro _; rfl
    | cons b r ih =>
      intro hl
      have e1 : Lib.indexByte (b :: r) c = if b == c then 0 else if Lib.indexByte r c == -1 then -1 else Lib.indexByte r c + 1 := rfl
      rw [e1, if_neg, ih (fun x hx => hl x (by simp [hx]))]
      · rfl
      · have := hl b (by simp)
        simp
        rintro rfl
        omega
  refine h1 _ (fun x hx => ?_)
  have h2 : ∀ x ∈ bs sgn, x.toNat < 128 := by decide
  exact h2 x (List.mem_of_mem_drop hx)
set_option maxRecDepth 100000 in
theorem indexRune_good (r : Int) (h0 : 128 ≤ r) (h1 : r ≤ 1114111) (hn : r ≠ 65533) (hv : Lib.validRune r = true) (w : World) : Calls Tryd.prog 123 #[.string sgn, .int .i32 r] w fun e w' => e = .returned (.int .i64 (-1)) ∧ Below w.heap.size w w' := by
  have hne : (r == 65533) = false := by simpa using hn
  have hd : decide (r < 128) = false := by simp; omega
  have hv2 : Utf8.valid r = true := by
    unfold Lib.validRune at hv
    simp at hv
    simp [Utf8.valid]
    omega
  obtain ⟨e1, e2, e3⟩ := encode_facts r hv2 h0
  obtain ⟨E, hE⟩ : ∃ E, Utf8.encode r = E := ⟨_, rfl⟩
  have hcv : ∀ w : World, (convert 21 9 (.int .i32 r)).run Tryd.prog w = .ok (.string E) w := fun w => by
    rw [← hE]; exact run_convert_int_string w _ _ _ _ (by kernel_rfl) Tryd.underlying9
  rw [hE] at e1 e2 e3
  obtain ⟨m, hm⟩ : ∃ m, E.size = m + 1 := ⟨E.size - 1, by omega⟩
  have hm4 : m < 4 := by omega
  have hm1 : 1 ≤ m := by omega
  have hlt : m < E.size := by omega
  obtain ⟨c, hc⟩ : ∃ c, E[m] = c := ⟨_, rfl⟩
  have h3 : 128 ≤ c.toNat := by
    have h4 := e3 (by omega)
    have e : E.size - 1 = m := by omega
    rw [← hc]
    simpa [e] using h4
  have hs5 : m < sgn.size := by show m < 5; omega
  obtain ⟨d, hd5⟩ : ∃ d, sgn[m] = d := ⟨_, rfl⟩
  have hd128 : d.toNat < 128 := by
    have h4 : ∀ x ∈ bs sgn, x.toNat < 128 := by decide
    rw [← hd5]
    exact h4 _ (Array.mem_toList_iff.2 (Array.getElem_mem (xs := sgn.data) hs5))
  have hml : (m : Int) < (m : Int) + 1 := by omega
  have hix : ((d.toNat : Int) != c.toNat) = true := by simp; omega
  have hix2 : ((d.toNat : Int) == c.toNat) = false := by simp; omega
  clear e3 hE hv2 hn e1 e2
  go_enter Tryd.func123, Tryd.ntmps123
  go_wp2_with (go_at_call 131; refine (Tryd.utf8_ValidRune _ _).mono ?_; rintro e w' ⟨rfl, rfl⟩)
  go_step3
  go_wp2
  refine wp_loop_rounds 1 ?_
  rw [rounds_succ]
  go_wp2
  go_step3
  go_wp2
  refine wp_region_reg (by kernel_rfl) (by kernel_rfl) ?_
  refine reg_quiet 0 rfl (by kernel_rfl) (fun K hK => ?_)
  go_simp
  refine hK _ ?_; clear hK K
  refine reg_quiet 1 rfl (by kernel_rfl) (fun K hK => ?_)
  go_simp
  refine hK _ ?_; clear hK K
  refine reg_quiet 2 rfl (by kernel_rfl) (fun K hK => ?_)
  go_simp
  refine hK _ ?_; clear hK K
  refine reg_quiet 3 rfl (by kernel_rfl) (fun K hK => ?_)
  go_simp
  refine hK _ ?_; clear hK K
  refine reg_quiet 4 rfl (by kernel_rfl) (fun K hK => ?_)
  go_simp
  refine hK _ ?_; clear hK K
  refine reg_quiet 5 rfl (by kernel_rfl) (fun K hK => ?_)
  go_simp
  refine hK _ ?_; clear hK K
  refine reg_quiet 6 rfl (by kernel_rfl) (fun K hK => ?_)
  go_simp
  refine hK _ ?_; clear hK K
  refine reg_done (by kernel_rfl) ?_
  go_wp2
  have hw1 : IntKind.i64.wrap ((m : Int) + 1) = (m : Int) + 1 := IntWalk.i64_in _ (by omega)
  have hw2 : 0 ≤ (m : Int) + 1 := by omega
  have hw3 : (m : Int) + 1 ≤ 5 := by omega
  have hw4 : ((m : Int) + 1).toNat = m + 1 := by omega
  have hib : Lib.indexByte (bs (sgn.extract (m + 1) 5)) (c.toNat : Int).toNat.toUInt8 = -1 := by
    have e1 : bs (sgn.extract (m + 1) 5) = (bs sgn).drop (m + 1) := by
      simp only [bs, ByteArray.data_extract, Array.toList_extract, List.extract]
      exact List.take_of_length_le (by simp)
    have e2 : (c.toNat : Int).toNat.toUInt8 = c := by simp
    rw [e1, e2]
    exact sgn_no c h3 _
  have hC : ∀ W, Calls Tryd.prog 130 #[.string (sgn.extract (m + 1) 5), .int .u8 c.toNat] W fun e w' => e = .returned (.int .i64 (-1)) ∧ W = w' := fun W =>
    (Tryd.strings_IndexByte _ _ W).mono fun e w' ⟨h1, h2⟩ => ⟨h1.trans (by rw [hib]), h2.symm⟩
  clear hib
  refine wp_region_reg (by kernel_rfl) (by kernel_rfl) ?_
  refine reg_quiet 0 rfl (by kernel_rfl) (fun K hK => ?_)
  go_simp
  refine hK _ ?_; clear hK K
  refine reg_quiet 1 rfl (by kernel_rfl) (fun K hK => ?_)
  go_simp
  refine hK _ ?_; clear hK K
  refine reg_quiet 2 rfl (by kernel_rfl) (fun K hK => ?_)
  go_simp
  refine hK _ ?_; clear hK K
  refine reg_quiet 3 rfl (by kernel_rfl) (fun K hK => ?_)
  go_simp
  refine hK _ ?_; clear hK K
  refine reg_quiet 4 rfl (by kernel_rfl) (fun K hK => ?_)
  go_simp
  refine hK _ ?_; clear hK K
  refine reg_quiet 5 rfl (by kernel_rfl) (fun K hK => ?_)
  go_simp
  refine hK _ ?_; clear hK K
  refine reg_quiet 6 rfl (by kernel_rfl) (fun K hK => ?_)
  go_simp
  refine hK _ ?_; clear hK K
  refine reg_turn 7 [] rfl (by kernel_rfl) (by kernel_rfl) (fun K hK => ?_)
  go_simp
  refine (hC _).mono ?_
  rintro e w1 ⟨rfl, rfl⟩
  refine hK _ _ (StayOk.nil) ?_; clear hK K
  refine reg_quiet 8 rfl (by kernel_rfl) (fun K hK => ?_)
  go_simp
  refine hK _ ?_; clear hK K
  refine reg_done (by kernel_rfl) ?_
  go_wp2
  simp only [Exit.noGoto, Exit.inBlock, Exit.then]
  go_ret
  exact ⟨rfl, (Below.refl _ _).drew.drew⟩
theorem indexRune_big (r : Int) (h0 : 128 ≤ r) (h1 : r ≤ 1114111) (w : World) : Calls Tryd.prog 123 #[.string sgn, .int .i32 r] w fun e w' => e = .returned (.int .i64 (-1)) ∧ Below w.heap.size w w' := by
  by_cases hn : r = 65533
  · subst hn; exact indexRune_err w
  · cases hv : Lib.validRune r
    · exact indexRune_bad r h0 h1 hn hv w
    · exact indexRune_good r h0 h1 hn hv w
theorem containsRune_big (r : Int) (h0 : 128 ≤ r) (h1 : r ≤ 1114111) (w : World) : Calls Tryd.prog 112 #[.string sgn, .int .i32 r] w fun e w' => e = .returned (.bool false) ∧ Below w.heap.size w w' := by
  have h := indexRune_big r h0 h1 w
  have H := Lib.hid h
  clear h
  go_enter Tryd.func112, Tryd.ntmps112
  go_wp2_with fail
  refine H.out.mono ?_
  rintro e w1 ⟨rfl, hb⟩
  go_wp2_with fail
  go_ret
  exact ⟨rfl, hb⟩
def signR (r : Nat) : Bool := decide (r = 46 ∨ r = 95 ∨ r = 45 ∨ r = 43 ∨ r = 47)
theorem sign_idx : ∀ r : Nat, r < 128 → decide (0 ≤ Lib.indexByte [46, 95, 45, 43, 47] (r : Int).toNat.toUInt8) = signR r := by decide
theorem containsRune_at (r : Nat) (h1 : r ≤ 1114111) (w : World) : Calls Tryd.prog 112 #[.string sgn, .int .i32 r] w fun e w' => e = .returned (.bool (signR r)) ∧ Below w.heap.size w w' := by
  by_cases h : r < 128
  · refine (Tryd.strings_ContainsRune_ascii sgn r w (by omega) (by omega)).mono fun e w' ⟨he, hw⟩ => ⟨he.trans ?_, hw ▸ Below.refl _ _⟩
    rw [← sign_idx r h]
  · have e : signR r = false := by unfold signR; simp; omega
    rw [e]
    exact containsRune_big r (by omega) (by omega) w
theorem plainR_parts (r : Nat) : plainR r = (decide (97 ≤ r ∧ r ≤ 122) || decide (65 ≤ r ∧ r ≤ 90) || decide (48 ≤ r ∧ r ≤ 57) || signR r) := by
  unfold plainR signR
  rw [Bool.eq_iff_iff]
  simp
  omega
set_option maxRecDepth 100000 in
theorem plain_at (r : Nat) (h1 : r ≤ 1114111) (w : World) : Calls Tryd.prog 92 #[.int .i32 r] w fun e w' => e = .returned (.bool (plainR r)) ∧ Below w.heap.size w w' := by
  have hc := containsRune_at r h1 w
  have hp := plainR_parts r
  have Hc := Lib.hid hc
  have Hp := Lib.hid hp
  clear hc hp
  have hr0 : (0 : Int) ≤ r := by omega
  rcases (show r ≤ 47 ∨ (48 ≤ r ∧ r ≤ 57) ∨ (58 ≤ r ∧ r ≤ 64) ∨ (65 ≤ r ∧ r ≤ 90) ∨ (91 ≤ r ∧ r ≤ 96) ∨ (97 ≤ r ∧ r ≤ 122) ∨ 123 ≤ r by omega) with h | h | h | h | h | h | h
  · have g97 : decide ((97 : Int) ≤ (r : Int)) = false := by simp; omega
    have g65 : decide ((65 : Int) ≤ (r : Int)) = false := by simp; omega
    have g48 : decide ((48 : Int) ≤ (r : Int)) = false := by simp; omega
    have l122 : decide ((r : Int) ≤ 122) = true := by simp; omega
    have l90 : decide ((r : Int) ≤ 90) = true := by simp; omega
    have l57 : decide ((r : Int) ≤ 57) = true := by simp; omega
    have hv : plainR r = signR r := by rw [Hp.out]; simp; omega
    rw [hv]
    clear hv h
    generalize signR r = b at *
    go_enter Tryd.func92, Tryd.ntmps92
    go_wp2_with fail
    refine Hc.out.mono ?_
    rintro e w1 ⟨rfl, hb⟩
    go_wp2_with fail
    go_ret
    exact ⟨rfl, hb⟩
  · have g97 : decide ((97 : Int) ≤ (r : Int)) = false := by simp; omega
    have g65 : decide ((65 : Int) ≤ (r : Int)) = false := by simp; omega
    have g48 : decide ((48 : Int) ≤ (r : Int)) = true := by simp; omega
    have l122 : decide ((r : Int) ≤ 122) = true := by simp; omega
    have l90 : decide ((r : Int) ≤ 90) = true := by simp; omega
    have l57 : decide ((r : Int) ≤ 57) = true := by simp; omega
    have hv : plainR r = true := by rw [Hp.out]; simp; omega
    rw [hv]
    clear hv h Hc Hp
    go_enter Tryd.func92, Tryd.ntmps92
    go_wp2_with fail
    go_ret
    exact ⟨rfl, Below.refl _ _⟩
  · have g97 : decide ((97 : Int) ≤ (r : Int)) = false := by simp; omega
    have g65 : decide ((65 : Int) ≤ (r : Int)) = false := by simp; omega
    have g48 : decide ((48 : Int) ≤ (r : Int)) = true := by simp; omega
    have l122 : decide ((r : Int) ≤ 122) = true := by simp; omega
    have l90 : decide ((r : Int) ≤ 90) = true := by simp; omega
    have l57 : decide ((r : Int) ≤ 57) = false := by simp; omega
    have hv : plainR r = signR r := by rw [Hp.out]; simp; omega
    rw [hv]
    clear hv h
    generalize signR r = b at *
    go_enter Tryd.func92, Tryd.ntmps92
    go_wp2_with fail
    refine Hc.out.mono ?_
    rintro e w1 ⟨rfl, hb⟩
    go_wp2_with fail
    go_ret
    exact ⟨rfl, hb⟩
  · have g97 : decide ((97 : Int) ≤ (r : Int)) = false := by simp; omega
    have g65 : decide ((65 : Int) ≤ (r : Int)) = true := by simp; omega
    have g48 : decide ((48 : Int) ≤ (r : Int)) = true := by simp; omega
    have l122 : decide ((r : Int) ≤ 122) = true := by simp; omega
    have l90 : decide ((r : Int) ≤ 90) = true := by simp; omega
    have l57 : decide ((r : Int) ≤ 57) = false := by simp; omega
    have hv : plainR r = true := by rw [Hp.out]; simp; omega
    rw [hv]
    clear hv h Hc Hp
    go_enter Tryd.func92, Tryd.ntmps92
    go_wp2_with fail
    go_ret
    exact ⟨rfl, Below.refl _ _⟩
  · have g97 : decide ((97 : Int) ≤ (r : Int)) = false := by simp; omega
    have g65 : decide ((65 : Int) ≤ (r : Int)) = true := by simp; omega
    have g48 : decide ((48 : Int) ≤ (r : Int)) = true := by simp; omega
    have l122 : decide ((r : Int) ≤ 122) = true := by simp; omega
    have l90 : decide ((r : Int) ≤ 90) = false := by simp; omega
    have l57 : decide ((r : Int) ≤ 57) = false := by simp; omega
    have hv : plainR r = signR r := by rw [Hp.out]; simp; omega
    rw [hv]
    clear hv h
    generalize signR r = b at *
    go_enter Tryd.func92, Tryd.ntmps92
    go_wp2_with fail
    refine Hc.out.mono ?_
    rintro e w1 ⟨rfl, hb⟩
    go_wp2_with fail
    go_ret
    exact ⟨rfl, hb⟩
  · have g97 : decide ((97 : Int) ≤ (r : Int)) = true := by simp; omega
    have g65 : decide ((65 : Int) ≤ (r : Int)) = true := by simp; omega
    have g48 : decide ((48 : Int) ≤ (r : Int)) = true := by simp; omega
    have l122 : decide ((r : Int) ≤ 122) = true := by simp; omega
    have l90 : decide ((r : Int) ≤ 90) = false := by simp; omega
    have l57 : decide ((r : Int) ≤ 57) = false := by simp; omega
    have hv : plainR r = true := by rw [Hp.out]; simp; omega
    rw [hv]
    clear hv h Hc Hp
    go_enter Tryd.func92, Tryd.ntmps92
    go_wp2_with fail
    go_ret
    exact ⟨rfl, Below.refl _ _⟩
  · have g97 : decide ((97 : Int) ≤ (r : Int)) = true := by simp; omega
    have g65 : decide ((65 : Int) ≤ (r : Int)) = true := by simp; omega
    have g48 : decide ((48 : Int) ≤ (r : Int)) = true := by simp; omega
    have l122 : decide ((r : Int) ≤ 122) = false := by simp; omega
    have l90 : decide ((r : Int) ≤ 90) = false := by simp; omega
    have l57 : decide ((r : Int) ≤ 57) = false := by simp; omega
    have hv : plainR r = signR r := by rw [Hp.out]; simp; omega
    rw [hv]
    clear hv h
    generalize signR r = b at *
    go_enter Tryd.func92, Tryd.ntmps92
    go_wp2_with fail
    refine Hc.out.mono ?_
    rintro e w1 ⟨rfl, hb⟩
    go_wp2_with fail
    go_ret
    exact ⟨rfl, hb⟩
theorem clean1_at (r : Nat) (h1 : r ≤ 1114111) (w : World) : Calls Tryd.prog 91 #[.int .i32 r] w fun e w' => e = .returned (.bool (!plainR r)) ∧ Below w.heap.size w w' := by
  have hc := plain_at r h1 w
  have Hc := Lib.hid hc
  clear hc
  generalize plainR r = b at *
  cases b
  all_goals
    go_enter Tryd.func91, Tryd.ntmps91
    go_wp2_with fail
    refine Hc.out.mono ?_
    rintro e w1 ⟨rfl, hb⟩
    go_wp2_with fail
    go_ret
    exact ⟨rfl, hb⟩
theorem enter_clean1 (args : Array Value) (w : World) : (callFunc 91 args).run Tryd.prog w = .ok (.enter 91 args) w := by kernel_rfl
theorem allPlain_at (s : ByteArray) (w : World) : Calls Tryd.prog 90 #[.string s, .func (.func 91) #[] #[]] w fun e w' => e = .returned (.int .i64 (Lib.idxFunc (fun r => !plainR r) true s)) ∧ Below w.heap.size w w' :=
  Tryd.strings_IndexFunc_grows _ _ enter_clean1 _ s w (fun W x hx _ => clean1_at x hx W)
end Go.Proofs.YtbckbkcpfejllaaDoor
