/- reclog: a file's records: plainly, and the walk of Scan. -/
import Derived.Test.YtbckbkcpfejllaaDoorFr
namespace Go.Proofs.YtbckbkcpfejllaaDoor
open Go.RowKit Go.Maps Go.WideMaps

theorem equal_at {w : World} {v1 v2 : Value} {b1 b2 : Bs} (h1 : Bin w v1 b1) (h2 : Bin w v2 b2) : Calls Tryd.prog 82 #[v1, v2] w fun e w' => e = .returned (.bool (b1 == b2)) ∧ w = w' := by
  have c1 := h1.str
  have c2 := h2.str
  obtain ⟨a1, n1, rfl⟩ : ∃ a c, v1 = .slice a b1.length c := by obtain ⟨a, c, e, _⟩ := h1; exact ⟨a, c, e⟩
  obtain ⟨a2, n2, rfl⟩ : ∃ a c, v2 = .slice a b2.length c := by obtain ⟨a, c, e, _⟩ := h2; exact ⟨a, c, e⟩
  clear h1 h2
  go_enter Tryd.func82, Tryd.ntmps82
  go_wp2_with fail
  go_ret
  exact ⟨by simp, rfl⟩
/-- Does b begin with p? -/
def hasP (b p : Bs) : Bool := decide (p.length ≤ b.length) && (b.take p.length == p)
theorem bhasPrefix_at {w : World} {v1 v2 : Value} {b p : Bs} (h1 : Bin w v1 b) (h2 : Bin w v2 p) : Calls Tryd.prog 66 #[v1, v2] w fun e w' => e = .returned (.bool (hasP b p)) ∧ w = w' := by
  obtain ⟨a1, n1, rfl⟩ : ∃ a c, v1 = .slice a b.length c := by obtain ⟨a, c, e, _⟩ := h1; exact ⟨a, c, e⟩
  obtain ⟨a2, n2, rfl⟩ : ∃ a c, v2 = .slice a p.length c := by obtain ⟨a, c, e, _⟩ := h2; exact ⟨a, c, e⟩
  have hcap : b.length ≤ n1 := by
    obtain ⟨_, _, e, h, _⟩ := h1
    obtain ⟨_, _, rfl⟩ := Value.slice.inj e
    exact h
  have H := Lib.hid (And.intro h1 h2)
  clear h1 h2
  by_cases hl : p.length ≤ b.length
  · have g : decide ((p.length : Int) ≤ (b.length : Int)) = true := by simp; omega
    have hm : p.length ≤ n1 := by omega
    have hr : hasP b p = (b.take p.length == p) := by unfold hasP; rw [decide_eq_true hl]; rfl
    have Hr := Lib.hid hr
    clear hr
    have he := equal_at (H.out.1.take hl) H.out.2
    have He := Lib.hid he
    clear he
    go_enter Tryd.func66, Tryd.ntmps66
    go_wp2_with fail
    refine He.out.mono ?_
    rintro e w1 ⟨rfl, rfl⟩
    go_wp2_with fail
    go_ret
    exact ⟨by rw [Hr.out]; rfl, rfl⟩
  · have g : decide ((p.length : Int) ≤ (b.length : Int)) = false := by simp; omega
    have hr : hasP b p = false := by unfold hasP; rw [decide_eq_false hl]; rfl
    have Hr := Lib.hid hr
    clear hr
    go_enter Tryd.func66, Tryd.ntmps66
    go_wp2_with fail
    go_ret
    exact ⟨by rw [Hr.out]; rfl, rfl⟩
/-- The records of bytes behind a head, and how many bytes they take; n: at most so many records. -/
def scanL : Nat → Bs → List Bs × Nat
  | 0, _ => ([], 0)
  | n + 1, b =>
    if b.length < 8 then ([], 0)
    else if 4096 < val32 b ∨ b.length < 8 + val32 b then ([], 0)
    else if crcP ((b.drop 8).take (val32 b)) ≠ val32 (b.drop 4) then ([], 0)
    else ((b.drop 8).take (val32 b) :: (scanL n (b.drop (8 + val32 b))).1, (scanL n (b.drop (8 + val32 b))).2 + (8 + val32 b))
/-- Scan, plainly: records, how many bytes are good, an error's number. -/
def scanP (b : Bs) (k : UInt8) : List Bs × Nat × Int :=
  if b.length < 8 ∧ hasP (headP k) b = true then ([], 0, 0)
  else if hasP b (headP k) = false then ([], 0, 9)
  else ((scanL b.length (b.drop 8)).1, 8 + (scanL b.length (b.drop 8)).2, 0)
/-- Records in memory: a new row of slices, each of its own block. -/
def Recs (w : World) (N : Nat) (v : Value) (l : List Bs) : Prop :=
  ∃ vs : List Value, Row w 22 1 v l.length vs ∧ vs.length = l.length ∧ (∀ j (h1 : j < vs.length) (h2 : j < l.length), Bin w vs[j] l[j] ∧ ∀ q, vs[j].ownBlock = some q → N ≤ q ∧ q < w.heap.size ∧ v.ownBlock ≠ some q) ∧ ∀ q, v.ownBlock = some q → N ≤ q
theorem Recs.below {w w' : World} {N : Nat} {v : Value} {l : List Bs} (h : Recs w N v l) (hb : Below w.heap.size w w') : Recs w' N v l := by
  obtain ⟨vs, h1, h2, h3, h4⟩ := h
  exact ⟨vs, h1.keep fun q hq => hb.block q (h1.lt q hq), h2, fun j a b => ⟨(h3 j a b).1.keep fun q _ hq => hb.block q hq, fun q hq => ⟨((h3 j a b).2 q hq).1, Nat.lt_of_lt_of_le ((h3 j a b).2 q hq).2.1 hb.size, ((h3 j a b).2 q hq).2.2⟩⟩, h4⟩
/-- One record more. -/
theorem Recs.snoc {N : Nat} {w4 w5 w6 : World} {a : Option Addr} {c : Nat} {l : List Bs} {vs : List Value} (_r1 : Row w5 22 1 (.slice a l.length c) l.length vs) (r2 : vs.length = l.length)
    (r3 : ∀ j (h1 : j < vs.length) (h2 : j < l.length), Bin w5 vs[j] l[j] ∧ ∀ q, vs[j].ownBlock = some q → N ≤ q ∧ q < w5.heap.size ∧ (Value.slice a l.length c).ownBlock ≠ some q) (r4 : ∀ q, (Value.slice a l.length c).ownBlock = some q → N ≤ q)
    {u : Value} {R : Bs} (hu : Bin w5 u R) (hu1 : ∀ q, u.ownBlock = some q → w4.heap.size ≤ q ∧ q < w5.heap.size) (hN : N ≤ w4.heap.size) (h4 : ∀ q, (Value.slice a l.length c).ownBlock = some q → q < w4.heap.size) (o : Obj)
    {a' : Option Addr} {c' : Nat} (hr : Row w6 22 1 (.slice a' (l.length + 1) c') (l.length + 1) (vs ++ [u])) (hk : Keeps (fun q => (Value.slice a l.length c).ownBlock = some q) (w5.alloc o) w6) (hw : ∀ q, (Value.slice a' (l.length + 1) c').ownBlock = some q → (Value.slice a l.length c).ownBlock = some q ∨ (w5.alloc o).heap.size ≤ q) (h45 : w4.heap.size ≤ w5.heap.size) :
    Recs w6 N (.slice a' (l.length + 1) c') (l ++ [R]) := by
  have hz : w5.heap.size + 1 ≤ w6.heap.size := by have := hk.size; simpa using this
  have old : ∀ {v : Value} {x : Bs}, Bin w5 v x → (∀ q, v.ownBlock = some q → q < w5.heap.size ∧ (Value.slice a l.length c).ownBlock ≠ some q) → Bin w6 v x := fun hb hq => hb.keep fun q hv hlt => (hk.block q (by simp; omega) (hq q hv).2).trans (Below.heap_alloc _ _ _ hlt)
  have newb : ∀ q, q < w5.heap.size → (Value.slice a l.length c).ownBlock ≠ some q → (Value.slice a' (l.length + 1) c').ownBlock ≠ some q := fun q h1 h2 h3 => (hw q h3).elim h2 (fun h => by simp at h; omega)
  have hun : ∀ q, u.ownBlock = some q → q < w5.heap.size ∧ (Value.slice a l.length c).ownBlock ≠ some q := fun q hq => ⟨(hu1 q hq).2, fun h => by have := h4 q h; have := (hu1 q hq).1; omega⟩
  refine ⟨vs ++ [u], by simpa using hr, by simp [r2], fun j h1 h2 => ?_, fun q hq => (hw q hq).elim (r4 q) (fun h => by simp at h; omega)⟩
  by_cases hj : j < vs.length
  · have hj2 : j < l.length := by omega
    obtain ⟨b1, b2⟩ := r3 j hj hj2
    rw [List.getElem_append_left hj, List.getElem_append_left hj2]
    exact ⟨old b1 fun q hq => (b2 q hq).2, fun q hq => ⟨(b2 q hq).1, by have := (b2 q hq).2.1; omega, newb q (b2 q hq).2.1 (b2 q hq).2.2⟩⟩
  · have e1 : j = vs.length := by simp at h1; omega
    subst e1
    have g1 : (vs ++ [u])[vs.length] = u := by simp
    have g2 : (l ++ [R])[vs.length] = R := by simp [r2]
    rw [g1, g2]
    exact ⟨old hu hun, fun q hq => ⟨by have := (hu1 q hq).1; omega, by have := (hu1 q hq).2; omega, newb q (hun q hq).1 (hun q hq).2⟩⟩
theorem val32_lt (xs : Bs) : val32 xs < 4294967296 := by
  have h : ∀ j, (xs.getD j 0).toNat < 256 := fun j => UInt8.toNat_lt _
  have h0 := h 0
  have h1 := h 1
  have h2 := h 2
  have h3 := h 3
  simp only [val32, valN]
  omega
theorem info_sl : (Tryd.prog.info? 22).map (fun i => (i.zero, i.size, i.bytes)) = some (some (.slice none 0 0), 1, 24) := by kernel_rfl
theorem scan_short {f : Nat} {xs : Bs} (h : xs.length < 8) : scanL f xs = ([], 0) := by
  cases f with
  | zero => rfl
  | succ f => rw [scanL, if_pos h]
theorem scan_bad {f : Nat} {xs : Bs} (h : 4096 < val32 xs ∨ xs.length < 8 + val32 xs) : scanL f xs = ([], 0) := by
  cases f with
  | zero => rfl
  | succ f =>
    by_cases h8 : xs.length < 8
    · rw [scanL, if_pos h8]
    · rw [scanL, if_neg h8, if_pos h]
theorem scan_sum {f : Nat} {xs : Bs} (h : crcP ((xs.drop 8).take (val32 xs)) ≠ val32 (xs.drop 4)) : scanL f xs = ([], 0) := by
  cases f with
  | zero => rfl
  | succ f =>
    by_cases h8 : xs.length < 8
    · rw [scanL, if_pos h8]
    · by_cases hb : 4096 < val32 xs ∨ xs.length < 8 + val32 xs
      · rw [scanL, if_neg h8, if_pos hb]
      · rw [scanL, if_neg h8, if_neg hb, if_pos h]
theorem scan_ok {f : Nat} {xs : Bs} (h1 : 8 ≤ xs.length) (h2 : val32 xs ≤ 4096) (h3 : 8 + val32 xs ≤ xs.length) (h4 : crcP ((xs.drop 8).take (val32 xs)) = val32 (xs.drop 4)) :
    scanL (f + 1) xs = ((xs.drop 8).take (val32 xs) :: (scanL f (xs.drop (8 + val32 xs))).1, (scanL f (xs.drop (8 + val32 xs))).2 + (8 + val32 xs)) := by
  rw [scanL, if_neg (by omega), if_neg (by omega), if_neg (by simpa using h4)]
set_option maxRecDepth 100000 in
set_option maxHeartbeats 1000000 in
theorem scan_at {w : World} {v : Value} {b : Bs} (hb : Bin w v b) (hl : b.length ≤ 1000000) (k : UInt8) :
    Calls Tryd.prog 34 #[v, .int .u8 k.toNat] w fun e w' => ∃ v', e = .returned (.tuple #[v', .int .i64 (scanP b k).2.1, .int .i64 (scanP b k).2.2]) ∧ Recs w' w.heap.size v' (scanP b k).1 ∧ Below w.heap.size w w' := by
  obtain ⟨va, vc, rfl⟩ : ∃ a c, v = .slice a b.length c := by obtain ⟨a, c, e, _⟩ := hb; exact ⟨a, c, e⟩
  have Hb := Lib.hid hb
  clear hb
  go_enter Tryd.func34, Tryd.ntmps34
  go_wp2_with fail
  go_step3
  go_wp2_with fail
  refine (head_at w k).mono ?_
  rintro e w1 ⟨ha, hc, rfl, hown, hb1, hf1⟩
  have hb1b : Bin w1 (.slice va b.length vc) b := Hb.out.keep fun q _ hq => hb1.block q hq
  have hhd : Bin w1 (.slice ha 8 hc) (headP k) := Bown.bin (xs := headP k) hown
  have hp1 := bhasPrefix_at hhd hb1b
  have hp2 := bhasPrefix_at hb1b hhd
  have Hp1 := Lib.hid hp1
  have Hp2 := Lib.hid hp2
  have Hb1 := Lib.hid hb1
  have Hbb := Lib.hid hb1b
  clear hown hb1 hf1 hb1b hhd hp1 hp2
  obtain ⟨x1, hx1⟩ : ∃ x, hasP (headP k) b = x := ⟨_, rfl⟩
  obtain ⟨x2, hx2⟩ : ∃ x, hasP b (headP k) = x := ⟨_, rfl⟩
  rw [hx1] at Hp1
  rw [hx2] at Hp2
  by_cases hlt : b.length < 8
  · have g1 : decide ((b.length : Int) < 8) = true := by simp; omega
    have h2f : x2 = false := by rw [← hx2]; unfold hasP; rw [decide_eq_false (by show ¬ 8 ≤ b.length; omega)]; rfl
    subst h2f
    cases x1 with
    | true =>
      have hs : scanP b k = ([], 0, 0) := by unfold scanP; rw [if_pos ⟨hlt, hx1⟩]
      have Hs := Lib.hid hs
      clear hs hx1 hx2
      go_wp2_with fail
      refine Hp1.out.mono ?_
      rintro e w2 ⟨rfl, rfl⟩
      go_wp2_with fail
      simp only [Exit.noGoto]
      refine bodyPost_ret (v := .tuple #[.slice none 0 0, .int .i64 0, .int .i64 0]) (by simp [results, Tryd.results34, go_sem]) rfl ⟨.slice none 0 0, by rw [Hs.out]; rfl, by rw [Hs.out]; exact ⟨[], Row.nil _ _ _, rfl, (fun j h1 => by cases h1), fun q hq => by cases hq⟩, Hb1.out⟩
    | false =>
      have hs : scanP b k = ([], 0, 9) := by unfold scanP; rw [if_neg (by rw [hx1]; simp), if_pos hx2]
      have Hs := Lib.hid hs
      clear hs hx1 hx2
      go_wp2_with fail
      refine Hp1.out.mono ?_
      rintro e w2 ⟨rfl, rfl⟩
      go_wp2_with fail
      refine Hp2.out.mono ?_
      rintro e w2 ⟨rfl, rfl⟩
      go_wp2_with fail
      simp only [Exit.noGoto]
      refine bodyPost_ret (v := .tuple #[.slice none 0 0, .int .i64 0, .int .i64 9]) (by simp [results, Tryd.results34, go_sem]) rfl ⟨.slice none 0 0, by rw [Hs.out]; rfl, by rw [Hs.out]; exact ⟨[], Row.nil _ _ _, rfl, (fun j h1 => by cases h1), fun q hq => by cases hq⟩, Hb1.out⟩
  · have g1 : decide ((b.length : Int) < 8) = false := by simp; omega
    cases x2 with
    | false =>
      have hs : scanP b k = ([], 0, 9) := by unfold scanP; rw [if_neg (fun h => hlt h.1), if_pos hx2]
      have Hs := Lib.hid hs
      clear hs hx1 hx2
      go_wp2_with fail
      refine Hp2.out.mono ?_
      rintro e w2 ⟨rfl, rfl⟩
      go_wp2_with fail
      simp only [Exit.noGoto]
      refine bodyPost_ret (v := .tuple #[.slice none 0 0, .int .i64 0, .int .i64 9]) (by simp [results, Tryd.results34, go_sem]) rfl ⟨.slice none 0 0, by rw [Hs.out]; rfl, by rw [Hs.out]; exact ⟨[], Row.nil _ _ _, rfl, (fun j h1 => by cases h1), fun q hq => by cases hq⟩, Hb1.out⟩
    | true =>
      have hs : scanP b k = ((scanL b.length (b.drop 8)).1, 8 + (scanL b.length (b.drop 8)).2, 0) := by unfold scanP; rw [if_neg (fun h => hlt h.1), if_neg (by rw [hx2]; simp)]
      have Hs := Lib.hid hs
      clear hs hx1 hx2
      go_wp2_with fail
      refine Hp2.out.mono ?_
      rintro e w2 ⟨rfl, rfl⟩
      go_wp2_with fail
      go_step3
      go_wp2_with fail
      have hsl : (b.drop 8).length = b.length - 8 := List.length_drop
      have hrec0 : Recs w1 w.heap.size (.slice none 0 0) [] := ⟨[], Row.nil _ _ _, rfl, (fun j h1 => by cases h1), fun q hq => by cases hq⟩
      go_loopw [4, 5] (fun rv ev wr => ∃ (e f : Nat) (l : List Bs), ev = .int .i64 e ∧ 8 ≤ e ∧ e ≤ b.length ∧ b.length ≤ e + f ∧ l.length ≤ e ∧ Recs wr w.heap.size rv l ∧ Below w.heap.size w wr ∧ scanL b.length (b.drop 8) = (l ++ (scanL f (b.drop e)).1, (e - 8) + (scanL f (b.drop e)).2)) (fun _ ev _ => b.length - (intOf ev).toNat)
      case atStart => exact ⟨8, b.length, [], rfl, by omega, by omega, by omega, by simp, hrec0, Hb1.out, by simp⟩
      case round =>
        clear hrec0 Hp1 Hp2
        obtain ⟨e, f, l, rfl, he8, heb, hef, hle0, hrec, hbw, hsc⟩ := hrel
        have Hrec := Lib.hid hrec
        have Hbw := Lib.hid hbw
        have Hsc := Lib.hid hsc
        have hbr : Bin wr (.slice va b.length vc) b := Hb.out.keep fun q _ hq => hbw.block q hq
        have Hbr := Lib.hid hbr
        have hld : (b.drop e).length = b.length - e := List.length_drop
        clear hrec hbw hsc hbr
        by_cases hev : e = vc
        · have hle : b.length = e := by
            obtain ⟨_, _, e0, h1, _⟩ := Hb.out
            obtain ⟨_, _, rfl⟩ := Value.slice.inj e0
            omega
          have hd0 : b.drop e = [] := List.drop_eq_nil_of_le (by omega)
          subst hev
          have hnil : Bin wr (.slice va (b.length - e) 0) [] := by
            rw [show b.length - e = 0 by omega]
            exact ⟨va, 0, rfl, Nat.le_refl _, fun _ => rfl, fun j hj => by cases hj⟩
          have Hnil := Lib.hid hnil
          have Hle := Lib.hid (And.intro hle hd0)
          clear hnil hle hd0 hld
          go_wp2_with fail
          refine (new_reader_at Hnil.out (by simp)).mono ?_
          rintro e0 w2 ⟨r, rfl, hr, hrd, hb2⟩
          have Hrd := Lib.hid hrd
          have Hb2 := Lib.hid hb2
          clear hrd hb2
          go_wp2_with fail
          refine (rU32_bad Hrd.out (Or.inr (by simp)) (by simp)).mono ?_
          rintro e0 w3 ⟨rfl, hrd3, hk3⟩
          have Hrd3 := Lib.hid hrd3
          have Hb3 := Lib.hid (Hb2.out.trans (hk3.below Hb2.out.size fun q hq h => by omega))
          clear hrd3 hk3
          go_wp2_with fail
          refine (rU32_bad Hrd3.out (Or.inl rfl) (by simp)).mono ?_
          rintro e0 w4 ⟨rfl, hrd4, hk4⟩
          have Hrd4 := Lib.hid hrd4
          have Hb4 := Lib.hid (Hb3.out.trans (hk4.below Hb3.out.size fun q hq h => by omega))
          clear hrd4 hk4
          go_wp2_with fail
          refine (right_reader_at Hrd4.out).mono ?_
          rintro e0 w5 ⟨rfl, rfl⟩
          have hstop : scanL f (b.drop e) = ([], 0) := scan_short (by rw [Hle.out.2]; decide)
          have hS : scanP b k = (l, e, 0) := by rw [Hs.out, Hsc.out, hstop]; simp; omega
          have HS := Lib.hid hS
          clear hstop hS
          go_wp2_with fail
          simp only [Exit.noGoto]
          refine bodyPost_ret (v := .tuple #[u4, .int .i64 e, .int .i64 0]) (by simp [results, Tryd.results34, go_sem]) rfl ⟨u4, by rw [HS.out], by rw [HS.out]; exact Hrec.out.below Hb4.out, Hbw.out.trans (Hb4.out.mono Hbw.out.size)⟩
        · have hbin := Hbr.out.dropA heb
          have Hbin := Lib.hid hbin
          clear hbin
          go_wp2_with fail
          refine (new_reader_at Hbin.out (by omega)).mono ?_
          rintro e0 w2 ⟨r, rfl, hr, hrd, hb2⟩
          have Hrd := Lib.hid hrd
          have Hb2 := Lib.hid hb2
          clear hrd hb2
          go_wp2_with fail
          by_cases h4 : b.length - e < 4
          · skip
            refine (rU32_bad Hrd.out (Or.inr (by omega)) (by omega)).mono ?_
            rintro e0 w3 ⟨rfl, hrd3, hk3⟩
            have Hrd3 := Lib.hid hrd3
            have Hb3 := Lib.hid (Hb2.out.trans (hk3.below Hb2.out.size fun q hq h => by omega))
            clear hrd3 hk3
            go_wp2_with fail
            refine (rU32_bad Hrd3.out (Or.inl rfl) (by simp)).mono ?_
            rintro e0 w4 ⟨rfl, hrd4, hk4⟩
            have Hrd4 := Lib.hid hrd4
            have Hb4 := Lib.hid (Hb3.out.trans (hk4.below Hb3.out.size fun q hq h => by omega))
            clear hrd4 hk4
            go_wp2_with fail
            refine (right_reader_at Hrd4.out).mono ?_
            rintro e0 w5 ⟨rfl, rfl⟩
            have hstop : scanL f (b.drop e) = ([], 0) := scan_short (by omega)
            have hS : scanP b k = (l, e, 0) := by rw [Hs.out, Hsc.out, hstop]; simp; omega
            have HS := Lib.hid hS
            clear hstop hS
            go_wp2_with fail
            simp only [Exit.noGoto]
            refine bodyPost_ret (v := .tuple #[u4, .int .i64 e, .int .i64 0]) (by simp [results, Tryd.results34, go_sem]) rfl ⟨u4, by rw [HS.out], by rw [HS.out]; exact Hrec.out.below Hb4.out, Hbw.out.trans (Hb4.out.mono Hbw.out.size)⟩
          by_cases h8 : b.length - e < 8
          · skip
            have hd4 : ((b.drop e).drop 4).length = b.length - e - 4 := by rw [List.length_drop, hld]
            refine (rU32_good Hrd.out (by omega) (by omega)).mono ?_
            rintro e0 w3 ⟨rfl, hrd3, hk3⟩
            have Hrd3 := Lib.hid hrd3
            have Hb3 := Lib.hid (Hb2.out.trans (hk3.below Hb2.out.size fun q hq h => by omega))
            clear hrd3 hk3
            go_wp2_with fail
            refine (rU32_bad Hrd3.out (Or.inr (by omega)) (by omega)).mono ?_
            rintro e0 w4 ⟨rfl, hrd4, hk4⟩
            have Hrd4 := Lib.hid hrd4
            have Hb4 := Lib.hid (Hb3.out.trans (hk4.below Hb3.out.size fun q hq h => by omega))
            clear hrd4 hk4
            go_wp2_with fail
            refine (right_reader_at Hrd4.out).mono ?_
            rintro e0 w5 ⟨rfl, rfl⟩
            have hstop : scanL f (b.drop e) = ([], 0) := scan_short (by omega)
            have hS : scanP b k = (l, e, 0) := by rw [Hs.out, Hsc.out, hstop]; simp; omega
            have HS := Lib.hid hS
            clear hstop hS
            go_wp2_with fail
            simp only [Exit.noGoto]
            refine bodyPost_ret (v := .tuple #[u4, .int .i64 e, .int .i64 0]) (by simp [results, Tryd.results34, go_sem]) rfl ⟨u4, by rw [HS.out], by rw [HS.out]; exact Hrec.out.below Hb4.out, Hbw.out.trans (Hb4.out.mono Hbw.out.size)⟩
          have hd4 : ((b.drop e).drop 4).length = b.length - e - 4 := by rw [List.length_drop, hld]
          have hd8 : (((b.drop e).drop 4).drop 4).length = b.length - e - 8 := by rw [List.length_drop, hd4]; omega
          have hvs := val32_lt (b.drop e)
          have hvq := val32_lt ((b.drop e).drop 4)
          refine (rU32_good Hrd.out (by omega) (by omega)).mono ?_
          rintro e0 w3 ⟨rfl, hrd3, hk3⟩
          have Hrd3 := Lib.hid hrd3
          have Hb3 := Lib.hid (Hb2.out.trans (hk3.below Hb2.out.size fun q hq h => by omega))
          clear hrd3 hk3
          obtain ⟨z, hz⟩ : ∃ z, val32 (b.drop e) = z := ⟨_, rfl⟩
          obtain ⟨y, hy⟩ : ∃ y, val32 ((b.drop e).drop 4) = y := ⟨_, rfl⟩
          have Hz := Lib.hid (And.intro hz hy)
          rw [hz] at hvs ⊢
          rw [hy] at hvq
          clear hz hy
          go_wp2_with fail
          refine (rU32_good Hrd3.out (by omega) (by omega)).mono ?_
          rintro e0 w4 ⟨rfl, hrd4, hk4⟩
          have Hrd4 := Lib.hid hrd4
          have Hb4 := Lib.hid (Hb3.out.trans (hk4.below Hb3.out.size fun q hq h => by omega))
          clear hrd4 hk4
          rw [Hz.out.2]
          go_wp2_with fail
          refine (right_reader_at Hrd4.out).mono ?_
          rintro e0 w5 ⟨rfl, rfl⟩
          by_cases hz4 : 4096 < z
          · have g4 : decide ((4096 : Int) < (z : Int)) = true := by simp; omega
            have hstop : scanL f (b.drop e) = ([], 0) := scan_bad (Or.inl (by rw [Hz.out.1]; exact hz4))
            have hS : scanP b k = (l, e, 0) := by rw [Hs.out, Hsc.out, hstop]; simp; omega
            have HS := Lib.hid hS
            clear hstop hS
            go_wp2_with fail
            simp only [Exit.noGoto]
            refine bodyPost_ret (v := .tuple #[u4, .int .i64 e, .int .i64 0]) (by simp [results, Tryd.results34, go_sem]) rfl ⟨u4, by rw [HS.out], by rw [HS.out]; exact Hrec.out.below Hb4.out, Hbw.out.trans (Hb4.out.mono Hbw.out.size)⟩
          have g4 : decide ((4096 : Int) < (z : Int)) = false := by simp; omega
          go_wp2_with fail
          refine (left_at Hrd4.out).mono ?_
          rintro e0 w5 ⟨rfl, rfl⟩
          rw [hd8]
          by_cases hzl : b.length - e - 8 < z
          · have g5 : decide (((b.length - e - 8 : Nat) : Int) < (z : Int)) = true := by simp; omega
            have hstop : scanL f (b.drop e) = ([], 0) := scan_bad (Or.inr (by rw [Hz.out.1, List.length_drop]; omega))
            have hS : scanP b k = (l, e, 0) := by rw [Hs.out, Hsc.out, hstop]; simp; omega
            have HS := Lib.hid hS
            clear hstop hS
            go_wp2_with fail
            simp only [Exit.noGoto]
            refine bodyPost_ret (v := .tuple #[u4, .int .i64 e, .int .i64 0]) (by simp [results, Tryd.results34, go_sem]) rfl ⟨u4, by rw [HS.out], by rw [HS.out]; exact Hrec.out.below Hb4.out, Hbw.out.trans (Hb4.out.mono Hbw.out.size)⟩
          have g5 : decide (((b.length - e - 8 : Nat) : Int) < (z : Int)) = false := by simp; omega
          have hvcb : b.length ≤ vc := by
            obtain ⟨_, _, e0, h1, _⟩ := Hb.out
            obtain ⟨_, _, rfl⟩ := Value.slice.inj e0
            exact h1
          have hhi : e + 8 + z ≤ vc := by omega
          have hz0 : e + 8 ≤ vc := by omega
          by_cases hvz : vc = e + 8
          · subst hvz
            have hz00 : z = 0 := by omega
            have hb2 : Bin w4 (.slice va 0 0) ((b.drop (e + 8)).take z) := by
              rw [hz00]
              exact ⟨va, 0, rfl, Nat.le_refl _, fun _ => rfl, fun j hj => by simp at hj⟩
            have Hb2r := Lib.hid hb2
            clear hb2 hvcb hz00
            go_wp2_with fail
            refine (sum_at w4 Hb2r.out (by rw [List.length_take]; omega)).mono ?_
            rintro e0 w5 ⟨rfl, rfl⟩
            have hdd : (b.drop e).drop 8 = b.drop (e + 8) := by rw [List.drop_drop]
            obtain ⟨R, hR⟩ : ∃ R, (b.drop (e + 8)).take z = R := ⟨_, rfl⟩
            have hRl : R.length = z := by rw [← hR, List.length_take, List.length_drop]; omega
            rw [hR] at Hb2r ⊢
            have HR := Lib.hid (And.intro hR (And.intro hdd hRl))
            clear hR hdd hRl
            by_cases hcr : crcP R = y
            · have g6 : (((crcP R : Nat) : Int) == (y : Int)) = true := by simp; omega
              have Hcr := Lib.hid hcr
              clear hcr
              go_wp2_with fail
              refine (clone_at Hb2r.out (by rw [HR.out.2.2]; omega)).mono ?_
              rintro e0 w5 ⟨a5, c5, rfl, hown5, hb5, hf5, _⟩
              rw [HR.out.2.2] at hown5 hf5 ⊢
              have hown5' : Bown w5 5 (.slice a5 z c5) R := hown5
              obtain ⟨vs, r1, r2, r3, r4⟩ := Hrec.out.below (Hb4.out.trans (hb5.mono Hb4.out.size))
              have H5 := Lib.hid (And.intro hown5' (And.intro hb5 (And.intro hf5 (And.intro r1 (And.intro r2 (And.intro r3 r4))))))
              clear hown5 hown5' hb5 hf5 r1 r2 r3 r4
              obtain ⟨i1, hi, hz0', hz1, hz2⟩ := info_parts info_sl
              have HI := Lib.hid (And.intro hi (And.intro hz0' (And.intro hz1 hz2)))
              clear hi hz0' hz1 hz2
              have hrow' : Row (w5.alloc (.cells #[.slice a5 z c5] 22)) 22 1 u4 l.length vs := H5.out.2.2.2.1.keep fun q hq => Below.heap_alloc _ _ _ (H5.out.2.2.2.1.lt q hq)
              obtain ⟨ra, rc, rfl⟩ := hrow'.slv
              have Hrow' := Lib.hid hrow'
              clear hrow'
              go_wp2_with (first
                | (at_builtin; refine wpList_append_row _ rfl _ _ 31 31 rfl rfl _ rfl Hrow'.out (by decide) i1 (.slice none 0 0) 24 Tryd.underlying31 HI.out.1 HI.out.2.1 HI.out.2.2.1 HI.out.2.2.2 rfl 1 [_] (src_at (by exact heap_alloc_new w5 _) Tryd.underlying31 1 1 rfl (by simp [Value.oneCell'])) (by unfold maxLen; omega) (by omega) ?_; intro b' c' w6 hr6 hk6 hw6 hn6 hz6; replace hk6 : Keeps (fun q => (Value.slice ra l.length rc).ownBlock = some q) (w5.alloc (.cells #[.slice a5 z c5] 22)) w6 := hk6; replace hw6 : ∀ q, (Value.slice b' (l.length + 1) c').ownBlock = some q → (Value.slice ra l.length rc).ownBlock = some q ∨ (w5.alloc (.cells #[.slice a5 z c5] 22)).heap.size ≤ q := hw6; clear hn6; have Hr6 := Lib.hid hr6; have Hk6 := Lib.hid hk6; have Hw6 := Lib.hid hw6; clear hr6 hk6 hw6 hz6)
                | fail)
              go_roundw
              case rel =>
                obtain ⟨f', rfl⟩ : ∃ f', f = f' + 1 := ⟨f - 1, by omega⟩
                have hz5 := H5.out.2.1.size
                have hz4 := Hb4.out.size
                have hzw := Hbw.out.size
                refine ⟨e + 8 + z, f', l ++ [R], by go_num, by omega, by omega, by omega, by simp; omega, ?_, ?_, ?_⟩
                · refine Recs.snoc (w4 := w4) H5.out.2.2.2.1 H5.out.2.2.2.2.1 H5.out.2.2.2.2.2.1 H5.out.2.2.2.2.2.2 (Bown.bin (xs := R) H5.out.1) (fun q hq => ⟨H5.out.2.2.1 q hq, H5.out.1.lt q hq⟩) (by omega) (fun q hq => ?_) _ Hr6.out Hk6.out Hw6.out hz5
                  obtain ⟨_, k1, _⟩ := Hrec.out.below Hb4.out
                  exact k1.lt q hq
                · exact ((Hbw.out.trans ((Hb4.out.trans (H5.out.2.1.mono hz4)).mono hzw)).alloc (by omega) _).trans (Hk6.out.below (by simp; omega) fun q hq h => by have := H5.out.2.2.2.2.2.2 q h; omega)
                · have hs := scan_ok (f := f') (xs := b.drop e) (by omega) (by rw [Hz.out.1]; omega) (by rw [Hz.out.1]; omega) (by rw [Hz.out.1, Hz.out.2, HR.out.2.1, HR.out.1]; exact Hcr.out)
                  rw [Hz.out.1, HR.out.2.1, HR.out.1, List.drop_drop] at hs
                  rw [Hsc.out, hs]
                  have e1 : e + (8 + z) = e + 8 + z := by omega
                  rw [e1]
                  simp
                  omega
              case measure => simp [intOf]; omega
            · have g6 : (((crcP R : Nat) : Int) == (y : Int)) = false := by simp; omega
              have hstop : scanL f (b.drop e) = ([], 0) := scan_sum (by rw [Hz.out.1, Hz.out.2, HR.out.2.1, HR.out.1]; exact hcr)
              have hS : scanP b k = (l, e, 0) := by rw [Hs.out, Hsc.out, hstop]; simp; omega
              have HS := Lib.hid hS
              clear hstop hS
              go_wp2_with fail
              simp only [Exit.noGoto]
              refine bodyPost_ret (v := .tuple #[u4, .int .i64 e, .int .i64 0]) (by simp [results, Tryd.results34, go_sem]) rfl ⟨u4, by rw [HS.out], by rw [HS.out]; exact Hrec.out.below Hb4.out, Hbw.out.trans (Hb4.out.mono Hbw.out.size)⟩
          · have hb2 := (Hbr.out.dropA (m := e + 8) (by omega)).take (m := z) (by rw [List.length_drop]; omega)
            have hfun : (fun x : Addr => x.add (e + 8)) = fun x => ⟨x.block, x.off + (e + 7 + 1), none⟩ := by
              funext x
              simp [Addr.add]
            rw [hfun] at hb2
            have Hb2r := Lib.hid (hb2.keep (w' := w4) fun q _ hq => Hb4.out.block q hq)
            clear hb2 hfun hvcb
            go_wp2_with fail
            refine (sum_at w4 Hb2r.out (by rw [List.length_take]; omega)).mono ?_
            rintro e0 w5 ⟨rfl, rfl⟩
            have hdd : (b.drop e).drop 8 = b.drop (e + 8) := by rw [List.drop_drop]
            obtain ⟨R, hR⟩ : ∃ R, (b.drop (e + 8)).take z = R := ⟨_, rfl⟩
            have hRl : R.length = z := by rw [← hR, List.length_take, List.length_drop]; omega
            rw [hR] at Hb2r ⊢
            have HR := Lib.hid (And.intro hR (And.intro hdd hRl))
            clear hR hdd hRl
            by_cases hcr : crcP R = y
            · have g6 : (((crcP R : Nat) : Int) == (y : Int)) = true := by simp; omega
              have Hcr := Lib.hid hcr
              clear hcr
              go_wp2_with fail
              refine (clone_at Hb2r.out (by rw [HR.out.2.2]; omega)).mono ?_
              rintro e0 w5 ⟨a5, c5, rfl, hown5, hb5, hf5, _⟩
              rw [HR.out.2.2] at hown5 hf5 ⊢
              have hown5' : Bown w5 5 (.slice a5 z c5) R := hown5
              obtain ⟨vs, r1, r2, r3, r4⟩ := Hrec.out.below (Hb4.out.trans (hb5.mono Hb4.out.size))
              have H5 := Lib.hid (And.intro hown5' (And.intro hb5 (And.intro hf5 (And.intro r1 (And.intro r2 (And.intro r3 r4))))))
              clear hown5 hown5' hb5 hf5 r1 r2 r3 r4
              obtain ⟨i1, hi, hz0', hz1, hz2⟩ := info_parts info_sl
              have HI := Lib.hid (And.intro hi (And.intro hz0' (And.intro hz1 hz2)))
              clear hi hz0' hz1 hz2
              have hrow' : Row (w5.alloc (.cells #[.slice a5 z c5] 22)) 22 1 u4 l.length vs := H5.out.2.2.2.1.keep fun q hq => Below.heap_alloc _ _ _ (H5.out.2.2.2.1.lt q hq)
              obtain ⟨ra, rc, rfl⟩ := hrow'.slv
              have Hrow' := Lib.hid hrow'
              clear hrow'
              go_wp2_with (first
                | (at_builtin; refine wpList_append_row _ rfl _ _ 31 31 rfl rfl _ rfl Hrow'.out (by decide) i1 (.slice none 0 0) 24 Tryd.underlying31 HI.out.1 HI.out.2.1 HI.out.2.2.1 HI.out.2.2.2 rfl 1 [_] (src_at (by exact heap_alloc_new w5 _) Tryd.underlying31 1 1 rfl (by simp [Value.oneCell'])) (by unfold maxLen; omega) (by omega) ?_; intro b' c' w6 hr6 hk6 hw6 hn6 hz6; replace hk6 : Keeps (fun q => (Value.slice ra l.length rc).ownBlock = some q) (w5.alloc (.cells #[.slice a5 z c5] 22)) w6 := hk6; replace hw6 : ∀ q, (Value.slice b' (l.length + 1) c').ownBlock = some q → (Value.slice ra l.length rc).ownBlock = some q ∨ (w5.alloc (.cells #[.slice a5 z c5] 22)).heap.size ≤ q := hw6; clear hn6; have Hr6 := Lib.hid hr6; have Hk6 := Lib.hid hk6; have Hw6 := Lib.hid hw6; clear hr6 hk6 hw6 hz6)
                | fail)
              go_roundw
              case rel =>
                obtain ⟨f', rfl⟩ : ∃ f', f = f' + 1 := ⟨f - 1, by omega⟩
                have hz5 := H5.out.2.1.size
                have hz4 := Hb4.out.size
                have hzw := Hbw.out.size
                refine ⟨e + 8 + z, f', l ++ [R], by go_num, by omega, by omega, by omega, by simp; omega, ?_, ?_, ?_⟩
                · refine Recs.snoc (w4 := w4) H5.out.2.2.2.1 H5.out.2.2.2.2.1 H5.out.2.2.2.2.2.1 H5.out.2.2.2.2.2.2 (Bown.bin (xs := R) H5.out.1) (fun q hq => ⟨H5.out.2.2.1 q hq, H5.out.1.lt q hq⟩) (by omega) (fun q hq => ?_) _ Hr6.out Hk6.out Hw6.out hz5
                  obtain ⟨_, k1, _⟩ := Hrec.out.below Hb4.out
                  exact k1.lt q hq
                · exact ((Hbw.out.trans ((Hb4.out.trans (H5.out.2.1.mono hz4)).mono hzw)).alloc (by omega) _).trans (Hk6.out.below (by simp; omega) fun q hq h => by have := H5.out.2.2.2.2.2.2 q h; omega)
                · have hs := scan_ok (f := f') (xs := b.drop e) (by omega) (by rw [Hz.out.1]; omega) (by rw [Hz.out.1]; omega) (by rw [Hz.out.1, Hz.out.2, HR.out.2.1, HR.out.1]; exact Hcr.out)
                  rw [Hz.out.1, HR.out.2.1, HR.out.1, List.drop_drop] at hs
                  rw [Hsc.out, hs]
                  have e1 : e + (8 + z) = e + 8 + z := by omega
                  rw [e1]
                  simp
                  omega
              case measure => simp [intOf]; omega
            · have g6 : (((crcP R : Nat) : Int) == (y : Int)) = false := by simp; omega
              have hstop : scanL f (b.drop e) = ([], 0) := scan_sum (by rw [Hz.out.1, Hz.out.2, HR.out.2.1, HR.out.1]; exact hcr)
              have hS : scanP b k = (l, e, 0) := by rw [Hs.out, Hsc.out, hstop]; simp; omega
              have HS := Lib.hid hS
              clear hstop hS
              go_wp2_with fail
              simp only [Exit.noGoto]
              refine bodyPost_ret (v := .tuple #[u4, .int .i64 e, .int .i64 0]) (by simp [results, Tryd.results34, go_sem]) rfl ⟨u4, by rw [HS.out], by rw [HS.out]; exact Hrec.out.below Hb4.out, Hbw.out.trans (Hb4.out.mono Hbw.out.size)⟩
end Go.Proofs.YtbckbkcpfejllaaDoor
