/- The laws of layer 5: are records few, and short. -/
import Derived.Test.YtbckbkcpfejllaaGreatDoorLe
namespace Go.Proofs.YtbckbkcpfejllaaGreatDoor
open Go.RowKit Go.Maps Go.WideMaps

def LightP (l : List Bs) : Prop := l.length ≤ 30 ∧ ∀ x ∈ l, x.length ≤ 500
set_option maxRecDepth 100000 in
theorem light5_at {w : World} {v : Value} {l : List Bs} (h : RecsIn w v l) :
    Calls Tryz.prog 31 #[v] w fun e w' => (e = .returned (.bool true) ∧ LightP l ∨ e = .returned (.bool false)) ∧ w = w' := by
  obtain ⟨vs, ⟨va, vc, rfl, h1, h2, hc⟩, hv, he⟩ := h
  rw [hv]
  by_cases hl : 30 < l.length
  · clear hc he hv h1 h2
    go_enter Tryz.func31, Tryz.ntmps31
    go_wp2_with fail
    go_ret
    exact ⟨Or.inr rfl, rfl⟩
  obtain ⟨n, hn⟩ : ∃ n, l.length = n := ⟨_, rfl⟩
  rw [hn] at hl ⊢
  have Hn := Lib.hid hn
  have HA := Lib.hid (And.intro hv (And.intro hc he))
  clear hn hv hc he h1 h2
  go_enter Tryz.func31, Tryz.ntmps31
  go_wp2_with fail
  go_loopw [3] (fun i wr => ∃ k : Nat, k ≤ n ∧ i = .int .i64 k ∧ (∀ x ∈ l.take k, x.length ≤ 500) ∧ w = wr) (fun i _ => n - (intOf i).toNat)
  case atStart => exact ⟨0, Nat.zero_le _, rfl, by simp, rfl⟩
  case round =>
    obtain ⟨k, hk, rfl, ht, rfl⟩ := hrel
    have Ht := Lib.hid ht
    clear ht
    by_cases hlt : k < n
    · have hka : k < l.length := by rw [Hn.out]; exact hlt
      obtain ⟨hv, hc, he⟩ := HA.out
      obtain ⟨ab, ao, rfl, hca⟩ := hc k (by omega)
      have ea := he k (by omega) hka
      obtain ⟨x, hx⟩ : ∃ x, l[k] = x := ⟨_, rfl⟩
      obtain ⟨u, hu⟩ : ∃ u, vs[k]'(by omega) = u := ⟨_, rfl⟩
      rw [hu, hx] at ea
      rw [hu] at hca
      obtain ⟨xa, xc, rfl, _⟩ := ea
      have Hx := Lib.hid hx
      clear hx hu hc he hv
      by_cases hq : 500 < x.length
      · go_wp2_with fail
        go_ret
        exact ⟨Or.inr rfl, rfl⟩
      · go_wp2_with fail
        go_roundw
        case rel =>
          refine ⟨k + 1, by omega, by go_num, ?_, trivial⟩
          rw [List.take_succ_eq_append_getElem hka, Hx.out]
          intro y hy
          rcases List.mem_append.1 hy with h | h
          · exact Ht.out y h
          · obtain rfl := List.mem_singleton.1 h
            omega
        case measure => simp [intOf]; omega
    · obtain rfl : k = n := by omega
      go_wp2_with fail
      go_ret
      refine ⟨Or.inl ⟨rfl, by have := Hn.out; omega, fun x hx => Ht.out x ?_⟩, rfl⟩
      rw [List.take_of_length_le (by rw [Hn.out]; exact Nat.le_refl _)]
      exact hx
theorem light_frames {l : List Bs} (h : LightP l) (j : Nat) : (framesL (l.take j)).length ≤ 15240 := by
  have key : ∀ m : List Bs, (∀ x ∈ m, x.length ≤ 500) → (framesL m).length ≤ 508 * m.length := by
    intro m
    induction m with
    | nil => intro _; simp [framesL]
    | cons r m ih =>
      intro hm
      have h1 := ih fun x hx => hm x (List.mem_cons_of_mem _ hx)
      have h2 := hm r (List.mem_cons_self ..)
      rw [framesL_cons, List.length_append, len_frameP, List.length_cons]
      omega
  have h1 := key (l.take j) fun x hx => h.2 x (List.mem_of_mem_take hx)
  have h2 : (l.take j).length ≤ 30 := by rw [List.length_take]; have := h.1; omega
  omega
theorem Lst.src {P : Program} {w : World} {v : Value} {vs : List Value} (h : Lst w v vs) (h1 : ∀ u ∈ vs, u.oneCell' = true) {tx e' : TypeId} (hk : P.underlying tx = some (.slice e')) : Src P 1 tx v vs.length vs w := by
  obtain ⟨a, cap, rfl, h2, h3, h4⟩ := h
  cases a with
  | none =>
    have hc := h3 rfl
    have h0 : vs = [] := List.length_eq_zero_iff.1 (by omega)
    subst h0
    exact Src.ofNil w hk cap
  | some a =>
    refine Src.ofSlice w hk a vs.length cap _ (by simp) (fun j u hu => ?_) h1
    obtain ⟨hj, he⟩ := List.getElem?_eq_some_iff.1 hu
    obtain ⟨b, off, hab, hc⟩ := h4 j hj
    cases hab
    have hadd : (⟨b, off, none⟩ : Addr).add j = ⟨b, off + j, none⟩ := by unfold Addr.add; split <;> simp_all
    rw [hadd, hc, he]
theorem RecsIn.src {P : Program} {w : World} {v : Value} {l : List Bs} (h : RecsIn w v l) {tx e' : TypeId} (hk : P.underlying tx = some (.slice e')) : ∃ vs, vs.length = l.length ∧ Src P 1 tx v l.length vs w ∧ ∀ j (h1 : j < vs.length) (h2 : j < l.length), Bin w vs[j] l[j] := by
  obtain ⟨vs, h1, h2, h3⟩ := h
  refine ⟨vs, h2, h2 ▸ h1.src (fun u hu => ?_) hk, h3⟩
  obtain ⟨j, hj, rfl⟩ := List.getElem_of_mem hu
  obtain ⟨a, c, e, _⟩ := h3 j hj (by omega)
  rw [e]; rfl
set_option maxRecDepth 100000 in
theorem log_append_long {p : Nat} {w : World} {v : Value} {b : Bs} (hb : Bin w v b) (hl : 4096 < b.length) :
    Calls Tryz.prog 37 #[.pointer (some ⟨p, 0, none⟩), v] w fun e w' => e = .returned (.int .i64 3) ∧ w = w' := by
  have hf := frame_long hb hl
  obtain ⟨va, vc, rfl⟩ : ∃ a c, v = .slice a b.length c := by obtain ⟨a, c, e, _⟩ := hb; exact ⟨a, c, e⟩
  have Hf := Lib.hid hf
  clear hf hb
  go_enter Tryz.func37, Tryz.ntmps37
  go_wp2_with fail
  refine Hf.out.mono ?_
  rintro e w1 ⟨rfl, rfl⟩
  go_wp2_with fail
  go_ret
  exact ⟨rfl, rfl⟩
/-- A walk's state: a disk at d, a log on it at p; what lay ahead is as it was. -/
structure Lgd (w0 : World) (d p : Nat) (name : ByteArray) (kind : UInt8) (G : Nat → Prop) (w : World) (D : PD) (k : Nat) : Prop where
  has : Has G d w D k
  low : ∀ b, b < w0.heap.size → G b
  gp : G p
  log : LogAt w p d name kind
  below : Below w0.heap.size w0 w
theorem Lgd.on {w0 w w' : World} {d p k : Nat} {name : ByteArray} {kind : UInt8} {G : Nat → Prop} {D : PD} (h : Lgd w0 d p name kind G w D k) (hb : Below w.heap.size w w') : Lgd w0 d p name kind G w' D k :=
  ⟨(h.has.below hb).less fun _ hb => Or.inl hb, h.low, h.gp, (hb.block p (lt_of_heap h.log)).trans h.log, h.below.trans (hb.mono h.below.size)⟩
theorem Lgd.did {w0 w w' : World} {d p k m : Nat} {name : ByteArray} {kind : UInt8} {G : Nat → Prop} {D D' : PD} (h : Lgd w0 d p name kind G w D k) (hh : Has G d w' D' m) (hk : Keeps (fun b => ¬ G b) w w') : Lgd w0 d p name kind G w' D' m :=
  ⟨hh, h.low, h.gp, h.log.kept hk h.gp, below_kept h.below (Nat.le_refl _) hk h.low⟩
theorem Lgd.wide {w0 w w' : World} {d p k : Nat} {name : ByteArray} {kind : UInt8} {G : Nat → Prop} {D : PD} (h : Lgd w0 d p name kind G w D k) (hb : Below w.heap.size w w') : Lgd w0 d p name kind (fun b => G b ∨ (w.heap.size ≤ b ∧ b < w'.heap.size)) w' D k :=
  ⟨h.has.below hb, fun b hb => Or.inl (h.low b hb), Or.inl h.gp, (hb.block p (lt_of_heap h.log)).trans h.log, h.below.trans (hb.mono h.below.size)⟩
theorem Lgd.back {w0 w w' : World} {d p k m : Nat} {name : ByteArray} {kind : UInt8} {G G' : Nat → Prop} {D D' : PD} (h : Lgd w0 d p name kind G w D k) (h' : Lgd w0 d p name kind G' w' D' m) (hG : ∀ b, G b → G' b) : Lgd w0 d p name kind G w' D' m :=
  ⟨h'.has.less hG, h.low, h.gp, h'.log, h'.below⟩
end Go.Proofs.YtbckbkcpfejllaaGreatDoor
