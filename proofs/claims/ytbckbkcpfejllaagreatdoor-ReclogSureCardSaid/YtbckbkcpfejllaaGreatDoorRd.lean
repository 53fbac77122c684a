/- ReclogRewrites, ReclogSpare: the walks; ReclogSure: rows of acts, what a log has behind acts, crashes and openings, plainly. -/
import Derived.Test.YtbckbkcpfejllaaGreatDoorLe
import Derived.Test.YtbckbkcpfejllaaGreatDoorLz0
import Derived.Test.YtbckbkcpfejllaaGreatDoorAz
namespace Go.Proofs.YtbckbkcpfejllaaGreatDoor
open Go.RowKit Go.Maps Go.WideMaps

def LightP (l : List Bs) : Prop := l.length ≤ 30 ∧ ∀ x ∈ l, x.length ≤ 500
set_option maxRecDepth 100000 in
theorem light5_at {w : World} {v : Value} {l : List Bs} (h : RecsIn w v l) :
    Calls Tryz.prog 31 #[v] w fun e w' => (e = .returned (.bool true) ∧ LightP l ∨ e = .returned (.bool false)) ∧ w = w' := by
  obtain ⟨vs, ⟨va, vc, rfl, h1, h2, hc⟩, hv, he⟩ := h
  rw [hv]
  by_cases hl : 30 < l.length
  · clear hc he hv h1 h2
    go_enter Tryz.func31, Tryz.ntmps31
    go_wp2_with fail
    go_ret
    exact ⟨Or.inr rfl, rfl⟩
  obtain ⟨n, hn⟩ : ∃ n, l.length = n := ⟨_, rfl⟩
  rw [hn] at hl ⊢
  have Hn := Lib.hid hn
  have HA := Lib.hid (And.intro hv (And.intro hc he))
  clear hn hv hc he h1 h2
  go_enter Tryz.func31, Tryz.ntmps31
  go_wp2_with fail
  go_loopw [3] (fun i wr => ∃ k : Nat, k ≤ n ∧ i = .int .i64 k ∧ (∀ x ∈ l.take k, x.length ≤ 500) ∧ w = wr) (fun i _ => n - (intOf i).toNat)
  case atStart => exact ⟨0, Nat.zero_le _, rfl, by simp, rfl⟩
  case round =>
    obtain ⟨k, hk, rfl, ht, rfl⟩ := hrel
    have Ht := Lib.hid ht
    clear ht
    by_cases hlt : k < n
    · have hka : k < l.length := by rw [Hn.out]; exact hlt
      obtain ⟨hv, hc, he⟩ := HA.out
      obtain ⟨ab, ao, rfl, hca⟩ := hc k (by omega)
      have ea := he k (by omega) hka
      obtain ⟨x, hx⟩ : ∃ x, l[k] = x := ⟨_, rfl⟩
      obtain ⟨u, hu⟩ : ∃ u, vs[k]'(by omega) = u := ⟨_, rfl⟩
      rw [hu, hx] at ea
      rw [hu] at hca
      obtain ⟨xa, xc, rfl, _⟩ := ea
      have Hx := Lib.hid hx
      clear hx hu hc he hv
      by_cases hq : 500 < x.length
      · go_wp2_with fail
        go_ret
        exact ⟨Or.inr rfl, rfl⟩
      · go_wp2_with fail
        go_roundw
        case rel =>
          refine ⟨k + 1, by omega, by go_num, ?_, trivial⟩
          rw [List.take_succ_eq_append_getElem hka, Hx.out]
          intro y hy
          rcases List.mem_append.1 hy with h | h
          · exact Ht.out y h
          · obtain rfl := List.mem_singleton.1 h
            omega
        case measure => simp [intOf]; omega
    · obtain rfl : k = n := by omega
      go_wp2_with fail
      go_ret
      refine ⟨Or.inl ⟨rfl, by have := Hn.out; omega, fun x hx => Ht.out x ?_⟩, rfl⟩
      rw [List.take_of_length_le (by rw [Hn.out]; exact Nat.le_refl _)]
      exact hx
theorem light_frames {l : List Bs} (h : LightP l) (j : Nat) : (framesL (l.take j)).length ≤ 15240 := by
  have key : ∀ m : List Bs, (∀ x ∈ m, x.length ≤ 500) → (framesL m).length ≤ 508 * m.length := by
    intro m
    induction m with
    | nil => intro _; simp [framesL]
    | cons r m ih =>
      intro hm
      have h1 := ih fun x hx => hm x (List.mem_cons_of_mem _ hx)
      have h2 := hm r (List.mem_cons_self ..)
      rw [framesL_cons, List.length_append, len_frameP, List.length_cons]
      omega
  have h1 := key (l.take j) fun x hx => h.2 x (List.mem_of_mem_take hx)
  have h2 : (l.take j).length ≤ 30 := by rw [List.length_take]; have := h.1; omega
  omega
theorem Lst.src {P : Program} {w : World} {v : Value} {vs : List Value} (h : Lst w v vs) (h1 : ∀ u ∈ vs, u.oneCell' = true) {tx e' : TypeId} (hk : P.underlying tx = some (.slice e')) : Src P 1 tx v vs.length vs w := by
  obtain ⟨a, cap, rfl, h2, h3, h4⟩ := h
  cases a with
  | none =>
    have hc := h3 rfl
    have h0 : vs = [] := List.length_eq_zero_iff.1 (by omega)
    subst h0
    exact Src.ofNil w hk cap
  | some a =>
    refine Src.ofSlice w hk a vs.length cap _ (by simp) (fun j u hu => ?_) h1
    obtain ⟨hj, he⟩ := List.getElem?_eq_some_iff.1 hu
    obtain ⟨b, off, hab, hc⟩ := h4 j hj
    cases hab
    have hadd : (⟨b, off, none⟩ : Addr).add j = ⟨b, off + j, none⟩ := by unfold Addr.add; split <;> simp_all
    rw [hadd, hc, he]
theorem RecsIn.src {P : Program} {w : World} {v : Value} {l : List Bs} (h : RecsIn w v l) {tx e' : TypeId} (hk : P.underlying tx = some (.slice e')) : ∃ vs, vs.length = l.length ∧ Src P 1 tx v l.length vs w ∧ ∀ j (h1 : j < vs.length) (h2 : j < l.length), Bin w vs[j] l[j] := by
  obtain ⟨vs, h1, h2, h3⟩ := h
  refine ⟨vs, h2, h2 ▸ h1.src (fun u hu => ?_) hk, h3⟩
  obtain ⟨j, hj, rfl⟩ := List.getElem_of_mem hu
  obtain ⟨a, c, e, _⟩ := h3 j hj (by omega)
  rw [e]; rfl
set_option maxRecDepth 100000 in
theorem log_append_long {p : Nat} {w : World} {v : Value} {b : Bs} (hb : Bin w v b) (hl : 4096 < b.length) :
    Calls Tryz.prog 37 #[.pointer (some ⟨p, 0, none⟩), v] w fun e w' => e = .returned (.int .i64 3) ∧ w = w' := by
  have hf := frame_long hb hl
  obtain ⟨va, vc, rfl⟩ : ∃ a c, v = .slice a b.length c := by obtain ⟨a, c, e, _⟩ := hb; exact ⟨a, c, e⟩
  have Hf := Lib.hid hf
  clear hf hb
  go_enter Tryz.func37, Tryz.ntmps37
  go_wp2_with fail
  refine Hf.out.mono ?_
  rintro e w1 ⟨rfl, rfl⟩
  go_wp2_with fail
  go_ret
  exact ⟨rfl, rfl⟩
/-- A walk's state: a disk at d, a log on it at p; what lay ahead is as it was. -/
structure Lgd (w0 : World) (d p : Nat) (name : ByteArray) (kind : UInt8) (G : Nat → Prop) (w : World) (D : PD) (k : Nat) : Prop where
  has : Has G d w D k
  low : ∀ b, b < w0.heap.size → G b
  gp : G p
  log : LogAt w p d name kind
  below : Below w0.heap.size w0 w
theorem Lgd.on {w0 w w' : World} {d p k : Nat} {name : ByteArray} {kind : UInt8} {G : Nat → Prop} {D : PD} (h : Lgd w0 d p name kind G w D k) (hb : Below w.heap.size w w') : Lgd w0 d p name kind G w' D k :=
  ⟨(h.has.below hb).less fun _ hb => Or.inl hb, h.low, h.gp, (hb.block p (lt_of_heap h.log)).trans h.log, h.below.trans (hb.mono h.below.size)⟩
theorem Lgd.did {w0 w w' : World} {d p k m : Nat} {name : ByteArray} {kind : UInt8} {G : Nat → Prop} {D D' : PD} (h : Lgd w0 d p name kind G w D k) (hh : Has G d w' D' m) (hk : Keeps (fun b => ¬ G b) w w') : Lgd w0 d p name kind G w' D' m :=
  ⟨hh, h.low, h.gp, h.log.kept hk h.gp, below_kept h.below (Nat.le_refl _) hk h.low⟩
theorem Lgd.wide {w0 w w' : World} {d p k : Nat} {name : ByteArray} {kind : UInt8} {G : Nat → Prop} {D : PD} (h : Lgd w0 d p name kind G w D k) (hb : Below w.heap.size w w') : Lgd w0 d p name kind (fun b => G b ∨ (w.heap.size ≤ b ∧ b < w'.heap.size)) w' D k :=
  ⟨h.has.below hb, fun b hb => Or.inl (h.low b hb), Or.inl h.gp, (hb.block p (lt_of_heap h.log)).trans h.log, h.below.trans (hb.mono h.below.size)⟩
theorem Lgd.back {w0 w w' : World} {d p k m : Nat} {name : ByteArray} {kind : UInt8} {G G' : Nat → Prop} {D D' : PD} (h : Lgd w0 d p name kind G w D k) (h' : Lgd w0 d p name kind G' w' D' m) (hG : ∀ b, G b → G' b) : Lgd w0 d p name kind G w' D' m :=
  ⟨h'.has.less hG, h.low, h.gp, h'.log, h'.below⟩

abbrev nLN : List Bs := [bs nL, bs nN]
theorem ms_nL : bs nL ∈ nLN := by simp
theorem ms_nN : bs nN ∈ nLN := by simp
abbrev LU (k : UInt8) (D : PD) (A : List Bs) (s : Nat) : Prop := LogU nLN nL nN k D A s
theorem lu_append {F : Nat → Prop} {d m : Nat} {w : World} {k : UInt8} {D : PD} {A : List Bs} {s : Nat} (h : LU k D A s) (hh : Has F d w D m) (hm : m ≤ 100000) (r : Bs) (hl : (framesL A).length + r.length ≤ 60000) (q : Nat) :
    (D.deed (rightP nL) fun D' => D'.append nL (frameP r) q).1 = 0 ∧ LU k (D.deed (rightP nL) fun D' => D'.append nL (frameP r) q).2 (A ++ [r]) s := by
  obtain ⟨D', e, h'⟩ := LogU.append (by decide) right_nL ms_nL h (hh.short hm) r (by rw [len_fileP, len_frameP]; omega) q
  rw [e]
  exact ⟨rfl, h'⟩
theorem lu_rewrite {F : Nat → Prop} {d m : Nat} {w : World} {k : UInt8} {D : PD} {A : List Bs} {s : Nat} (h : LU k D A s) (hh : Has F d w D m) (hm : m ≤ 100000) (O : List Bs) (hl : (framesL O).length ≤ 60000) (q : Nat) (hq : ¬ D.has q) :
    ∃ D', logRewriteP D nL nN (fileP k O) q = (0, D') ∧ LU k D' O O.length :=
  LogU.rewrite (by decide) isE_nL isE_nN ne_nL right_nL right_nN ms_nL ms_nN h (hh.short hm) O (by rw [len_fileP]; omega) q hq
/-- Behind a restart it has all that were sure. -/
theorem lu_reopen {F : Nat → Prop} {d m : Nat} {w : World} {k : UInt8} {D : PD} {A : List Bs} (h : LU k D A A.length) {dir : Int} {tails : List Int} (hh : Has F d w (D.restart dir tails) m) (hm : m ≤ 100000) (hA : ∀ x ∈ A, x.length ≤ 4096) (q : Nat) :
    ∃ D', logOpenP (D.restart dir tails) nL nN k q = (0, D') ∧ openGot (D.restart dir tails) nL nN k = A ∧ Up D' ∧ OpenS (bs nL) (bs nN) k D' A := by
  have hr := (LogS.weak h.st A).restart dir tails
  obtain ⟨D', e, h1, h2, h3⟩ := Rst.open (N := nLN) (spare := nN) isE_nL isE_nN ne_nL right_nL right_nN (by decide) hr hA hA (few_restart h.few dir tails) (hh.short hm) q
  have hg : openGot (D.restart dir tails) nL nN k = A := by
    rcases h3 with ⟨j, j1, j2, e⟩ | e
    · rw [e]; exact List.take_of_length_le j1
    · exact e
  rw [hg] at h1
  exact ⟨D', e, hg, h2, h1⟩
def bigB : Bs := List.replicate 4097 0
def bigO : Obj := .cells (madeCells #[.int .u8 0] 4097) 5 (0, 0)
theorem len_bigB : bigB.length = 4097 := List.length_replicate ..
theorem info_byte : (Tryz.prog.info? 5).map (fun i => (i.zero, i.size, i.bytes)) = some (some (.int .u8 0), 1, 1) := by kernel_rfl
theorem big_run (w : World) : (Instr.makeSlice 23 (.int .i64 4097) (.int .i64 4097)).run Tryz.prog w = .ok (.slice (some ⟨w.heap.size, 0, none⟩) 4097 4097) (w.alloc bigO) := by
  obtain ⟨i, hi, h0, h1, h2⟩ := info_parts info_byte
  have h := run_make (P := Tryz.prog) w 23 5 i (.int .u8 0) Tryz.underlying23 hi h0 .i64 .i64 4097 4097 (by decide) (by decide) (by rw [h2]; decide) (by decide)
  rw [h1, show ((4097 : Int).toNat * 1) = 4097 from rfl, show (Value.int .u8 0).cells = #[.int .u8 0] from rfl] at h
  exact h
theorem RecsIn.one {l : List Bs} {vs : List Value} {w : World} (h2 : vs.length = l.length) (h3 : ∀ j (h1 : j < vs.length) (h2 : j < l.length), Bin w vs[j] l[j]) : ∀ u ∈ vs, u.oneCell' = true := by
  intro u hu
  obtain ⟨j, hj, rfl⟩ := List.getElem_of_mem hu
  obtain ⟨a, c, e, _⟩ := h3 j hj (by omega)
  rw [e]; rfl
theorem made_bytes (n : Nat) : madeCells #[.int .u8 0] n = ((List.replicate n (0 : UInt8)).map byteV).toArray := by
  rw [List.map_replicate, show byteV 0 = (Value.int .u8 0 : Value) from rfl, ← toList_madeCells_one, Array.toArray_toList]
theorem made_bin {n : Nat} {w : World} {g : Nat} (h : w.heap[g]? = some (.cells (madeCells #[.int .u8 0] n) 5 (0, 0))) : Bin w (.slice (some ⟨g, 0, none⟩) n n) (List.replicate n 0) := by
  rw [made_bytes] at h
  have := bin_new h
  rwa [List.length_replicate] at this
theorem big_bin {w : World} {g : Nat} (h : w.heap[g]? = some bigO) : Bin w (.slice (some ⟨g, 0, none⟩) 4097 4097) bigB := made_bin (n := 4097) h
set_option maxRecDepth 100000 in
set_option maxHeartbeats 2000000 in
theorem rewrites_at (w : World) {v1 v2 tv : Value} {l m : List Bs} {dir : Int} {tails : List Int} (h1 : RecsIn w v1 l) (h2 : RecsIn w v2 m) (hd0 : -9223372036854775808 ≤ dir) (hd1 : dir ≤ 9223372036854775807) (ht : Lst w tv (tails.map intV)) (htb : ∀ t ∈ tails, -9223372036854775808 ≤ t ∧ t ≤ 9223372036854775807) :
    Calls Tryz.prog 7 #[v1, v2, .agg #[.int .i64 dir, tv]] w fun e w' => e = .returned (.bool true) ∧ Below w.heap.size w w' := by
  obtain ⟨ta, tc, rfl⟩ : ∃ a c, tv = .slice a tails.length c := by obtain ⟨a, c, e, _⟩ := ht; exact ⟨a, c, by rw [e, List.length_map]⟩
  obtain ⟨xa, xc, rfl⟩ : ∃ a c, v1 = .slice a l.length c := by obtain ⟨vs, ⟨a, c, e, _⟩, hv, _⟩ := h1; exact ⟨a, c, by rw [e, hv]⟩
  obtain ⟨ya, yc, rfl⟩ : ∃ a c, v2 = .slice a m.length c := by obtain ⟨vs, ⟨a, c, e, _⟩, hv, _⟩ := h2; exact ⟨a, c, by rw [e, hv]⟩
  obtain ⟨wa, hwa⟩ : ∃ wa : World, w.alloc (.cells #[.int .i64 dir, .slice ta tails.length tc] 26) = wa := ⟨_, rfl⟩
  have hba : Below w.heap.size w wa := by rw [← hwa]; exact (Below.refl _ w).alloc (Nat.le_refl _) _
  have hxa : wa.heap[w.heap.size]? = some (.cells #[.int .i64 dir, .slice ta tails.length tc] 26 (0, 0)) := by rw [← hwa]; exact heap_alloc_new w _
  have z0 : wa.cell? ⟨w.heap.size, 0, none⟩ = some (.int .i64 dir) := (cell_at hxa).trans rfl
  have z1 : wa.cell? ⟨w.heap.size, 1, none⟩ = some (.slice ta tails.length tc) := (cell_at hxa).trans rfl
  have HA := Lib.hid (And.intro hba hxa)
  have H1 := Lib.hid h1
  have H2 := Lib.hid h2
  have HT := Lib.hid (And.intro ht htb)
  clear hba hxa h1 h2 ht htb
  go_enter Tryz.func7, Tryz.ntmps7
  go_wp2_with fail
  refine (light5_at (H1.out.below HA.out.1)).mono ?_
  rintro e0 w1 ⟨hl | rfl, rfl⟩
  case inr =>
    go_wp2_with fail
    go_ret
    exact ⟨rfl, HA.out.1⟩
  obtain ⟨rfl, hl⟩ := hl
  have HL := Lib.hid hl
  clear hl
  go_wp2_with fail
  refine (light5_at (H2.out.below HA.out.1)).mono ?_
  rintro e0 w1 ⟨hl | rfl, rfl⟩
  case inr =>
    go_wp2_with fail
    go_ret
    exact ⟨rfl, HA.out.1⟩
  obtain ⟨rfl, hl⟩ := hl
  have HM := Lib.hid hl
  clear hl
  by_cases h20 : 20 < tails.length
  · go_wp2_with fail
    go_ret
    exact ⟨rfl, HA.out.1⟩
  go_wp2_with fail
  refine (has_new 16777216 (by omega) (by omega) wa).mono ?_
  rintro e0 w3 ⟨rfl, h3, hb3⟩
  obtain ⟨d, hd⟩ : ∃ d, wa.heap.size + 2 = d := ⟨_, rfl⟩
  rw [hd] at h3 ⊢
  have H3 := Lib.hid h3
  have Hb3 := Lib.hid hb3
  clear h3 hb3 hd hwa z0 z1
  go_wp2_with fail
  refine (log_open H3.out (by omega) nL (by decide) 1).mono ?_
  rintro e0 w4 ⟨c, q, pv, v', G, rfl, hq, hc, h4, hG, hk4, _, hok⟩
  rw [spare_nL] at hq hc h4 hok
  obtain ⟨D4, e4, hu4, _⟩ := logU_new (N := nLN) (k := 1) (spare := nN) isE_nL ne_nL right_nL ms_nL 16777216 (by decide) q
  rw [e4] at hc h4
  obtain rfl : c = 0 := hc
  obtain ⟨p, rfl, _, hp4, hGp, _, _⟩ := hok rfl
  have hlow : ∀ b, b < wa.heap.size → G b := hG
  have H4 := Lib.hid (show Lgd wa d p nL 1 G w4 D4 4 from ⟨h4, hG, hGp, hp4, below_kept Hb3.out (Nat.le_refl _) hk4 fun b hb => hb⟩)
  have HU := Lib.hid (show LU 1 D4 [] 0 from hu4)
  clear hq h4 hG hk4 hok hp4 hGp e4 hu4 hlow
  have hln : l.length ≤ 30 := HL.out.1
  have hmn : m.length ≤ 30 := HM.out.1
  go_wp2_with fail
  go_loopw [12] (fun i wr => ∃ (j : Nat) (D : PD) (su : Nat), j ≤ l.length ∧ i = .int .i64 j ∧ Lgd wa d p nL 1 G wr D (4 + 2 * j) ∧ LU 1 D (l.take j) su) (fun i _ => l.length - (intOf i).toNat)
  case atStart => exact ⟨0, D4, 0, Nat.zero_le _, rfl, H4.out, HU.out⟩
  case round =>
    clear H4 HU
    obtain ⟨j, D, su, hj, rfl, hh, hu⟩ := hrel
    have HH := Lib.hid hh
    have HU := Lib.hid hu
    clear hh hu
    by_cases hlt : j < l.length
    · obtain ⟨vs, ⟨a0, _, e0, _, _, hc⟩, hv, he⟩ := H1.out
      rw [hv] at e0
      injection e0 with e1 e2 e3
      subst e1 e3
      clear e2
      obtain ⟨ab, ao, rfl, hca⟩ := hc j (by omega)
      have ea := he j (by omega) hlt
      obtain ⟨x, hx⟩ : ∃ x, l[j] = x := ⟨_, rfl⟩
      obtain ⟨u, hu⟩ : ∃ u, vs[j]'(by omega) = u := ⟨_, rfl⟩
      rw [hu, hx] at ea
      rw [hu] at hca
      have hbw := HA.out.1.trans (HH.out.below.mono HA.out.1.size)
      have ca : wr.cell? ⟨ab, ao + j, none⟩ = some u := (hbw.cell (p := ⟨ab, ao + j, none⟩) (World.block_lt_of_cell? w _ hca)).trans hca
      have hxl : x.length ≤ 500 := hx ▸ HL.out.2 _ (List.getElem_mem hlt)
      have hbx : Bin wr u x := ea.keep fun q _ hq => hbw.block q hq
      have hfr : (framesL (l.take j)).length ≤ 15240 := light_frames HL.out j
      have hux : ∀ q, u.ownBlock = some q → x ≠ [] → G q := fun q hq hne => HH.out.low q (Nat.lt_of_lt_of_le (ea.lt hne q hq) HA.out.1.size)
      have HX := Lib.hid (And.intro hbx (And.intro hux (show l.take (j + 1) = l.take j ++ [x] by rw [List.take_succ_eq_append_getElem hlt, hx])))
      clear hca ea hx hu hc he hv hbw hbx hux
      go_wp2_with fail
      refine (log_append (R := fun c D' => c = 0 ∧ LU 1 D' (l.take (j + 1)) su) HH.out.has (by omega) HH.out.log (by decide) HX.out.1 (by omega) (fun q _ => by rw [HX.out.2.2]; exact lu_append HU.out HH.out.has (by omega) x (by omega) q)).mono ?_
      rintro e0 w6 ⟨c, D6, rfl, ⟨rfl, hu6⟩, h6, hk6⟩
      have H6 := Lib.hid (And.intro (HH.out.did h6 hk6) hu6)
      clear h6 hk6 hu6
      go_wp2_with fail
      go_roundw
      case rel => exact ⟨j + 1, D6, su, by omega, by go_num, H6.out.1, H6.out.2⟩
      case measure => simp [intOf]; omega
    · obtain rfl : j = l.length := by omega
      have kb := big_run
      obtain ⟨i1, hi, hz0, hz1, hz2⟩ := info_parts info_sl
      have HI := Lib.hid (And.intro hi (And.intro hz0 (And.intro hz1 hz2)))
      clear hi hz0 hz1 hz2
      obtain ⟨w5, hw5⟩ : ∃ w5 : World, (wr.alloc bigO).alloc (.cells #[.slice (some ⟨wr.heap.size, 0, none⟩) 4097 4097] 23) = w5 := ⟨_, rfl⟩
      have hb5 : Below wr.heap.size wr w5 := by rw [← hw5]; exact ((Below.refl _ wr).alloc (Nat.le_refl _) _).alloc (by simp) _
      have hz5 : w5.heap.size = wr.heap.size + 2 := by rw [← hw5]; simp
      have hbig5 : w5.heap[wr.heap.size]? = some bigO := by rw [← hw5]; exact heap_alloc_of (heap_alloc_new wr _) _
      have hrow5 : w5.heap[wr.heap.size + 1]? = some (.cells #[.slice (some ⟨wr.heap.size, 0, none⟩) 4097 4097] 23 (0, 0)) := by rw [← hw5]; exact heap_alloc_at (by simp) _
      have hw5b := HA.out.1.trans ((HH.out.below.trans (hb5.mono HH.out.below.size)).mono HA.out.1.size)
      obtain ⟨us, hlst, hul, hub⟩ := H2.out
      have husrc : Src Tryz.prog 1 53 (.slice ya m.length yc) m.length us w5 := hul ▸ (hlst.below hw5b).src (RecsIn.one hul hub) Tryz.underlying53
      have hR5 : Row w5 23 1 (.slice (some ⟨wr.heap.size + 1, 0, none⟩) 1 1) 1 [.slice (some ⟨wr.heap.size, 0, none⟩) 4097 4097] := ⟨rfl, Or.inr ⟨_, 1, _, rfl, hrow5, Nat.le_refl _, by simp, by decide, rfl⟩⟩
      have H5 := Lib.hid (And.intro hb5 (And.intro hz5 (And.intro hbig5 (And.intro husrc (And.intro hR5 (And.intro hul (And.intro hub hw5b)))))))
      clear hb5 hz5 hbig5 hrow5 hw5b husrc hR5 hul hub hlst
      go_wp2_with (first
        | (at_builtin; refine wpList_append_row _ rfl _ _ 53 53 rfl rfl _ rfl H5.out.2.2.2.2.1 (by decide) i1 (.slice none 0 0) 24 Tryz.underlying53 HI.out.1 HI.out.2.1 HI.out.2.2.1 HI.out.2.2.2 rfl m.length us H5.out.2.2.2.1 (by unfold maxLen; omega) (by omega) ?_; intro b' c' w6 hr6 hk6 hw6 hn6 hz6; have H6 := Lib.hid (And.intro hr6 hk6); clear hr6 hk6 hw6 hn6 hz6)
        | fail)
      obtain ⟨hb5, hz5, hbig5, _, _, hul, hub, hw5b⟩ := H5.out
      obtain ⟨hr6, hk6⟩ := H6.out
      have hk6' : Keeps (fun q => wr.heap.size + 1 = q) w5 w6 := hk6.mono fun q _ h => Option.some.inj h
      have hb6 : Below wr.heap.size wr w6 := hb5.trans (hk6'.below hb5.size fun b hb h => by omega)
      have hsz6 : w.heap.size ≤ wr.heap.size := Nat.le_trans HA.out.1.size HH.out.below.size
      have hm6 : ∀ b, b < w.heap.size → w6.heap[b]? = w.heap[b]? := fun b hb => (hk6'.block b (by omega) (by omega)).trans (hw5b.block b hb)
      have hrec6 : RecsIn w6 (.slice b' (1 + m.length) c') (bigB :: m) := by
        refine ⟨.slice (some ⟨wr.heap.size, 0, none⟩) 4097 4097 :: us, row_lst hr6 (by simp [hul]; omega), by simp [hul], fun j h1 h2 => ?_⟩
        cases j with
        | zero => exact big_bin ((hk6'.block _ (by omega) (by omega)).trans hbig5)
        | succ j => exact (hub j (by simpa using h1) (by simpa using h2)).keep fun q _ hq => hm6 q hq
      have HG6 := Lib.hid (HH.out.on hb6)
      have Hrec6 := Lib.hid (And.intro hrec6 (H2.out.below (HA.out.1.trans ((HH.out.below.trans (hb6.mono HH.out.below.size)).mono HA.out.1.size))))
      clear hb5 hz5 hbig5 hul hub hw5b hr6 hk6 hk6' hb6 hm6 hrec6 hw5 H5 H6
      refine (log_rewrite_long HG6.out.log Hrec6.out.1 (by omega) (by rw [len_bigB]; decide)).mono ?_
      rintro e0 w7 ⟨rfl, hb7⟩
      have H7 := Lib.hid (HG6.out.on hb7)
      have Hm7 := Lib.hid (Hrec6.out.2.below hb7)
      clear hb7
      go_wp2_with fail
      refine (log_append_long (p := p) (big_bin (heap_alloc_new w7 bigO)) (by rw [len_bigB]; decide)).mono ?_
      rintro e0 w8 ⟨rfl, rfl⟩
      obtain ⟨w8, hw8⟩ : ∃ w8, w7.alloc bigO = w8 := ⟨_, rfl⟩
      have hb8 : Below w7.heap.size w7 w8 := by rw [← hw8]; exact (Below.refl _ w7).alloc (Nat.le_refl _) bigO
      rw [hw8]
      have H8 := Lib.hid (H7.out.on hb8)
      have Hm8 := Lib.hid (Hm7.out.below hb8)
      clear hw8 hb8
      go_wp2_with fail
      refine (log_rewrite H8.out.has (by omega) H8.out.log H8.out.gp (by decide) Hm8.out (by omega) (fun x hx => by have := HM.out.2 x hx; omega)).mono ?_
      rintro e0 w9 ⟨c, D9, rfl, ⟨q9, hq9, hc9⟩, h9, hk9⟩
      rw [spare_nL] at hc9
      obtain ⟨D9', e9, hu9⟩ := lu_rewrite HU.out H8.out.has (by omega) m (by have := light_frames HM.out m.length; rw [List.take_length] at this; omega) q9 hq9
      rw [e9] at hc9
      obtain ⟨rfl, rfl⟩ := Prod.mk.inj hc9
      have H9 := Lib.hid (And.intro (H8.out.did h9 hk9) hu9)
      have hb9 : Below w.heap.size w w9 := HA.out.1.trans (H9.out.1.below.mono HA.out.1.size)
      have hx9 : w9.heap[w.heap.size]? = some (.cells #[.int .i64 dir, .slice ta tails.length tc] 26 (0, 0)) := (H9.out.1.below.block _ (lt_of_heap HA.out.2)).trans HA.out.2
      have z0 : w9.cell? ⟨w.heap.size, 0, none⟩ = some (.int .i64 dir) := (cell_at hx9).trans rfl
      have z1 : w9.cell? ⟨w.heap.size, 1, none⟩ = some (.slice ta tails.length tc) := (cell_at hx9).trans rfl
      have Hb9 := Lib.hid hb9
      clear hb9 hx9 h9 hk9 hq9 hc9 e9 hu9
      go_wp2_with fail
      refine (done_restart H9.out.1.has (by omega) hd0 hd1 (HT.out.1.below Hb9.out) (by omega) HT.out.2 (fun hne b hb => H9.out.1.low b (Nat.lt_of_lt_of_le (HT.out.1.lt (by simpa using hne) b hb) HA.out.1.size))).mono ?_
      rintro e0 w10 ⟨rfl, h10, hk10⟩
      have H10 := Lib.hid (H9.out.1.did h10 hk10)
      clear h10 hk10 z0 z1
      go_wp2_with fail
      refine (log_open H10.out.has (by omega) nL (by decide) 1).mono ?_
      rintro e0 w11 ⟨c, q11, pv, v11, G11, rfl, _, hc, h11, hG11, hk11, _, hok⟩
      rw [spare_nL] at hc h11 hok
      obtain ⟨D11, e11, hg11, _, _⟩ := lu_reopen H9.out.2 H10.out.has (by omega) (fun x hx => by have := HM.out.2 x hx; omega) q11
      rw [e11] at hc
      obtain rfl : c = 0 := hc
      obtain ⟨p11, rfl, _, _, _, hrg, _⟩ := hok rfl
      rw [hg11] at hrg
      have hb11 : Below w.heap.size w w11 := HA.out.1.trans ((below_kept H10.out.below (Nat.le_refl _) hk11 H10.out.low).mono HA.out.1.size)
      have H11 := Lib.hid (And.intro hrg.recsIn (And.intro (H2.out.below hb11) hb11))
      clear h11 hG11 hk11 hok hrg hb11 e11 hg11
      go_wp2_with fail
      refine (same5_at H11.out.1 H11.out.2.1 (by omega)).mono ?_
      rintro e0 w12 ⟨rfl, hb12⟩
      rw [decide_eq_true (rfl : m = m)]
      have H12 := Lib.hid (H11.out.2.2.trans (hb12.mono H11.out.2.2.size))
      clear hb12
      go_wp2_with fail
      refine (awake5_at w12).mono ?_
      rintro e0 w13 ⟨rfl, hb13⟩
      have H13 := Lib.hid (H12.out.trans (hb13.mono H12.out.size))
      clear hb13
      go_wp2_with fail
      go_ret
      exact ⟨rfl, H13.out⟩

/-- The file of a log is p, with the records of A, of which s are sure; whatever else there is. -/
structure LogY (n : Bs) (k : UInt8) (files su : Dir) (pe : List Chg) (fs : Nat → PF) (A : List Bs) (s p : Nat) : Prop where
  cons : files = dirs su pe pe.length
  at_ : Dir.find files n = some p
  b : (fs p).b = fileP k A
  may : ∀ t, Dir.find (dirs su pe t) n = some p ∨ (Dir.find (dirs su pe t) n = none ∧ s = 0)
  sure : s = 0 ∨ (fileP k (A.take s)).length ≤ (fs p).sure
  le : s ≤ A.length
abbrev LogZ (n : Bs) (k : UInt8) (D : PD) (A : List Bs) (s : Nat) : Prop := ∃ p, LogY n k D.files D.sure D.pend D.fs A s p
section
variable {k : UInt8} {D : PD} {A : List Bs} {s : Nat} {name spare : ByteArray}
theorem LogS.z {n n' : Bs} (h : LogS n n' k D A s) : LogZ n k D A s := by
  obtain ⟨p, h⟩ := h
  exact ⟨p, h.cons, h.at_, h.b, h.may, h.sure, h.le⟩
theorem LogZ.weak {n : Bs} (h : LogZ n k D A s) (O : List Bs) : LogM n k D A s O := by
  obtain ⟨p, h⟩ := h
  refine ⟨h.le, fun t => ?_⟩
  rcases h.may t with e | ⟨e, h0⟩
  · rw [e]; exact Or.inl ⟨h.b, h.sure⟩
  · rw [e]; exact h0
/-- Another name is turned. -/
theorem LogZ.turns {n : Bs} (h : LogZ n k D A s) (c : Chg) (hc : ∀ l, Dir.find (c.does l) n = Dir.find l n) : LogZ n k (D.turns c) A s := by
  obtain ⟨p, h⟩ := h
  refine ⟨p, ?_, (hc D.files).trans h.at_, h.b, fun t => ?_, h.sure, h.le⟩
  · show Chg.does _ D.files = dirs D.sure (D.pend ++ [_]) (D.pend ++ [_]).length
    rw [dirs_snoc, if_neg (by rw [List.length_append, List.length_singleton]; omega), ← h.cons]
  · show Dir.find (dirs D.sure (D.pend ++ [_]) t) _ = some p ∨ (Dir.find (dirs D.sure (D.pend ++ [_]) t) _ = none ∧ s = 0)
    rw [dirs_snoc]
    split
    · exact h.may t
    · rw [hc]; exact h.may _
theorem LogZ.setNew {n : Bs} (h : LogZ n k D A s) {q : Nat} (hq : ¬ D.has q) (f : PF) : LogZ n k ((D.tick).setF q f) A s := by
  obtain ⟨p, h⟩ := h
  have hp : p ≠ q := fun e => hq (e ▸ has_find h.at_)
  exact ⟨p, h.cons, h.at_, by show (upd D.fs q _ p).b = _; rw [upd_other _ hp]; exact h.b, h.may, by show _ ∨ _ ≤ (upd D.fs q _ p).sure; rw [upd_other _ hp]; exact h.sure, h.le⟩
theorem LogZ.syncDir {n : Bs} (h : LogZ n k D A s) : LogZ n k (D.syncDir).2 A s := by
  obtain ⟨p, h⟩ := h
  exact ⟨p, by show D.files = dirs D.files [] _; rw [dirs_nil], h.at_, h.b, fun t => Or.inl (by show Dir.find (dirs D.files [] t) _ = _; rw [dirs_nil]; exact h.at_), h.sure, h.le⟩
theorem LogZ.fresh (h : LogZ (bs name) k D A s) (hs : isE spare = false) (hne : bs name ≠ bs spare) {q : Nat} (hq : ¬ D.has q) (b : Bs) : LogZ (bs name) k (D.fresh spare b q).2 A s := by
  unfold PD.fresh
  split
  · exact LogZ.turns (D := (D.tick).setF q ⟨b, 0, D.clock⟩) (h.setNew hq _) _ fun l => by rw [find_new hs, if_neg hne]
  · exact h
/-- Opened anew, whatever comes of it. -/
theorem LogZ.open (h : LogZ (bs name) k D A s) (hs : isE spare = false) (hne : bs name ≠ bs spare) (rs : rightP spare = true) (hA : ∀ x ∈ A, x.length ≤ 4096) (q : Nat) : LogZ (bs name) k (logOpenP D name spare k q).2 A s := by
  unfold logOpenP
  split
  · exact h
  · have fix : ∀ D1 : PD, LogZ (bs name) k D1 A s → LogZ (bs name) k (fixP D1 name k q).2 A s := by
      rintro D1 ⟨p, h1⟩
      have er : readP D1 (bs name) = fileP k A := by unfold readP; rw [h1.at_]; exact h1.b
      unfold fixP
      rw [er, scanP_file k A hA]
      dsimp only
      rw [if_neg (by decide), if_neg (by rw [len_fileP]; omega), if_neg (Nat.lt_irrefl _)]
      exact ⟨p, h1⟩
    have sp : LogZ (bs name) k (spareP D spare).2 A s := by
      unfold spareP
      split
      · rw [rs]
        rcases deed_cases D (fun D' => D'.remove spare) with e | e
        · rw [e]
          unfold PD.remove
          split
          · exact h
          · exact LogZ.turns (D := D.counted) h _ fun l => by rw [find_gone hs, if_neg hne]
        · rw [e]; exact h
      · exact h
    unfold andThen
    split
    · exact fix _ sp
    · exact sp
end
theorem sp_reopen {F : Nat → Prop} {d m : Nat} {w : World} {k : UInt8} {D : PD} {A : List Bs} (h : LogZ (bs nL) k D A A.length) (hf : Few nLN D) {dir : Int} {tails : List Int} (hh : Has F d w (D.restart dir tails) m) (hm : m ≤ 100000) (hA : ∀ x ∈ A, x.length ≤ 4096) (q : Nat) :
    ∃ D', logOpenP (D.restart dir tails) nL nN k q = (0, D') ∧ openGot (D.restart dir tails) nL nN k = A ∧ Up D' ∧ OpenS (bs nL) (bs nN) k D' A := by
  have hr := (LogZ.weak h A).restart dir tails
  obtain ⟨D', e, h1, h2, h3⟩ := Rst.open (N := nLN) (spare := nN) isE_nL isE_nN ne_nL right_nL right_nN (by decide) hr hA hA (few_restart hf dir tails) (hh.short hm) q
  have hg : openGot (D.restart dir tails) nL nN k = A := by
    rcases h3 with ⟨j, j1, j2, e⟩ | e
    · rw [e]; exact List.take_of_length_le j1
    · exact e
  rw [hg] at h1
  exact ⟨D', e, hg, h2, h1⟩
/-- A log on a disk, its records all sure. -/
def SpI (D : PD) (l : List Bs) : Prop := LogZ (bs nL) 3 D l l.length ∧ Few nLN D
theorem sp_write {F : Nat → Prop} {d m : Nat} {w : World} {D : PD} {l : List Bs} {s : Nat} (h : LU 3 D l l.length) (_hs : s = l.length) (hh : Has F d w D m) (hm : m ≤ 100000) (b : Bs) (hb : b.length ≤ 500) (q : Nat) (hq : ¬ D.has q) :
    (D.deed (rightP nN) fun D' => D'.fresh nN b q).1 = 0 ∧ SpI (D.deed (rightP nN) fun D' => D'.fresh nN b q).2 l ∧ Up (D.deed (rightP nN) fun D' => D'.fresh nN b q).2 := by
  have hu := h.up.did (r := rightP nN) fun D => fl_fresh D nN b q
  have hw : Few nLN (D.deed (rightP nN) fun D' => D'.fresh nN b q).2 := h.few.did fun h => few_fresh h ms_nN _ _
  have hf : D.counted.fits (bs nN) b.length = 0 := h.few.counted.fits (by decide) (hh.short hm) _ (by omega)
  rw [right_nN, h.up.deed] at hu hw ⊢
  refine ⟨by rw [PD.fresh, if_pos hf], ⟨LogZ.fresh (D := D.counted) h.st.z isE_nN ne_nL hq b, hw⟩, hu⟩
theorem sp_syncDir {D : PD} {l : List Bs} (h : SpI D l) (hu : Up D) : (D.deed true fun D' => D'.syncDir).1 = 0 ∧ SpI (D.deed true fun D' => D'.syncDir).2 l := by
  have hw : Few nLN (D.deed true fun D' => D'.syncDir).2 := h.2.did fun h => few_syncDir h
  rw [hu.deed] at hw ⊢
  exact ⟨rfl, LogZ.syncDir (D := D.counted) h.1, hw⟩
set_option maxRecDepth 100000 in
set_option maxHeartbeats 2000000 in
theorem spare_at (w : World) {v1 v2 : Value} {l : List Bs} {b : Bs} (h1 : RecsIn w v1 l) (h2 : Bin w v2 b) (a : Nat) (ha : a < 256) :
    Calls Tryz.prog 6 #[v1, v2, .int .u8 a] w fun e w' => e = .returned (.bool true) ∧ Below w.heap.size w w' := by
  obtain ⟨xa, xc, rfl⟩ : ∃ a c, v1 = .slice a l.length c := by obtain ⟨vs, ⟨a, c, e, _⟩, hv, _⟩ := h1; exact ⟨a, c, by rw [e, hv]⟩
  obtain ⟨ya, yc, rfl⟩ : ∃ a c, v2 = .slice a b.length c := by obtain ⟨a, c, e, _⟩ := h2; exact ⟨a, c, e⟩
  have H1 := Lib.hid h1
  have H2 := Lib.hid h2
  clear h1 h2
  go_enter Tryz.func6, Tryz.ntmps6
  go_wp2_with fail
  refine (light5_at H1.out).mono ?_
  rintro e0 w1 ⟨hl | rfl, rfl⟩
  case inr =>
    go_wp2_with fail
    go_ret
    exact ⟨rfl, Below.refl _ w⟩
  obtain ⟨rfl, hl⟩ := hl
  have HL := Lib.hid hl
  have hln : l.length ≤ 30 := hl.1
  have hlx : ∀ x ∈ l, x.length ≤ 4096 := fun x hx => by have := hl.2 x hx; omega
  clear hl
  by_cases hb5 : 500 < b.length
  · go_wp2_with fail
    go_ret
    exact ⟨rfl, Below.refl _ w⟩
  go_wp2_with fail
  refine (has_new 1048576 (by omega) (by omega) w).mono ?_
  rintro e0 w3 ⟨rfl, h3, hb3⟩
  obtain ⟨d, hd⟩ : ∃ d, w.heap.size + 2 = d := ⟨_, rfl⟩
  rw [hd] at h3 ⊢
  have H3 := Lib.hid h3
  have Hb3 := Lib.hid hb3
  clear h3 hb3 hd
  go_wp2_with fail
  refine (log_open H3.out (by omega) nL (by decide) 3).mono ?_
  rintro e0 w4 ⟨c, q, pv, v', G, rfl, hq, hc, h4, hG, hk4, _, hok⟩
  rw [spare_nL] at hq hc h4 hok
  obtain ⟨D4, e4, hu4, _⟩ := logU_new (N := nLN) (k := 3) (spare := nN) isE_nL ne_nL right_nL ms_nL 1048576 (by decide) q
  rw [e4] at hc h4
  obtain rfl : c = 0 := hc
  obtain ⟨p, rfl, _, hp4, hGp, _, _⟩ := hok rfl
  have H4 := Lib.hid (show Lgd w d p nL 3 G w4 D4 4 from ⟨h4, hG, hGp, hp4, below_kept Hb3.out (Nat.le_refl _) hk4 fun b hb => hb⟩)
  have HU := Lib.hid (show LU 3 D4 [] 0 from hu4)
  clear hq h4 hG hk4 hok hp4 hGp e4 hu4
  go_wp2_with fail
  refine (log_rewrite H4.out.has (by omega) H4.out.log H4.out.gp (by decide) (H1.out.below H4.out.below) (by omega) hlx).mono ?_
  rintro e0 w9 ⟨c, D9, rfl, ⟨q9, hq9, hc9⟩, h9, hk9⟩
  rw [spare_nL] at hc9
  obtain ⟨D9', e9, hu9⟩ := lu_rewrite HU.out H4.out.has (by omega) l (by have := light_frames HL.out l.length; rw [List.take_length] at this; omega) q9 hq9
  rw [e9] at hc9
  obtain ⟨rfl, rfl⟩ := Prod.mk.inj hc9
  have H9 := Lib.hid (And.intro (H4.out.did h9 hk9) hu9)
  clear h9 hk9 hq9 hc9 e9 hu9
  go_wp2_with fail
  refine (told_write (R := fun c D' => c = 0 ∧ SpI D' l ∧ Up D') H9.out.1.has (by omega) nN (by decide) (H2.out.keep fun q _ hq => H9.out.1.below.block q hq) (by omega) (fun hne q hq => H9.out.1.low q (H2.out.lt hne q hq)) (fun q hq => sp_write H9.out.2 rfl H9.out.1.has (by omega) b (by omega) q hq)).mono ?_
  rintro e0 w10 ⟨c, D10, rfl, ⟨rfl, hs10, hu10⟩, h10, hk10⟩
  have H10 := Lib.hid (And.intro (H9.out.1.did h10 hk10) (And.intro hs10 hu10))
  clear h10 hk10 hs10 hu10
  go_wp2_with fail
  refine (told_syncDir (R := fun c D' => c = 0 ∧ SpI D' l) H10.out.1.has (by omega) (sp_syncDir H10.out.2.1 H10.out.2.2)).mono ?_
  rintro e0 w11 ⟨c, D11, rfl, ⟨rfl, hs11⟩, h11, hk11⟩
  have H11 := Lib.hid (And.intro (H10.out.1.did h11 hk11) hs11)
  clear h11 hk11 hs11
  go_wp2_with fail
  refine (done_arm H11.out.1.has (by omega) _ (by omega)).mono ?_
  rintro e0 w12 ⟨rfl, h12, hk12⟩
  have H12 := Lib.hid (And.intro (H11.out.1.did h12 hk12) (show SpI { D11 with armed := max ((a : Int) % 3) (-1) } l from ⟨H11.out.2.1, few_arm H11.out.2.2 _⟩))
  clear h12 hk12
  go_wp2_with fail
  refine (log_open H12.out.1.has (by omega) nL (by decide) 3).mono ?_
  rintro e0 w13 ⟨c13, q13, pv13, v13, G13, rfl, _, _, h13, hG13, hk13, _, _⟩
  rw [spare_nL] at h13
  have H13 := Lib.hid (And.intro (H12.out.1.did (h13.less hG13) hk13) (show SpI _ l from ⟨LogZ.open H12.out.2.1 isE_nN ne_nL right_nN hlx q13, few_opens H12.out.2.2 ms_nL nN 3 q13⟩))
  clear h13 hG13 hk13
  go_wp2_with fail
  refine (done_restart (tails := []) H13.out.1.has (by omega) (by omega) (by omega) (Lst.nil _) (by simp) (by simp) (fun h => absurd rfl h)).mono ?_
  rintro e0 w14 ⟨rfl, h14, hk14⟩
  have H14 := Lib.hid (H13.out.1.did h14 hk14)
  clear h14 hk14
  go_wp2_with fail
  refine (log_open H14.out.has (by omega) nL (by decide) 3).mono ?_
  rintro e0 w15 ⟨c, q15, pv, v15, G15, rfl, _, hc, h15, hG15, hk15, _, hok⟩
  rw [spare_nL] at hc h15 hok
  obtain ⟨D15, e15, hg15, hu15, ho15⟩ := sp_reopen H13.out.2.1 H13.out.2.2 H14.out.has (by omega) hlx q15
  rw [e15] at hc h15
  obtain rfl : c = 0 := hc
  obtain ⟨p15, rfl, _, _, _, hrg, _⟩ := hok rfl
  rw [hg15] at hrg
  have hb15 : Below w.heap.size w w15 := below_kept H14.out.below (Nat.le_refl _) hk15 H14.out.low
  have hsp : Dir.find D15.files (bs nN) = none := by obtain ⟨_, h⟩ := ho15; exact h.spare
  have H15 := Lib.hid (And.intro hrg.recsIn (And.intro hb15 (And.intro h15 (And.intro hu15.1 hsp))))
  clear h15 hG15 hk15 hok hrg hb15 e15 hg15 hu15 ho15 hsp
  go_wp2_with fail
  refine (has_stat H15.out.2.2.1 nN (by decide)).mono ?_
  rintro e0 w16 hst
  obtain ⟨rfl, hb16⟩ := hst.no H15.out.2.2.2.1 H15.out.2.2.2.2
  have hba : Below w15.heap.size w15 (w16.alloc (.cells #[.int .i64 0, .int .i64 0] 36)) := hb16.alloc hb16.size _
  have hbw : Below w.heap.size w (w16.alloc (.cells #[.int .i64 0, .int .i64 0] 36)) := H15.out.2.1.trans (hba.mono H15.out.2.1.size)
  have H16 := Lib.hid (And.intro (H15.out.1.below hba) (And.intro (H1.out.below hbw) hbw))
  clear hst hb16 hba hbw
  go_wp2_with fail
  refine (same5_at H16.out.1 H16.out.2.1 (by omega)).mono ?_
  rintro e0 w17 ⟨rfl, hb17⟩
  rw [decide_eq_true (rfl : l = l)]
  have H17 := Lib.hid (H16.out.2.2.trans (hb17.mono H16.out.2.2.size))
  clear hb17
  go_wp2_with fail
  refine (awake5_at w17).mono ?_
  rintro e0 w18 ⟨rfl, hb18⟩
  have H18 := Lib.hid (H17.out.trans (hb18.mono H17.out.size))
  clear hb18
  go_wp2_with fail
  go_ret
  exact ⟨rfl, H18.out⟩

/-- An act, plainly. -/
structure RAct where
  what : Int
  n : Int
  b : Bs
  tails : List Int
structure RAct.Ok (x : RAct) : Prop where
  what : isI64 x.what
  n : isI64 x.n
  tails : ∀ t ∈ x.tails, isI64 t
structure RActAt (w : World) (b o : Nat) (bv tv : Value) (x : RAct) : Prop where
  c0 : w.cell? ⟨b, o, none⟩ = some (.int .i64 x.what)
  c1 : w.cell? ⟨b, o + 1, none⟩ = some (.int .i64 x.n)
  c2 : w.cell? ⟨b, o + 2, none⟩ = some bv
  c3 : w.cell? ⟨b, o + 3, none⟩ = some tv
  bin : Bin w bv x.b
  lst : Lst w tv (x.tails.map intV)
  ok : x.Ok
def RActs (w : World) (v : Value) (l : List RAct) : Prop :=
  ∃ a cap, v = .slice a l.length cap ∧ l.length ≤ cap ∧ ∀ j (h : j < l.length), ∃ b o bv tv, a = some ⟨b, o, none⟩ ∧ RActAt w b (o + j * 4) bv tv l[j]
theorem RActAt.below {w w' : World} {N b o : Nat} {bv tv : Value} {x : RAct} (h : RActAt w b o bv tv x) (hb : Below N w w') (hN : w.heap.size ≤ N) : RActAt w' b o bv tv x := by
  have hc : ∀ {p : Addr} {v : Value}, w.cell? p = some v → w'.cell? p = some v := fun {p v} hp => (hb.cell (p := p) (Nat.lt_of_lt_of_le (World.block_lt_of_cell? w _ hp) hN)).trans hp
  exact ⟨hc h.c0, hc h.c1, hc h.c2, hc h.c3, h.bin.keep fun q _ hq => hb.block q (Nat.lt_of_lt_of_le hq hN), h.lst.keep fun q _ hq => hb.block q (Nat.lt_of_lt_of_le hq hN), h.ok⟩
theorem tmod6 (x : Int) : ∃ c : Nat, c ≤ 5 ∧ (wrap64 (x.tmod 6 + 6)).tmod 6 = c := by
  have h1 : -6 < x.tmod 6 ∧ x.tmod 6 < 6 := by
    by_cases h : 0 ≤ x
    · rw [Int.tmod_eq_emod_of_nonneg h]; omega
    · have e : x = -(-x) := by omega
      rw [e, Int.neg_tmod, Int.tmod_eq_emod_of_nonneg (by omega)]; omega
  rw [IntWalk.wrap64_in _ (by omega), Int.tmod_eq_emod_of_nonneg (by omega)]
  exact ⟨((x.tmod 6 + 6) % 6).toNat, by omega, by omega⟩
theorem RecsIn.take {w : World} {a : Option Addr} {n c : Nat} {l : List Bs} (h : RecsIn w (.slice a n c) l) {m : Nat} (hm : m ≤ l.length) : RecsIn w (.slice a m c) (l.take m) := by
  obtain ⟨vs, ⟨a', c', e, h1, h2, h3⟩, h4, h5⟩ := h
  obtain ⟨rfl, rfl, rfl⟩ := Value.slice.inj e
  have hl : (vs.take m).length = m := by rw [List.length_take]; omega
  refine ⟨vs.take m, ⟨a, c, by rw [hl], by omega, h2, fun j hj => ?_⟩, by rw [hl, List.length_take]; omega, fun j g1 g2 => ?_⟩
  · obtain ⟨b, o, e1, e2⟩ := h3 j (by omega)
    exact ⟨b, o, e1, by rw [e2, List.getElem_take]⟩
  · have := h5 j (by omega) (by rw [List.length_take] at g2; omega)
    rwa [List.getElem_take, List.getElem_take]
def startsP (a all : List Bs) (s : Nat) : Bool := decide (s ≤ a.length) && (decide (a.length ≤ all.length) && decide (a = all.take a.length))
set_option maxRecDepth 100000 in
theorem starts_at {w : World} {va vb : Value} {la lb : List Bs} {s : Nat} (ha : RecsIn w va la) (hb : RecsIn w vb lb) (hla : la.length ≤ 1000000) :
    Calls Tryz.prog 39 #[va, vb, .int .i64 s] w fun e w' => e = .returned (.bool (startsP la lb s)) ∧ Below w.heap.size w w' := by
  obtain ⟨xa, xc, rfl⟩ : ∃ a c, va = .slice a la.length c := by obtain ⟨vs, ⟨a, c, e, _⟩, hv, _⟩ := ha; exact ⟨a, c, by rw [e, hv]⟩
  obtain ⟨ya, yc, rfl, hyc⟩ : ∃ a c, vb = .slice a lb.length c ∧ lb.length ≤ c := by obtain ⟨vs, ⟨a, c, e, h1, _⟩, hv, _⟩ := hb; exact ⟨a, c, by rw [e, hv], by omega⟩
  have HA := Lib.hid ha
  have HB := Lib.hid hb
  clear ha hb
  by_cases h1 : s ≤ la.length
  · by_cases h2 : la.length ≤ lb.length
    · have hr : startsP la lb s = decide (la = lb.take la.length) := by simp [startsP, h1, h2]
      rw [hr]
      obtain ⟨r, hr⟩ : ∃ r : Bool, decide (la = lb.take la.length) = r := ⟨_, rfl⟩
      rw [hr]
      have Hr := Lib.hid hr
      clear hr
      have hcap : la.length ≤ yc := by omega
      go_enter Tryz.func39, Tryz.ntmps39
      go_wp2_with fail
      refine (same5_at HA.out (HB.out.take h2) hla).mono ?_
      rintro e w1 ⟨rfl, hb1⟩
      rw [Hr.out]
      have Hb1 := Lib.hid hb1
      clear hb1
      go_wp2_with fail
      go_ret
      exact ⟨rfl, Hb1.out⟩
    · have hr : startsP la lb s = false := by simp [startsP, h1, h2]
      rw [hr]
      clear hr
      go_enter Tryz.func39, Tryz.ntmps39
      go_wp2_with fail
      go_ret
      exact ⟨rfl, Below.refl _ w⟩
  · have hr : startsP la lb s = false := by simp [startsP, h1]
    rw [hr]
    clear hr
    go_enter Tryz.func39, Tryz.ntmps39
    go_wp2_with fail
    go_ret
    exact ⟨rfl, Below.refl _ w⟩

abbrev LS (D : PD) (A : List Bs) (s : Nat) : Prop := LogS (bs nL) (bs nN) 7 D A s
abbrev LM (D : PD) (A : List Bs) (s : Nat) (O : List Bs) : Prop := LogM (bs nL) 7 D A s O
def Small (A : List Bs) : Prop := A.length ≤ 60 ∧ ∀ x ∈ A, x.length ≤ 500
theorem Small.frames {A : List Bs} (h : Small A) : (framesL A).length ≤ 30480 := by
  have key : ∀ m : List Bs, (∀ x ∈ m, x.length ≤ 500) → (framesL m).length ≤ 508 * m.length := by
    intro m
    induction m with
    | nil => intro _; simp [framesL]
    | cons r m ih =>
      intro hm
      have h1 := ih fun x hx => hm x (List.mem_cons_of_mem _ hx)
      have h2 := hm r (List.mem_cons_self ..)
      rw [framesL_cons, List.length_append, len_frameP, List.length_cons]
      omega
  have := key A h.2
  have := h.1
  omega
theorem Small.take {A : List Bs} (h : Small A) (m : Nat) : Small (A.take m) := ⟨by rw [List.length_take]; have := h.1; omega, fun x hx => h.2 x (List.mem_of_mem_take hx)⟩
theorem Small.long {A : List Bs} (h : Small A) : ∀ x ∈ A, x.length ≤ 4096 := fun x hx => by have := h.2 x hx; omega
section
variable {F : Nat → Prop} {d m : Nat} {w : World} {D : PD} {A : List Bs} {s : Nat}
theorem su_append (h : LS D A s) (hf : Few nLN D) (hA : Small A) (hh : Has F d w D m) (hm : m ≤ 100000) (r : Bs) (hr : r.length ≤ 500) (q : Nat) :
    ((D.deed (rightP nL) fun D' => D'.append nL (frameP r) q).1 = 0 ∧ LS (D.deed (rightP nL) fun D' => D'.append nL (frameP r) q).2 (A ++ [r]) s ∧ Few nLN (D.deed (rightP nL) fun D' => D'.append nL (frameP r) q).2) ∨
    ((D.deed (rightP nL) fun D' => D'.append nL (frameP r) q).1 = 8 ∧ LS (D.deed (rightP nL) fun D' => D'.append nL (frameP r) q).2 A s ∧ Few nLN (D.deed (rightP nL) fun D' => D'.append nL (frameP r) q).2) := by
  have hw : Few nLN (D.deed (rightP nL) fun D' => D'.append nL (frameP r) q).2 := hf.did fun h => few_append h ms_nL _ _
  have := hA.frames
  rcases LogS.append (k := 7) (spare := nN) right_nL h r q (hf.counted.fits (by decide) (hh.short hm) _ (by rw [len_fileP, len_frameP]; omega)) with ⟨D', e, h1⟩ | e
  · rw [e] at hw ⊢
    exact Or.inl ⟨rfl, h1, hw⟩
  · rw [e] at hw ⊢
    exact Or.inr ⟨rfl, h, hw⟩
theorem su_sync (h : LS D A s) (hf : Few nLN D) : ((logSyncP D nL).1 = 0 ∧ LS (logSyncP D nL).2 A A.length ∧ Few nLN (logSyncP D nL).2) ∨ ((logSyncP D nL).1 = 8 ∧ LS (logSyncP D nL).2 A s ∧ Few nLN (logSyncP D nL).2) := by
  have hw := few_syncs hf nL
  rcases LogS.sync right_nL h with ⟨D', e, h1⟩ | ⟨D', e, _, h1⟩
  · rw [e] at hw ⊢
    exact Or.inl ⟨rfl, h1, hw⟩
  · rw [e] at hw ⊢
    exact Or.inr ⟨rfl, h1, hw⟩
theorem su_rewrite (h : LS D A s) (hf : Few nLN D) (hh : Has F d w D m) (hm : m ≤ 100000) {O : List Bs} (hO : Small O) (q : Nat) (hq : ¬ D.has q) :
    ((logRewriteP D nL nN (fileP 7 O) q).1 = 0 ∧ LS (logRewriteP D nL nN (fileP 7 O) q).2 O O.length ∧ Few nLN (logRewriteP D nL nN (fileP 7 O) q).2) ∨
    ((logRewriteP D nL nN (fileP 7 O) q).1 = 8 ∧ LM (logRewriteP D nL nN (fileP 7 O) q).2 A s O ∧ (logRewriteP D nL nN (fileP 7 O) q).2.down = true ∧ Few nLN (logRewriteP D nL nN (fileP 7 O) q).2) := by
  have hw := few_rewrites hf ms_nL ms_nN (fileP 7 O) q
  have := hO.frames
  rcases LogS.rewrite isE_nL isE_nN ne_nL right_nL right_nN h O q hq (hf.counted.fits (by decide) (hh.short hm) _ (by rw [len_fileP]; omega)) with ⟨D', e, h1⟩ | ⟨D', e, h2, h1⟩
  · rw [e] at hw ⊢
    exact Or.inl ⟨rfl, h1, hw⟩
  · rw [e] at hw ⊢
    exact Or.inr ⟨rfl, h1, h2, hw⟩
/-- It may be opened: it has the first ones of A, all that are sure, or (mb) all of O. -/
def Ready (D : PD) (A : List Bs) (s : Nat) (O : List Bs) (mb : Bool) : Prop :=
  ∀ q, ∃ D', logOpenP D nL nN 7 q = (0, D') ∧ OpenS (bs nL) (bs nN) 7 D' (openGot D nL nN 7) ∧ Up D' ∧ Few nLN D' ∧ ((∃ j, s ≤ j ∧ j ≤ A.length ∧ openGot D nL nN 7 = A.take j) ∨ (mb = true ∧ openGot D nL nN 7 = O))
theorem ready_restart {O : List Bs} {dir : Int} {tails : List Int} {mb : Bool} (h0 : mb = false → LS D A s) (h1 : mb = true → LM D A s O) (hle : s ≤ A.length) (hf : Few nLN D) (hA : Small A) (hO : mb = true → Small O) (hh : Has F d w (D.restart dir tails) m) (hm : m ≤ 100000) : Ready (D.restart dir tails) A s O mb := by
  intro q
  have hF := few_opens (few_restart hf dir tails) ms_nL nN 7 q
  cases mb with
  | false =>
    obtain ⟨D', e, g1, g2, g3⟩ := Rst.open (N := nLN) (spare := nN) isE_nL isE_nN ne_nL right_nL right_nN (by decide) ((LogS.weak (h0 rfl) A).restart dir tails) hA.long hA.long (few_restart hf dir tails) (hh.short hm) q
    rw [e] at hF
    refine ⟨D', e, g1, g2, hF, Or.inl ?_⟩
    rcases g3 with g3 | g3
    · exact g3
    · exact ⟨A.length, hle, Nat.le_refl _, by rw [List.take_length]; exact g3⟩
  | true =>
    obtain ⟨D', e, g1, g2, g3⟩ := Rst.open (N := nLN) (spare := nN) isE_nL isE_nN ne_nL right_nL right_nN (by decide) ((h1 rfl).restart dir tails) hA.long (hO rfl).long (few_restart hf dir tails) (hh.short hm) q
    rw [e] at hF
    exact ⟨D', e, g1, g2, hF, g3.imp_right fun h => ⟨rfl, h⟩⟩
theorem ready_again {O : List Bs} (h : LS D A s) (hle : s ≤ A.length) (hf : Few nLN D) (hd : D.down = false) (hA : Small A) : Ready { D with armed := -1 } A s O false := by
  intro q
  have ho : OpenS (bs nL) (bs nN) 7 { D with armed := -1 } A := LogS.open (D := { D with armed := -1 }) h
  obtain ⟨e1, e2⟩ := OpenS.again (name := nL) (spare := nN) ho hd hA.long q
  refine ⟨_, e1, by rw [e2]; exact ho, ⟨hd, rfl⟩, few_arm hf _, Or.inl ⟨A.length, hle, Nat.le_refl _, by rw [e2, List.take_length]⟩⟩
theorem su_resync {B : List Bs} (h : OpenS (bs nL) (bs nN) 7 D B) (hu : Up D) (hf : Few nLN D) : ∃ D', logSyncP D nL = (0, D') ∧ LS D' B B.length ∧ Few nLN D' := by
  have hw := few_syncs hf nL
  obtain ⟨D', e, h1, _⟩ := OpenS.sync right_nL h hu
  rw [e] at hw
  exact ⟨D', e, h1, hw⟩
end
/-- One record more, in a row of one's own. -/
theorem recG_snoc {G : Nat → Prop} {W : Nat} {w5 w6 : World} {a : Option Addr} {c : Nat} {A : List Bs} {vs : List Value} (r2 : vs.length = A.length)
    (r3 : ∀ j (h1 : j < vs.length) (h2 : j < A.length), Bin w5 vs[j] A[j] ∧ ∀ q, vs[j].ownBlock = some q → G q ∧ (Value.slice a A.length c).ownBlock ≠ some q) (r4 : ∀ q, (Value.slice a A.length c).ownBlock = some q → G q)
    (hGW : ∀ q, G q → q < W) (hW : W ≤ w5.heap.size) {u : Value} {R : Bs} (hu : Bin w5 u R) (hu1 : ∀ q, u.ownBlock = some q → W ≤ q ∧ q < w5.heap.size) (o : Obj)
    {a' : Option Addr} {c' : Nat} (hr : Row w6 23 1 (.slice a' (A.length + 1) c') (A.length + 1) (vs ++ [u])) (hk : Keeps (fun q => (Value.slice a A.length c).ownBlock = some q) (w5.alloc o) w6) (hw : ∀ q, (Value.slice a' (A.length + 1) c').ownBlock = some q → (Value.slice a A.length c).ownBlock = some q ∨ (w5.alloc o).heap.size ≤ q) :
    RecG (fun b => G b ∨ (W ≤ b ∧ b < w6.heap.size)) w6 (.slice a' (A.length + 1) c') (A ++ [R]) := by
  have hz : w5.heap.size + 1 ≤ w6.heap.size := by have := hk.size; simpa using this
  have old : ∀ {v : Value} {x : Bs}, Bin w5 v x → (∀ q, v.ownBlock = some q → q < w5.heap.size ∧ (Value.slice a A.length c).ownBlock ≠ some q) → Bin w6 v x := fun hb hq => hb.keep fun q hv hlt => (hk.block q (by simp; omega) (hq q hv).2).trans (Below.heap_alloc _ _ _ hlt)
  have newb : ∀ q, q < w5.heap.size → (Value.slice a A.length c).ownBlock ≠ some q → (Value.slice a' (A.length + 1) c').ownBlock ≠ some q := fun q h1 h2 h3 => (hw q h3).elim h2 (fun h => by simp at h; omega)
  have hun : ∀ q, u.ownBlock = some q → q < w5.heap.size ∧ (Value.slice a A.length c).ownBlock ≠ some q := fun q hq => ⟨(hu1 q hq).2, fun h => by have := hGW q (r4 q h); have := (hu1 q hq).1; omega⟩
  have hl : (A ++ [R]).length = A.length + 1 := by simp
  refine ⟨vs ++ [u], by rw [hl]; exact hr, by simp [r2], fun j h1 h2 => ?_, fun q hq => (hw q hq).elim (fun h => Or.inl (r4 q h)) (fun h => Or.inr ⟨by simp at h; omega, hr.lt q hq⟩)⟩
  by_cases hj : j < vs.length
  · have hj2 : j < A.length := by omega
    obtain ⟨b1, b2⟩ := r3 j hj hj2
    rw [List.getElem_append_left hj, List.getElem_append_left hj2]
    have hlt : ∀ q, vs[j].ownBlock = some q → q < w5.heap.size := fun q hq => Nat.lt_of_lt_of_le (hGW q (b2 q hq).1) hW
    exact ⟨old b1 fun q hq => ⟨hlt q hq, (b2 q hq).2⟩, fun q hq => ⟨Or.inl (b2 q hq).1, newb q (hlt q hq) (b2 q hq).2⟩⟩
  · have e1 : j = vs.length := by simp at h1; omega
    subst e1
    have g1 : (vs ++ [u])[vs.length] = u := by simp
    have g2 : (A ++ [R])[vs.length] = R := by simp [r2]
    rw [g1, g2]
    exact ⟨old hu hun, fun q hq => ⟨Or.inr ⟨(hu1 q hq).1, by have := (hu1 q hq).2; omega⟩, newb q (hun q hq).1 (hun q hq).2⟩⟩
/-- A new row of the first ones. -/
theorem recG_new {G : Nat → Prop} {W : Nat} {w5 w6 : World} {A : List Bs} {vs : List Value} (r2 : vs.length = A.length)
    (r3 : ∀ j (h1 : j < vs.length) (h2 : j < A.length), Bin w5 vs[j] A[j] ∧ ∀ q, vs[j].ownBlock = some q → G q) (hGW : ∀ q, G q → q < W) (_hW : W ≤ w5.heap.size) {m : Nat} (hm : m ≤ A.length)
    {a' : Option Addr} {c' : Nat} (hr : Row w6 23 1 (.slice a' m c') m (vs.take m)) (hk : ∀ q, q < W → w6.heap[q]? = w5.heap[q]?) (hw : ∀ q, (Value.slice a' m c').ownBlock = some q → W ≤ q) :
    RecG (fun b => G b ∨ (W ≤ b ∧ b < w6.heap.size)) w6 (.slice a' m c') (A.take m) := by
  have hl : (A.take m).length = m := by rw [List.length_take]; omega
  have hlv : (vs.take m).length = m := by rw [List.length_take]; omega
  refine ⟨vs.take m, by rw [hl]; exact hr, by rw [hl, hlv], fun j h1 h2 => ?_, fun q hq => Or.inr ⟨hw q hq, hr.lt q hq⟩⟩
  obtain ⟨b1, b2⟩ := r3 j (by omega) (by omega)
  rw [List.getElem_take, List.getElem_take]
  exact ⟨b1.keep fun q hq _ => hk q (hGW q (b2 q hq)), fun q hq => ⟨Or.inl (b2 q hq), fun h => by have := hw q h; have := hGW q (b2 q hq); omega⟩⟩
theorem RecG.take {G : Nat → Prop} {w : World} {a : Option Addr} {n c : Nat} {A : List Bs} (h : RecG G w (.slice a n c) A) {m : Nat} (hm : m ≤ A.length) : RecG G w (.slice a m c) (A.take m) := by
  obtain ⟨vs, r1, r2, r3, r4⟩ := h
  have hl : (A.take m).length = m := by rw [List.length_take]; omega
  refine ⟨vs.take m, ?_, by rw [hl, List.length_take]; omega, fun j h1 h2 => ?_, fun q hq => r4 q (by cases a <;> exact hq)⟩
  · rw [hl]
    refine ⟨by rw [List.length_take]; omega, ?_⟩
    rcases r1.2 with ⟨e, e0⟩ | ⟨g, cap, cur, e, h1, h2, h3, h4, h5⟩
    · left
      obtain ⟨rfl, rfl, rfl⟩ := Value.slice.inj e
      obtain rfl : m = 0 := by omega
      exact ⟨rfl, rfl⟩
    · right
      obtain ⟨rfl, rfl, rfl⟩ := Value.slice.inj e
      exact ⟨g, c, cur, rfl, h1, by omega, h3, h4, by rw [← h5, List.take_take, Nat.min_eq_left (by omega), Nat.mul_one]⟩
  · have := r3 j (by rw [List.length_take] at h1; omega) (by omega)
    rw [List.getElem_take, List.getElem_take]
    exact ⟨this.1, fun q hq => ⟨(this.2 q hq).1, fun h => (this.2 q hq).2 (by cases a <;> exact h)⟩⟩
theorem index_in (x : Int) (L : Nat) (hL : L ≤ 100) : ∃ m : Nat, m ≤ L ∧ (wrap64 (wrap64 (x.tmod ((L : Int) + 1) + (L : Int)) + 1)).tmod ((L : Int) + 1) = (m : Int) := by
  have h1 : -((L : Int) + 1) < x.tmod ((L : Int) + 1) ∧ x.tmod ((L : Int) + 1) < (L : Int) + 1 := by
    by_cases h : 0 ≤ x
    · rw [Int.tmod_eq_emod_of_nonneg h]
      have := Int.emod_nonneg x (show ((L : Int) + 1) ≠ 0 by omega)
      have := Int.emod_lt_of_pos x (show (0 : Int) < (L : Int) + 1 by omega)
      omega
    · have e : x = -(-x) := by omega
      rw [e, Int.neg_tmod, Int.tmod_eq_emod_of_nonneg (by omega)]
      have := Int.emod_nonneg (-x) (show ((L : Int) + 1) ≠ 0 by omega)
      have := Int.emod_lt_of_pos (-x) (show (0 : Int) < (L : Int) + 1 by omega)
      omega
  obtain ⟨y, hy⟩ : ∃ y, x.tmod ((L : Int) + 1) = y := ⟨_, rfl⟩
  rw [hy] at h1 ⊢
  rw [IntWalk.wrap64_in (y + (L : Int)) (by omega), IntWalk.wrap64_in _ (by omega), Int.tmod_eq_emod_of_nonneg (by omega)]
  have g1 := Int.emod_nonneg (y + (L : Int) + 1) (show ((L : Int) + 1) ≠ 0 by omega)
  have g2 := Int.emod_lt_of_pos (y + (L : Int) + 1) (show (0 : Int) < (L : Int) + 1 by omega)
  exact ⟨((y + (L : Int) + 1) % ((L : Int) + 1)).toNat, by omega, by omega⟩
/-! ### what a row of acts reads as -/
section
open Go.ChangeShapes Go.WideShapes Go.Deep

section
variable {H : Type} {enc : TypeId × Value → H} {w : World} {base : Nat} {held : Bool}
theorem rd_ract {fuel : Nat} {cs : List Value} {x : DataW H × List MemPlace} (h : DataW.trod enc Tryz.prog w base (fun _ => true) held fuel 67 cs = some x) :
    ∃ (a : RAct) (bv tv : Value), cs = [.int .i64 a.what, .int .i64 a.n, bv, tv] ∧ Bin w bv a.b ∧ Lst w tv (a.tails.map intV) ∧ a.Ok := by
  obtain ⟨xs, n, _, _, hl, hlen, hf⟩ := DataW.trod_struct Tryz.underlying67 h
  rw [show Tryz.prog.cellsOf 67 = 4 by kernel_rfl] at hl
  obtain ⟨v0, v1, v2, v3, rfl⟩ := four_of hl
  obtain ⟨y0, y1, y2, y3, rfl⟩ := four_of hlen
  have h0 : DataW.trod enc Tryz.prog w base (fun _ => true) held n 3 (List.take (Tryz.prog.cellsOf 3) [v0, v1, v2, v3]) = some y0 := hf 0 _ rfl
  have h1 : DataW.trod enc Tryz.prog w base (fun _ => true) held n 3 (List.take (Tryz.prog.cellsOf 3) [v1, v2, v3]) = some y1 := hf 1 _ rfl
  have h2 : DataW.trod enc Tryz.prog w base (fun _ => true) held n 23 (List.take (Tryz.prog.cellsOf 23) [v2, v3]) = some y2 := hf 2 _ rfl
  have h3 : DataW.trod enc Tryz.prog w base (fun _ => true) held n 24 (List.take (Tryz.prog.cellsOf 24) [v3]) = some y3 := hf 3 _ rfl
  rw [cells_1.1] at h0 h1
  rw [cells_1.2.2.1] at h2
  rw [cells_1.2.2.2] at h3
  obtain ⟨n0, e0, w0⟩ := rd_int Tryz.underlying3 h0
  obtain ⟨n1, e1, w1⟩ := rd_int Tryz.underlying3 h1
  obtain ⟨bv, l4, e4, b4⟩ := rd_bytes h2
  obtain ⟨tv, l5, e5, b5, r5⟩ := rd_ints h3
  simp at e0 e1 e4 e5
  subst e0 e1 e4 e5
  exact ⟨⟨n0, n1, l4, l5⟩, _, _, rfl, b4, b5, ⟨wf_i64 w0, wf_i64 w1, r5⟩⟩
theorem rd_racts {fuel : Nat} {cs : List Value} {x : DataW H × List MemPlace} (h : DataW.trod enc Tryz.prog w base (fun _ => true) held fuel 65 cs = some x) : ∃ v, ∃ l : List RAct, cs = [v] ∧ RActs w v l := by
  rcases open_slice Tryz.underlying65 h with ⟨rfl, _⟩ | ⟨a, len, cap, m, n, D, Pl, rfl, _, hl, hm, hmm, _, hx⟩
  · exact ⟨_, [], rfl, none, 0, rfl, Nat.le_refl _, fun j hj => by cases hj⟩
  · simp only [if_true] at hmm
    subst hmm
    rw [show Tryz.prog.cellsOf 67 = 4 by kernel_rfl] at hx
    have key : ∀ j, j < len → ∃ y : RAct × Value × Value × Nat × Nat, a = ⟨y.2.2.2.1, y.2.2.2.2, none⟩ ∧ RActAt w y.2.2.2.1 (y.2.2.2.2 + j * 4) y.2.1 y.2.2.1 y.1 := by
      intro j hj
      obtain ⟨cs', hc, ht⟩ := hx j (by omega)
      obtain ⟨p, bv, tv, rfl, hb, ht, hok⟩ := rd_ract ht
      have hcell := (World.cells?_some hc).2.2
      have hp : ∃ b o, a = ⟨b, o, none⟩ := by
        obtain ⟨cs0, hc0, ht0⟩ := hx 0 (by omega)
        obtain ⟨p0, bv0, tv0, rfl, _⟩ := rd_ract ht0
        have := (World.cells?_some hc0).2.2 0 (by omega)
        have e : a.add (0 * 4) = a := by unfold Addr.add; simp
        rw [e] at this
        exact plain_addr this
      obtain ⟨b, o, rfl⟩ := hp
      rw [plain_add] at hcell
      have g : ∀ i, i < 4 → w.cell? ⟨b, o + j * 4 + i, none⟩ = [Value.int IntKind.i64 p.what, Value.int IntKind.i64 p.n, bv, tv][i]? := fun i hi => by
        have := hcell i hi
        rwa [plain_add] at this
      exact ⟨(p, bv, tv, b, o), rfl, g 0 (by omega), g 1 (by omega), g 2 (by omega), g 3 (by omega), hb, ht, hok⟩
    have : Inhabited (RAct × Value × Value × Nat × Nat) := ⟨⟨0, 0, [], []⟩, .nilFunc, .nilFunc, 0, 0⟩
    obtain ⟨f, hf⟩ := choose_lt key
    refine ⟨_, (List.range len).map fun j => (f j).1, rfl, some a, m, by simp, by simp; omega, fun j hj => ?_⟩
    simp only [List.length_map, List.length_range] at hj
    obtain ⟨e, hat⟩ := hf j hj
    refine ⟨_, _, (f j).2.1, (f j).2.2.1, congrArg some e, ?_⟩
    simpa using hat
end
end
end Go.Proofs.YtbckbkcpfejllaaGreatDoor
