/- audit.gather over Ship's closure. The maps of what was handed out. audit.Ship. -/
import Derived.Test.YtdinloecgaapaaaGreatDoorHShip1
import Derived.Test.YtdinloecgaapaaaGreatDoorMHPlain
namespace Go.Proofs.YtdinloecgaapaaaGreatDoor
open Go.RowKit Go.Maps Go.Lib Go.Sort
set_option linter.unusedVariables false
set_option maxRecDepth 100000

set_option maxHeartbeats 2000000 in
theorem gatherS_r (w : World) (p1 p2 p3 p4 p5 p6 p7 base r N b n cb p b2 kc mt nt ml nl ms ns : Nat) (ca : ByteArray) (G : ByteArray → Option (Option Nat)) (S : Nat → Option En) (H : ByteArray → List Hn) (OA : Option Addr) (oc : Nat) (D : Shp) (FT : ByteArray → Option Int) (FL : ByteArray → Option ByteArray) (FS : Nt → Option Bool)
    (hX : Sc w p1 p2 p3 p4 p5 p6 p7 base r N b n cb p b2 kc mt nt ml nl ms ns ca G S H OA oc D FT FL FS) (hD : Sd n kc G S H D FT FL FS) (hO : Rho w w.heap.size OA D.out) :
    Calls Tryz.prog 28 #[.func (.func 39) #[] #[.pointer (some ⟨p1, 0, none⟩), .pointer (some ⟨p2, 0, none⟩), .pointer (some ⟨p3, 0, none⟩), .pointer (some ⟨p4, 0, none⟩), .pointer (some ⟨p5, 0, none⟩), .pointer (some ⟨p6, 0, none⟩), .pointer (some ⟨p7, 0, none⟩)]] w fun e w' =>
      ∃ A c M, e = .returned (.slice A (docS D M).length c) ∧ Srt M ∧ (∀ s, s ∈ M ↔ allB G S H D.out s) ∧ Rs w' w'.heap.size A (docS D M) ∧ Below w.heap.size w w' := by
  have hmf : ∀ (fn : Fn) (first cap : Array Value) (w : World), (Instr.makeFunc fn first cap).run Tryz.prog w = .ok (.func fn first cap) w := fun _ _ _ _ => rfl
  have hb1 := (Below.refl w.heap.size w).alloc (Nat.le_refl _) (.cells #[.slice none 0 0] 22)
  have HB1 := Lib.hid hb1
  have hc1 : (w.alloc (.cells #[.slice none 0 0] 22)).heap[w.heap.size]? = some (.cells #[.slice none 0 0] 22 (0, 0)) := heap_alloc_new w _
  have HR := Lib.hid (ship1_r _ w.heap.size p1 p2 p3 p4 p5 p6 p7 base r N b n cb p b2 kc mt nt ml nl ms ns ca G S H OA oc D FT FL FS (hX.keepU (KpU.below hb1)) hD ((hO.below hb1).more hb1.size) hc1)
  clear hX hD hO hb1 hc1
  go_enter Tryz.func28, Tryz.ntmps28
  go_wp2_with (first
    | (go_at_call 39; refine HR.out.mono ?_; rintro e w2 ⟨rfl, A2, c2, M, hS, hK, hc2, hR2, hk2⟩)
    | go_in)
  have HR2 := Lib.hid hR2
  have HK2 := Lib.hid hk2
  have HS2 := Lib.hid (And.intro hS hK)
  clear hR2 hk2 HR hS hK
  go_wp2
  go_ret
  exact ⟨A2, c2, M, rfl, HS2.out.1, HS2.out.2, HR2.out, HB1.out.trans (HK2.out.below (by simp) (fun k e => by omega))⟩
end Go.Proofs.YtdinloecgaapaaaGreatDoor
namespace Go.Proofs.YtdinloecgaapaaaGreatDoor
open Go.RowKit Go.Maps Go.Lib Go.Sort
set_option linter.unusedVariables false
set_option maxRecDepth 100000

theorem wfI {a : Int} (h1 : -9223372036854775808 ≤ a) (h2 : a ≤ 9223372036854775807) : (Lit.int .i64 a).wf = true := by
  simp only [Lit.wf, Bool.and_eq_true, decide_eq_true_eq]
  exact ⟨h1, h2⟩
/-- how far the maps have come -/
structure Tl (base : Nat) (W0 w : World) (mt ml k : Nat) (L : List Hn) (FT : ByteArray → Option Int) (FL : ByteArray → Option ByteArray) : Prop where
  mt_ : Mp nmC inE w mt k FT
  ml_ : Mp nmC stE w ml k FL
  tlo : base ≤ mt
  llo : base ≤ ml
  ne : mt ≠ ml
  kc : KpC W0 w
  bel : Below base W0 w
  bs : base ≤ w.heap.size
  ft : ∀ s, (FT s).getD 0 = (cntO L s : Int)
  fl : ∀ s, (FL s).getD ⟨#[]⟩ = lastO L s
section
variable {base mt ml k : Nat} {W0 w w' : World} {L : List Hn} {FT : ByteArray → Option Int} {FL : ByteArray → Option ByteArray}
theorem Tl.below (h : Tl base W0 w mt ml k L FT FL) (hb : Below w.heap.size w w') : Tl base W0 w' mt ml k L FT FL :=
  ⟨h.mt_.below hb h.mt_.lt, h.ml_.below hb h.ml_.lt, h.tlo, h.llo, h.ne, h.kc.trans (KpC.below hb), h.bel.trans (hb.mono h.bs), Nat.le_trans h.bs hb.size, h.ft, h.fl⟩
theorem Tl.put (h : Tl base W0 w mt ml k L FT FL) (x : Hn) (hx : x.bx.size ≤ maxLen) (ht : x.tt.size ≤ maxLen) (hk : k ≤ 1000) (hL : L.length ≤ 1000) :
    (Instr.lookup 90 (.map (some mt)) (.string x.bx) false).run Tryz.prog w = .ok (.int .i64 (cntO L x.bx : Nat)) w ∧
    ∃ w1 w2, (Instr.mapUpdate 90 (.map (some mt)) (.string x.bx) (.int .i64 ((cntO L x.bx : Nat) + 1))).run Tryz.prog w = .ok () w1 ∧ (Instr.mapUpdate 91 (.map (some ml)) (.string x.bx) (.string x.tt)).run Tryz.prog w1 = .ok () w2 ∧ KpC w w1 ∧
      Tl base W0 w2 mt ml (k + 1) (L ++ [x]) (putG FT x.bx ((cntO L x.bx : Int) + 1)) (putG FL x.bx x.tt) := by
  have hc := cntO_le L x.bx
  have hlk := h.mt_.look (t := 90) (e := 3) Tryz.underlying90 (z := 0) (zeroI w) (by rfl) (x := x.bx) hx
  rw [h.ft x.bx] at hlk
  refine ⟨hlk, ?_⟩
  obtain ⟨w1, r1, r2, r3⟩ := h.mt_.store (t := 90) (e := 3) Tryz.underlying90 (by unfold maxLen; omega) (x := x.bx) hx (v := (cntO L x.bx : Int) + 1) (wfI (by omega) (by omega))
  have k1 : KpC w w1 := fun q cs t fz hq => (r3.grown.block q (lt_of_some hq) (fun e => by
    obtain ⟨es, ck, hm⟩ := h.mt_.map?
    injection e with e
    subst e
    rw [hq] at hm
    cases hm)).trans hq
  have hl1 : Mp nmC stE w1 ml k FL := h.ml_.kept r3.grown (fun e => h.ne (by injection e with e; exact e.symm))
  obtain ⟨w2, q1, q2, q3⟩ := hl1.store (t := 91) (e := 9) Tryz.underlying91 (by unfold maxLen; omega) (x := x.bx) hx (v := x.tt) trivial
  have k2 : KpC w1 w2 := fun q cs t fz hq => (q3.grown.block q (lt_of_some hq) (fun e => by
    obtain ⟨es, ck, hm⟩ := hl1.map?
    injection e with e
    subst e
    rw [hq] at hm
    cases hm)).trans hq
  refine ⟨w1, w2, r1, q1, k1, ⟨r2.kept q3.grown (fun e => h.ne (by injection e)), q2, h.tlo, h.llo, h.ne, h.kc.trans (k1.trans k2), (h.bel.grown r3.grown h.bs (fun j hj => by cases hj; exact h.tlo)).grown q3.grown (Nat.le_trans h.bs r3.grown.size) (fun j hj => by cases hj; exact h.llo), Nat.le_trans h.bs (Nat.le_trans r3.grown.size q3.grown.size), fun s => ?_, fun s => ?_⟩⟩
  · rw [cntO_snoc]
    by_cases e : s = x.bx
    · subst e
      rw [putG_same, if_pos rfl]
      simp
    · rw [putG_other _ _ e, if_neg (fun e2 => e e2.symm), h.ft s]
      simp
  · rw [lastO_snoc]
    by_cases e : s = x.bx
    · subst e
      rw [putG_same, if_pos rfl]
      rfl
    · rw [putG_other _ _ e, if_neg (fun e2 => e e2.symm), h.fl s]
end
end Go.Proofs.YtdinloecgaapaaaGreatDoor
namespace Go.Proofs.YtdinloecgaapaaaGreatDoor
open Go.RowKit Go.Maps Go.Lib Go.Sort
set_option linter.unusedVariables false
set_option maxRecDepth 100000

def SpP (name : ByteArray) (out : List Hn) (G : ByteArray → Option (Option Nat)) (S : Nat → Option En) (H : ByteArray → List Hn) (w : World) (e : Ending) (w' : World) : Prop :=
  ∃ A c M D, e = .returned (.slice A (docS D M).length c) ∧ Srt M ∧ (∀ s, s ∈ M ↔ allB G S H out s) ∧ D.name = name ∧ D.out = out ∧ D.wh = whoOf H ∧ (∀ q, D.su q = true ↔ surA G S q) ∧ (∀ s, D.lv s = true ↔ anyB G S (livE s)) ∧ Rs w' w'.heap.size A (docS D M) ∧ Below w.heap.size w w'
/-- what is laid ahead of the loop -/
structure Sh0 (w W0 : World) (name : ByteArray) (r p : Nat) (OA : Option Addr) (n9 oc : Nat) (p5 p1 p2 p3 mt ml p4 p6 : Nat) : Prop where
  c5 : W0.heap[p5]? = some (.cells #[.string name] 9 (0, 0))
  c1 : W0.heap[p1]? = some (.cells #[.pointer (some ⟨r, 0, none⟩)] 29 (0, 0))
  c2 : W0.heap[p2]? = some (.cells #[.pointer (some ⟨p, 0, none⟩)] 38 (0, 0))
  c3 : W0.heap[p3]? = some (.cells #[.slice OA n9 oc] 37 (0, 0))
  mt_ : Mp nmC inE W0 mt 0 (fun _ => none)
  ml_ : Mp nmC stE W0 ml 0 (fun _ => none)
  c4 : W0.heap[p4]? = some (.cells #[.map (some mt)] 90 (0, 0))
  c6 : W0.heap[p6]? = some (.cells #[.map (some ml)] 91 (0, 0))
  tlo : w.heap.size ≤ mt
  llo : w.heap.size ≤ ml
  ne : mt ≠ ml
  bel : Below w.heap.size w W0
  sz : W0.heap.size = p6 + 1
theorem alloc_at (w : World) (o : Obj) : Below w.heap.size w (w.alloc o) ∧ (w.alloc o).heap.size = w.heap.size + 1 := ⟨(Below.refl _ _).alloc (Nat.le_refl _) _, by simp⟩
theorem ship0 (w : World) (name : ByteArray) (r p : Nat) (OA : Option Addr) (n9 oc : Nat) : Sh0 w ((((((((w.alloc (.cells #[.string name] 9)).alloc (.cells #[.pointer (some ⟨r, 0, none⟩)] 29)).alloc (.cells #[.pointer (some ⟨p, 0, none⟩)] 38)).alloc (.cells #[.slice OA n9 oc] 37)).alloc (.map #[] 0)).alloc (.map #[] 0)).alloc (.cells #[.map (some (w.heap.size + 1 + 1 + 1 + 1))] 90)).alloc (.cells #[.map (some (w.heap.size + 1 + 1 + 1 + 1 + 1))] 91)) name r p OA n9 oc (w.heap.size) (w.heap.size + 1) (w.heap.size + 1 + 1) (w.heap.size + 1 + 1 + 1) (w.heap.size + 1 + 1 + 1 + 1) (w.heap.size + 1 + 1 + 1 + 1 + 1) (w.heap.size + 1 + 1 + 1 + 1 + 1 + 1) (w.heap.size + 1 + 1 + 1 + 1 + 1 + 1 + 1) := by
  obtain ⟨b0, s0⟩ := alloc_at w (.cells #[.string name] 9)
  have q0 := heap_alloc_new w (.cells #[.string name] 9)
  generalize w.alloc (.cells #[.string name] 9) = V1 at *
  obtain ⟨b1, s1⟩ := alloc_at V1 (.cells #[.pointer (some ⟨r, 0, none⟩)] 29)
  have q1 := heap_alloc_new V1 (.cells #[.pointer (some ⟨r, 0, none⟩)] 29)
  generalize V1.alloc (.cells #[.pointer (some ⟨r, 0, none⟩)] 29) = V2 at *
  rw [s0] at s1 q1
  obtain ⟨b2, s2⟩ := alloc_at V2 (.cells #[.pointer (some ⟨p, 0, none⟩)] 38)
  have q2 := heap_alloc_new V2 (.cells #[.pointer (some ⟨p, 0, none⟩)] 38)
  generalize V2.alloc (.cells #[.pointer (some ⟨p, 0, none⟩)] 38) = V3 at *
  rw [s1] at s2 q2
  obtain ⟨b3, s3⟩ := alloc_at V3 (.cells #[.slice OA n9 oc] 37)
  have q3 := heap_alloc_new V3 (.cells #[.slice OA n9 oc] 37)
  generalize V3.alloc (.cells #[.slice OA n9 oc] 37) = V4 at *
  rw [s2] at s3 q3
  obtain ⟨b4, s4⟩ := alloc_at V4 (.map #[] 0)
  have q4 := Mp.made (C := nmC) (E := inE) V4
  generalize V4.alloc (.map #[] 0) = V5 at *
  rw [s3] at s4 q4
  obtain ⟨b5, s5⟩ := alloc_at V5 (.map #[] 0)
  have q5 := Mp.made (C := nmC) (E := stE) V5
  generalize V5.alloc (.map #[] 0) = V6 at *
  rw [s4] at s5 q5
  obtain ⟨b6, s6⟩ := alloc_at V6 (.cells #[.map (some (w.heap.size + 1 + 1 + 1 + 1))] 90)
  have q6 := heap_alloc_new V6 (.cells #[.map (some (w.heap.size + 1 + 1 + 1 + 1))] 90)
  generalize V6.alloc (.cells #[.map (some (w.heap.size + 1 + 1 + 1 + 1))] 90) = V7 at *
  rw [s5] at s6 q6
  obtain ⟨b7, s7⟩ := alloc_at V7 (.cells #[.map (some (w.heap.size + 1 + 1 + 1 + 1 + 1))] 91)
  have q7 := heap_alloc_new V7 (.cells #[.map (some (w.heap.size + 1 + 1 + 1 + 1 + 1))] 91)
  generalize V7.alloc (.cells #[.map (some (w.heap.size + 1 + 1 + 1 + 1 + 1))] 91) = V8 at *
  rw [s6] at s7 q7
  have m4 : Mp nmC inE V8 (w.heap.size + 1 + 1 + 1 + 1) 0 (fun _ => none) := by
    have h := q4
    replace h := h.below b5 h.lt
    replace h := h.below b6 h.lt
    replace h := h.below b7 h.lt
    exact h
  have m5 : Mp nmC stE V8 (w.heap.size + 1 + 1 + 1 + 1 + 1) 0 (fun _ => none) := by
    have h := q5
    replace h := h.below b6 h.lt
    replace h := h.below b7 h.lt
    exact h
  exact ⟨(keep_of_below b7 (keep_of_below b6 (keep_of_below b5 (keep_of_below b4 (keep_of_below b3 (keep_of_below b2 (keep_of_below b1 q0))))))), (keep_of_below b7 (keep_of_below b6 (keep_of_below b5 (keep_of_below b4 (keep_of_below b3 (keep_of_below b2 q1)))))), (keep_of_below b7 (keep_of_below b6 (keep_of_below b5 (keep_of_below b4 (keep_of_below b3 q2))))), (keep_of_below b7 (keep_of_below b6 (keep_of_below b5 (keep_of_below b4 q3)))), m4, m5, (keep_of_below b7 q6), q7, by omega, by omega, by omega, (((((((b0).trans (b1.mono (by omega))).trans (b2.mono (by omega))).trans (b3.mono (by omega))).trans (b4.mono (by omega))).trans (b5.mono (by omega))).trans (b6.mono (by omega))).trans (b7.mono (by omega)), by omega⟩

set_option maxHeartbeats 4000000 in
theorem ship_r (name : ByteArray) (base r N b n : Nat) (ca : ByteArray) (G : ByteArray → Option (Option Nat)) (S : Nat → Option En) (cb p b2 kc : Nat) (H : ByteArray → List Hn) (OA : Option Addr) (oc : Nat) (out : List Hn) (w : World) (hR : RgS w base r ca N b n G S) (hn : n ≤ 100) (hC : ChS w cb p b2 kc H) (hkc : kc ≤ 1000) (hO : Rho w w.heap.size OA out) (hol : out.length ≤ 1000)
    (hos : ∀ h ∈ out, h.bx.size ≤ 100000000 ∧ h.tt.size ≤ 100000000) (hnm : name.size ≤ 100000000) :
    Calls Tryz.prog 17 #[.string name, .pointer (some ⟨r, 0, none⟩), .pointer (some ⟨p, 0, none⟩), .slice OA out.length oc] w fun e w' => SpP name out G S H w e w' := by
  have hmm := @run_makeMap Tryz.prog
  have hmf : ∀ (fn : Fn) (first cap : Array Value) (w : World), (Instr.makeFunc fn first cap).run Tryz.prog w = .ok (.func fn first cap) w := fun _ _ _ _ => rfl
  have HR := Lib.hid hR
  have HC := Lib.hid hC
  have HO := Lib.hid hO
  have HOs := Lib.hid hos
  generalize hCP : SpP name out G S H w = CP
  have HF : Hid (∀ A c M D w', Srt M → (∀ s, s ∈ M ↔ allB G S H out s) → D.name = name → D.out = out → D.wh = whoOf H → (∀ q, D.su q = true ↔ surA G S q) → (∀ s, D.lv s = true ↔ anyB G S (livE s)) → Rs w' w'.heap.size A (docS D M) → Below w.heap.size w w' → CP (.returned (.slice A (docS D M).length c)) w') := Lib.hid fun A c M D w' h1 h2 h3 h4 h5 h6 h7 h8 h9 => by rw [← hCP]; exact ⟨A, c, M, D, rfl, h1, h2, h3, h4, h5, h6, h7, h8, h9⟩
  clear hCP hR hC hO hos
  have H0' := ship0 w name r p OA out.length oc
  go_enter Tryz.func17, Tryz.ntmps17
  go_wp2_with fail
  generalize ((((((((w.alloc (.cells #[.string name] 9)).alloc (.cells #[.pointer (some ⟨r, 0, none⟩)] 29)).alloc (.cells #[.pointer (some ⟨p, 0, none⟩)] 38)).alloc (.cells #[.slice OA out.length oc] 37)).alloc (.map #[] 0)).alloc (.map #[] 0)).alloc (.cells #[.map (some (w.heap.size + 1 + 1 + 1 + 1))] 90)).alloc (.cells #[.map (some (w.heap.size + 1 + 1 + 1 + 1 + 1))] 91)) = W0 at *
  generalize w.heap.size + 1 + 1 + 1 + 1 + 1 + 1 + 1 = p6 at *
  generalize w.heap.size + 1 + 1 + 1 + 1 + 1 + 1 = p4 at *
  generalize w.heap.size + 1 + 1 + 1 + 1 + 1 = ml at *
  generalize w.heap.size + 1 + 1 + 1 + 1 = mt at *
  generalize w.heap.size + 1 + 1 + 1 = p3 at *
  generalize w.heap.size + 1 + 1 = p2 at *
  generalize w.heap.size + 1 = p1 at *
  have H0 := Lib.hid H0'
  have HT0 : Hid (Tl w.heap.size W0 W0 mt ml 0 [] (fun _ => none) (fun _ => none)) := Lib.hid ⟨H0'.mt_, H0'.ml_, H0'.tlo, H0'.llo, H0'.ne, KpC.refl _, ⟨rfl, rfl, rfl, Nat.le_refl _, fun _ _ => rfl⟩, H0'.bel.size, fun _ => rfl, fun _ => rfl⟩
  clear H0' hmm
  go_loopw [18] (fun i wr => ∃ (k : Nat) (FT : ByteArray → Option Int) (FL : ByteArray → Option ByteArray), k ≤ out.length ∧ i = .int .i64 (k : Int) ∧ Hid (Tl w.heap.size W0 wr mt ml k (out.take k) FT FL)) (fun i _ => out.length - (RowKit.intOf i).toNat)
  case atStart => exact ⟨0, _, _, Nat.zero_le _, rfl, HT0⟩
  case round =>
    clear HT0
    obtain ⟨k, FT, FL, hk, rfl, HT⟩ := hrel
    by_cases hlt : k < out.length
    · have hlt' : (k : Int) < (out.length : Int) := by omega
      have hbw : Below w.heap.size w wr := H0.out.bel.trans HT.out.bel
      obtain ⟨g, off, rfl, hg, hr⟩ := (HO.out.below hbw).at_ hlt
      have HSt := Lib.hid (show out.take (k + 1) = out.take k ++ [out[k]] from List.take_succ_eq_append_getElem hlt)
      obtain ⟨hz1, hz2⟩ := HOs.out _ (List.getElem_mem hlt)
      have hcl := Nat.le_trans (cntO_le (out.take k) out[k].bx) (by rw [List.length_take]; exact Nat.min_le_left _ _)
      have hln : (out.take k).length ≤ 1000 := by rw [List.length_take]; omega
      clear hbw
      generalize out[k] = x at *
      obtain ⟨hb5, hz5⟩ := laid_below wr znA (hnA x) 41
      have hm := heap_alloc_new wr (.cells znA 41)
      obtain ⟨W1, hW1⟩ : ∃ W1, W1 = wr.alloc (.cells znA 41) := ⟨_, rfl⟩
      rw [← hW1] at hb5 hz5 hm
      have l0 := laid_act W1 wr.heap.size znA (hnA x) _ _ hm
      have HM := Lib.hid hm
      obtain ⟨W2, hW2⟩ : ∃ W2, W2 = W1.setRow wr.heap.size (hnA x) := ⟨_, rfl⟩
      rw [← hW2] at hb5 hz5 l0
      have HT2 := Lib.hid (HT.out.below hb5)
      obtain ⟨hlk, w3, w4, r3, r4, k3, hT4⟩ := HT2.out.put x (by unfold maxLen; omega) (by unfold maxLen; omega) (by omega) hln
      have HT4 := Lib.hid hT4
      have d0 : W2.cell? ⟨wr.heap.size, 0, none⟩ = some (.string x.bx) := cell_of l0 0
      have a4 : W2.cell? ⟨p4, 0, none⟩ = some (.map (some mt)) := cell_of (HT2.out.kc _ _ _ _ H0.out.c4) 0
      have l3 := k3 _ _ _ _ l0
      have e0 : w3.cell? ⟨wr.heap.size, 0, none⟩ = some (.string x.bx) := cell_of l3 0
      have e2 : w3.cell? ⟨wr.heap.size, 2, none⟩ = some (.string x.tt) := cell_of l3 2
      have a6 : w3.cell? ⟨p6, 0, none⟩ = some (.map (some ml)) := cell_of (k3 _ _ _ _ (HT2.out.kc _ _ _ _ H0.out.c6)) 0
      have HR' := Lib.hid hr
      have HOn := Lib.hid (hnA_one x)
      have HIb := Lib.hid (show (Tryz.prog.info? 41).map (·.size) = some (hnA x).toList.length from infoHn)
      have HIs := Lib.hid (show (Tryz.prog.info? 41).map (·.size) = some (hnA x).size from infoHn)
      have HSz := Lib.hid (show znA.size = (hnA x).size from rfl)
      clear hr hm l0 l3 hb5 hz5 hT4 k3 HT HT2 hln
      unfold znA at hW1
      generalize hV : hnA x = V at *
      clear hV
      generalize cntO (List.take k out) x.bx = cn at *
      have hwc : IntKind.i64.wrap ((cn : Int) + 1) = (cn : Int) + 1 := IntWalk.i64_in _ (by omega)
      go_wp2_with (first
        | (have _t := hW1; clear _t; refine wpList_load_mid rfl 41 (.tmp 20) rfl g (off + k * 5) rfl V.toList _ HR'.out Tryz.underlying41 rfl HIb.out ?_)
        | (rw [← hW1]; clear hW1; refine wpList_store_row rfl 41 (.tmp 12) (.tmp 21) rfl wr.heap.size V rfl rfl 41 _ HM.out HIs.out HSz.out HOn.out ?_; rw [← hW2]; clear hW2)
        | fail)
      exact ⟨⟨k + 1, _, _, by omega, by go_num, Lib.hid (by rw [HSt.out]; exact HT4.out)⟩, by simp [RowKit.intOf]; omega⟩
    · have hlt' : ¬ (k : Int) < (out.length : Int) := by omega
      have hke : out.take k = out := List.take_of_length_le (by omega)
      rw [hke] at HT
      have HB := Lib.hid (show Below w.heap.size w wr from H0.out.bel.trans HT.out.bel)
      have a1 : wr.cell? ⟨p1, 0, none⟩ = some (.pointer (some ⟨r, 0, none⟩)) := cell_of (HT.out.kc _ _ _ _ H0.out.c1) 0
      have HSu := Lib.hid (surrendered_r base r N b n ca G S wr (HR.out.below HB.out) (by omega))
      go_wp2_with fail
      refine HSu.out.mono ?_
      rintro e w5 ⟨F, rfl, hmp, hiff, htr, hb5⟩
      have hal := alloc_at w5 (.cells #[.map (some wr.heap.size)] 92)
      have hc7 := heap_alloc_new w5 (.cells #[.map (some wr.heap.size)] 92)
      have hb57 := hb5.trans (hal.1.mono hb5.size)
      have HT7 := HT.out.below hb57
      have hX : Sc (w5.alloc (.cells #[.map (some wr.heap.size)] 92)) p1 p2 p3 p4 w.heap.size p6 w5.heap.size base r N b n cb p b2 kc mt k ml k wr.heap.size (192 * n) ca G S H OA oc ⟨name, out, whoOf H, fun q => (F q).getD false, fun s => @decide (anyB G S (livE s)) (Classical.propDecidable _)⟩ FT FL F :=
        ⟨HT7.kc _ _ _ _ H0.out.c1, HT7.kc _ _ _ _ H0.out.c2, HT7.kc _ _ _ _ H0.out.c3, HT7.kc _ _ _ _ H0.out.c4, HT7.kc _ _ _ _ H0.out.c5, HT7.kc _ _ _ _ H0.out.c6, hc7, HT7.mt_, HT7.ml_, hmp.below hal.1 hmp.lt, HR.out.below (HB.out.trans (hb57.mono HB.out.size)), HC.out.below (HB.out.trans (hb57.mono HB.out.size))⟩
      have hD : Sd n kc G S H ⟨name, out, whoOf H, fun q => (F q).getD false, fun s => @decide (anyB G S (livE s)) (Classical.propDecidable _)⟩ FT FL F :=
        ⟨hn, hkc, hol, hnm, fun h hh => (HOs.out h hh).1, fun h hh => (HOs.out h hh).2, HT7.ft, HT7.fl, fun _ => rfl, rfl, fun s => @decide_eq_true_iff _ (Classical.propDecidable _)⟩
      have hsu : ∀ q, (F q).getD false = true ↔ surA G S q := fun q => by
        rw [← hiff q]
        constructor
        · intro h
          cases hF : F q with
          | none => rw [hF] at h; cases h
          | some v => rfl
        · intro h
          rw [htr q h]
          rfl
      have hOx := (HO.out.below (HB.out.trans (hb57.mono HB.out.size))).more (HB.out.trans (hb57.mono HB.out.size)).size
      have HG := Lib.hid (gatherS_r _ p1 p2 p3 p4 w.heap.size p6 w5.heap.size base r N b n cb p b2 kc mt k ml k wr.heap.size (192 * n) ca G S H OA oc _ FT FL F hX hD hOx)
      have HBx := Lib.hid (HB.out.trans (hb57.mono HB.out.size))
      have Hsu := Lib.hid hsu
      clear hmp hiff htr hb5 hal hc7 hb57 HT7 hX hD hsu hOx HSu a1 HT HB H0 HR HC HO HOs hke
      go_wp2_with (first
        | (go_at_call 28; refine HG.out.mono ?_; rintro e w8 ⟨A, c, M, rfl, h1, h2, h3, h4⟩; have HF2 := Lib.hid (HF.out A c M _ w8 h1 h2 rfl rfl rfl Hsu.out (fun s => @decide_eq_true_iff _ (Classical.propDecidable _)) h3 (HBx.out.trans (h4.mono HBx.out.size))); clear h1 h2 h3 h4)
        | fail)
      first
        | exact HF2.out
        | (go_ret; exact HF2.out)
end Go.Proofs.YtdinloecgaapaaaGreatDoor
