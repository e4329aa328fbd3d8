/- Register.Box, Register.Bills: over Register.numbers. Register.Get, Register.State. -/
import Derived.Test.YtdinloecgaapaaaGreatDoorMRKeys
import Derived.Test.YtdinloecgaapaaaGreatDoorMRMark
import Derived.Deep.MidRow
namespace Go.Proofs.YtdinloecgaapaaaGreatDoor
open Go.RowKit Go.Maps Go.Lib Go.Sort
set_option linter.unusedVariables false
set_option maxRecDepth 100000

theorem contains_r (A : Option Addr) (c : Nat) (L : List ByteArray) (s : ByteArray) (w : World) (hR : Rs w w.heap.size A L) (hl : L.length ≤ 100000) :
    Calls Tryz.prog 69 #[.slice A L.length c, .string s] w fun e w' => e = .returned (.bool (containsS L s)) ∧ w' = w := by
  by_cases h0 : L.length = 0
  · have hL : L = [] := List.length_eq_zero_iff.1 h0
    subst hL
    exact Tryz.slices_Contains_string_empty A c s w
  · obtain ⟨g, off, rfl, hg, hc⟩ := hR (by omega)
    have h := Tryz.slices_Contains_string g off L.length c L s w (Nat.le_refl _) (by omega) (fun j hj => by
      rw [hc j _ (List.getElem?_eq_getElem hj)]
      simp [List.getD, List.getElem?_eq_getElem hj])
    rw [List.take_length] at h
    exact h
/-- does a box stand in an entry's live bill? -/
def livE (s : ByteArray) (x : En) : Bool := (x.s == 0) && containsS x.l s
set_option maxHeartbeats 4000000 in
theorem box1_r (base e q : Nat) (x : En) (s : ByteArray) (w : World) (hE : EnAt w base e x) (hl : x.l.length ≤ 64) (hq : w.cell? ⟨q, 0, none⟩ = some (.string s)) :
    Calls Tryz.prog 68 #[.pointer (some ⟨e, 0, none⟩), .pointer (some ⟨q, 0, none⟩)] w fun en w' => en = .returned (.bool (livE s x)) ∧ Below w.heap.size w w' := by
  have e5 : w.cell? ⟨e, 5, none⟩ = some (.slice x.A x.l.length x.c) := hE.cell 5
  have e9 : w.cell? ⟨e, 9, none⟩ = some (.int .i64 x.s) := hE.cell 9
  have hD : ∀ m, Calls Tryz.prog 69 #[.slice x.A x.l.length x.c, .string s] (w.drewN m) fun e w' => e = .returned (.bool (containsS x.l s)) ∧ w' = w.drewN m := fun m => contains_r x.A x.c x.l s (w.drewN m) (hE.box.rs) (by omega)
  have HD := Lib.hid hD
  have HL : Hid (livE s x = ((x.s == 0) && containsS x.l s)) := Lib.hid rfl
  generalize livE s x = r at *
  clear hE hD hl
  generalize containsS x.l s = cb at *
  generalize x.s = st at *
  generalize x.A = A at *
  generalize x.l.length = n at *
  generalize x.c = c at *
  by_cases h0 : st = 0
  · subst h0
    go_enter Tryz.func68, Tryz.ntmps68
    go_wp2_with fail
    go_quiet ((exact quiet_sameR (HD.out _)))
    go_wp2_with fail
    go_ret
    exact ⟨by rw [HL.out]; simp, below_drewR (Below.refl _ _) nq⟩
  · have hb : (st == 0) = false := by simpa using h0
    have hd : decide (st = 0) = false := by simpa using h0
    go_enter Tryz.func68, Tryz.ntmps68
    go_wp2_with fail
    go_quiet (fail)
    go_wp2_with fail
    go_ret
    exact ⟨by rw [HL.out, hb]; simp, below_drewR (Below.refl _ _) nq⟩
theorem bills1_r (e : Nat) (w : World) : Calls Tryz.prog 57 #[.pointer (some ⟨e, 0, none⟩)] w fun en w' => en = .returned (.bool true) ∧ Below w.heap.size w w' := by
  go_enter Tryz.func57, Tryz.ntmps57
  go_wp2
  go_ret
  exact ⟨rfl, Below.refl _ _⟩
/-- Register.Bills -/
theorem bills_r (base r N b n : Nat) (ca : ByteArray) (G : ByteArray → Option (Option Nat)) (S : Nat → Option En) (w : World) (hR : RgS w base r ca N b n G S) (hn : n ≤ 10000) :
    Calls Tryz.prog 23 #[.pointer (some ⟨r, 0, none⟩)] w fun e w' => NumP G S (fun _ => true) n w e w' := by
  have HX := Lib.hid (numbers_r base r N b n ca G S (fun _ => true) 57 #[] w hR hn (enters_of Tryz.func57 (by kernel_rfl) rfl) (fun e x _ W _ => bills1_r e W))
  clear hR
  go_enter Tryz.func23, Tryz.ntmps23
  go_wp2_with (first
    | (go_at_call 56; refine HX.out.mono ?_; rintro e w' ⟨A', c', L, rfl, h1, h2, h3, h4⟩; have HF : Hid (NumP G S (fun _ => true) n w (.returned (.slice A' L.length c')) w') := Lib.hid ⟨A', c', L, rfl, h1, h2, h3, h4⟩; clear h1 h2 h3 h4)
    | fail)
  go_ret
  exact HF.out
/-- is any entry told? -/
def anyB (G : ByteArray → Option (Option Nat)) (S : Nat → Option En) (p : En → Bool) : Prop := ∃ k, toldB G S p k = true
def BxP (G : ByteArray → Option (Option Nat)) (S : Nat → Option En) (s : ByteArray) (w : World) (e : Ending) (w' : World) : Prop := ∃ (t : ByteArray) (ok : Bool), e = .returned (.tuple #[.string t, .bool ok]) ∧ (ok = true ↔ anyB G S (livE s)) ∧ Below w.heap.size w w'
set_option maxHeartbeats 4000000 in
/-- Register.Box -/
theorem box_r (base r N b n : Nat) (ca : ByteArray) (G : ByteArray → Option (Option Nat)) (S : Nat → Option En) (s : ByteArray) (w : World) (hR : RgS w base r ca N b n G S) (hn : n ≤ 10000) :
    Calls Tryz.prog 41 #[.pointer (some ⟨r, 0, none⟩), .string s] w fun e w' => BxP G S s w e w' := by
  have hb1 : Below w.heap.size w (w.alloc (.cells #[.string s] 9)) := (Below.refl _ _).alloc (Nat.le_refl _) _
  have hq : (w.alloc (.cells #[.string s] 9)).cell? ⟨w.heap.size, 0, none⟩ = some (.string s) := by simp
  have hR1 := hR.below hb1
  have hz : (w.alloc (.cells #[.string s] 9)).heap.size = w.heap.size + 1 := by simp
  have HX := Lib.hid (numbers_r base r N b n ca G S (livE s) 68 #[.pointer (some ⟨w.heap.size, 0, none⟩)] _ hR1 hn (enters_of Tryz.func68 (by kernel_rfl) rfl) (fun e x hx W hb => box1_r base e w.heap.size x s W ((hR1.at_ e x hx).below hb) (hR1.fit e x hx).l ((hb.cell (p := ⟨w.heap.size, 0, none⟩) (by show w.heap.size < _; omega)).trans hq)))
  have HB1 := Lib.hid hb1
  have HNo : Hid (∀ W, Below w.heap.size w W → ¬ anyB G S (livE s) → BxP G S s w (.returned (.tuple #[.string ⟨#[]⟩, .bool false])) W) := Lib.hid (fun W hb h => ⟨_, false, rfl, ⟨fun h => (by cases h), fun h2 => absurd h2 h⟩, hb⟩)
  have HYes : Hid (∀ W t, Below w.heap.size w W → anyB G S (livE s) → BxP G S s w (.returned (.tuple #[.string t, .bool true])) W) := Lib.hid (fun W t hb h => ⟨t, true, rfl, ⟨fun _ => h, fun _ => rfl⟩, hb⟩)
  generalize BxP G S s w = CP at *
  clear hR hR1 hb1
  go_enter Tryz.func41, Tryz.ntmps41
  go_wp2_with fail
  refine HX.out.mono ?_
  rintro e w2 ⟨A', c', L, rfl, hs, hm, hlen, hb⟩
  have HB := Lib.hid (HB1.out.trans (hb.mono (by omega)))
  by_cases h0 : L.length = 0
  · have hno : ¬ anyB G S (livE s) := by
      rintro ⟨k, hk⟩
      have := (hm k).2 hk
      rw [List.length_eq_zero_iff.1 h0] at this
      cases this
    have HF := Lib.hid (HNo.out w2 HB.out hno)
    rw [h0]
    clear hs hm hb HX HYes HNo hno
    go_wp2_with fail
    first
      | exact HF.out
      | (go_ret; exact HF.out)
      | (refine bodyPost_ret (results_two rfl rfl) rfl ?_; exact HF.out)
  · have hany : anyB G S (livE s) := by
      have : L[0]'(by omega) ∈ L := List.getElem_mem _
      exact ⟨_, (hm _).1 this⟩
    obtain ⟨g, off, rfl, hg, hc⟩ := hs.rs (by omega)
    have c0 := hc 0 _ (List.getElem?_eq_getElem (by omega))
    rw [Nat.add_zero] at c0
    have HF := Lib.hid (fun t => HYes.out w2 t HB.out hany)
    have b0 : ¬ (L.length : Int) = 0 := by omega
    have b1 : (0 : Int) < (L.length : Int) := by omega
    generalize L[0] = t at *
    generalize L.length = ln at *
    clear hm hb HX HYes HNo hany hc
    go_wp2_with fail
    first
      | exact HF.out _
      | (go_ret; exact HF.out _)
end Go.Proofs.YtdinloecgaapaaaGreatDoor
namespace Go.Proofs.YtdinloecgaapaaaGreatDoor
open Go.RowKit Go.Maps Go.Lib Go.Sort
set_option linter.unusedVariables false
set_option maxRecDepth 100000

theorem zeroPt (W : World) : (zeroValue 124).run Tryz.prog W = .ok (ptE.mk none) W := by kernel_rfl
theorem RgS.look {w : World} {base r N b n : Nat} {ca : ByteArray} {G : ByteArray → Option (Option Nat)} {S : Nat → Option En} (h : RgS w base r ca N b n G S) {k : ByteArray} (hk : k.size ≤ maxLen) :
    (Instr.lookup 113 (.map (some b)) (.string k) false).run Tryz.prog w = .ok (ptV ((G k).getD none)) w :=
  h.map.look (t := 113) (e := 124) Tryz.underlying113 (z := none) (zeroPt w) trivial (x := k) hk
theorem results_row_tmp {P : Program} {fn : Func} {p u : Tmp} {ty : TypeId} (h : fn.results = #[.cell p ty, .tmp u]) (tmps : Array Value) (w : World) (g : Nat) (t : TypeId) (cs : Array Value) (fr : Nat × Nat) (d : TypeDesc)
    (hp : tmps.getD p undef = .pointer (some ⟨g, 0, none⟩)) (hg : w.heap[g]? = some (.cells cs t fr))
    (hu : P.underlying ty = some d) (hd : (match d with | .struct _ | .array _ _ => true | _ => false) = true) (hi : (P.info? ty).map (·.size) = some cs.size) :
    (results fn tmps).run P w = .ok (.tuple #[.agg cs, tmps.getD u undef]) w := by
  have hp' : tmps[p]?.getD undef = .pointer (some ⟨g, 0, none⟩) := by simpa using hp
  simp [results, h, hp', asAddr, run_loadVar_row w g t ty cs fr d hg hu hd hi]
theorem EnAt.bill {w : World} {base e : Nat} {x : En} (h : EnAt w base e x) : w.rangeAt e 0 (blA x).toList := fun j v hv => by
  have hj : j < 9 := by have := (List.getElem?_eq_some_iff.1 hv).1; simpa [blA] using this
  rw [Nat.zero_add, h.cell j, ← hv]
  match j, hj with
  | 0, _ => rfl
  | 1, _ => rfl
  | 2, _ => rfl
  | 3, _ => rfl
  | 4, _ => rfl
  | 5, _ => rfl
  | 6, _ => rfl
  | 7, _ => rfl
  | 8, _ => rfl
def GtP (x : En) (w : World) (e : Ending) (w' : World) : Prop := ∃ A' c' PA' pc', e = .returned (.tuple #[.agg (blA (x.with A' c' PA' pc')), .bool true]) ∧ Sr w' A' x.l ∧ Below w.heap.size w w'
set_option maxHeartbeats 4000000 in
theorem get_r (base r N b n e : Nat) (ca k : ByteArray) (x : En) (G : ByteArray → Option (Option Nat)) (S : Nat → Option En) (w : World) (hR : RgS w base r ca N b n G S) (hG : G k = some (some e)) (hS : S e = some x) :
    Calls Tryz.prog 24 #[.pointer (some ⟨r, 0, none⟩), .string k] w fun e w' => GtP x w e w' := by
  have hb1 : Below w.heap.size w (w.alloc (.cells zbl 59)) := (Below.refl _ _).alloc (Nat.le_refl _) _
  have hz1 : (w.alloc (.cells zbl 59)).heap.size = w.heap.size + 1 := by simp
  have k0 : (w.alloc (.cells zbl 59)).heap[w.heap.size]? = some (.cells zbl 59 (0, 0)) := heap_alloc_new _ _
  have hR1 := hR.below hb1
  obtain ⟨hk16, _⟩ := hR.ent k _ hG
  obtain ⟨W0, hW0⟩ : ∃ W0, W0 = w.alloc (.cells zbl 59) := ⟨_, rfl⟩
  rw [← hW0] at hb1 hz1 k0 hR1
  obtain ⟨_, c1⟩ := hR1.cell
  have hlk := hR1.look (k := k) (by unfold maxLen; omega)
  rw [hG] at hlk
  have hlk' : (Instr.lookup 113 (.map (some b)) (.string k) false).run Tryz.prog W0 = .ok (.pointer (some ⟨e, 0, none⟩)) W0 := hlk
  have hE := hR1.at_ e x hS
  have hF := hR1.fit e x hS
  have HBl := Lib.hid hE.bill
  have HC := Lib.hid (copyBill_r x W0 hE.box.rs hE.par.rs (by have := hF.l; omega) (by have := hF.p; omega))
  have HK := Lib.hid k0
  have HB := Lib.hid hb1
  have hIb : (Tryz.prog.info? 59).map (·.size) = some (blA x).toList.length := infoBill
  have HI := Lib.hid hIb
  generalize hCP : GtP x w = CP
  clear hR hR1 hE hF hlk hIb hb1 k0
  unfold zbl at hW0
  rw [hW0] at c1 hlk'
  go_enter Tryz.func24, Tryz.ntmps24
  go_wp2_with (first
    | (rw [← hW0]; clear hW0; refine wpList_load_mid rfl 59 (.tmp 18) rfl e 0 rfl (blA x).toList _ HBl.out Tryz.underlying59 rfl HI.out ?_)
    | fail)
  clear HBl HI c1 hlk'
  refine HC.out.mono ?_
  rintro e2 w2 ⟨A1, c1, PA1, pc1, rfl, hs1, hs2, hb2⟩
  have m0 := keep_of_below hb2 HK.out
  have hfin : (w2.setRow w.heap.size (blA (x.with A1 c1 PA1 pc1))).heap[w.heap.size]? = some (.cells (blA (x.with A1 c1 PA1 pc1)) 59 (0, 0)) ∧ CP (.returned (.tuple #[.agg (blA (x.with A1 c1 PA1 pc1)), .bool true])) (w2.setRow w.heap.size (blA (x.with A1 c1 PA1 pc1))) := by
    refine ⟨by simp [World.setRow, Array.getElem?_modify, m0], ?_⟩
    rw [← hCP]
    have hb3 : Below w.heap.size w w2 := HB.out.trans (hb2.mono (by omega))
    exact ⟨A1, c1, PA1, pc1, rfl, hs1.keep fun g cs hg => (setRow_other _ _ _ _ (by
      rintro rfl
      rw [m0] at hg
      injection hg with hg
      injection hg with _ h2 _
      exact absurd h2 (by decide))).trans hg, hb3.os, hb3.tape, hb3.output, by simpa [World.setRow] using hb3.size, fun k hk => (setRow_other _ _ _ _ (by omega)).trans (hb3.block k hk)⟩
  have HF := Lib.hid hfin
  have HM := Lib.hid m0
  have HO := Lib.hid (blA_one (x.with A1 c1 PA1 pc1))
  have hIb : (Tryz.prog.info? 59).map (·.size) = some (blA (x.with A1 c1 PA1 pc1)).size := infoBill
  have HI := Lib.hid hIb
  have hSz : zbl.size = (blA (x.with A1 c1 PA1 pc1)).size := rfl
  have HSz := Lib.hid hSz
  clear hfin m0 hIb hSz hs1 hs2 hb2 hCP HC HK HB
  generalize blA (x.with A1 c1 PA1 pc1) = V at *
  go_wp2_with (first
    | (refine wpList_store_row rfl 59 (.tmp 4) (.tmp 20) rfl w.heap.size V rfl rfl 59 _ HM.out HI.out HSz.out HO.out ?_)
    | fail)
  refine bodyPost_ret (results_row_tmp rfl _ _ w.heap.size 59 V (0, 0) _ rfl HF.out.1 Tryz.underlying59 rfl HI.out) rfl ?_
  exact HF.out.2
def StP (s : Int) (w : World) (e : Ending) (w' : World) : Prop := e = .returned (.int .i64 s) ∧ w' = w
/-- Register.State -/
theorem state_r (base r N b n e : Nat) (ca k : ByteArray) (x : En) (G : ByteArray → Option (Option Nat)) (S : Nat → Option En) (w : World) (hR : RgS w base r ca N b n G S) (hG : G k = some (some e)) (hS : S e = some x) :
    Calls Tryz.prog 25 #[.pointer (some ⟨r, 0, none⟩), .string k] w fun e w' => e = .returned (.int .i64 x.s) ∧ w' = w := by
  obtain ⟨_, c1⟩ := hR.cell
  obtain ⟨hk16, _⟩ := hR.ent k _ hG
  have hlk := hR.look (k := k) (by unfold maxLen; omega)
  rw [hG] at hlk
  have hlk' : (Instr.lookup 113 (.map (some b)) (.string k) false).run Tryz.prog w = .ok (.pointer (some ⟨e, 0, none⟩)) w := hlk
  have e9 : w.cell? ⟨e, 9, none⟩ = some (.int .i64 x.s) := (hR.at_ e x hS).cell 9
  clear hR hlk
  generalize x.s = st at *
  go_enter Tryz.func25, Tryz.ntmps25
  go_wp2_with fail
  go_ret
  exact ⟨rfl, rfl⟩
end Go.Proofs.YtdinloecgaapaaaGreatDoor
