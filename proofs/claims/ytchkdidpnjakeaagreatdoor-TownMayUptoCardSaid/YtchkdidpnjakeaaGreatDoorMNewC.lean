/- carrier.New: a carrier comes back. -/
import Derived.Test.YtchkdidpnjakeaaGreatDoorMNewT
import Derived.Test.YtchkdidpnjakeaaGreatDoorGMClone
import Derived.Deep.RegionLaw
namespace Go.Proofs.YtchkdidpnjakeaaGreatDoor
open Go.RowKit Go.Maps Go.Lib Led
set_option linter.unusedVariables false
set_option maxRecDepth 100000

theorem regNew_w (s : ByteArray) (w : World) : Calls Tryz.prog 144 #[.string s] w fun e w' => NwQ w e w' := by
  have hmm := @run_makeMap Tryz.prog
  have HX : Hid (∀ o1 o2, NwQ w (.returned (.pointer (some ⟨w.heap.size + 1, 0, none⟩))) ((w.alloc o1).alloc o2)) := Lib.hid fun o1 o2 => ⟨_, rfl, ((Below.refl _ _).alloc (Nat.le_refl _) _).alloc (by simp) _⟩
  generalize NwQ w = CP at *
  go_enter Tryz.func144, Tryz.ntmps144
  go_wp2_with fail
  first
    | exact HX.out _ _
    | (go_ret; exact HX.out _ _)
theorem cusNew_w (w : World) : Calls Tryz.prog 145 #[] w fun e w' => NwQ w e w' := by
  have hmm := @run_makeMap Tryz.prog
  have HX : Hid (∀ o1 o2, NwQ w (.returned (.pointer (some ⟨w.heap.size + 1, 0, none⟩))) ((w.alloc o1).alloc o2)) := Lib.hid fun o1 o2 => ⟨_, rfl, ((Below.refl _ _).alloc (Nat.le_refl _) _).alloc (by simp) _⟩
  generalize NwQ w = CP at *
  go_enter Tryz.func145, Tryz.ntmps145
  go_wp2_with fail
  first
    | exact HX.out _ _
    | (go_ret; exact HX.out _ _)
/-- a carrier in block b -/
structure CaI (w wr : World) (b pm dm np nd : Nat) : Prop where
  bw : Below w.heap.size w wr
  par : ∃ F : ByteArray → Option Bool, Mp curC yesE wr pm np F
  dls : ∃ F : ByteArray → Option (Option Nat), Mp curC ptE wr dm nd F
  lo : w.heap.size ≤ pm ∧ w.heap.size ≤ dm ∧ pm ≠ dm
  blk : ∃ (x : ByteArray) (p q : Nat), wr.heap[b]? = some (.cells #[.string x, .map (some pm), .map (some dm), .pointer (some ⟨p, 0, none⟩), .pointer (some ⟨q, 0, none⟩), .slice none 0 0] 211 (0, 0))
section
variable {w wr X : World} {b pm dm np nd : Nat}
theorem CaI.cells (h : CaI w wr b pm dm np nd) : wr.cell? ⟨b, 1, none⟩ = some (.map (some pm)) ∧ wr.cell? ⟨b, 2, none⟩ = some (.map (some dm)) ∧ b < wr.heap.size := by
  obtain ⟨x, p, q, h⟩ := h.blk
  exact ⟨by simp [World.cell?, h], by simp [World.cell?, h], (Array.getElem?_eq_some_iff.1 h).1⟩
theorem CaI.below (h : CaI w wr b pm dm np nd) (hb : Below wr.heap.size wr X) : CaI w X b pm dm np nd := by
  have hl := h.cells.2.2
  obtain ⟨h1, ⟨F, h2⟩, ⟨G, h3⟩, h4, x, p, q, h5⟩ := h
  exact ⟨h1.trans (hb.mono h1.size), ⟨F, h2.below hb h2.lt⟩, ⟨G, h3.below hb h3.lt⟩, h4, x, p, q, (hb.block b hl).trans h5⟩
theorem CaI.putP (h : CaI w wr b pm dm np nd) (hn : np ≤ 1000) {s : ByteArray} (hs : s.size ≤ maxLen) (hX : Below wr.heap.size wr X) : ∃ w', (Instr.mapUpdate 67 (.map (some pm)) (.string s) (.bool true)).run Tryz.prog X = .ok () w' ∧ CaI w w' b pm dm (np + 1) nd := by
  obtain ⟨h1, ⟨F, h2⟩, ⟨G, h3⟩, h4, x, p, q, h5⟩ := h.below hX
  obtain ⟨w', e1, e2, e3⟩ := h2.store Tryz.underlying67 (by unfold maxLen; omega) (x := s) (show curC.ok s from hs) (v := true) trivial
  have hsame : ∀ k, k ≠ pm → k < X.heap.size → w'.heap[k]? = X.heap[k]? := fun k hk hks => e3.grown.block k hks (fun e => by injection e with e; omega)
  exact ⟨w', e1, turned_below h1 e3 h4.1 h1.size, ⟨_, e2⟩, ⟨G, h3.of_block (hsame dm (fun e => h4.2.2 e.symm) h3.lt)⟩, h4, x, p, q, (hsame b (h2.neCells h5) (Array.getElem?_eq_some_iff.1 h5).1).trans h5⟩
theorem CaI.putD (h : CaI w wr b pm dm np nd) (hn : nd ≤ 1000) {s : ByteArray} (hs : s.size ≤ maxLen) (z : Nat) (hX : Below wr.heap.size wr X) : ∃ w', (Instr.mapUpdate 204 (.map (some dm)) (.string s) (.pointer (some ⟨z, 0, none⟩))).run Tryz.prog X = .ok () w' ∧ CaI w w' b pm dm np (nd + 1) := by
  obtain ⟨h1, ⟨F, h2⟩, ⟨G, h3⟩, h4, x, p, q, h5⟩ := h.below hX
  obtain ⟨w', e1, e2, e3⟩ := h3.store Tryz.underlying204 (by unfold maxLen; omega) (x := s) (show curC.ok s from hs) (v := some z) trivial
  have hsame : ∀ k, k ≠ dm → k < X.heap.size → w'.heap[k]? = X.heap[k]? := fun k hk hks => e3.grown.block k hks (fun e => by injection e with e; omega)
  exact ⟨w', e1, turned_below h1 e3 h4.2.1 h1.size, ⟨F, h2.of_block (hsame pm h4.2.2 h2.lt)⟩, ⟨_, e2⟩, h4, x, p, q, (hsame b (h3.neCells h5) (Array.getElem?_eq_some_iff.1 h5).1).trans h5⟩
theorem zeroCd (w : World) : (zeroValue 212).run Tryz.prog w = .ok (ptV none) w := by kernel_rfl
theorem CaI.look (h : CaI w wr b pm dm np nd) {s : ByteArray} (hs : s.size ≤ maxLen) : ∃ p q, ∀ X, Below wr.heap.size wr X → (Instr.lookup 204 (.map (some dm)) (.string s) true).run Tryz.prog X = .ok (.tuple #[ptV p, .bool q]) X := by
  obtain ⟨F, h3⟩ := h.dls
  exact ⟨_, _, fun X hX => (h3.below hX h3.lt).look_ok Tryz.underlying204 (z := none) (zeroCd X) trivial (x := s) (show curC.ok s from hs)⟩
end
def cdA (d : Dl) (hq : Bool) (v : Value) : Array Value := #[.string d.num, .string d.sel, .string d.buy, .string d.hou, .string d.frm, .string d.dst, v, .int .i64 0, .bool hq]
/-- a carrier's deal whose boxes are gathered -/
structure CdI (V wr : World) (z : Nat) (d : Dl) (hq : Bool) (A : Option Addr) (M : List ByteArray) (c : Nat) : Prop where
  bw : Below V.heap.size V wr
  blk : wr.heap[z]? = some (.cells (cdA d hq (.slice A M.length c)) 215 (0, 0))
  row : Ow wr V.heap.size (.slice A M.length c) M
  lo : V.heap.size ≤ z
theorem CdI.below {V wr X : World} {z : Nat} {d : Dl} {hq : Bool} {A : Option Addr} {M : List ByteArray} {c : Nat} (h : CdI V wr z d hq A M c) (hb : Below wr.heap.size wr X) : CdI V X z d hq A M c :=
  ⟨h.bw.trans (hb.mono h.bw.size), (hb.block z (Array.getElem?_eq_some_iff.1 h.blk).1).trans h.blk, h.row.below hb, h.lo⟩
theorem CdI.cells {V wr : World} {z : Nat} {d : Dl} {hq : Bool} {A : Option Addr} {M : List ByteArray} {c : Nat} (h : CdI V wr z d hq A M c) : wr.cell? ⟨z, 6, none⟩ = some (.slice A M.length c) ∧ wr.frozen? ⟨z, 6, none⟩ = false ∧ z < wr.heap.size :=
  ⟨by simp [World.cell?, h.blk, cdA], by simp [World.frozen?, h.blk], (Array.getElem?_eq_some_iff.1 h.blk).1⟩
theorem CdI.step {V X : World} {z : Nat} {d : Dl} {hq : Bool} {A : Option Addr} {M : List ByteArray} {c : Nat} (h : CdI V X z d hq A M c) (hm : M.length ≤ 1000) (x : ByteArray) :
    ∃ A2 c2 w9, (Builtin.append_ #[47, 47] 47 #[.slice A M.length c, .slice (some ⟨X.heap.size, 0, none⟩) 1 1]).run Tryz.prog (X.alloc (.cells #[.string x] 9)) = .ok (.slice A2 (M.length + 1) c2) w9 ∧ w9.cell? ⟨z, 6, none⟩ = some (.slice A M.length c) ∧ w9.frozen? ⟨z, 6, none⟩ = false ∧ z < w9.heap.size ∧ CdI V (w9.setCell ⟨z, 6, none⟩ (.slice A2 (M.length + 1) c2)) z d hq A2 (M ++ [x]) c2 := by
  have hz := (Array.getElem?_eq_some_iff.1 h.blk).1
  obtain ⟨A', c', w', h1, h2, h3⟩ := h.row.more x (by omega) h.bw.size
  have hne : (Value.slice A M.length c).ownBlock ≠ some z := fun e => by
    rcases h.row.2 with ⟨h6, _⟩ | ⟨g, cap, cur, h6, _, h7, _⟩
    · rw [h6] at e; simp [Value.ownBlock] at e
    · rw [h6] at e
      simp [Value.ownBlock] at e
      subst e
      rw [h.blk] at h7
      injection h7 with h7
      injection h7 with _ h7
      revert h7
      decide
  have hba : Below V.heap.size V (X.alloc (.cells #[.string x] 9)) := h.bw.alloc h.bw.size _
  have hb9 : Below V.heap.size V w' := hba.grown h3 hba.size fun j hj => (h.row.lt hj).1
  have hzb : w'.heap[z]? = some (.cells (cdA d hq (.slice A M.length c)) 215 (0, 0)) := by
    rw [h3.block z (by simp; omega) (fun e => hne e.symm)]
    exact alloc_old X _ z hz h.blk
  have hll : (M ++ [x]).length = M.length + 1 := by simp
  refine ⟨A', c', w', h1, by simp [World.cell?, hzb, cdA], by simp [World.frozen?, hzb], (Array.getElem?_eq_some_iff.1 hzb).1, hb9.setCell h.lo _, ?_, ?_, h.lo⟩
  · have := heap_setCell_same w' z 6 _ _ (.slice A' (M.length + 1) c') hzb
    rw [hll]
    exact this
  · rw [hll]
    refine h2.keep fun k hk => heap_setCell_other _ _ _ _ ?_
    rintro rfl
    rcases h2.2 with ⟨h6, _⟩ | ⟨g, cap, cur, h6, _, h7, _⟩
    · rw [h6] at hk; simp [Value.ownBlock] at hk
    · rw [h6] at hk
      simp [Value.ownBlock] at hk
      subst hk
      rw [hzb] at h7
      injection h7 with h7
      injection h7 with _ h7
      revert h7
      decide
set_option maxHeartbeats 16000000 in
theorem newC_w {w : World} {nm : ByteArray} {u : Su} {a : Sa} (hA : SuAt w w.heap.size u a) (hz : SuSz u) (h8 : ∀ d ∈ u.dl, d.box.length ≤ 8) :
    Calls Tryz.prog 106 #[.string nm, .agg #[.slice a.PA u.par.length a.pc, .slice a.DA u.dl.length a.dc, .slice a.FA u.fd.length a.fc, .slice a.RA u.rest.length a.rc, .slice a.HA u.hol.length a.hc]] w fun e w' => NwQ w e w' := by
  obtain ⟨W1, hW1⟩ : ∃ W1, W1 = w.alloc (.cells #[.slice a.PA u.par.length a.pc, .slice a.DA u.dl.length a.dc, .slice a.FA u.fd.length a.fc, .slice a.RA u.rest.length a.rc, .slice a.HA u.hol.length a.hc] 29) := ⟨_, rfl⟩
  have HS : Hid (∀ X, Below W1.heap.size W1 X → SbX w X u a) := Lib.hid fun X hX => SbX.of hA hW1 hX
  have HZ := Lib.hid hz
  have H8 := Lib.hid h8
  clear h8
  have hp16 := hz.few.par
  have hd6 := hz.few.dl
  have hmm := @run_makeMap Tryz.prog
  have HF : Hid (∀ p X, Below W1.heap.size W1 X → NwQ w (.returned (.pointer (some ⟨p, 0, none⟩))) X) := Lib.hid fun p X hX => ⟨p, rfl, (HS.out X hX).bw⟩
  generalize NwQ w = CP at *
  have HW : Hid (w.alloc (.cells #[.slice a.PA u.par.length a.pc, .slice a.DA u.dl.length a.dc, .slice a.FA u.fd.length a.fc, .slice a.RA u.rest.length a.rc, .slice a.HA u.hol.length a.hc] 29) = W1) := Lib.hid hW1.symm
  clear hW1 hA hz
  go_enter Tryz.func106, Tryz.ntmps106
  go_upto_region 1 with fail
  rw [HW.out]
  clear HW
  go_wp2_with fail
  refine (regNew_w nm _).mono ?_
  rintro e w3 ⟨p1, rfl, hb3⟩
  go_wp2_with fail
  refine (cusNew_w _).mono ?_
  rintro e w4 ⟨p2, rfl, hb4⟩
  have HI0 : Hid (CaI W1 (w4.alloc (.cells #[.string nm, .map (some W1.heap.size), .map (some (W1.heap.size + 1)), .pointer (some ⟨p1, 0, none⟩), .pointer (some ⟨p2, 0, none⟩), .slice none 0 0] 211)) w4.heap.size W1.heap.size (W1.heap.size + 1) 0 0) := Lib.hid (by
    have hsm : (W1.alloc (.map #[] 0)).heap.size = W1.heap.size + 1 := by simp
    have hbm : Below W1.heap.size W1 (W1.alloc (.map #[] 0)) := (Below.refl _ _).alloc (Nat.le_refl _) _
    have hbn : Below W1.heap.size W1 ((W1.alloc (.map #[] 0)).alloc (.map #[] 0)) := hbm.alloc (by omega) _
    have h1 := (Mp.made (C := curC) (E := yesE) W1).alloc (.map #[] 0)
    have h2 := Mp.made (C := curC) (E := ptE) (W1.alloc (.map #[] 0))
    rw [hsm] at h2
    have hb34 := hb3.trans (hb4.mono hb3.size)
    have h1' := (h1.below hb34 h1.lt).alloc (.cells #[.string nm, .map (some W1.heap.size), .map (some (W1.heap.size + 1)), .pointer (some ⟨p1, 0, none⟩), .pointer (some ⟨p2, 0, none⟩), .slice none 0 0] 211)
    have h2' := (h2.below hb34 h2.lt).alloc (.cells #[.string nm, .map (some W1.heap.size), .map (some (W1.heap.size + 1)), .pointer (some ⟨p1, 0, none⟩), .pointer (some ⟨p2, 0, none⟩), .slice none 0 0] 211)
    have hbw := hbn.trans (hb34.mono hbn.size)
    exact ⟨hbw.alloc hbw.size _, ⟨_, h1'⟩, ⟨_, h2'⟩, by omega, nm, p1, p2, heap_alloc_new _ _⟩)
  have HWe : Hid (∃ W5, W5 = w4.alloc (.cells #[.string nm, .map (some W1.heap.size), .map (some (W1.heap.size + 1)), .pointer (some ⟨p1, 0, none⟩), .pointer (some ⟨p2, 0, none⟩), .slice none 0 0] 211)) := Lib.hid ⟨_, rfl⟩
  clear hb3 hb4 hmm
  go_upto_region 2 with fail
  obtain ⟨W5, hW5⟩ := HWe.out
  rw [← hW5] at HI0 ⊢
  clear hW5 HWe
  generalize hbq : w4.heap.size = b at *
  clear hbq
  obtain ⟨k0, k1, k2, k3, k4, kl, _, _⟩ := HS.out W5 HI0.out.bw
  go_wp2_with fail
  clear k0 k1 k2 k3 k4 kl
  go_loopw [26, 7] (fun i _ wr => ∃ k : Nat, k ≤ u.par.length ∧ i = .int .i64 (k : Int) ∧ Hid (CaI W1 wr b W1.heap.size (W1.heap.size + 1) k 0)) (fun i _ _ => u.par.length - (RowKit.intOf i).toNat)
  case atStart => exact ⟨0, Nat.zero_le _, rfl, HI0⟩
  case round =>
    clear HI0
    obtain ⟨k, hk, rfl, HI⟩ := hrel
    by_cases hlt : k < u.par.length
    · have b1 : (k : Int) < (u.par.length : Int) := by omega
      obtain ⟨y, hy⟩ : ∃ y, u.par[k]? = some y := ⟨u.par[k], List.getElem?_eq_getElem hlt⟩
      have heq : u.par[k] = y := (List.getElem?_eq_some_iff.1 hy).2
      obtain ⟨g, off, hPA, hg, c0, c1, c2⟩ := (HS.out wr HI.out.bw).su.par.at_ hlt
      rw [heq] at c0 c1 c2
      have hgw : g < wr.heap.size := by have := (HS.out wr HI.out.bw).lt; omega
      rw [hPA]
      have hys := (HZ.out.py y (List.mem_of_getElem? hy)).1
      obtain ⟨wy, hwy⟩ : ∃ wy, wy = wr.alloc (.cells #[.string y.nm, .string y.bk, .int .i64 y.kd] 38) := ⟨_, rfl⟩
      have hby : Below wr.heap.size wr wy := by rw [hwy]; exact (Below.refl _ _).alloc (Nat.le_refl _) _
      have hyb : wy.heap[wr.heap.size]? = some (.cells #[.string y.nm, .string y.bk, .int .i64 y.kd] 38 (0, 0)) := by rw [hwy]; exact heap_alloc_new _ _
      have e0 : wy.cell? ⟨wr.heap.size, 0, none⟩ = some (.string y.nm) := by simp [World.cell?, hyb]
      have hzs : wr.heap.size < wy.heap.size := (Array.getElem?_eq_some_iff.1 hyb).1
      have hIy := HI.out.below hby
      obtain ⟨w', r1, hI'⟩ := hIy.putP (by omega) hys (Below.refl _ _).drew
      have HI2 := Lib.hid hI'
      obtain ⟨d1, d2, d3⟩ := hIy.cells
      have HWy := Lib.hid hwy
      clear hPA heq hy hwy hby hyb hIy hI' HI d2
      go_upto_region 5 with fail
      rw [← HWy.out]
      clear HWy c0 c1 c2 hgw hg
      go_region
      go_wp2_with fail
      go_roundw
      case rel => exact ⟨k + 1, by omega, by go_num, HI2⟩
      case measure => simp [RowKit.intOf] <;> omega
    · have b1 : ¬ (k : Int) < (u.par.length : Int) := by omega
      obtain rfl : k = u.par.length := by omega
      have HI0 := HI
      clear HI hk hlt
      obtain ⟨k0, k1, k2, k3, k4, kl, _, _⟩ := HS.out wr HI0.out.bw
      go_wp2_with fail
      clear k0 k1 k2 k3 k4 kl
      go_loopw [40, 9, 10, 11, 12, 14] (fun i _ _ _ _ _ wr => ∃ k : Nat, k ≤ u.dl.length ∧ i = .int .i64 (k : Int) ∧ Hid (∃ n, n ≤ k ∧ CaI W1 wr b W1.heap.size (W1.heap.size + 1) u.par.length n)) (fun i _ _ _ _ _ _ => u.dl.length - (RowKit.intOf i).toNat)
      case atStart => exact ⟨0, Nat.zero_le _, rfl, Lib.hid ⟨0, Nat.le_refl _, HI0.out⟩⟩
      case round =>
        clear HI0
        obtain ⟨k, hk, rfl, HI⟩ := hrel
        obtain ⟨nn, hnn, hI⟩ := HI.out
        by_cases hlt : k < u.dl.length
        · have b1 : (k : Int) < (u.dl.length : Int) := by omega
          obtain ⟨d, hd⟩ : ∃ d, u.dl[k]? = some d := ⟨u.dl[k], List.getElem?_eq_getElem hlt⟩
          obtain ⟨g, off, A', c', hDA, hg, hc, hbx, _⟩ := (HS.out wr hI.bw).su.dl.at_ hd
          have hww : w.heap.size < wr.heap.size := (HS.out wr hI.bw).lt
          have hgw : g < wr.heap.size := by omega
          rw [hDA]
          have hmd := List.mem_of_getElem? hd
          have HRg := Lib.hid (show wr.rangeAt g (off + k * 17) (dlA d A' c').toList from fun j v hv => hc j v (by simpa using hv))
          have HIb := Lib.hid (show (Tryz.prog.info? 72).map (·.size) = some (dlA d A' c').toList.length from infoDl17)
          have HIs := Lib.hid (show (Tryz.prog.info? 72).map (·.size) = some (dlA d A' c').size from infoDl17)
          have HOn := Lib.hid (dlA_allM d A' c')
          have HSz := Lib.hid (show 17 = (dlA d A' c').size from rfl)
          obtain ⟨wy, hwy⟩ : ∃ wy, wy = wr.alloc (.cells (dlA d A' c') 72) := ⟨_, rfl⟩
          have hby : Below wr.heap.size wr wy := by rw [hwy]; exact (Below.refl _ _).alloc (Nat.le_refl _) _
          have hyb : wy.heap[wr.heap.size]? = some (.cells (dlA d A' c') 72 (0, 0)) := by rw [hwy]; exact heap_alloc_new _ _
          have hzs : wr.heap.size < wy.heap.size := (Array.getElem?_eq_some_iff.1 hyb).1
          have HIy := Lib.hid (hI.below hby)
          have HDc : Hid (∀ X, Below wy.heap.size wy X → (∀ j v, (dlA d A' c')[j]? = some v → X.cell? ⟨wr.heap.size, j, none⟩ = some v) ∧ wr.heap.size < X.heap.size) := Lib.hid fun X hX => by
            have h := (hX.block _ hzs).trans hyb
            exact ⟨fun j v hv => by simp only [World.cell?, h]; exact hv, Nat.lt_of_lt_of_le hzs hX.size⟩
          have hdn := HZ.out.dl.txt d hmd d.num (by simp)
          have HBx : Hid (∀ X, Below wy.heap.size wy X → Bxs X w.heap.size A' d.box) := Lib.hid fun X hX => hbx.kept ((hby.trans (hX.mono hby.size)).mono (by omega))
          have hb8 := H8.out d hmd
          have HBl := Lib.hid (HZ.out.dl.bx d hmd)
          have HWy := Lib.hid hwy
          obtain ⟨lp, lq, hlk⟩ := HIy.out.look hdn
          clear hDA hc hd hwy hby hyb hbx hmd hI HI
          go_upto_region 10 with (first
            | (refine wpList_load_mid rfl 72 (.tmp 42) rfl g (off + k * 17) rfl (dlA d A' c').toList _ HRg.out Tryz.underlying72 rfl HIb.out ?_)
            | (refine wpList_store_row rfl 72 (.tmp 9) (.tmp 43) rfl wr.heap.size (dlA d A' c') rfl rfl 72 _ (heap_alloc_new _ _) HIs.out HSz.out HOn.out ?_; rw [setRow_allocB])
            | fail)
          rw [← HWy.out]
          clear HWy HRg HIs HOn HSz HIb
          have z0 := (HDc.out wy (Below.refl _ _)).1 0 _ (show (dlA d A' c')[0]? = some (.string d.num) from rfl)
          have zb := HIy.out.cells
          have hlk2 : ∀ nq, (Instr.lookup 204 (.map (some (W1.heap.size + 1))) (.string d.num) true).run Tryz.prog (wy.drewN nq) = .ok (.tuple #[ptV lp, .bool lq]) (wy.drewN nq) := fun nq => hlk _ (drewN_below _ _)
          generalize ptV lp = pv at *
          go_quiet (fail)
          have HBq : Hid (Below wy.heap.size wy (wy.drewN nq)) := Lib.hid (drewN_below _ _)
          clear hlk hlk2 z0 zb
          generalize wy.drewN nq = V8 at *
          have HI8 := Lib.hid (HIy.out.below HBq.out)
          have y3 := (HDc.out V8 HBq.out).1 3 _ (show (dlA d A' c')[3]? = some (.string d.car) from rfl)
          have hz8 := (HDc.out V8 HBq.out).2
          have HX1 : Hid (∃ n, n ≤ k + 1 ∧ CaI W1 V8 b W1.heap.size (W1.heap.size + 1) u.par.length n) := Lib.hid ⟨nn, by omega, HI8.out⟩
          go_upto_region 11 with fail
          go_cut [60] from 54 to 60 (fun v wx => ∃ b : Bool, v = .bool b ∧ V8 = wx)
          case first =>
            clear HX1 HI8 HIy
            cases lq with
            | true =>
              go_wp2_with fail
              go_meet
              case rel => exact ⟨_, rfl, rfl⟩
            | false =>
              by_cases e1 : d.car = nm
              · have b2 : (d.car.toList == nm.toList) = true := by rw [ba_beq]; simp [e1]
                have b3 : (d.car.toList != nm.toList) = false := by rw [bne, b2]; rfl
                clear e1
                go_wp2_with fail
                go_meet
                case rel => exact ⟨_, rfl, rfl⟩
              · have b2 : (d.car.toList == nm.toList) = false := by rw [ba_beq]; simp [e1]
                have b3 : (d.car.toList != nm.toList) = true := by rw [bne, b2]; rfl
                have b4 : ¬ d.car.toList = nm.toList := by simpa using b2
                clear e1
                go_wp2_with fail
                go_meet
                case rel => exact ⟨_, rfl, rfl⟩
          case rest =>
            obtain ⟨bq, rfl, rfl⟩ := hcut
            cases bq with
            | true =>
              clear HI8 HIy
              go_wp2_with fail
              go_roundw
              case rel => exact ⟨k + 1, by omega, by go_num, HX1⟩
              case measure => simp [RowKit.intOf] <;> omega
            | false =>
              clear HX1 y3
              have y0 := (HDc.out V8 HBq.out).1 0 _ (show (dlA d A' c')[0]? = some (.string d.num) from rfl)
              have y1 := (HDc.out V8 HBq.out).1 1 _ (show (dlA d A' c')[1]? = some (.string d.sel) from rfl)
              have y2 := (HDc.out V8 HBq.out).1 2 _ (show (dlA d A' c')[2]? = some (.string d.buy) from rfl)
              have y5 := (HDc.out V8 HBq.out).1 5 _ (show (dlA d A' c')[5]? = some (.string d.hou) from rfl)
              have y7 := (HDc.out V8 HBq.out).1 7 _ (show (dlA d A' c')[7]? = some (.string d.frm) from rfl)
              have y8 := (HDc.out V8 HBq.out).1 8 _ (show (dlA d A' c')[8]? = some (.string d.dst) from rfl)
              obtain ⟨hq, hhq⟩ : ∃ hq : Bool, (d.hou.toList == []) = hq := ⟨_, rfl⟩
              have HQ := Lib.hid hhq
              go_upto_region 13 with fail
              obtain ⟨V9, hV9⟩ : ∃ V9, V9 = V8.alloc (.cells #[.string d.num, .string d.sel, .string d.buy, .string d.hou, .string d.frm, .string d.dst, .slice none 0 0, .int .i64 0, .bool hq] 215) := ⟨_, rfl⟩
              have hb9 : Below V8.heap.size V8 V9 := by rw [hV9]; exact (Below.refl _ _).alloc (Nat.le_refl _) _
              have HC0 : Hid (CdI V8 V9 V8.heap.size d hq none [] 0) := Lib.hid ⟨hb9, by rw [hV9]; exact heap_alloc_new _ _, Ow.nil _ _, Nat.le_refl _⟩
              have HB9 := Lib.hid hb9
              rw [← hV9]
              clear hV9 hb9 y0 y1 y2 y5 y7 y8 hz8 hhq
              have y11 := (HDc.out V9 (HBq.out.trans (HB9.out.mono HBq.out.size))).1 11 _ (show (dlA d A' c')[11]? = some (.slice A' d.box.length c') from rfl)
              have hz9 := (HDc.out V9 (HBq.out.trans (HB9.out.mono HBq.out.size))).2
              go_wp2_with fail
              clear y11 hz9 HB9
              generalize hzz : V8.heap.size = z at *
              have HZz := Lib.hid hzz
              clear hzz
              go_loopw [81, 14] (fun i _ wr => ∃ (j : Nat) (A : Option Addr) (c : Nat) (M : List ByteArray), j ≤ d.box.length ∧ i = .int .i64 (j : Int) ∧ M.length ≤ j ∧ Hid (CdI V8 wr z d hq A M c)) (fun i _ _ => d.box.length - (RowKit.intOf i).toNat)
              case atStart => exact ⟨0, none, 0, [], Nat.zero_le _, rfl, Nat.le_refl _, HC0⟩
              case round =>
                clear HC0
                obtain ⟨j, A1, c1, M, hj, rfl, hmj, HC⟩ := hrel
                have HVr : Hid (Below wy.heap.size wy wr) := Lib.hid (HBq.out.trans (HC.out.bw.mono HBq.out.size))
                by_cases hlj : j < d.box.length
                · have b2 : (j : Int) < (d.box.length : Int) := by omega
                  obtain ⟨bx, hbx⟩ : ∃ bx, d.box[j]? = some bx := ⟨d.box[j], List.getElem?_eq_getElem hlj⟩
                  obtain ⟨g2, off2, hA2, hg2, hx2⟩ := HBx.out wr HVr.out (by omega)
                  obtain ⟨A3, c3, m0, m1, m2, _, _⟩ := hx2 j bx hbx
                  have hg2w : g2 < wr.heap.size := by have := HVr.out.size; omega
                  rw [hA2]
                  obtain ⟨wz, hwz⟩ : ∃ wz, wz = wr.alloc (.cells #[.string bx.m, .int .i64 bx.k, .slice A3 bx.l.length c3] 89) := ⟨_, rfl⟩
                  have hbz : Below wr.heap.size wr wz := by rw [hwz]; exact (Below.refl _ _).alloc (Nat.le_refl _) _
                  have hzb : wz.heap[wr.heap.size]? = some (.cells #[.string bx.m, .int .i64 bx.k, .slice A3 bx.l.length c3] 89 (0, 0)) := by rw [hwz]; exact heap_alloc_new _ _
                  have hCz := (HC.out.below hbz).below (Below.refl _ _).drew
                  obtain ⟨A4, c4, w9, hrn, q1, q2, q3, hC9⟩ := hCz.step (by omega) bx.m
                  rw [World.size_drew] at hrn
                  have hcz := hCz.cells
                  have c6 : wz.cell? ⟨z, 6, none⟩ = some (.slice A1 M.length c1) := hcz.1
                  have hzl : z < wz.heap.size := hcz.2.2
                  have hrn2 : (Builtin.append_ #[47, 47] 47 #[.slice A1 M.length c1, .slice (some ⟨wz.heap.size, 0, none⟩) 1 1]).run Tryz.prog (wz.alloc (.cells #[.string bx.m] 9)).drew = .ok (.slice A4 (M.length + 1) c4) w9 := hrn
                  have c7 : (wz.alloc (.cells #[.string bx.m] 9)).cell? ⟨z, 6, none⟩ = some (.slice A1 M.length c1) := Lib.cell?_alloc_some _ c6
                  have z0 : wz.cell? ⟨wr.heap.size, 0, none⟩ = some (.string bx.m) := by simp [World.cell?, hzb]
                  have hzs : wr.heap.size < wz.heap.size := (Array.getElem?_eq_some_iff.1 hzb).1
                  have HC9 := Lib.hid hC9
                  have HWz := Lib.hid hwz
                  clear hA2 hx2 hbx hwz hbz hzb hCz hcz hC9 HC
                  go_upto_region 16 with fail
                  rw [← HWz.out]
                  clear HWz m0 m1 m2 hg2w hg2
                  go_region_law (first
                    | ((try simp only [Act.put, List.setIfInBounds_toArray, List.set_cons_zero, List.set_cons_succ]); rw [if_pos (by rfl)]; refine Lib.wp_append_run _ (.tmp 89) (.tmp 92) 47 47 (by rfl) (.slice A1 M.length c1) (.slice (some ⟨wz.heap.size, 0, none⟩) 1 1) (by rfl) (by rfl) _ _ hrn2 ?_))
                  all_goals
                    clear c6 c7 z0 hrn hrn2 q1 q2
                    go_wp2_with fail
                    go_roundw
                    case rel => exact ⟨j + 1, A4, c4, M ++ [bx.m], by omega, by go_num, by rw [List.length_append]; simp; omega, HC9⟩
                    case measure => simp [RowKit.intOf] <;> omega
                · have b2 : ¬ (j : Int) < (d.box.length : Int) := by omega
                  have HI9 := Lib.hid (HI8.out.below HC.out.bw)
                  obtain ⟨d1, d2, d3⟩ := HI9.out.cells
                  have y0 := (HDc.out wr HVr.out).1 0 _ (show (dlA d A' c')[0]? = some (.string d.num) from rfl)
                  have hy0 := (HDc.out wr HVr.out).2
                  obtain ⟨w', r1, hI'⟩ := HI9.out.putD (by omega) hdn z (Below.refl _ _).drew
                  have HX : Hid (∃ n, n ≤ k + 1 ∧ CaI W1 w' b W1.heap.size (W1.heap.size + 1) u.par.length n) := Lib.hid ⟨nn + 1, by omega, hI'⟩
                  clear hI' HI9 HC HI8 HIy d1 hj hlj
                  go_upto_region 18 with fail
                  go_region
                  go_wp2_with fail
                  go_roundw
                  case rel => exact ⟨k + 1, by omega, by go_num, HX⟩
                  case measure => simp [RowKit.intOf] <;> omega
        · have b1 : ¬ (k : Int) < (u.dl.length : Int) := by omega
          have HX := Lib.hid (HF.out b wr hI.bw)
          clear HI hI HF hk hlt
          go_wp2_with fail
          first
            | exact HX.out
            | (go_ret; exact HX.out)
end Go.Proofs.YtchkdidpnjakeaaGreatDoor
