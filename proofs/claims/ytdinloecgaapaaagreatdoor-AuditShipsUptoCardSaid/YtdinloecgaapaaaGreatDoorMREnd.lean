/- entry.end: a bill's state, its originals void. The register's plain operations: an original's state is written. -/
import Derived.Test.YtdinloecgaapaaaGreatDoorMRMem
import Derived.Laws.Rows
import Derived.Test.YtdinloecgaapaaaGreatDoorMRAsk2
namespace Go.Proofs.YtdinloecgaapaaaGreatDoor
open Go.RowKit Go.Maps Go.Lib
set_option linter.unusedVariables false
set_option maxRecDepth 100000

/-- nothing but block e has turned -/
structure Wrt (e : Nat) (w w' : World) : Prop where
  os : w'.os = w.os
  tape : w'.tape = w.tape
  output : w'.output = w.output
  size : w'.heap.size = w.heap.size
  block : ∀ q, q ≠ e → w'.heap[q]? = w.heap[q]?
theorem Wrt.refl (e : Nat) (w : World) : Wrt e w w := ⟨rfl, rfl, rfl, rfl, fun _ _ => rfl⟩
theorem Wrt.set {e : Nat} {w w' : World} (h : Wrt e w w') (j : Nat) (v : Value) : Wrt e w (w'.setCell ⟨e, j, none⟩ v) :=
  ⟨h.os, h.tape, h.output, by rw [World.size_setCell]; exact h.size, fun q hq => (Below.heap_setCell _ _ _ _ hq).trans (h.block q hq)⟩
theorem Wrt.below {e base : Nat} {w w' : World} (h : Wrt e w w') (hb : base ≤ e) : Below base w w' := ⟨h.os, h.tape, h.output, Nat.le_of_eq h.size.symm, fun q hq => h.block q (by omega)⟩
/-- the first k originals void -/
def En.kill (x : En) (k : Nat) : En := { x with o := fun i => if i < k then { x.o i with s := 2 } else x.o i }
def En.st (x : En) (s : Int) : En := { x with s := s }
theorem st_set (x : En) (s : Int) : (enA x).setIfInBounds 9 (.int .i64 s) = enA ((x.st s).kill 0) := by simp [enA, En.st, En.kill]
theorem kill_0 (x : En) : (enA (x.kill 0)).setIfInBounds 10 (.int .i64 2) = enA (x.kill 1) := by simp [enA, En.kill]
theorem kill_1 (x : En) : (enA (x.kill 1)).setIfInBounds 13 (.int .i64 2) = enA (x.kill 2) := by simp [enA, En.kill]
theorem kill_2 (x : En) : (enA (x.kill 2)).setIfInBounds 16 (.int .i64 2) = enA (x.kill 3) := by simp [enA, En.kill]
def EdP (e : Nat) (x : En) (w : World) (en : Ending) (w' : World) : Prop := en = .returned (.tuple #[]) ∧ w'.heap[e]? = some (.cells (enA x) 132 (0, 0)) ∧ Wrt e w w'
set_option maxHeartbeats 4000000 in
theorem end_r (e : Nat) (x : En) (s : Int) (w : World) (hE : w.heap[e]? = some (.cells (enA x) 132 (0, 0))) :
    Calls Tryz.prog 87 #[.pointer (some ⟨e, 0, none⟩), .int .i64 s] w fun en w' => EdP e ((x.st s).kill 3) w en w' := by
  have f9 : w.frozen? ⟨e, 9, none⟩ = false := by simp [World.frozen?, hE]
  have c9 : w.cell? ⟨e, 9, none⟩ = some (.int .i64 x.s) := by simp [World.cell?, hE, enA]
  have h9 := Go.heap_setCell_same w e 9 (enA x) 132 (.int .i64 s) hE
  rw [st_set] at h9
  have H9 := Lib.hid h9
  have HW := Lib.hid ((Wrt.refl e w).set 9 (.int .i64 s))
  generalize hCP : EdP e ((x.st s).kill 3) w = CP
  generalize x.st s = y at *
  clear h9 hE
  go_enter Tryz.func87, Tryz.ntmps87
  go_wp2_with fail
  clear f9 c9
  generalize w.setCell ⟨e, 9, none⟩ (.int .i64 s) = W1 at *
  go_loopw [9] (fun i wr => ∃ k : Nat, k ≤ 3 ∧ i = .int .i64 (k : Int) ∧ Hid (wr.heap[e]? = some (.cells (enA (y.kill k)) 132 (0, 0))) ∧ Hid (Wrt e w wr)) (fun i _ => 3 - (RowKit.intOf i).toNat)
  case atStart => exact ⟨0, by omega, rfl, H9, HW⟩
  case round =>
    clear H9 HW
    obtain ⟨k, hk, rfl, HE, HW⟩ := hrel
    by_cases hlt : k < 3
    · have hE := HE.out
      obtain rfl | rfl | rfl : k = 0 ∨ k = 1 ∨ k = 2 := by omega
      · have f0 : wr.frozen? ⟨e, 10, none⟩ = false := by simp [World.frozen?, hE]
        have c0 : wr.cell? ⟨e, 10, none⟩ = some (.int .i64 ((y.kill 0).o 0).s) := by simp [World.cell?, hE, enA]
        have h0 := Go.heap_setCell_same wr e 10 _ 132 (.int .i64 2) hE
        rw [kill_0] at h0
        have H0 := Lib.hid h0
        have HW0 := Lib.hid (HW.out.set 10 (.int .i64 2))
        clear h0 hE HE HW
        simp only [Int.cast_ofNat_Int]
        go_wp2_with fail
        exact ⟨⟨1, by omega, by go_num, H0, HW0⟩, by simp [RowKit.intOf]⟩
      · have f0 : wr.frozen? ⟨e, 13, none⟩ = false := by simp [World.frozen?, hE]
        have c0 : wr.cell? ⟨e, 13, none⟩ = some (.int .i64 ((y.kill 1).o 1).s) := by simp [World.cell?, hE, enA]
        have h0 := Go.heap_setCell_same wr e 13 _ 132 (.int .i64 2) hE
        rw [kill_1] at h0
        have H0 := Lib.hid h0
        have HW0 := Lib.hid (HW.out.set 13 (.int .i64 2))
        clear h0 hE HE HW
        simp only [Int.cast_ofNat_Int]
        go_wp2_with fail
        exact ⟨⟨2, by omega, by go_num, H0, HW0⟩, by simp [RowKit.intOf]⟩
      · have f0 : wr.frozen? ⟨e, 16, none⟩ = false := by simp [World.frozen?, hE]
        have c0 : wr.cell? ⟨e, 16, none⟩ = some (.int .i64 ((y.kill 2).o 2).s) := by simp [World.cell?, hE, enA]
        have h0 := Go.heap_setCell_same wr e 16 _ 132 (.int .i64 2) hE
        rw [kill_2] at h0
        have H0 := Lib.hid h0
        have HW0 := Lib.hid (HW.out.set 16 (.int .i64 2))
        clear h0 hE HE HW
        simp only [Int.cast_ofNat_Int]
        go_wp2_with fail
        exact ⟨⟨3, by omega, by go_num, H0, HW0⟩, by simp [RowKit.intOf]⟩
    · have h3 : k = 3 := by omega
      subst h3
      have HF : Hid (CP (.returned (.tuple #[])) wr) := Lib.hid (by rw [← hCP]; exact ⟨rfl, HE.out, HW.out⟩)
      go_wp2_with fail
      first
        | exact HF.out
        | exact bodyPost_end (results_none rfl _ _ _) rfl HF.out
        | (refine bodyPost_end (results_none rfl _ _ _) rfl ?_; exact HF.out)
end Go.Proofs.YtdinloecgaapaaaGreatDoor
namespace Go.Proofs.YtdinloecgaapaaaGreatDoor
open Go.RowKit Go.Maps Go.Lib
set_option linter.unusedVariables false
set_option maxRecDepth 100000

/-- an operation: some register is left, whatever it answers -/
def OpP (base r : Nat) (ca : ByteArray) (N : Nat) (w : World) (en : Ending) (w' : World) : Prop := ∃ v, en = .returned v ∧ Reg w' base r ca N ∧ Below base w w'
def En.one (x : En) (i : Nat) (s : Int) : En := { x with o := fun j => if j = i then { x.o j with s := s } else x.o j }
theorem one_set (x : En) (i : Nat) (s : Int) (hi : i < 3) : (enA x).setIfInBounds (10 + 3 * i) (.int .i64 s) = enA (x.one i s) := by
  obtain rfl | rfl | rfl : i = 0 ∨ i = 1 ∨ i = 2 := by omega
  all_goals simp [enA, En.one]
theorem RgS.lo {w : World} {base r N b n : Nat} {ca : ByteArray} {G : ByteArray → Option (Option Nat)} {S : Nat → Option En} (h : RgS w base r ca N b n G S) : base ≤ w.heap.size := Nat.le_trans h.rlo (Nat.le_of_lt (lt_of_some h.reg))
theorem RgS.ends {w : World} {base r N b n e : Nat} {ca : ByteArray} {G : ByteArray → Option (Option Nat)} {S : Nat → Option En} {x : En} (h : RgS w base r ca N b n G S) (hS : S e = some x) {w' : World} (s : Int) (k : Nat)
    (ho : w'.heap[e]? = some (.cells (enA ((x.st s).kill k)) 132 (0, 0))) (hw : Wrt e w w') : RgS w' base r ca N b n G (putE S e ((x.st s).kill k)) :=
  h.upd hS rfl rfl rfl rfl (fun i _ => by by_cases hi : i < k <;> simp [En.st, En.kill, hi]) ho hw.block
theorem RgS.sets {w : World} {base r N b n e : Nat} {ca : ByteArray} {G : ByteArray → Option (Option Nat)} {S : Nat → Option En} {x : En} (h : RgS w base r ca N b n G S) (hS : S e = some x) (i : Nat) (hi : i < 3) (s : Int) :
    RgS (w.setCell ⟨e, 10 + 3 * i, none⟩ (.int .i64 s)) base r ca N b n G (putE S e (x.one i s)) ∧ Below base w (w.setCell ⟨e, 10 + 3 * i, none⟩ (.int .i64 s)) := by
  have hat := h.at_ e x hS
  have h9 := Go.heap_setCell_same w e (10 + 3 * i) (enA x) 132 (.int .i64 s) hat.obj
  rw [one_set x i s hi] at h9
  have hw := (Wrt.refl e w).set (10 + 3 * i) (.int .i64 s)
  exact ⟨h.upd hS rfl rfl rfl rfl (fun j _ => by by_cases hj : j = i <;> simp [En.one, hj]) h9 hw.block, hw.below hat.lo⟩
/-- the three cells of states: what they hold, that they may be written -/
theorem EnAt.stc {w : World} {base e : Nat} {x : En} (h : EnAt w base e x) (i : Nat) (hi : i < 3) : w.cell? ⟨e, 10 + 3 * i, none⟩ = some (.int .i64 (x.o i).s) ∧ w.frozen? ⟨e, 10 + 3 * i, none⟩ = false := by
  refine ⟨?_, by simp [World.frozen?, h.obj]⟩
  rw [h.cell]
  obtain rfl | rfl | rfl : i = 0 ∨ i = 1 ∨ i = 2 := by omega
  all_goals rfl
set_option maxHeartbeats 4000000 in
theorem lose_r (base r N : Nat) (ca k by_ : ByteArray) (ix : Int) (w : World) (hR : Reg w base r ca N) (hN : N ≤ 1000000) (hk : k.size ≤ maxLen) :
    Calls Tryz.prog 53 #[.pointer (some ⟨r, 0, none⟩), .string k, .int .i64 ix, .string by_] w fun en w' => OpP base r ca N w en w' := by
  obtain ⟨b, n, G, S, hR⟩ := hR
  have HA := Lib.hid (ask_r base r N b n ca G S ⟨k, ix, 0, by_, 0, 0, false, false⟩ w hR hN hk)
  have HL := Lib.hid hR.lo
  have HR := Lib.hid hR
  clear hR
  unfold ac8A at HA
  generalize hCP : OpP base r ca N w = CP
  go_enter Tryz.func53, Tryz.ntmps53
  go_wp2_with fail
  refine HA.out.mono ?_
  rintro en w2 ⟨code, rfl, hok, hb⟩
  by_cases hc : code = 0
  · obtain ⟨⟨e, hG⟩, h1, h2⟩ := hok hc
    have R2 := HR.out.below hb
    obtain ⟨_, e', x, he', hS⟩ := R2.ent _ _ hG
    cases he'
    obtain ⟨_, m1⟩ := R2.cell
    have hlk := R2.look (k := k) hk
    rw [hG] at hlk
    have hlk' : (Instr.lookup 113 (.map (some b)) (.string k) false).run Tryz.prog w2 = .ok (.pointer (some ⟨e, 0, none⟩)) w2 := hlk
    obtain ⟨i, hi, rfl⟩ : ∃ i : Nat, i < 3 ∧ ix = (i : Int) := ⟨ix.toNat, by simp at h1 h2; omega, by simp at h1; omega⟩
    obtain ⟨c0, f0⟩ := (R2.at_ e x hS).stc i hi
    obtain ⟨R3, hb3⟩ := R2.sets hS i hi 3
    have HF : Hid (∀ v, CP (.returned v) (w2.setCell ⟨e, 10 + 3 * i, none⟩ (.int .i64 3))) := Lib.hid (fun v => by rw [← hCP]; exact ⟨v, rfl, ⟨b, n, G, _, R3⟩, (hb.mono HL.out).trans hb3⟩)
    subst hc
    clear hlk hok hG R2 R3 hb3 hb HA HR hCP hS h1 h2 HL
    obtain rfl | rfl | rfl : i = 0 ∨ i = 1 ∨ i = 2 := by omega
    all_goals
      simp only [Nat.mul_zero, Nat.add_zero, Int.cast_ofNat_Int, Nat.reduceMul, Nat.reduceAdd] at c0 f0 HF ⊢
      go_wp2_with fail
      first
        | exact HF.out _
        | (go_ret; exact HF.out _)
  · have HF : Hid (∀ v, CP (.returned v) w2) := Lib.hid (fun v => by rw [← hCP]; exact ⟨v, rfl, ⟨b, n, G, S, HR.out.below hb⟩, hb.mono HL.out⟩)
    have b1 : (code == 0) = false := by simpa using hc
    clear hok hb HA HR hCP HL
    go_wp2_with fail
    first
      | exact HF.out _
      | (go_ret; exact HF.out _)
set_option maxHeartbeats 4000000 in
theorem replace_r (base r N : Nat) (ca k by_ : ByteArray) (ix day : Int) (w : World) (hR : Reg w base r ca N) (hN : N ≤ 1000000) (hk : k.size ≤ maxLen) :
    Calls Tryz.prog 54 #[.pointer (some ⟨r, 0, none⟩), .string k, .int .i64 ix, .string by_, .int .i64 day] w fun en w' => OpP base r ca N w en w' := by
  obtain ⟨b, n, G, S, hR⟩ := hR
  have HA := Lib.hid (ask_r base r N b n ca G S ⟨k, ix, 0, by_, 3, day, true, false⟩ w hR hN hk)
  have HL := Lib.hid hR.lo
  have HR := Lib.hid hR
  clear hR
  unfold ac8A at HA
  generalize hCP : OpP base r ca N w = CP
  go_enter Tryz.func54, Tryz.ntmps54
  go_wp2_with fail
  refine HA.out.mono ?_
  rintro en w2 ⟨code, rfl, hok, hb⟩
  by_cases hc : code = 0
  · obtain ⟨⟨e, hG⟩, h1, h2⟩ := hok hc
    have R2 := HR.out.below hb
    obtain ⟨_, e', x, he', hS⟩ := R2.ent _ _ hG
    cases he'
    obtain ⟨_, m1⟩ := R2.cell
    have hlk := R2.look (k := k) hk
    rw [hG] at hlk
    have hlk' : (Instr.lookup 113 (.map (some b)) (.string k) false).run Tryz.prog w2 = .ok (.pointer (some ⟨e, 0, none⟩)) w2 := hlk
    obtain ⟨i, hi, rfl⟩ : ∃ i : Nat, i < 3 ∧ ix = (i : Int) := ⟨ix.toNat, by simp at h1 h2; omega, by simp at h1; omega⟩
    obtain ⟨c0, f0⟩ := (R2.at_ e x hS).stc i hi
    obtain ⟨R3, hb3⟩ := R2.sets hS i hi 0
    have HF : Hid (∀ v, CP (.returned v) (w2.setCell ⟨e, 10 + 3 * i, none⟩ (.int .i64 0))) := Lib.hid (fun v => by rw [← hCP]; exact ⟨v, rfl, ⟨b, n, G, _, R3⟩, (hb.mono HL.out).trans hb3⟩)
    subst hc
    clear hlk hok hG R2 R3 hb3 hb HA HR hCP hS h1 h2 HL
    obtain rfl | rfl | rfl : i = 0 ∨ i = 1 ∨ i = 2 := by omega
    all_goals
      simp only [Nat.mul_zero, Nat.add_zero, Int.cast_ofNat_Int, Nat.reduceMul, Nat.reduceAdd] at c0 f0 HF ⊢
      go_wp2_with fail
      first
        | exact HF.out _
        | (go_ret; exact HF.out _)
  · have HF : Hid (∀ v, CP (.returned v) w2) := Lib.hid (fun v => by rw [← hCP]; exact ⟨v, rfl, ⟨b, n, G, S, HR.out.below hb⟩, hb.mono HL.out⟩)
    have b1 : (code == 0) = false := by simpa using hc
    clear hok hb HA HR hCP HL
    go_wp2_with fail
    first
      | exact HF.out _
      | (go_ret; exact HF.out _)
end Go.Proofs.YtdinloecgaapaaaGreatDoor
