/- A register takes a bill in: its map holds one entry more. The closures of Issue. The closures of Issue, further. -/
import Derived.Test.YtdinloecgaapaaaGreatDoorRMay
import Derived.Test.YtdinloecgaapaaaGreatDoorMROps2
import Derived.Test.YtdinloecgaapaaaGreatDoorMRBox
namespace Go.Proofs.YtdinloecgaapaaaGreatDoor
open Go.RowKit Go.Maps Go.Lib
set_option linter.unusedVariables false
set_option maxRecDepth 100000

theorem RgS.put {w : World} {base r N b n e : Nat} {ca nu : ByteArray} {G : ByteArray → Option (Option Nat)} {S : Nat → Option En} {y : En} (h : RgS w base r ca N b n G S) (hE : EnAt w base e y) (hf : Fit (N + 1) y) (hnb : ∀ i, i < 3 → (y.o i).blk = none) (hS : S e = none) (hk : nu.size ≤ 16) (hN : N < 1000000) :
    ∃ w', (Instr.mapUpdate 113 (.map (some b)) (.string nu) (.pointer (some ⟨e, 0, none⟩))).run Tryz.prog w = .ok () w' ∧ RgS w' base r ca (N + 1) b (n + 1) (putG G nu (some e)) (putE S e y) ∧ Below base w w' := by
  obtain ⟨w', h1, h2, h3⟩ := h.map.store (t := 113) (e := 124) Tryz.underlying113 (by have := h.num; unfold maxLen; omega) (x := nu) (show nu.size ≤ maxLen by unfold maxLen; omega) (v := some e) trivial
  have hold : ∀ (q : Nat) (cs : Array Value) (t : TypeId), w.heap[q]? = some (.cells cs t (0, 0)) → w'.heap[q]? = some (.cells cs t (0, 0)) := fun q cs t hq => by
    rw [h3.grown.block q (lt_of_some hq) (fun he => h.map.neCells hq (by cases he; rfl))]
    exact hq
  have hstr : ∀ (g : Nat) (cs : Array Value), w.heap[g]? = some (.cells cs 9 (0, 0)) → w'.heap[g]? = some (.cells cs 9 (0, 0)) := fun g cs hg => hold g cs _ hg
  have hent : ∀ q z, EnAt w base q z → EnAt w' base q z := fun q z hz => ⟨hz.lo, hold _ _ _ hz.obj, hz.box.keep hstr, hz.par.keep hstr, fun i hi => (hz.ch i hi).keep fun g hg => by
    obtain ⟨cur, hcur⟩ := (hz.ch i hi).obj hg
    rw [hcur]
    exact hold _ _ _ hcur⟩
  refine ⟨w', h1, ⟨hold _ _ _ h.reg, h.rlo, h.blo, h2, by have := h.num; omega, fun k v hkv => ?_, fun q z hq => ?_, fun q q' z z' i i' g hq hq' hi hi' hg hg' => ?_, fun q z hq => ?_⟩, (Below.refl base w).grown h3.grown h.lo (fun j hj => by cases hj; exact h.blo)⟩
  · by_cases hkn : k = nu
    · subst hkn
      rw [putG_same] at hkv
      cases hkv
      exact ⟨hk, e, y, rfl, putE_same _ _ _⟩
    · rw [putG_other _ _ hkn] at hkv
      obtain ⟨hk16, q, z, hv, hq⟩ := h.ent k v hkv
      refine ⟨hk16, q, z, hv, ?_⟩
      rw [putE_other _ (fun he => by rw [he, hS] at hq; cases hq)]
      exact hq
  · by_cases hqe : q = e
    · subst hqe
      rw [putE_same] at hq
      cases hq
      exact hent _ _ hE
    · rw [putE_other _ hqe] at hq
      exact hent _ _ (h.at_ q z hq)
  · have key : ∀ q z i, i < 3 → putE S e y q = some z → (z.o i).blk = some g → S q = some z := fun q z i hi hq hg => by
      by_cases hqe : q = e
      · subst hqe
        rw [putE_same] at hq
        cases hq
        rw [hnb i hi] at hg
        cases hg
      · rw [putE_other _ hqe] at hq
        exact hq
    exact h.dj q q' z z' i i' g (key q z i hi hq hg) (key q' z' i' hi' hq' hg') hi hi' hg hg'
  · by_cases hqe : q = e
    · subst hqe
      rw [putE_same] at hq
      cases hq
      exact hf
    · rw [putE_other _ hqe] at hq
      have f := h.fit q z hq
      exact ⟨f.l, f.b, f.p, fun i hi => Nat.le_succ_of_le (f.o i hi), f.h⟩
/-- the boxes that Issue's closures hold: the register's pointer, the bill, the holder -/
structure IsB (w : World) (q1 q2 q3 r : Nat) (x : En) (hd : ByteArray) : Prop where
  b1 : w.cell? ⟨q1, 0, none⟩ = some (.pointer (some ⟨r, 0, none⟩))
  b2 : w.heap[q2]? = some (.cells (blA x) 59 (0, 0))
  b3 : w.cell? ⟨q3, 0, none⟩ = some (.string hd)
theorem IsB.below {w w' : World} {q1 q2 q3 r : Nat} {x : En} {hd : ByteArray} (h : IsB w q1 q2 q3 r x hd) (hb : Below w.heap.size w w') : IsB w' q1 q2 q3 r x hd :=
  ⟨(hb.cell (block_lt_of_cell h.b1)).trans h.b1, keep_of_below hb h.b2, (hb.cell (block_lt_of_cell h.b3)).trans h.b3⟩
theorem IsB.c {w : World} {q1 q2 q3 r : Nat} {x : En} {hd : ByteArray} (h : IsB w q1 q2 q3 r x hd) (j : Nat) : w.cell? ⟨q2, j, none⟩ = (blA x)[j]? := by simp [World.cell?, h.b2]
set_option maxHeartbeats 4000000 in
theorem iss1_r (q1 q2 q3 r : Nat) (ca hd : ByteArray) (x : En) (w : World) (hB : IsB w q1 q2 q3 r x hd) (hr : w.cell? ⟨r, 0, none⟩ = some (.string ca)) (hA : Rs w w.heap.size x.A x.l) (hP : Rs w w.heap.size x.PA x.p) (hl : x.l.length ≤ 100000000) (hp : x.p.length ≤ 100000000) :
    Calls Tryz.prog 77 #[.pointer (some ⟨q1, 0, none⟩), .pointer (some ⟨q2, 0, none⟩), .pointer (some ⟨q3, 0, none⟩)] w fun e w' => CkP (fun rb => rb = false → MayOk x) w e w' := by
  have HM := Lib.hid (may_r r ca x w hr hA hP hl hp)
  have HN := Lib.hid (fun W => name_r' hd W)
  have b1 := hB.b1
  have c0 := hB.c 0
  have c1 := hB.c 1
  have c2 := hB.c 2
  have c3 := hB.c 3
  have c4 := hB.c 4
  have c5 := hB.c 5
  have c6 := hB.c 6
  have c7 := hB.c 7
  have c8 := hB.c 8
  have HB3 : Hid (∀ W, Below w.heap.size w W → W.cell? ⟨q3, 0, none⟩ = some (.string hd)) := Lib.hid (fun W hb => (hB.below hb).b3)
  have HT : Hid (∀ W, Below w.heap.size w W → CkP (fun rb => rb = false → MayOk x) w (.returned (.bool true)) W) := Lib.hid (fun W hb => ⟨true, rfl, fun h => (by cases h), hb⟩)
  have HY : Hid (∀ rb W, MayOk x → Below w.heap.size w W → CkP (fun rb => rb = false → MayOk x) w (.returned (.bool rb)) W) := Lib.hid (fun rb W hm hb => ⟨rb, rfl, fun _ => hm, hb⟩)
  generalize CkP (fun rb => rb = false → MayOk x) w = CP at *
  clear hB hA hP hr
  unfold blA at *
  go_enter Tryz.func77, Tryz.ntmps77
  go_wp2_with (first
    | (go_at_call 78; refine HM.out.mono ?_; rintro en w2 ⟨rb, rfl, hok, hb2⟩; have HOK := Lib.hid hok; have HB2 := Lib.hid hb2; have b3 := HB3.out _ hb2; clear hb2 hok HB3; cases rb)
    | (go_at_call 79; refine (HN.out _).mono ?_; rintro en w4 ⟨rb4, rfl, _, hb4⟩; have HB4 := Lib.hid (HB2.out.trans (hb4.mono HB2.out.size)); clear hb4)
    | fail)
  all_goals
    first
      | exact HT.out _ HB2.out
      | (go_ret; exact HT.out _ HB2.out)
      | exact HY.out _ _ (HOK.out rfl) HB4.out
      | (go_ret; exact HY.out _ _ (HOK.out rfl) HB4.out)
      | (go_ret; exact HY.out _ _ (HOK.out trivial) HB4.out)
      | exact HY.out _ _ (HOK.out trivial) HB4.out
      | exact HY.out _ _ HOK.out HB4.out
end Go.Proofs.YtdinloecgaapaaaGreatDoor
namespace Go.Proofs.YtdinloecgaapaaaGreatDoor
open Go.RowKit Go.Maps Go.Lib
set_option linter.unusedVariables false
set_option maxRecDepth 100000

theorem iss2_r (q1 q2 q3 base r N b n : Nat) (ca hd : ByteArray) (x : En) (G : ByteArray → Option (Option Nat)) (S : Nat → Option En) (w : World) (hB : IsB w q1 q2 q3 r x hd) (hR : RgS w base r ca N b n G S) (hk : x.nu.size ≤ 16) :
    Calls Tryz.prog 80 #[.pointer (some ⟨q1, 0, none⟩), .pointer (some ⟨q2, 0, none⟩)] w fun e w' => CkP (fun _ => True) w e w' := by
  have b1 : ∀ m, (w.drewN m).cell? ⟨q1, 0, none⟩ = some (.pointer (some ⟨r, 0, none⟩)) := fun m => hB.b1
  have c0 : ∀ m, (w.drewN m).cell? ⟨q2, 0, none⟩ = some (.string x.nu) := fun m => hB.c 0
  obtain ⟨_, m1⟩ := hR.cell
  have hm1 : ∀ m, (w.drewN m).cell? ⟨r, 1, none⟩ = some (.map (some b)) := fun m => m1
  have hlk : ∀ m, (Instr.lookup 113 (.map (some b)) (.string x.nu) false).run Tryz.prog (w.drewN m) = .ok (ptV ((G x.nu).getD none)) (w.drewN m) := fun m => (hR.below (below_drewR (Below.refl _ _) m)).look (by unfold maxLen; omega)
  have HF : Hid (∀ (rb : Bool) W, Below w.heap.size w W → CkP (fun _ => True) w (.returned (.bool rb)) W) := Lib.hid (fun rb W hb => ⟨rb, rfl, trivial, hb⟩)
  generalize CkP (fun _ => True) w = CP at *
  clear hB hR m1
  cases hv : (G x.nu).getD none with
  | none =>
    have hlk' : ∀ m, (Instr.lookup 113 (.map (some b)) (.string x.nu) false).run Tryz.prog (w.drewN m) = .ok (.pointer none) (w.drewN m) := fun m => by rw [hlk m, hv]; rfl
    clear hlk hv
    go_enter Tryz.func80, Tryz.ntmps80
    go_wp2_with fail
    go_quiet (fail)
    go_wp2_with fail
    first
      | exact HF.out _ _ (below_drewR (Below.refl _ _) _)
      | (go_ret; exact HF.out _ _ (below_drewR (Below.refl _ _) _))
  | some e =>
    have hlk' : ∀ m, (Instr.lookup 113 (.map (some b)) (.string x.nu) false).run Tryz.prog (w.drewN m) = .ok (.pointer (some ⟨e, 0, none⟩)) (w.drewN m) := fun m => by rw [hlk m, hv]; rfl
    clear hlk hv
    go_enter Tryz.func80, Tryz.ntmps80
    go_wp2_with fail
    go_quiet (fail)
    go_wp2_with fail
    first
      | exact HF.out _ _ (below_drewR (Below.refl _ _) _)
      | (go_ret; exact HF.out _ _ (below_drewR (Below.refl _ _) _))
theorem iss31_r (q1 base r N b n : Nat) (ca s : ByteArray) (G : ByteArray → Option (Option Nat)) (S : Nat → Option En) (w : World) (b1 : w.cell? ⟨q1, 0, none⟩ = some (.pointer (some ⟨r, 0, none⟩))) (hR : RgS w base r ca N b n G S) (hN : N ≤ 10000) :
    Calls Tryz.prog 83 #[.string s, .pointer (some ⟨q1, 0, none⟩)] w fun e w' => CkP (fun _ => True) w e w' := by
  have HX := Lib.hid (box_r base r N b n ca G S s w hR (Nat.le_trans hR.num hN))
  have HF : Hid (∀ (rb : Bool) W, Below w.heap.size w W → CkP (fun _ => True) w (.returned (.bool rb)) W) := Lib.hid (fun rb W hb => ⟨rb, rfl, trivial, hb⟩)
  generalize CkP (fun _ => True) w = CP at *
  clear hR
  go_enter Tryz.func83, Tryz.ntmps83
  go_wp2_with (first
    | (go_at_call 41; refine HX.out.mono ?_; rintro en w2 ⟨t2, ok2, rfl, _, hb2⟩; have HB2 := Lib.hid hb2; clear hb2)
    | fail)
  first
    | exact HF.out _ _ HB2.out
    | (go_ret; exact HF.out _ _ HB2.out)
theorem iss3_r (q1 q2 q3 base r N b n : Nat) (ca hd : ByteArray) (x : En) (G : ByteArray → Option (Option Nat)) (S : Nat → Option En) (w : World) (hB : IsB w q1 q2 q3 r x hd) (hR : RgS w base r ca N b n G S) (hN : N ≤ 10000) (hA : Rs w w.heap.size x.A x.l) (hl : x.l.length ≤ 100000000) :
    Calls Tryz.prog 81 #[.pointer (some ⟨q2, 0, none⟩), .pointer (some ⟨q1, 0, none⟩)] w fun e w' => CkP (fun _ => True) w e w' := by
  have HC := Lib.hid (containsF_r x.A x.c x.l 83 #[.pointer (some ⟨q1, 0, none⟩)] w hA hl (enters_of Tryz.func83 (by kernel_rfl) rfl) (fun i s _ W hb => iss31_r q1 base r N b n ca s G S W ((hB.below hb).b1) (hR.below hb) hN))
  have c5 : w.cell? ⟨q2, 5, none⟩ = some (.slice x.A x.l.length x.c) := hB.c 5
  have HF : Hid (∀ (rb : Bool) W, Below w.heap.size w W → CkP (fun _ => True) w (.returned (.bool rb)) W) := Lib.hid (fun rb W hb => ⟨rb, rfl, trivial, hb⟩)
  generalize CkP (fun _ => True) w = CP at HF ⊢
  clear hR hB hA
  go_enter Tryz.func81, Tryz.ntmps81
  go_wp2_with (first
    | (go_at_call 82; refine HC.out.mono ?_; rintro en w2 ⟨rb, rfl, _, hb2⟩; have HB2 := Lib.hid hb2; clear hb2)
    | fail)
  first
    | exact HF.out _ _ HB2.out
    | (go_ret; exact HF.out _ _ HB2.out)
theorem iss4_r (q1 base r N b n : Nat) (ca : ByteArray) (G : ByteArray → Option (Option Nat)) (S : Nat → Option En) (w : World) (b1 : w.cell? ⟨q1, 0, none⟩ = some (.pointer (some ⟨r, 0, none⟩))) (hR : RgS w base r ca N b n G S) :
    Calls Tryz.prog 84 #[.pointer (some ⟨q1, 0, none⟩)] w fun e w' => CkP (fun _ => True) w e w' := by
  obtain ⟨_, m1⟩ := hR.cell
  obtain ⟨m, _, hlen⟩ := hR.map.len (t := 113) (e := 124) Tryz.underlying113
  have HF : Hid (∀ (rb : Bool) W, Below w.heap.size w W → CkP (fun _ => True) w (.returned (.bool rb)) W) := Lib.hid (fun rb W hb => ⟨rb, rfl, trivial, hb⟩)
  generalize CkP (fun _ => True) w = CP at *
  clear hR
  have hl' := hlen 3
  go_enter Tryz.func84, Tryz.ntmps84
  go_wp2_with fail
  first
    | exact HF.out _ _ (Below.refl _ _)
    | (go_ret; exact HF.out _ _ (Below.refl _ _))
end Go.Proofs.YtdinloecgaapaaaGreatDoor
