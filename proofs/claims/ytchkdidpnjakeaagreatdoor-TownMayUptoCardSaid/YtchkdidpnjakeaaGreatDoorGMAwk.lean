/- supercargolaw54.awake: the chapter's example stands. ref54.May: which setups may be. The law TownMay, as it runs. Openings of arguments, in general. -/
import Derived.Test.YtchkdidpnjakeaaGreatDoorGMTnew
import Derived.Test.YtchkdidpnjakeaaGreatDoorGMDay
import Derived.Test.YtchkdidpnjakeaaGreatDoorGWReg
import Derived.ShutString
import Derived.ChangeOld
import Derived.Deep.Slices
import Derived.Deep.Fields
import Derived.ChangeSame
import Derived.ChangeAt
namespace Go.Proofs.YtchkdidpnjakeaaGreatDoor
open Go.RowKit Go.Maps Go.Lib Led
set_option linter.unusedVariables false
set_option maxRecDepth 100000

def exU : Su := ⟨[⟨⟨#[107]⟩, ⟨#[]⟩, 2⟩, ⟨⟨#[115]⟩, ⟨#[107]⟩, 0⟩], [], [], [], []⟩
def exA (g : Nat) : Sa := ⟨some ⟨g, 0, none⟩, 2, none, 0, none, 0, none, 0, none, 0⟩
theorem exU_sz : SuSz exU := by
  refine ⟨⟨by decide, by decide, by decide, by decide, by decide⟩, fun p hp => ?_, ⟨by decide, fun d hd => (by cases hd), fun d hd => (by cases hd), fun d hd => (by cases hd)⟩, ⟨by decide, fun f hf => (by cases hf)⟩⟩
  simp only [exU, List.mem_cons, List.not_mem_nil, or_false] at hp
  rcases hp with rfl | rfl <;> exact ⟨by decide, by decide⟩
theorem exU_may : MayP exU := by
  refine ⟨⟨⟨by decide, by decide⟩, fun i p hp => ?_, fun p hp => ?_⟩, ⟨by decide, fun d hd => (by cases hd), fun d hd => (by cases hd), by decide, fun d hd => (by cases hd), by decide⟩, ⟨by decide, fun f hf => (by cases hf), fun i f hf => (by simp [exU] at hf)⟩, fun i x hx => (by simp [exU] at hx), fun i x hx => (by simp [exU] at hx)⟩
  · match i, hp with
    | 0, hp =>
      cases hp
      exact ⟨by unfold nmOk; decide, by decide, by decide, fun k q hk => absurd hk (by omega)⟩
    | 1, hp =>
      cases hp
      refine ⟨by unfold nmOk; decide, by decide, by decide, fun k q hk hq => ?_⟩
      have : k = 0 := by omega
      subst this
      cases hq
      decide
    | n + 2, hp => simp [exU] at hp
  · simp only [exU, List.mem_cons, List.not_mem_nil, or_false] at hp
    rcases hp with rfl | rfl
    · exact rfl
    · exact ⟨⟨⟨#[107]⟩, ⟨#[]⟩, 2⟩, by simp [parF, exU], rfl⟩
set_option maxHeartbeats 8000000 in
theorem awake_w {w : World} (h8 : 8 ≤ w.heap.size) : Calls Tryz.prog 4 #[] w fun e w' => e = .returned (.bool true) ∧ Below w.heap.size w w' := by
  obtain ⟨W, hW⟩ : ∃ W, W = w.alloc (.cells #[.string ⟨#[107]⟩, .string ⟨#[]⟩, .int .i64 2, .string ⟨#[115]⟩, .string ⟨#[107]⟩, .int .i64 0] 38) := ⟨_, rfl⟩
  have hb : Below w.heap.size w W := by rw [hW]; exact (Below.refl _ _).alloc (Nat.le_refl _) _
  have hz : W.heap[w.heap.size]? = some (.cells #[.string ⟨#[107]⟩, .string ⟨#[]⟩, .int .i64 2, .string ⟨#[115]⟩, .string ⟨#[107]⟩, .int .i64 0] 38 (0, 0)) := by rw [hW]; exact heap_alloc_new _ _
  have hzl : w.heap.size < W.heap.size := (Array.getElem?_eq_some_iff.1 hz).1
  have hA : SuAt W W.heap.size exU (exA w.heap.size) := by
    refine ⟨fun _ => ⟨w.heap.size, 0, rfl, hzl, fun i x hx => ?_⟩, fun h => absurd h (by decide), fun h => absurd h (by decide), fun h => absurd h (by decide), fun h => absurd h (by decide)⟩
    match i, hx with
    | 0, hx => cases hx; exact ⟨by simp [World.cell?, hz], by simp [World.cell?, hz], by simp [World.cell?, hz]⟩
    | 1, hx => cases hx; exact ⟨by simp [World.cell?, hz], by simp [World.cell?, hz], by simp [World.cell?, hz]⟩
    | n + 2, hx => simp [exU] at hx
  have HN : Hid (Calls Tryz.prog 7 #[.agg #[.slice (some ⟨w.heap.size, 0, none⟩) 2 2, .slice none 0 0, .slice none 0 0, .slice none 0 0, .slice none 0 0]] W fun e w' => ∃ t, e = .returned (.tuple #[.pointer (some ⟨t, 0, none⟩), .int .i64 0]) ∧ Hid (TwI w' t exU) ∧ Hid (Below w.heap.size w w')) := Lib.hid ((tnew_w (u := exU) (a := exA w.heap.size) hA exU_sz (by have := hb.size; omega)).mono (by
    rintro e w' ⟨h1, ⟨h2, _⟩ | ⟨_, t, h2, h3⟩⟩
    · exact absurd exU_may h2
    · exact ⟨t, h2, Lib.hid h3, Lib.hid (hb.trans (h1.mono hb.size))⟩))
  have HW := Lib.hid hW
  clear hW hb hz hzl hA h8
  go_enter Tryz.func4, Tryz.ntmps4
  go_upto_region 2 with (first | (rw [← HW.out]; clear HW; go_at_call 7; refine HN.out.mono ?_; rintro e W3 ⟨t, rfl, HT, HB⟩) | fail)
  clear HN
  have H1 : Hid (∀ X, Below W3.heap.size W3 X → Calls Tryz.prog 10 #[.pointer (some ⟨t, 0, none⟩)] X fun e w' => e = .returned (.int .i64 0) ∧ Below W3.heap.size W3 w') := Lib.hid fun X hX => (day_w (HT.out.below hX)).mono fun e w' ⟨h1, h2⟩ => ⟨h1, hX.trans (h2.mono hX.size)⟩
  have H2 : Hid (∀ X, Below W3.heap.size W3 X → Calls Tryz.prog 11 #[.pointer (some ⟨t, 0, none⟩)] X fun e w' => e = .returned (.slice none 0 0) ∧ Below W3.heap.size W3 w') := Lib.hid fun X hX => (mail_w (HT.out.below hX)).mono fun e w' ⟨h1, h2⟩ => ⟨h1, hX.trans (h2.mono hX.size)⟩
  have H3 : Hid (∀ X, Below W3.heap.size W3 X → Calls Tryz.prog 9 #[.pointer (some ⟨t, 0, none⟩)] X fun e w' => e = .returned (.bool true) ∧ Below W3.heap.size W3 w') := Lib.hid fun X hX => (tquiet_w (HT.out.below hX) (by decide)).mono fun e w' ⟨h1, h2⟩ => ⟨h1, hX.trans (h2.mono hX.size)⟩
  have H4 : Hid (∀ X, Below W3.heap.size W3 X → Calls Tryz.prog 12 #[.pointer (some ⟨t, 0, none⟩), .agg #[.int .i64 1, .int .i64 0, .string ⟨#[]⟩, .int .i64 0, .int .i64 0, .string ⟨#[]⟩]] X fun e w' => e = .returned (.int .i64 3) ∧ Below W3.heap.size W3 w') := Lib.hid fun X hX => (do_w (HT.out.below hX)).mono fun e w' ⟨h1, h2⟩ => ⟨h1, hX.trans (h2.mono hX.size)⟩
  have H5 : Hid (∀ X, Below W3.heap.size W3 X → Calls Tryz.prog 13 #[.pointer (some ⟨t, 0, none⟩)] X fun e w' => (∃ A c, e = .returned (.slice A 2 c)) ∧ Below W3.heap.size W3 w') := Lib.hid fun X hX => (names_w (HT.out.below hX) (by decide)).mono fun e w' ⟨h1, h2⟩ => ⟨h1, hX.trans (h2.mono hX.size)⟩
  clear HT
  go_wp2_with (first
    | (go_at_call 10; refine (H1.out _ (Below.refl _ _)).mono ?_; rintro e x1 ⟨rfl, g1⟩)
    | (go_at_call 11; refine (H2.out _ g1).mono ?_; rintro e x2 ⟨rfl, g2⟩)
    | (go_at_call 9; refine (H3.out _ g2).mono ?_; rintro e x3 ⟨rfl, g3⟩)
    | (go_at_call 12; refine (H4.out _ g3).mono ?_; rintro e x4 ⟨rfl, g4⟩)
    | (go_at_call 13; refine (H5.out _ g4).mono ?_; rintro e x5 ⟨⟨A5, c5, rfl⟩, g5⟩)
    | fail)
  have HX := Lib.hid (HB.out.trans (g5.mono HB.out.size))
  first
    | exact ⟨rfl, HX.out⟩
    | (go_ret; exact ⟨rfl, HX.out⟩)
end Go.Proofs.YtchkdidpnjakeaaGreatDoor
namespace Go.Proofs.YtchkdidpnjakeaaGreatDoor
open Go.RowKit Go.Maps Go.Lib
set_option linter.unusedVariables false
set_option maxRecDepth 100000

set_option maxHeartbeats 16000000 in
theorem may_d {w : World} {u : Su} {a : Sa} (hA : SuAt w w.heap.size u a) (hz : SuSz u) :
    Calls Tryz.prog 6 #[.agg #[.slice a.PA u.par.length a.pc, .slice a.DA u.dl.length a.dc, .slice a.FA u.fd.length a.fc, .slice a.RA u.rest.length a.rc, .slice a.HA u.hol.length a.hc]] w fun e w' => BoolQ (MayP u) w e w' := by
  obtain ⟨W1, hW1⟩ : ∃ W1, W1 = w.alloc (.cells #[.slice a.PA u.par.length a.pc, .slice a.DA u.dl.length a.dc, .slice a.FA u.fd.length a.fc, .slice a.RA u.rest.length a.rc, .slice a.HA u.hol.length a.hc] 29) := ⟨_, rfl⟩
  have HS : Hid (∀ X, Below W1.heap.size W1 X → SbX w X u a) := Lib.hid fun X hX => SbX.of hA hW1 hX
  have HN : Hid (¬ MayP u → ∀ X, Below W1.heap.size W1 X → BoolQ (MayP u) w (.returned (.bool false)) X) := Lib.hid fun h X hX => BoolQ.no h (HS.out X hX).bw
  have HY : Hid (∀ (r : Bool) X, (r = true ↔ MayP u) → Below W1.heap.size W1 X → BoolQ (MayP u) w (.returned (.bool r)) X) := Lib.hid fun r X h hX => ⟨r, rfl, h, (HS.out X hX).bw⟩
  have hp0 : u.par.length ≤ 100000000 := by have := hz.few.par; omega
  have H1 : Hid (∀ X, Below W1.heap.size W1 X → Calls Tryz.prog 15 #[.agg #[.slice a.PA u.par.length a.pc, .slice a.DA u.dl.length a.dc, .slice a.FA u.fd.length a.fc, .slice a.RA u.rest.length a.rc, .slice a.HA u.hol.length a.hc]] X fun e w' => BoolQ (PartiesOk u.par) X e w') := Lib.hid fun X hX => parties_d ((HS.out X hX).su.more (Nat.le_of_lt (HS.out X hX).lt)) hp0 hz.py
  have H2 : Hid (∀ X, Below W1.heap.size W1 X → Calls Tryz.prog 16 #[.agg #[.slice a.PA u.par.length a.pc, .slice a.DA u.dl.length a.dc, .slice a.FA u.fd.length a.fc, .slice a.RA u.rest.length a.rc, .slice a.HA u.hol.length a.hc]] X fun e w' => BoolQ (DealsOk u.par u.dl) X e w') := Lib.hid fun X hX => deals_d ((HS.out X hX).su.more (Nat.le_of_lt (HS.out X hX).lt)) hp0 hz.dl
  have H3 : Hid (∀ X, Below W1.heap.size W1 X → Calls Tryz.prog 17 #[.agg #[.slice a.PA u.par.length a.pc, .slice a.DA u.dl.length a.dc, .slice a.FA u.fd.length a.fc, .slice a.RA u.rest.length a.rc, .slice a.HA u.hol.length a.hc]] X fun e w' => BoolQ (FundsOk u.par u.fd) X e w') := Lib.hid fun X hX => funds_d ((HS.out X hX).su.more (Nat.le_of_lt (HS.out X hX).lt)) hp0 hz.fd
  have H4 : Hid (∀ X, Below W1.heap.size W1 X → Calls Tryz.prog 18 #[.agg #[.slice a.RA u.rest.length a.rc, .slice a.HA u.hol.length a.hc]] X fun e w' => BoolQ (Rz2 u.rest u.hol) X e w') := Lib.hid fun X hX => refMay_m u.rest u.hol a.RA a.HA a.rc a.hc X ((HS.out X hX).su.rest.more (Nat.le_of_lt (HS.out X hX).lt)) ((HS.out X hX).su.hol.more (Nat.le_of_lt (HS.out X hX).lt)) (by have := hz.few.rest; omega) (by have := hz.few.hol; omega)
  have HW := Lib.hid hW1
  have HB0 := Lib.hid (Below.refl W1.heap.size W1)
  obtain ⟨k0, k1, k2, k3, k4, kl, _, _⟩ := HS.out W1 (Below.refl _ _)
  clear hW1 hA hz hp0
  generalize BoolQ (MayP u) w = CP at *
  go_enter Tryz.func6, Tryz.ntmps6
  go_upto_region 1 with fail
  rw [← HW.out]
  clear HW
  go_wp2_with fail
  refine (H1.out W1 HB0.out).mono ?_
  rintro e w2 ⟨r, rfl, hr, hb⟩
  have HR1 := Lib.hid hr
  have HB2 := Lib.hid (HB0.out.trans (hb.mono HB0.out.size))
  clear hr hb H1 k0 k1 k2 k3 k4 kl
  obtain ⟨k0, k1, k2, k3, k4, kl, _, _⟩ := HS.out w2 HB2.out
  cases r with
  | false =>
    have HX := Lib.hid (HN.out (fun h => by have := HR1.out.2 h.par; cases this) w2 HB2.out)
    clear HN HY HR1
    go_wp2_with fail
    first
      | exact HX.out
      | (go_ret; exact HX.out)
  | true =>
    have HP1 := Lib.hid (HR1.out.1 rfl)
    clear HR1
    go_wp2_with fail
    refine (H2.out w2 HB2.out).mono ?_
    rintro e w3 ⟨r, rfl, hr, hb⟩
    have HR2 := Lib.hid hr
    have HB3 := Lib.hid (HB2.out.trans (hb.mono HB2.out.size))
    clear hr hb H2 k0 k1 k2 k3 k4 kl
    obtain ⟨k0, k1, k2, k3, k4, kl, _, _⟩ := HS.out w3 HB3.out
    cases r with
    | false =>
      have HX := Lib.hid (HN.out (fun h => by have := HR2.out.2 h.dl; cases this) w3 HB3.out)
      clear HN HY HR2
      go_wp2_with fail
      first
        | exact HX.out
        | (go_ret; exact HX.out)
    | true =>
      have HP2 := Lib.hid (HR2.out.1 rfl)
      clear HR2
      go_wp2_with fail
      refine (H3.out w3 HB3.out).mono ?_
      rintro e w4 ⟨r, rfl, hr, hb⟩
      have HR3 := Lib.hid hr
      have HB4 := Lib.hid (HB3.out.trans (hb.mono HB3.out.size))
      clear hr hb H3 k0 k1 k2 k3 k4 kl
      obtain ⟨k0, k1, k2, k3, k4, kl, _, _⟩ := HS.out w4 HB4.out
      cases r with
      | false =>
        have HX := Lib.hid (HN.out (fun h => by have := HR3.out.2 h.fd; cases this) w4 HB4.out)
        clear HN HY HR3
        go_wp2_with fail
        first
          | exact HX.out
          | (go_ret; exact HX.out)
      | true =>
        have HP3 := Lib.hid (HR3.out.1 rfl)
        clear HR3
        go_wp2_with fail
        refine (H4.out w4 HB4.out).mono ?_
        rintro e w5 ⟨r, rfl, hr, hb⟩
        have HX := Lib.hid (HY.out r w5 (by
          rw [hr]
          exact ⟨fun h => ⟨HP1.out, HP2.out, HP3.out, h.1, h.2⟩, fun h => ⟨h.rest, h.hol⟩⟩) (HB4.out.trans (hb.mono HB4.out.size)))
        clear hr hb H4 HN HY
        go_wp2_with fail
        first
          | exact HX.out
          | (go_ret; exact HX.out)
end Go.Proofs.YtchkdidpnjakeaaGreatDoor
namespace Go.Proofs.YtchkdidpnjakeaaGreatDoor
open Go.RowKit Go.Maps Go.Lib Led
set_option linter.unusedVariables false
set_option maxRecDepth 100000

set_option maxHeartbeats 16000000 in
theorem law_w {W : World} {u : Su} {a : Sa} (hA : SuAt W W.heap.size u a) (h8 : 8 ≤ W.heap.size) (hB : SuB u) (hS : FewU u → SuSz u) :
    Calls Tryz.prog 3 #[.agg #[.slice a.PA u.par.length a.pc, .slice a.DA u.dl.length a.dc, .slice a.FA u.fd.length a.fc, .slice a.RA u.rest.length a.rc, .slice a.HA u.hol.length a.hc]] W fun e w' => e = .returned (.bool true) ∧ Below W.heap.size W w' := by
  obtain ⟨W1, hW1⟩ : ∃ W1, W1 = W.alloc (.cells #[.slice a.PA u.par.length a.pc, .slice a.DA u.dl.length a.dc, .slice a.FA u.fd.length a.fc, .slice a.RA u.rest.length a.rc, .slice a.HA u.hol.length a.hc] 29) := ⟨_, rfl⟩
  have HS : Hid (∀ X, Below W1.heap.size W1 X → SbX W X u a) := Lib.hid fun X hX => SbX.of hA hW1 hX
  have hs1 : W1.heap.size = W.heap.size + 1 := by rw [hW1]; simp
  have HSx : Hid (∀ X, Below W1.heap.size W1 X → SuAt X X.heap.size u a) := Lib.hid fun X hX => (HS.out X hX).su.more (Nat.le_of_lt (HS.out X hX).lt)
  have HRg : Hid (∀ X, Below W1.heap.size W1 X → X.rangeAt W.heap.size 0 [.slice a.PA u.par.length a.pc, .slice a.DA u.dl.length a.dc, .slice a.FA u.fd.length a.fc, .slice a.RA u.rest.length a.rc, .slice a.HA u.hol.length a.hc] ∧ W.heap.size < X.heap.size) := Lib.hid fun X hX => ⟨fun j v hv => by
    have h := (HS.out X hX).blk
    show X.cell? ⟨W.heap.size, 0 + j, none⟩ = some v
    rw [Nat.zero_add, World.cell?, h]
    simpa [suA] using hv, (HS.out X hX).lt⟩
  have HIb : Hid ((Tryz.prog.info? 29).map (·.size) = some ([.slice a.PA u.par.length a.pc, .slice a.DA u.dl.length a.dc, .slice a.FA u.fd.length a.fc, .slice a.RA u.rest.length a.rc, .slice a.HA u.hol.length a.hc] : List Value).length) := Lib.hid infoSu5
  have HBw : Hid (∀ X, Below W1.heap.size W1 X → Below W.heap.size W X) := Lib.hid fun X hX => (HS.out X hX).bw
  have HAw : Hid (∀ X, Below W1.heap.size W1 X → Calls Tryz.prog 4 #[] X fun e w' => e = .returned (.bool true) ∧ Below W1.heap.size W1 w') := Lib.hid fun X hX => (awake_w (by have := hX.size; omega)).mono fun e w' ⟨h1, h2⟩ => ⟨h1, hX.trans (h2.mono hX.size)⟩
  have HHv : Hid (∀ X, Below W1.heap.size W1 X → Calls Tryz.prog 5 #[.agg #[.slice a.PA u.par.length a.pc, .slice a.DA u.dl.length a.dc, .slice a.FA u.fd.length a.fc, .slice a.RA u.rest.length a.rc, .slice a.HA u.hol.length a.hc], .slice none 0 0, .int .i64 0] X fun e w' => (∃ r : Bool, e = .returned (.bool r) ∧ (r = false → FewU u)) ∧ Below W1.heap.size W1 w') := Lib.hid fun X hX => (heavy_any (HSx.out X hX) hB).mono fun e w' ⟨r, h1, h2, h3⟩ => ⟨⟨r, h1, h2⟩, hX.trans (h3.mono hX.size)⟩
  have HMd : Hid (FewU u → ∀ X, Below W1.heap.size W1 X → Calls Tryz.prog 6 #[.agg #[.slice a.PA u.par.length a.pc, .slice a.DA u.dl.length a.dc, .slice a.FA u.fd.length a.fc, .slice a.RA u.rest.length a.rc, .slice a.HA u.hol.length a.hc]] X fun e w' => (∃ r : Bool, e = .returned (.bool r) ∧ (r = true ↔ MayP u)) ∧ Below W1.heap.size W1 w') := Lib.hid fun hf X hX => (may_d (HSx.out X hX) (hS hf)).mono fun e w' ⟨r, h1, h2, h3⟩ => ⟨⟨r, h1, h2⟩, hX.trans (h3.mono hX.size)⟩
  have HMt : Hid (FewU u → ∀ X, Below W1.heap.size W1 X → Calls Tryz.prog 8 #[.agg #[.slice a.PA u.par.length a.pc, .slice a.DA u.dl.length a.dc, .slice a.FA u.fd.length a.fc, .slice a.RA u.rest.length a.rc, .slice a.HA u.hol.length a.hc]] X fun e w' => (∃ r : Bool, e = .returned (.bool r) ∧ (r = true ↔ MayP u)) ∧ Below W1.heap.size W1 w' ∧ Below X.heap.size X w') := Lib.hid fun hf X hX => (may_t (HSx.out X hX) (hS hf)).mono fun e w' ⟨r, h1, h2, h3⟩ => ⟨⟨r, h1, h2⟩, hX.trans (h3.mono hX.size), h3⟩
  have HNw : Hid (FewU u → ∀ X, Below W1.heap.size W1 X → Calls Tryz.prog 7 #[.agg #[.slice a.PA u.par.length a.pc, .slice a.DA u.dl.length a.dc, .slice a.FA u.fd.length a.fc, .slice a.RA u.rest.length a.rc, .slice a.HA u.hol.length a.hc]] X fun e w' => (¬ MayP u ∧ e = .returned (.tuple #[.pointer none, .int .i64 1]) ∨ MayP u ∧ ∃ t, e = .returned (.tuple #[.pointer (some ⟨t, 0, none⟩), .int .i64 0]) ∧ Hid (TwI w' t u)) ∧ Below W1.heap.size W1 w') := Lib.hid fun hf X hX => (tnew_w (HSx.out X hX) (hS hf) (by have := hX.size; omega)).mono (by
    rintro e w' ⟨h1, h2 | ⟨h2, t, h3, h4⟩⟩
    · exact ⟨.inl h2, hX.trans (h1.mono hX.size)⟩
    · exact ⟨.inr ⟨h2, t, h3, Lib.hid h4⟩, hX.trans (h1.mono hX.size)⟩)
  have HQu : Hid (FewU u → ∀ X t, Below W1.heap.size W1 X → TwI X t u → Calls Tryz.prog 9 #[.pointer (some ⟨t, 0, none⟩)] X fun e w' => e = .returned (.bool true) ∧ Below W1.heap.size W1 w') := Lib.hid fun hf X t hX hT => (tquiet_w hT hf.par).mono fun e w' ⟨h1, h2⟩ => ⟨h1, hX.trans (h2.mono hX.size)⟩
  have HW := Lib.hid hW1
  clear hW1 hA hB hS HS HSx h8 hs1
  go_enter Tryz.func3, Tryz.ntmps3
  go_upto_region 1 with fail
  rw [← HW.out]
  clear HW
  go_upto_region 3 with (first | (go_at_call 4; refine (HAw.out _ (Below.refl _ _)).mono ?_; rintro e x1 ⟨rfl, g1⟩) | fail)
  have kl := (HRg.out x1 g1).2
  go_upto_if 9 with (first
    | (refine wpList_load_mid rfl 29 (.tmp 1) rfl W.heap.size 0 rfl [.slice a.PA u.par.length a.pc, .slice a.DA u.dl.length a.dc, .slice a.FA u.fd.length a.fc, .slice a.RA u.rest.length a.rc, .slice a.HA u.hol.length a.hc] _ (HRg.out _ g1).1 Tryz.underlying29 rfl HIb.out ?_)
    | (go_at_call 5; refine (HHv.out _ g1).mono ?_; rintro e x2 ⟨⟨r, rfl, hr⟩, g2⟩)
    | fail)
  clear kl HAw HHv
  cases r with
  | true =>
    have HX := Lib.hid (HBw.out x2 g2)
    clear HMd HMt HNw HQu HRg HBw
    go_wp2_with fail
    first
      | exact ⟨rfl, HX.out⟩
      | (go_ret; exact ⟨rfl, HX.out⟩)
  | false =>
    have hf := hr rfl
    clear hr
    have H1 := Lib.hid (HMd.out hf)
    have H2 := Lib.hid (HNw.out hf)
    have H3 := Lib.hid (HMt.out hf)
    have H4 := Lib.hid (HQu.out hf)
    clear HMd HMt HNw HQu hf
    have kl := (HRg.out x2 g2).2
    go_upto_region 6 with (first
      | (refine wpList_load_mid rfl 29 (.tmp 1) rfl W.heap.size 0 rfl [.slice a.PA u.par.length a.pc, .slice a.DA u.dl.length a.dc, .slice a.FA u.fd.length a.fc, .slice a.RA u.rest.length a.rc, .slice a.HA u.hol.length a.hc] _ (HRg.out _ g2).1 Tryz.underlying29 rfl HIb.out ?_)
      | (go_at_call 6; refine (H1.out _ g2).mono ?_; rintro e x3 ⟨⟨r, rfl, hr⟩, g3⟩)
      | fail)
    clear kl
    have kl := (HRg.out x3 g3).2
    by_cases hM : MayP u
    · obtain rfl : r = true := hr.2 hM
      have HM := Lib.hid hM
      have H2t : Hid (Calls Tryz.prog 7 #[.agg #[.slice a.PA u.par.length a.pc, .slice a.DA u.dl.length a.dc, .slice a.FA u.fd.length a.fc, .slice a.RA u.rest.length a.rc, .slice a.HA u.hol.length a.hc]] x3 fun e w' => ∃ t, e = .returned (.tuple #[.pointer (some ⟨t, 0, none⟩), .int .i64 0]) ∧ Hid (TwI w' t u) ∧ Below W1.heap.size W1 w') := Lib.hid ((H2.out x3 g3).mono (by
              rintro e w' ⟨⟨h1, _⟩ | ⟨_, t, h2, h3⟩, h4⟩
              · exact absurd HM.out h1
              · exact ⟨t, h2, h3, h4⟩))
      have H3t : Hid (∀ X, Below W1.heap.size W1 X → Calls Tryz.prog 8 #[.agg #[.slice a.PA u.par.length a.pc, .slice a.DA u.dl.length a.dc, .slice a.FA u.fd.length a.fc, .slice a.RA u.rest.length a.rc, .slice a.HA u.hol.length a.hc]] X fun e w' => e = .returned (.bool true) ∧ Below W1.heap.size W1 w' ∧ Below X.heap.size X w') := Lib.hid fun X hX => (H3.out X hX).mono fun e w' ⟨⟨r, ha, hb⟩, hc, hd⟩ => ⟨by rw [hb.2 HM.out] at ha; exact ha, hc, hd⟩
      clear hM hr H1 H2 H3
      go_upto_region 7 with (first
        | (refine wpList_load_mid rfl 29 (.tmp 1) rfl W.heap.size 0 rfl [.slice a.PA u.par.length a.pc, .slice a.DA u.dl.length a.dc, .slice a.FA u.fd.length a.fc, .slice a.RA u.rest.length a.rc, .slice a.HA u.hol.length a.hc] _ (HRg.out _ g3).1 Tryz.underlying29 rfl HIb.out ?_)
        | (go_at_call 7; refine H2t.out.mono ?_; rintro e x4 ⟨t, rfl, HT, g4⟩)
        | fail)
      clear kl H2t
      have kl := (HRg.out x4 g4).2
      go_upto_region 9 with (first
        | (refine wpList_load_mid rfl 29 (.tmp 1) rfl W.heap.size 0 rfl [.slice a.PA u.par.length a.pc, .slice a.DA u.dl.length a.dc, .slice a.FA u.fd.length a.fc, .slice a.RA u.rest.length a.rc, .slice a.HA u.hol.length a.hc] _ (HRg.out _ g4).1 Tryz.underlying29 rfl HIb.out ?_)
        | (go_at_call 8; refine (H3t.out _ g4).mono ?_; rintro e x5 ⟨rfl, g5, gx⟩)
        | fail)
      have HQ := Lib.hid (H4.out x5 t g5 (HT.out.below gx))
      clear H4 H3t HT kl HRg
      go_wp2_with (first | (go_at_call 9; refine HQ.out.mono ?_; rintro e x6 ⟨rfl, g6⟩) | fail)
      have HX := Lib.hid (HBw.out x6 g6)
      first
        | exact ⟨rfl, HX.out⟩
        | (go_ret; exact ⟨rfl, HX.out⟩)
    · obtain rfl : r = false := by cases r with | false => rfl | true => exact absurd (hr.1 rfl) hM
      have HM := Lib.hid hM
      have H2t : Hid (Calls Tryz.prog 7 #[.agg #[.slice a.PA u.par.length a.pc, .slice a.DA u.dl.length a.dc, .slice a.FA u.fd.length a.fc, .slice a.RA u.rest.length a.rc, .slice a.HA u.hol.length a.hc]] x3 fun e w' => e = .returned (.tuple #[.pointer none, .int .i64 1]) ∧ Below W1.heap.size W1 w') := Lib.hid ((H2.out x3 g3).mono (by
              rintro e w' ⟨⟨_, h2⟩ | ⟨h1, _⟩, h4⟩
              · exact ⟨h2, h4⟩
              · exact absurd h1 HM.out))
      have H3t : Hid (∀ X, Below W1.heap.size W1 X → Calls Tryz.prog 8 #[.agg #[.slice a.PA u.par.length a.pc, .slice a.DA u.dl.length a.dc, .slice a.FA u.fd.length a.fc, .slice a.RA u.rest.length a.rc, .slice a.HA u.hol.length a.hc]] X fun e w' => e = .returned (.bool false) ∧ Below W1.heap.size W1 w' ∧ Below X.heap.size X w') := Lib.hid fun X hX => (H3.out X hX).mono fun e w' ⟨⟨r, ha, hb⟩, hc, hd⟩ => ⟨by cases r with | false => exact ha | true => exact absurd (hb.1 rfl) HM.out, hc, hd⟩
      clear hM hr H1 H2 H3
      go_upto_region 7 with (first
        | (refine wpList_load_mid rfl 29 (.tmp 1) rfl W.heap.size 0 rfl [.slice a.PA u.par.length a.pc, .slice a.DA u.dl.length a.dc, .slice a.FA u.fd.length a.fc, .slice a.RA u.rest.length a.rc, .slice a.HA u.hol.length a.hc] _ (HRg.out _ g3).1 Tryz.underlying29 rfl HIb.out ?_)
        | (go_at_call 7; refine H2t.out.mono ?_; rintro e x4 ⟨rfl, g4⟩)
        | fail)
      clear kl H2t
      have kl := (HRg.out x4 g4).2
      go_upto_region 9 with (first
        | (refine wpList_load_mid rfl 29 (.tmp 1) rfl W.heap.size 0 rfl [.slice a.PA u.par.length a.pc, .slice a.DA u.dl.length a.dc, .slice a.FA u.fd.length a.fc, .slice a.RA u.rest.length a.rc, .slice a.HA u.hol.length a.hc] _ (HRg.out _ g4).1 Tryz.underlying29 rfl HIb.out ?_)
        | (go_at_call 8; refine (H3t.out _ g4).mono ?_; rintro e x5 ⟨rfl, g5, gx⟩)
        | fail)
      clear H4 H3t kl HRg
      go_wp2_with fail
      have HX := Lib.hid (HBw.out x5 g5)
      first
        | exact ⟨rfl, HX.out⟩
        | (go_ret; exact ⟨rfl, HX.out⟩)
end Go.Proofs.YtchkdidpnjakeaaGreatDoor
namespace Go.Proofs.YtchkdidpnjakeaaGreatDoor
open Go.ChangeShapes Go.WideShapes Go.ChangeAt Go.RowKit Go.Deep Go.Lib
set_option linter.unusedVariables false
set_option maxRecDepth 100000

theorem wf_i64 {z : Int} (h : (Lit.int .i64 z).wf = true) : -9223372036854775808 ≤ z ∧ z ≤ 9223372036854775807 := by
  simp [Lit.wf, IntKind.min, IntKind.max, IntKind.signed, IntKind.bits] at h
  exact h
theorem part_of {H : Type} {P : Program} {t : TypeId} {fs : Array Field} (hS : P.underlying t = some (.struct fs)) {ys : List (DataW H × List MemPlace)} {j : Nat} {f : Field} (hf : fs[j]? = some f) {z : DataW H × List MemPlace} (hz : ys[j]? = some z) {n : Nat} (hn : n ∈ z.1.weights P f.type) : n ∈ (DataW.agg (ys.map (·.1))).weights P t := by
  simp only [DataW.weights, hS]
  refine DataW.weights_mem_each (j := j) (t := f.type) ?_ (d := z.1) ?_ n hn
  · rw [List.getElem?_map, Array.getElem?_toList, hf]
    rfl
  · rw [List.getElem?_map, hz]
    rfl
theorem fld {fs : Array Field} {L : Array (TypeId × Nat)} (h : fs.map (fun f => (f.type, f.offset)) = L) {j : Nat} {ty : TypeId} {off : Nat} (hj : L[j]? = some (ty, off)) : ∃ f, fs[j]? = some f ∧ f.type = ty ∧ f.offset = off := by
  rw [← h, Array.getElem?_map] at hj
  obtain ⟨f, hf, e⟩ := Option.map_eq_some_iff.1 hj
  injection e with e1 e2
  exact ⟨f, hf, e1, e2⟩
theorem one_atO {cs : List Value} {off : Nat} (h : off < cs.length) : (cs.drop off).take 1 = [cs[off]] := by
  rw [List.drop_eq_getElem_cons h]
  rfl
theorem cellsIntO : Tryz.prog.cellsOf 3 = 1 := by kernel_rfl
theorem cellsI64O : Tryz.prog.cellsOf 2 = 1 := by kernel_rfl
theorem cellsStrO : Tryz.prog.cellsOf 9 = 1 := by kernel_rfl
theorem cellsBoolO : Tryz.prog.cellsOf 4 = 1 := by kernel_rfl
theorem hSMoney : Tryz.prog.underlying 69 = some (.struct (Tryz.prog.fieldsOf 69)) := by kernel_rfl
theorem cellsMoney : Tryz.prog.cellsOf 69 = 2 := by kernel_rfl
theorem layMoney : (Tryz.prog.fieldsOf 69).map (fun f => (f.type, f.offset)) = #[(9, 0), (2, 1)] := by kernel_rfl
section
variable {H : Type} {enc : TypeId × Value → H} {W : World} {base : Nat} {spare : Nat → Bool} {held : Bool} {fuel : Nat} {cs : List Value} {y : DataW H × List MemPlace}
/-- a field of one cell -/
theorem cell_fld {ty : TypeId} {n off : Nat} {z : Option (DataW H × List MemPlace)} (hc : Tryz.prog.cellsOf ty = 1) (ho : off < cs.length) (h : DataW.trod enc Tryz.prog W base spare held n ty ((cs.drop off).take (Tryz.prog.cellsOf ty)) = z) : DataW.trod enc Tryz.prog W base spare held n ty [cs[off]] = z := by
  rw [hc, one_atO ho] at h
  exact h
end
end Go.Proofs.YtchkdidpnjakeaaGreatDoor
