/- The law's examples. -/
import Derived.Test.YtbkffdfboloogaaGreatDoorMO
namespace Go.Proofs.YtbkffdfboloogaaGreatDoor
open Go.RowKit Go.Maps Go.Lib
set_option linter.unusedVariables false
set_option maxRecDepth 100000

def aT : Rl := ⟨5, 0, ⟨#[115, 117, 109]⟩, ⟨#[]⟩, 5, []⟩
def bT : Rl := ⟨6, 0, ⟨#[115, 117, 109]⟩, ⟨#[]⟩, 6, []⟩
def allT : Rl := ⟨0, 0, ⟨#[]⟩, ⟨#[]⟩, 0, [aT, bT]⟩
def anyT : Rl := ⟨1, 0, ⟨#[]⟩, ⟨#[]⟩, 0, [aT, bT]⟩
theorem val12 : valB ⟨#[49, 50]⟩ 1 = (12, true) := by kernel_rfl
theorem typeI : typeB ⟨#[105, 115, 115, 117, 101, 100]⟩ = 2 := by kernel_rfl
theorem cases_aT : casesR aT = [[aT]] := cases_a aT rfl
theorem cases_bT : casesR bT = [[bT]] := cases_a bT rfl
theorem cases_all : casesR allT = [[aT, bT]] := by
  rw [cases_0 allT rfl]
  show allR [aT, bT] [[]] = _
  rw [allR, allR, allR, cases_aT, cases_bT]
  rfl
theorem cases_any : casesR anyT = [[aT], [bT]] := by
  rw [cases_1 anyT rfl]
  show anyR [aT, bT] = _
  rw [anyR, anyR, anyR, cases_aT, cases_bT]
  rfl
theorem all_clash : ClashR allT := by
  refine ⟨by kernel_rfl, fun l hl => ?_⟩
  rw [cases_all] at hl
  simp at hl
  subst hl
  exact ⟨aT, by simp, bT, by simp, rfl, .inl ⟨rfl, rfl, by decide⟩⟩
theorem any_clash : ¬ ClashR anyT := by
  rintro ⟨_, h⟩
  obtain ⟨a, ha, b, hb, _, h⟩ := h [aT] (by rw [cases_any]; simp)
  simp at ha hb
  subst ha hb
  rcases h with ⟨_, h, _⟩ | ⟨h, _⟩ | ⟨h, _⟩
  · exact absurd h (by decide)
  · exact absurd h (by decide)
  · exact absurd h (by decide)
theorem fit_ab : Fits aT ∧ Fits bT := ⟨⟨by decide, by decide, by decide, by decide⟩, by decide, by decide, by decide, by decide⟩
/-- a rule over the field sum -/
def N6 (w : World) (p : Nat) (k n : Int) : Prop := w.cell? ⟨p, 0, none⟩ = some (.int .i64 k) ∧ w.cell? ⟨p, 1, none⟩ = some (.int .i64 0) ∧ w.cell? ⟨p, 2, none⟩ = some (.string ⟨#[115, 117, 109]⟩) ∧ w.cell? ⟨p, 3, none⟩ = some (.string ⟨#[]⟩) ∧ w.cell? ⟨p, 4, none⟩ = some (.int .i64 n) ∧ w.cell? ⟨p, 5, none⟩ = some (.slice none 0 0)
theorem N6.keep {w w' : World} {p B : Nat} {k n : Int} (h : N6 w p k n) (hb : Below B w w') (hp : p < B) : N6 w' p k n :=
  ⟨(hb.cell (p := ⟨p, 0, none⟩) hp).trans h.1, (hb.cell (p := ⟨p, 1, none⟩) hp).trans h.2.1, (hb.cell (p := ⟨p, 2, none⟩) hp).trans h.2.2.1, (hb.cell (p := ⟨p, 3, none⟩) hp).trans h.2.2.2.1, (hb.cell (p := ⟨p, 4, none⟩) hp).trans h.2.2.2.2.1, (hb.cell (p := ⟨p, 5, none⟩) hp).trans h.2.2.2.2.2⟩
def n6 (k n : Int) : Array Value := #[.int .i64 k, .int .i64 0, .string ⟨#[115, 117, 109]⟩, .string ⟨#[]⟩, .int .i64 n, .slice none 0 0]
def n12 : Array Value := #[.int .i64 5, .int .i64 0, .string ⟨#[115, 117, 109]⟩, .string ⟨#[]⟩, .int .i64 5, .slice none 0 0, .int .i64 6, .int .i64 0, .string ⟨#[115, 117, 109]⟩, .string ⟨#[]⟩, .int .i64 6, .slice none 0 0]
theorem n6_new (W : World) (k n : Int) : N6 (W.alloc (.cells #[.int .i64 k, .int .i64 0, .string ⟨#[115, 117, 109]⟩, .string ⟨#[]⟩, .int .i64 n, .slice none 0 0] 33)) W.heap.size k n := ⟨by simp, by simp, by simp, by simp, by simp, by simp⟩
theorem nl_two (W : World) : NL (W.alloc (.cells n12 33)) (W.heap.size + 1) (some ⟨W.heap.size, 0, none⟩) [aT, bT] := by
  refine ⟨_, _, fun _ => none, fun _ => 0, fun _ => ⟨W.heap.size, 0, rfl, by omega, fun i x hx => ?_⟩, fun i x hx => ?_⟩
  · match i, hx with
    | 0, hx => cases hx; exact ⟨by simp [n12, aT, Rl.k], by simp [n12, aT, Rl.p], by simp [n12, aT, Rl.f], by simp [n12, aT, Rl.t], by simp [n12, aT, Rl.n], by simp [n12, aT, Rl.l]⟩
    | 1, hx => cases hx; exact ⟨by simp [n12, bT, Rl.k], by simp [n12, bT, Rl.p], by simp [n12, bT, Rl.f], by simp [n12, bT, Rl.t], by simp [n12, bT, Rl.n], by simp [n12, bT, Rl.l]⟩
    | i + 2, hx => simp at hx
  · match i, hx with
    | 0, hx => cases hx; exact NL.nil _ _ _
    | 1, hx => cases hx; exact NL.nil _ _ _
    | i + 2, hx => simp at hx
theorem all_call (W : World) (hG : Gl W) : Calls Tryz.prog 14 #[.agg #[.int .i64 0, .int .i64 0, .string ⟨#[]⟩, .string ⟨#[]⟩, .int .i64 0, .slice (some ⟨W.heap.size, 0, none⟩) 2 2]] (W.alloc (.cells n12 33)) fun e w' => e = .returned (.bool true) ∧ Below W.heap.size W w' := by
  have hb : Below W.heap.size W (W.alloc (.cells n12 33)) := (Below.refl _ _).alloc (Nat.le_refl _) _
  refine (clash_any allT (some ⟨W.heap.size, 0, none⟩) 2 (W.heap.size + 1) _ (nl_two W) (by simp) (hG.below hb) (by decide) ?_).mono ?_
  · intro l hl a ha
    rw [cases_all] at hl
    simp at hl
    subst hl
    simp at ha
    rcases ha with rfl | rfl
    · exact fit_ab.1
    · exact fit_ab.2
  · rintro e w' ⟨r, rfl, hr, hb2⟩
    have : r = true := hr.2 all_clash
    subst this
    exact ⟨rfl, hb.trans (hb2.mono hb.size)⟩
theorem any_call (W : World) (hG : Gl W) : Calls Tryz.prog 14 #[.agg #[.int .i64 1, .int .i64 0, .string ⟨#[]⟩, .string ⟨#[]⟩, .int .i64 0, .slice (some ⟨W.heap.size, 0, none⟩) 2 2]] (W.alloc (.cells n12 33)) fun e w' => e = .returned (.bool false) ∧ Below W.heap.size W w' := by
  have hb : Below W.heap.size W (W.alloc (.cells n12 33)) := (Below.refl _ _).alloc (Nat.le_refl _) _
  refine (clash_any anyT (some ⟨W.heap.size, 0, none⟩) 2 (W.heap.size + 1) _ (nl_two W) (by simp) (hG.below hb) (by decide) ?_).mono ?_
  · intro l hl a ha
    rw [cases_any] at hl
    simp at hl
    rcases hl with rfl | rfl
    · simp at ha
      subst ha
      exact fit_ab.1
    · simp at ha
      subst ha
      exact fit_ab.2
  · rintro e w' ⟨r, rfl, hr, hb2⟩
    have : r = false := by
      cases r
      · rfl
      · exact absurd (hr.1 rfl) any_clash
    subst this
    exact ⟨rfl, hb.trans (hb2.mono hb.size)⟩
set_option maxHeartbeats 2000000 in
theorem awake_any (w : World) (hG : Gl w) : Calls Tryz.prog 6 #[] w fun e w' => e = .returned (.bool true) ∧ Below w.heap.size w w' := by
  have ha := n6_new w 5 5
  have hb := n6_new (w.alloc (.cells #[.int .i64 5, .int .i64 0, .string ⟨#[115, 117, 109]⟩, .string ⟨#[]⟩, .int .i64 5, .slice none 0 0] 33)) 6 6
  have hs1 : (w.alloc (.cells #[.int .i64 5, .int .i64 0, .string ⟨#[115, 117, 109]⟩, .string ⟨#[]⟩, .int .i64 5, .slice none 0 0] 33)).heap.size = w.heap.size + 1 := by simp
  rw [hs1] at hb
  have hb1 : Below w.heap.size w (w.alloc (.cells #[.int .i64 5, .int .i64 0, .string ⟨#[115, 117, 109]⟩, .string ⟨#[]⟩, .int .i64 5, .slice none 0 0] 33)) := (Below.refl _ _).alloc (Nat.le_refl _) _
  have hbb : Below (w.heap.size + 1) (w.alloc (.cells #[.int .i64 5, .int .i64 0, .string ⟨#[115, 117, 109]⟩, .string ⟨#[]⟩, .int .i64 5, .slice none 0 0] 33)) ((w.alloc (.cells #[.int .i64 5, .int .i64 0, .string ⟨#[115, 117, 109]⟩, .string ⟨#[]⟩, .int .i64 5, .slice none 0 0] 33)).alloc (.cells #[.int .i64 6, .int .i64 0, .string ⟨#[115, 117, 109]⟩, .string ⟨#[]⟩, .int .i64 6, .slice none 0 0] 33)) := (Below.refl _ _).alloc (by omega) _
  have hs2 : ((w.alloc (.cells #[.int .i64 5, .int .i64 0, .string ⟨#[115, 117, 109]⟩, .string ⟨#[]⟩, .int .i64 5, .slice none 0 0] 33)).alloc (.cells #[.int .i64 6, .int .i64 0, .string ⟨#[115, 117, 109]⟩, .string ⟨#[]⟩, .int .i64 6, .slice none 0 0] 33)).heap.size = w.heap.size + 2 := by simp
  have hB2 := hb1.trans (hbb.mono (by omega))
  have ha2 := ha.keep hbb (by omega)
  have HV := Lib.hid (value_any ⟨#[49, 50]⟩ 1 _ (hG.below hB2) (by decide))
  rw [val12] at HV
  have HK : Hid (∀ w3 : World, Below ((w.alloc (.cells #[.int .i64 5, .int .i64 0, .string ⟨#[115, 117, 109]⟩, .string ⟨#[]⟩, .int .i64 5, .slice none 0 0] 33)).alloc (.cells #[.int .i64 6, .int .i64 0, .string ⟨#[115, 117, 109]⟩, .string ⟨#[]⟩, .int .i64 6, .slice none 0 0] 33)).heap.size ((w.alloc (.cells #[.int .i64 5, .int .i64 0, .string ⟨#[115, 117, 109]⟩, .string ⟨#[]⟩, .int .i64 5, .slice none 0 0] 33)).alloc (.cells #[.int .i64 6, .int .i64 0, .string ⟨#[115, 117, 109]⟩, .string ⟨#[]⟩, .int .i64 6, .slice none 0 0] 33)) w3 → N6 w3 w.heap.size 5 5 ∧ N6 w3 (w.heap.size + 1) 6 6 ∧ Gl w3 ∧ Below w.heap.size w w3 ∧ w.heap.size + 2 ≤ w3.heap.size) := Lib.hid (by
    intro w3 h3
    have hB3 := hB2.trans (h3.mono (by omega))
    have := h3.size
    exact ⟨ha2.keep h3 (by omega), hb.keep h3 (by omega), hG.below hB3, hB3, by omega⟩)
  clear ha hb hb1 hbb hB2 ha2 hs1 hs2
  have HT := Lib.hid (fun W => type_any ⟨#[105, 115, 115, 117, 101, 100]⟩ W)
  rw [typeI] at HT
  go_enter Tryz.func6, Tryz.ntmps6
  go_wp2_with (first
    | (go_at_call 13; refine HV.out.mono ?_; rintro e w3 ⟨rfl, hb3⟩; obtain ⟨hn1, hn2, hG3, hB3, hs3⟩ := HK.out w3 hb3; have HN1 := Lib.hid hn1; have HN2 := Lib.hid hn2; obtain ⟨a0, a1, a2, a3, a4, a5⟩ := hn1; obtain ⟨e0, e1, e2, e3, e4, e5⟩ := hn2; have hA := all_call w3 hG3; unfold n12 at hA; have HA := Lib.hid hA; have HG3 := Lib.hid hG3; have HB3 := Lib.hid hB3; clear hb3 hG3 hB3 hA HK HV)
    | (go_at_call 14; refine HA.out.mono ?_; rintro e w4 ⟨rfl, hb4⟩; clear a0 a1 a2 a3 a4 a5 e0 e1 e2 e3 e4 e5; obtain ⟨a0, a1, a2, a3, a4, a5⟩ := HN1.out.keep hb4 (by omega); obtain ⟨e0, e1, e2, e3, e4, e5⟩ := HN2.out.keep hb4 (by omega); have hB := any_call w4 (HG3.out.below hb4); unfold n12 at hB; have HBc := Lib.hid hB; have hs4 := hb4.size; have HB4 := Lib.hid hb4; clear hb4 hB HA)
    | (go_at_call 14; refine HBc.out.mono ?_; rintro e w5 ⟨rfl, hb5⟩; have hs5 := hb5.size; have HB5 := Lib.hid hb5; clear hb5 HBc)
    | (go_at_call 15; refine (HT.out _).mono ?_; rintro e w6 ⟨rfl, hb6⟩; have HB6 := Lib.hid hb6; clear hb6 HT)
    | fail)
  go_ret
  exact ⟨rfl, HB3.out.trans ((HB4.out.trans ((HB5.out.trans (HB6.out.mono (by omega))).mono (by omega))).mono (by omega))⟩
end Go.Proofs.YtbkffdfboloogaaGreatDoor
