/- The law's long. -/
import Derived.Test.YtbkffdfboloogaaGreatDoorMO
import Derived.Test.YtbkffdfboloogaaGreatDoorFOpen
import Derived.Test.YtbkffdfboloogaaGreatDoorMP
import Derived.Test.YtbkffdfboloogaaGreatDoorFPrint
namespace Go.Proofs.YtbkffdfboloogaaGreatDoor
open Go.RowKit Go.Maps Go.Lib
set_option linter.unusedVariables false
set_option maxRecDepth 100000

/-- what long lets pass -/
structure Brief (c : Cr) : Prop where
  eight : c.needs.length ≤ 8
  narrow : ∀ x ∈ c.needs, Narrow x.r
theorem Narrow.fits {x : Rl} (h : Narrow x) (hg : Good x) : ∀ a ∈ atomsR x, Fits a := fun a ha => by
  obtain ⟨⟨h1, h2⟩, _, _⟩ := hg.atoms _ x (Nat.le_refl _) a ha
  have h3 : a.f.size + a.t.size ≤ 100 := h.atoms a ha
  exact ⟨by omega, by omega, h1, h2⟩
theorem Narrow.show_ {x : Rl} (h : Narrow x) (hg : Good x) : (showL x).length ≤ 9000 := by
  have h1 := show_len _ x (Nat.le_refl _) fun a ha => ⟨h.atoms a ha, (hg.atoms _ x (Nat.le_refl _) a ha).1⟩
  have h2 := h.size
  have h3 : 140 * nsz x ≤ 140 * 30 := Nat.mul_le_mul_left _ h2
  omega
theorem Brief.thin {c : Cr} (h : Brief c) (hg : GoodC c) : Thin c :=
  ⟨⟨hg.str, fun x hx => ⟨by have := (h.narrow x hx).size; omega, (h.narrow x hx).fits (hg.need x hx).1⟩, by have := h.eight; omega⟩, by have := h.eight; omega, fun x hx => (h.narrow x hx).show_ (hg.need x hx).1⟩
def LgP (c : Cr) (w : World) (e : Ending) (w' : World) : Prop := ∃ r : Bool, e = .returned (.bool r) ∧ (r = false → Brief c) ∧ Below w.heap.size w w'
set_option maxHeartbeats 4000000 in
theorem long_any (c : Cr) (hg : GoodC c) (A : Option Addr) (cp B : Nat) (w : World) (hN : Ns w B A c.needs) (hB : B ≤ w.heap.size) :
    Calls Tryz.prog 5 #[.agg (crA c A cp)] w fun e w' => LgP c w e w' := by
  have hb1 : Below w.heap.size w (w.alloc (.cells (crA c A cp) 26)) := (Below.refl _ _).alloc (Nat.le_refl _) _
  have hz1 : (w.alloc (.cells (crA c A cp) 26)).heap.size = w.heap.size + 1 := by simp
  have k17 := (C18.new w c A cp 26).c17
  have HN := Lib.hid (hN.more hB)
  have HB1 := Lib.hid hb1
  have hfew := hg.few
  unfold maxLen at hfew
  have HW : Hid (∀ x ∈ c.needs, ∀ (A' : Option Addr) (c' : Nat) (W : World), NL W w.heap.size A' x.r.l → w.heap.size ≤ W.heap.size → Calls Tryz.prog 12 #[.agg #[.int .i64 x.r.k, .int .i64 x.r.p, .string x.r.f, .string x.r.t, .int .i64 x.r.n, .slice A' x.r.l.length c']] W fun e w' => ∃ r : Bool, e = .returned (.bool r) ∧ (r = false → Narrow x.r) ∧ Below W.heap.size W w') := Lib.hid (fun x hx A' c' W hNL hs =>
    wide_any x.r (hg.need x hx).1 A' c' w.heap.size W hNL hs (fun a ha => ((hg.need x hx).1.atoms _ x.r (Nat.le_refl _) a ha).2))
  have HYes : Hid (∀ W, Below w.heap.size w W → LgP c w (.returned (.bool true)) W) := Lib.hid (fun W hb => ⟨true, rfl, fun h => (by cases h), hb⟩)
  have HEnd : Hid ((∀ x ∈ c.needs, Narrow x.r) → ∀ W, Below w.heap.size w W → LgP c w (.returned (.bool (decide ((8 : Int) < (c.needs.length : Int))))) W) := Lib.hid (fun h W hb => ⟨_, rfl, fun h8 => ⟨by have := of_decide_eq_false h8; omega, h⟩, hb⟩)
  clear hg hN hb1
  generalize LgP c w = CP at *
  go_enter Tryz.func5, Tryz.ntmps5
  go_wp2_with fail
  go_loopw [8] (fun i wr => ∃ k : Nat, k ≤ c.needs.length ∧ i = .int .i64 (k : Int) ∧ Hid (Below (w.heap.size + 1) (w.alloc (.cells (crA c A cp) 26)) wr) ∧ Hid (∀ x ∈ c.needs.take k, Narrow x.r)) (fun i _ => c.needs.length - (RowKit.intOf i).toNat)
  case atStart => exact ⟨0, Nat.zero_le _, rfl, Lib.hid (Below.refl _ _), Lib.hid (fun x hx => by simp at hx)⟩
  case round =>
    obtain ⟨k, hkl, rfl, HB, HP⟩ := hrel
    have HBw := Lib.hid (HB1.out.trans (HB.out.mono (by omega)))
    have e17 : wr.cell? ⟨w.heap.size, 17, none⟩ = some (.slice A c.needs.length cp) := (HB.out.cell (p := ⟨w.heap.size, 17, none⟩) (by show w.heap.size < _; omega)).trans k17
    have hz := HB.out.size
    rw [hz1] at hz
    by_cases hlt : k < c.needs.length
    · have b1 : (k : Int) < (c.needs.length : Int) := by omega
      have b0 : (0 : Int) ≤ (k : Int) := by omega
      obtain ⟨g, off, A', c', rfl, hgb, h8, hch⟩ := HN.out.at_ hlt
      obtain ⟨c0, c1, c2, c3, c4, c5, c6, c7⟩ := h8.keep (w' := wr) (fun p hp => HBw.out.cell (by rw [hp]; exact hgb))
      have HPs : Hid (Narrow c.needs[k].r → ∀ x ∈ c.needs.take (k + 1), Narrow x.r) := Lib.hid (fun h x hx => by
        rw [← List.take_append_getElem hlt] at hx
        rcases List.mem_append.1 hx with hx | hx
        · exact HP.out x hx
        · simp at hx; subst hx; exact h)
      have hba : Below wr.heap.size wr (wr.alloc (.cells (ndA c.needs[k] A' c') 35)) := (Below.refl _ _).alloc (Nat.le_refl _) _
      have HBa : Hid (Below (w.heap.size + 1) (w.alloc (.cells (crA c (some ⟨g, off, none⟩) cp) 26)) (wr.alloc (.cells (ndA c.needs[k] A' c') 35))) := Lib.hid (HB.out.trans (hba.mono hz))
      have HBb : Hid (Below w.heap.size w (wr.alloc (.cells (ndA c.needs[k] A' c') 35))) := Lib.hid (HB1.out.trans (HBa.out.mono (by omega)))
      have HWk := Lib.hid (HW.out c.needs[k] (List.getElem_mem hlt) A' c' _ (hch.kept HBb.out) HBb.out.size)
      have hsz : wr.heap.size + 1 = (wr.alloc (.cells (ndA c.needs[k] A' c') 35)).heap.size := by simp
      clear h8 hch hba HP HW
      generalize c.needs[k] = x at *
      unfold ndA at HBa HBb HWk hsz
      go_wp2_with (first
        | (go_at_call 12; (with_reducible refine HWk.out.mono ?_); rintro e w3 ⟨r, rfl, hr, hb3⟩; have HB3 := Lib.hid (HBa.out.trans (hb3.mono (by omega))); have HB3w := Lib.hid (HBb.out.trans (hb3.mono (by omega))); have Hr := Lib.hid hr; have HF := Lib.hid (HYes.out w3 HB3w.out); clear hr hb3)
        | fail)
      all_goals
        first
          | (rename (_ = false) => hx; have HP3 := Lib.hid (HPs.out (Hr.out hx)); exact ⟨⟨k + 1, by omega, by go_num, HB3, HP3⟩, by simp [RowKit.intOf]; omega⟩)
          | exact HF.out
          | (go_ret; exact HF.out)
    · have b1 : ¬ (k : Int) < (c.needs.length : Int) := by omega
      have HF := Lib.hid (HEnd.out (fun x hx => HP.out x (by rw [List.take_of_length_le (by omega)]; exact hx)) wr HBw.out)
      by_cases h8 : (8 : Int) < (c.needs.length : Int)
      · have hd : decide ((8 : Int) < (c.needs.length : Int)) = true := decide_eq_true h8
        rw [hd] at HF
        go_wp2_with fail
        first
          | exact HF.out
          | (go_ret; exact HF.out)
      · have hd : decide ((8 : Int) < (c.needs.length : Int)) = false := decide_eq_false h8
        rw [hd] at HF
        go_wp2_with fail
        first
          | exact HF.out
          | (go_ret; exact HF.out)
end Go.Proofs.YtbkffdfboloogaaGreatDoor
