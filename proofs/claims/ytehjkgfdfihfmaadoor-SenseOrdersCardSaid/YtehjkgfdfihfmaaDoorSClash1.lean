/- sense.clashes' closure, and slices.ContainsFunc of it. -/
import Derived.Test.YtehjkgfdfihfmaaDoorSAgainst
import Derived.Test.YtehjkgfdfihfmaaDoorSPlace
import Derived.BigQuiet
namespace Go.Proofs.YtehjkgfdfihfmaaDoor
open Go.RowKit Go.Maps Go.Lib
set_option linter.unusedVariables false
set_option maxRecDepth 100000

/-- the cells of an atom -/
structure A6 (w : World) (g o : Nat) (a : Rl) (A5 : Option Addr) (c5' : Nat) : Prop where
  c0 : w.cell? ⟨g, o, none⟩ = some (.int .i64 a.k)
  c1 : w.cell? ⟨g, o + 1, none⟩ = some (.int .i64 a.p)
  c2 : w.cell? ⟨g, o + 2, none⟩ = some (.string a.f)
  c3 : w.cell? ⟨g, o + 3, none⟩ = some (.string a.t)
  c4 : w.cell? ⟨g, o + 4, none⟩ = some (.int .i64 a.n)
  c5 : w.cell? ⟨g, o + 5, none⟩ = some (.slice A5 a.l.length c5')
/-- a slice of atoms, in a block below B -/
def Am (w : World) (B : Nat) (A : Option Addr) (L : List Rl) : Prop :=
  0 < L.length → ∃ g off, A = some ⟨g, off, none⟩ ∧ g < B ∧ ∀ (i : Nat) (a : Rl), L[i]? = some a → ∃ A5 c5', A6 w g (off + i * 6) a A5 c5'
/-- a slice of numbers, in a block below B -/
def Is (w : World) (B : Nat) (A : Option Addr) (l : List Nat) : Prop :=
  0 < l.length → ∃ g off, A = some ⟨g, off, none⟩ ∧ g < B ∧ ∀ (i x : Nat), l[i]? = some x → w.cell? ⟨g, off + i, none⟩ = some (.int .i64 (x : Int))
section
variable {w w' : World} {B B' : Nat} {A : Option Addr} {L : List Rl} {l : List Nat}
theorem Am.below (h : Am w B A L) (hb : Below B w w') : Am w' B A L := fun hl => by
  obtain ⟨g, off, e, hg, hc⟩ := h hl
  refine ⟨g, off, e, hg, fun i a ha => ?_⟩
  obtain ⟨A5, c5', h6⟩ := hc i a ha
  have k : ∀ p : Addr, p.block = g → w'.cell? p = w.cell? p := fun p hp => hb.cell (by rw [hp]; exact hg)
  exact ⟨A5, c5', (k _ rfl).trans h6.c0, (k _ rfl).trans h6.c1, (k _ rfl).trans h6.c2, (k _ rfl).trans h6.c3, (k _ rfl).trans h6.c4, (k _ rfl).trans h6.c5⟩
theorem Am.at_ (h : Am w B A L) {i : Nat} {a : Rl} (ha : L[i]? = some a) : ∃ g off A5 c5', A = some ⟨g, off, none⟩ ∧ g < B ∧ A6 w g (off + i * 6) a A5 c5' := by
  have hi := (List.getElem?_eq_some_iff.1 ha).1
  obtain ⟨g, off, e, hg, hc⟩ := h (by omega)
  obtain ⟨A5, c5', h6⟩ := hc i a ha
  exact ⟨g, off, A5, c5', e, hg, h6⟩
theorem Is.below (h : Is w B A l) (hb : Below B w w') : Is w' B A l := fun hl => by
  obtain ⟨g, off, e, hg, hc⟩ := h hl
  exact ⟨g, off, e, hg, fun i x hx => (hb.cell (p := ⟨g, off + i, none⟩) hg).trans (hc i x hx)⟩
theorem Am.more (h : Am w B A L) (hB : B ≤ B') : Am w B' A L := fun hl => by
  obtain ⟨g, off, e, hg, hc⟩ := h hl
  exact ⟨g, off, e, by omega, hc⟩
theorem Is.more (h : Is w B A l) (hB : B ≤ B') : Is w B' A l := fun hl => by
  obtain ⟨g, off, e, hg, hc⟩ := h hl
  exact ⟨g, off, e, by omega, hc⟩
theorem Is.at_ (h : Is w B A l) {i : Nat} (hi : i < l.length) : ∃ g off, A = some ⟨g, off, none⟩ ∧ g < B ∧ w.cell? ⟨g, off + i, none⟩ = some (.int .i64 (l[i] : Int)) := by
  obtain ⟨g, off, e, hg, hc⟩ := h (by omega)
  exact ⟨g, off, e, hg, hc i _ (List.getElem?_eq_getElem hi)⟩
end
/-- is an atom against its field's text? -/
def hitG (G : ByteArray → Option ByteArray) (a : Rl) : Bool := match G a.f with
  | some t => agB t a
  | none => false
set_option maxHeartbeats 2000000 in
theorem clash1_any (i n tb ab mb c : Nat) (A : Option Addr) (L : List Rl) (a : Rl) (G : ByteArray → Option ByteArray) (w : World) (hG : Gl w) (ht : w.cell? ⟨tb, 0, none⟩ = some (.map (some mb))) (hab : w.cell? ⟨ab, 0, none⟩ = some (.slice A L.length c)) (hM : Mp curC txtE w mb n G)
    (hA : Am w w.heap.size A L) (ha : L[i]? = some a) (hf : a.f.size ≤ maxLen) (hs : ∀ t, G a.f = some t → t.size ≤ 1000) :
    Calls Tryd.prog 32 #[.int .i64 (i : Int), .pointer (some ⟨tb, 0, none⟩), .pointer (some ⟨ab, 0, none⟩)] w fun e w' => e = .returned (.bool (hitG G a)) ∧ Below w.heap.size w w' := by
  obtain ⟨g, off, A5, c5', rfl, hg, h6⟩ := hA.at_ ha
  have hi := (List.getElem?_eq_some_iff.1 ha).1
  have hlk : ∀ nq, (Instr.lookup 50 (.map (some mb)) (.string a.f) true).run Tryd.prog (w.drewN nq) = .ok (.tuple #[.string ((G a.f).getD ⟨#[]⟩), .bool (G a.f).isSome]) (w.drewN nq) := fun nq =>
    (hM.drewN nq).look_ok Tryd.underlying50 (zeroStr _) (by show (0 : Nat) ≤ maxLen; omega) (x := a.f) hf
  have hi0 : (0 : Int) ≤ (i : Int) := by omega
  have hi1 : (i : Int) < (L.length : Int) := by omega
  obtain ⟨d0, d1, d2, d3, d4, d5⟩ := h6
  have HAg := Lib.hid fun (t : ByteArray) (h : t.size ≤ 1000) (m : Nat) => against_any t a (.int .i64 a.p) (.slice A5 a.l.length c5') (w.drewN m) (hG.below (below_drewN (Below.refl _ _) _)) h
  have HE : Hid (hitG G a = match G a.f with
    | some t => agB t a
    | none => false) := Lib.hid rfl
  have hlkx := Lib.hid hlk
  clear hlk hG hA ha hM
  generalize hr : hitG G a = r at *
  clear hr
  cases hGf : G a.f with
  | none =>
    have hlk := hlkx.out
    have HE2 : Hid (r = false) := Lib.hid (by rw [HE.out, hGf])
    rw [hGf] at hlk
    simp only [Option.getD_none, Option.isSome_none] at hlk
    clear HE hlkx hGf hs HAg
    generalize a.k = k at *
    generalize a.f = f at *
    generalize a.t = t at *
    generalize a.n = n at *
    generalize a.p = ap at *
    generalize a.l.length = al at *
    generalize L.length = ln at *
    go_enter Tryd.func32, Tryd.ntmps32
    go_wp2_with fail
    go_quiet (fail)
    go_wp2_with fail
    go_ret
    exact ⟨by rw [HE2.out]; rfl, below_drewN (Below.refl _ _) _⟩
  | some s =>
    have hlk := hlkx.out
    have HE2 : Hid (r = agB s a) := Lib.hid (by rw [HE.out, hGf])
    have HC := Lib.hid (fun m => HAg.out s (hs s hGf) m)
    rw [hGf] at hlk
    simp only [Option.getD_some, Option.isSome_some] at hlk
    clear HE hlkx hGf hs HAg
    generalize agB s a = b at *
    generalize a.k = k at *
    generalize a.f = f at *
    generalize a.t = t at *
    generalize a.n = n at *
    generalize a.p = ap at *
    generalize a.l.length = al at *
    generalize L.length = ln at *
    go_enter Tryd.func32, Tryd.ntmps32
    go_wp2_with fail
    go_quiet (fail)
    have HC2 := Lib.hid (HC.out nq)
    have HB := Lib.hid (below_drewN (Below.refl w.heap.size w) nq)
    have hsz : (w.drewN nq).heap.size = w.heap.size := rfl
    have e0 : (w.drewN nq).cell? _ = _ := d0
    have e1 : (w.drewN nq).cell? _ = _ := d1
    have e2 : (w.drewN nq).cell? _ = _ := d2
    have e3 : (w.drewN nq).cell? _ = _ := d3
    have e4 : (w.drewN nq).cell? _ = _ := d4
    have e5 : (w.drewN nq).cell? _ = _ := d5
    have e6 : (w.drewN nq).cell? _ = _ := hab
    clear HC hlk d0 d1 d2 d3 d4 d5 hab ht
    generalize w.drewN nq = w2 at *
    go_wp2_with (first
      | (go_at_call 33; refine HC2.out.mono ?_; rintro e w3 ⟨rfl, hb3⟩; have HB3 := Lib.hid hb3; clear hb3)
      | fail)
    go_ret
    exact ⟨by rw [HE2.out]; rfl, HB.out.trans (HB3.out.mono (by omega))⟩
set_option maxHeartbeats 1000000 in
theorem indexF_any (tb ab c2 : Nat) (A2 : Option Addr) (l : List Nat) (p : Nat → Bool) (w : World) (hI : Is w w.heap.size A2 l) (hl : l.length ≤ 1000000)
    (hc : ∀ (W : World) (k : Nat) (hk : k < l.length), Below w.heap.size w W → Calls Tryd.prog 32 #[.int .i64 (l[k] : Int), .pointer (some ⟨tb, 0, none⟩), .pointer (some ⟨ab, 0, none⟩)] W fun e w' => e = .returned (.bool (p k)) ∧ Below W.heap.size W w') :
    Calls Tryd.prog 39 #[.slice A2 l.length c2, .func (.func 32) #[] #[.pointer (some ⟨tb, 0, none⟩), .pointer (some ⟨ab, 0, none⟩)]] w fun e w' => ∃ r : Int, e = .returned (.int .i64 r) ∧ (0 ≤ r ↔ ∃ k, k < l.length ∧ p k = true) ∧ Below w.heap.size w w' := by
  have HI := Lib.hid hI
  have HC := Lib.hid hc
  clear hI hc
  go_enter Tryd.func39, Tryd.ntmps39
  go_wp2
  go_loopw [8] (fun i wr => ∃ k : Nat, k ≤ l.length ∧ i = .int .i64 (k : Int) ∧ Hid (∀ j, j < k → p j = false) ∧ Hid (Below w.heap.size w wr)) (fun i _ => l.length - (RowKit.intOf i).toNat)
  case atStart => exact ⟨0, Nat.zero_le _, rfl, Lib.hid (fun j hj => by omega), Lib.hid (Below.refl _ _)⟩
  case round =>
    obtain ⟨k, hk, rfl, HN, HB⟩ := hrel
    by_cases hlt : k < l.length
    · obtain ⟨g, off, rfl, hg, hcell⟩ := (HI.out.below HB.out).at_ hlt
      have HC2 := Lib.hid (HC.out wr k hlt HB.out)
      have hk1 : (k : Int) < (l.length : Int) := by omega
      have hz := HB.out.size
      generalize l[k] = x at *
      clear HC
      cases hp : p k with
      | true =>
        have HC3 := HC2
        rw [hp] at HC3
        clear HC2
        have Hp := Lib.hid (show ∃ j, j < l.length ∧ p j = true from ⟨k, hlt, hp⟩)
        clear hp
        go_wp2_with (first
          | (go_at_call 32; refine HC3.out.mono ?_; rintro e w3 ⟨rfl, hb3⟩; have HB3 := Lib.hid hb3; clear hb3)
          | fail)
        go_ret
        exact ⟨_, rfl, ⟨fun _ => Hp.out, fun _ => by omega⟩, HB.out.trans (HB3.out.mono hz)⟩
      | false =>
        have HC3 := HC2
        rw [hp] at HC3
        clear HC2
        have HN2 : Hid (∀ j, j < k + 1 → p j = false) := Lib.hid (fun j hj => by
          by_cases e : j = k
          · rw [e]; exact hp
          · exact HN.out j (by omega))
        clear hp
        go_wp2_with (first
          | (go_at_call 32; refine HC3.out.mono ?_; rintro e w3 ⟨rfl, hb3⟩; have HB3 := Lib.hid hb3; clear hb3)
          | fail)
        go_roundw
        case rel => exact ⟨k + 1, by omega, by go_num, HN2, Lib.hid (HB.out.trans (HB3.out.mono hz))⟩
        case measure => simp [RowKit.intOf]; omega
    · have hk1 : ¬ (k : Int) < (l.length : Int) := by omega
      have Hno : Hid (¬ ∃ j, j < l.length ∧ p j = true) := Lib.hid (by rintro ⟨j, hj, h⟩; rw [HN.out j (by omega)] at h; cases h)
      go_wp2
      go_ret
      exact ⟨_, rfl, ⟨fun h => by omega, fun h => absurd h Hno.out⟩, HB.out⟩
theorem containsF_any (tb ab c2 : Nat) (A2 : Option Addr) (l : List Nat) (p : Nat → Bool) (w : World) (hI : Is w w.heap.size A2 l) (hl : l.length ≤ 1000000)
    (hc : ∀ (W : World) (k : Nat) (hk : k < l.length), Below w.heap.size w W → Calls Tryd.prog 32 #[.int .i64 (l[k] : Int), .pointer (some ⟨tb, 0, none⟩), .pointer (some ⟨ab, 0, none⟩)] W fun e w' => e = .returned (.bool (p k)) ∧ Below W.heap.size W w') :
    Calls Tryd.prog 31 #[.slice A2 l.length c2, .func (.func 32) #[] #[.pointer (some ⟨tb, 0, none⟩), .pointer (some ⟨ab, 0, none⟩)]] w fun e w' => ∃ r : Bool, e = .returned (.bool r) ∧ (r = true ↔ ∃ k, k < l.length ∧ p k = true) ∧ Below w.heap.size w w' := by
  have HX := Lib.hid (indexF_any tb ab c2 A2 l p w hI hl hc)
  clear hI hc
  go_enter Tryd.func31, Tryd.ntmps31
  go_wp2_with (first
    | (go_at_call 39; refine HX.out.mono ?_; rintro e w3 ⟨r, rfl, hr, hb3⟩; have HR := Lib.hid hr; have HB3 := Lib.hid hb3; clear hr hb3)
    | fail)
  go_ret
  exact ⟨decide (0 ≤ r), rfl, by rw [decide_eq_true_iff]; exact HR.out, HB3.out⟩
end Go.Proofs.YtehjkgfdfihfmaaDoor
