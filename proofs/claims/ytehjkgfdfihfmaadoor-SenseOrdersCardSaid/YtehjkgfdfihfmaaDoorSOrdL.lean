/- The law SenseOrders' walk. -/
import Derived.Test.YtehjkgfdfihfmaaDoorSMany
import Derived.Test.YtehjkgfdfihfmaaDoorSTurn2
import Derived.Test.YtehjkgfdfihfmaaDoorSNode
namespace Go.Proofs.YtehjkgfdfihfmaaDoor
open Go.RowKit Go.Maps Go.Lib
set_option linter.unusedVariables false
set_option maxRecDepth 100000

theorem Ar.am {w : World} {base : Nat} {A : Option Addr} {c : Nat} {L : List Rl} {cs : List Value} (h : Ar w base (.slice A L.length c) L cs) : Am w w.heap.size A L := by
  intro hl
  rcases h.row.2 with ⟨h1, h2⟩ | ⟨g, cap, cur, h1, h2, h3, h4⟩
  · omega
  · injection h1 with h1
    subst h1
    refine ⟨g, 0, rfl, (Array.getElem?_eq_some_iff.1 h3).1, fun i a ha => ?_⟩
    obtain ⟨e0, e1, e2, e3, e4, A5, c5, e5⟩ := h.each i a ha
    have hi := (List.getElem?_eq_some_iff.1 ha).1
    have k : ∀ j, j < 6 → w.cell? ⟨g, 0 + i * 6 + j, none⟩ = cs[6 * i + j]? := fun j hj => by
      rw [show 0 + i * 6 + j = 6 * i + j by omega]
      exact h.row.cellAt (6 * i + j) (by omega)
    exact ⟨A5, c5, (k 0 (by omega)).trans e0, (k 1 (by omega)).trans e1, (k 2 (by omega)).trans e2, (k 3 (by omega)).trans e3, (k 4 (by omega)).trans e4, (k 5 (by omega)).trans e5⟩
/-- the texts of an atom are short -/
def Short (a : Rl) : Prop := a.f.size + a.t.size ≤ 100
/-- what the law's wide tells -/
structure Narrow (x : Rl) : Prop where
  size : nsz x ≤ 30
  atoms : ∀ a ∈ atomsR x, Short a
set_option maxHeartbeats 4000000 in
theorem wide_any (x : Rl) (hg : Good x) (A : Option Addr) (c B : Nat) (w : World) (hN : NL w B A x.l) (hB : B ≤ w.heap.size) (hsz : ∀ a ∈ atomsR x, a.f.size ≤ 140737488351232 ∧ a.t.size ≤ 140737488351232) :
    Calls Tryd.prog 5 #[.agg #[.int .i64 x.k, .int .i64 x.p, .string x.f, .string x.t, .int .i64 x.n, .slice A x.l.length c]] w fun e w' => ∃ r : Bool, e = .returned (.bool r) ∧ (r = false → Narrow x) ∧ Below w.heap.size w w' := by
  have hb1 : Below w.heap.size w (w.alloc (.cells #[.int .i64 x.k, .int .i64 x.p, .string x.f, .string x.t, .int .i64 x.n, .slice A x.l.length c] 24)) := (Below.refl _ _).alloc (Nat.le_refl _) _
  have h6 : C6 (w.alloc (.cells #[.int .i64 x.k, .int .i64 x.p, .string x.f, .string x.t, .int .i64 x.n, .slice A x.l.length c] 24)) w.heap.size 0 x A c := ⟨by simp, by simp, by simp, by simp, by simp, by simp⟩
  have hs1 : (w.alloc (.cells #[.int .i64 x.k, .int .i64 x.p, .string x.f, .string x.t, .int .i64 x.n, .slice A x.l.length c] 24)).heap.size = w.heap.size + 1 := by simp
  have hbase : (w.alloc (.cells #[.int .i64 x.k, .int .i64 x.p, .string x.f, .string x.t, .int .i64 x.n, .slice A x.l.length c] 24)).cell? ⟨w.heap.size, 0, none⟩ = some (.int .i64 x.k) ∧ (w.alloc (.cells #[.int .i64 x.k, .int .i64 x.p, .string x.f, .string x.t, .int .i64 x.n, .slice A x.l.length c] 24)).cell? ⟨w.heap.size, 1, none⟩ = some (.int .i64 x.p) ∧ (w.alloc (.cells #[.int .i64 x.k, .int .i64 x.p, .string x.f, .string x.t, .int .i64 x.n, .slice A x.l.length c] 24)).cell? ⟨w.heap.size, 2, none⟩ = some (.string x.f) := ⟨h6.c0, h6.c1, h6.c2⟩
  have HS := Lib.hid (size_any x A c 30 (w.alloc (.cells #[.int .i64 x.k, .int .i64 x.p, .string x.f, .string x.t, .int .i64 x.n, .slice A x.l.length c] 24)) B (hN.kept (hb1.mono hB)) (by omega) (by omega))
  have HM : Hid (∀ W : World, Below w.heap.size w W → nsz x ≤ 30 → Calls Tryd.prog 18 #[.agg #[.int .i64 x.k, .int .i64 x.p, .string x.f, .string x.t, .int .i64 x.n, .slice A x.l.length c]] W fun e w' => e = .returned (.int .i64 (mN x : Int)) ∧ Below W.heap.size W w') := Lib.hid (fun W hb hn => many_any x A c W B (hN.kept (hb.mono hB)) (by have := hb.size; omega) (by omega))
  have HA : Hid (∀ W : World, Below w.heap.size w W → nsz x ≤ 30 → Calls Tryd.prog 19 #[.agg #[.int .i64 x.k, .int .i64 x.p, .string x.f, .string x.t, .int .i64 x.n, .slice A x.l.length c]] W fun e w' => ∃ A' c' cs, e = .returned (.slice A' (atomsR x).length c') ∧ Ar w' W.heap.size (.slice A' (atomsR x).length c') (atomsR x) cs ∧ Below W.heap.size W w') := Lib.hid (fun W hb hn => atoms_any x A c W B (hN.kept (hb.mono hB)) (by have := hb.size; omega) (by omega))
  have H6 : Hid (∀ W : World, Below (w.heap.size + 1) (w.alloc (.cells #[.int .i64 x.k, .int .i64 x.p, .string x.f, .string x.t, .int .i64 x.n, .slice A x.l.length c] 24)) W → W.cell? ⟨w.heap.size, 0, none⟩ = some (.int .i64 x.k) ∧ W.cell? ⟨w.heap.size, 1, none⟩ = some (.int .i64 x.p) ∧ W.cell? ⟨w.heap.size, 2, none⟩ = some (.string x.f) ∧ W.cell? ⟨w.heap.size, 3, none⟩ = some (.string x.t) ∧ W.cell? ⟨w.heap.size, 4, none⟩ = some (.int .i64 x.n) ∧ W.cell? ⟨w.heap.size, 5, none⟩ = some (.slice A x.l.length c)) := Lib.hid (by
    intro W hb
    have k := h6.keep (w' := W) fun p hp => hb.cell (by rw [hp]; omega)
    exact ⟨k.c0, k.c1, k.c2, k.c3, k.c4, k.c5⟩)
  have HB1 := Lib.hid hb1
  have hnl := atoms_len _ x (Nat.le_refl _)
  have hml := mN_le x
  have HNw : Hid (nsz x ≤ 30 → (∀ a ∈ atomsR x, Short a) → Narrow x) := Lib.hid (fun h1 h2 => ⟨h1, h2⟩)
  have Hsz := Lib.hid hsz
  clear hb1 h6 hN hbase hg hsz
  generalize hNX : Narrow x = NX at *
  clear hNX
  generalize atomsR x = L at *
  generalize nsz x = nx at *
  generalize mN x = mx at *
  generalize x.l.length = xl at *
  generalize x.k = xk at *
  generalize x.p = xp at *
  generalize x.f = xf at *
  generalize x.t = xt at *
  generalize x.n = xn at *
  obtain ⟨d0, d1, d2, d3, d4, d5⟩ := H6.out _ (Below.refl _ _)
  go_enter Tryd.func5, Tryd.ntmps5
  go_wp2_with fail
  clear d0 d1 d2 d3 d4 d5
  refine HS.out.mono ?_
  rintro e w2 ⟨r, rfl, hr1, hr2, hr3, hb2⟩
  rw [hs1] at hb2
  have HB2 := Lib.hid (HB1.out.trans (hb2.mono (by omega)))
  have hz2 := hb2.size
  rw [hs1] at hz2
  have Hb2 := Lib.hid hb2
  clear hb2 HS
  by_cases hbig : 30 < r
  · have b1 : (30 : Int) < (r : Int) := by omega
    go_wp2
    go_ret
    exact ⟨true, rfl, fun h => (by cases h), HB2.out⟩
  · have b1 : ¬ (30 : Int) < (r : Int) := by omega
    have hnx : nx ≤ 30 := by have := hr2 (by omega); omega
    have HM2 := Lib.hid (HM.out w2 HB2.out hnx)
    obtain ⟨d0, d1, d2, d3, d4, d5⟩ := H6.out w2 Hb2.out
    clear hr1 hr2 hr3
    by_cases hm1 : 256 < mx
    · have b2 : (256 : Int) < (mx : Int) := by omega
      by_cases hm2 : mx ≤ 4096
      · have b3 : (mx : Int) ≤ 4096 := by omega
        go_wp2_with (first
          | (go_at_call 18; (with_reducible refine HM2.out.mono ?_); rintro e w3 ⟨rfl, hb3⟩; clear d0 d1 d2 d3 d4 d5; obtain ⟨d0, d1, d2, d3, d4, d5⟩ := H6.out w3 (Hb2.out.trans (hb3.mono (by omega))); have hz3 := hb3.size; have HB3 := Lib.hid (HB2.out.trans (hb3.mono (by omega))); have HM3 := Lib.hid (HM.out w3 HB3.out hnx); clear hb3 HM2)
          | (go_at_call 18; (with_reducible refine HM3.out.mono ?_); rintro e w4 ⟨rfl, hb4⟩; have HB4 := Lib.hid (HB3.out.trans (hb4.mono (by omega))); clear hb4 HM3)
          | fail)
        go_ret
        exact ⟨true, rfl, fun h => (by cases h), HB4.out⟩
      · have b3 : ¬ (mx : Int) ≤ 4096 := by omega
        go_wp2_with (first
          | (go_at_call 18; (with_reducible refine HM2.out.mono ?_); rintro e w3 ⟨rfl, hb3⟩; clear d0 d1 d2 d3 d4 d5; obtain ⟨d0, d1, d2, d3, d4, d5⟩ := H6.out w3 (Hb2.out.trans (hb3.mono (by omega))); have Hb3 := Lib.hid (Hb2.out.trans (hb3.mono (by omega))); have hz3 := hb3.size; have HB3 := Lib.hid (HB2.out.trans (hb3.mono (by omega))); have HM3 := Lib.hid (HM.out w3 HB3.out hnx); clear hb3 HM2)
          | (go_at_call 18; (with_reducible refine HM3.out.mono ?_); rintro e w4 ⟨rfl, hb4⟩; clear d0 d1 d2 d3 d4 d5; obtain ⟨d0, d1, d2, d3, d4, d5⟩ := H6.out w4 (Hb3.out.trans (hb4.mono (by omega))); have hz4 := hb4.size; have HB4 := Lib.hid (HB3.out.trans (hb4.mono (by omega))); have HA4 := Lib.hid (HA.out w4 HB4.out hnx); clear hb4 HM3)
          | (go_at_call 19; refine HA4.out.mono ?_; rintro e w5 ⟨A5, c5, cs, rfl, hAr, hb5⟩; have HAr := Lib.hid hAr; have HB5 := Lib.hid (HB4.out.trans (hb5.mono (by omega))); clear hAr hb5 HA4)
          | fail)
        have hAm := HAr.out.am
        have HAm := Lib.hid hAm
        clear hAm HAr d0 d1 d2 d3 d4 d5 HA HM H6
        go_loopw [21] (fun i wr => ∃ k : Nat, k ≤ L.length ∧ i = .int .i64 (k : Int) ∧ Hid (Below w5.heap.size w5 wr) ∧ Hid (∀ j a, j < k → L[j]? = some a → Short a)) (fun i _ => L.length - (RowKit.intOf i).toNat)
        case atStart => exact ⟨0, Nat.zero_le _, rfl, Lib.hid (Below.refl _ _), Lib.hid (fun j a hj => by omega)⟩
        case round =>
          obtain ⟨k, hk, rfl, HB, HSh⟩ := hrel
          have hzr := HB.out.size
          have HBw := Lib.hid (HB5.out.trans (HB.out.mono HB5.out.size))
          by_cases hlt : k < L.length
          · have b4 : (k : Int) < (L.length : Int) := by omega
            obtain ⟨a, hae⟩ : ∃ a, L[k]? = some a := ⟨_, List.getElem?_eq_getElem hlt⟩
            obtain ⟨g, off, A6', c6', rfl, hg, h6⟩ := (HAm.out.below HB.out).at_ hae
            obtain ⟨c0, c1, c2, c3, c4, c5'⟩ := h6
            obtain ⟨z1, z2⟩ := Hsz.out a (List.mem_of_getElem? hae)
            have q : IntKind.i64.wrap ((a.f.size : Int) + (a.t.size : Int)) = (a.f.size : Int) + (a.t.size : Int) := IntWalk.i64_in _ (by omega)
            have HBV := Lib.hid (HB.out.alloc hzr (.cells #[.int .i64 a.k, .int .i64 a.p, .string a.f, .string a.t, .int .i64 a.n, .slice A6' a.l.length c6'] 24))
            have HBV2 := Lib.hid (HBw.out.alloc (by have := HBw.out.size; omega) (.cells #[.int .i64 a.k, .int .i64 a.p, .string a.f, .string a.t, .int .i64 a.n, .slice A6' a.l.length c6'] 24))
            have HS1 : Hid (a.f.size + a.t.size ≤ 100 → ∀ j b, j < k + 1 → L[j]? = some b → Short b) := Lib.hid (fun h j b hj hb => by
              by_cases e : j = k
              · subst e; rw [hae] at hb; injection hb with hb; subst hb; exact h
              · exact HSh.out j b (by omega) hb)
            clear hae
            generalize a.k = ak at *
            generalize a.p = ap at *
            generalize a.f = af at *
            generalize a.t = at' at *
            generalize a.n = an at *
            generalize a.l.length = al at *
            by_cases hs : af.size + at'.size ≤ 100
            · have b5 : ¬ (100 : Int) < (af.size : Int) + (at'.size : Int) := by omega
              go_wp2
              go_roundw
              case rel => exact ⟨k + 1, by omega, by go_num, HBV, Lib.hid (HS1.out hs)⟩
              case measure => simp [RowKit.intOf]; omega
            · have b5 : (100 : Int) < (af.size : Int) + (at'.size : Int) := by omega
              go_wp2
              go_ret
              exact ⟨true, rfl, fun h => (by cases h), HBV2.out⟩
          · have b4 : ¬ (k : Int) < (L.length : Int) := by omega
            have HNr := Lib.hid (HNw.out hnx (fun a ha => by
              obtain ⟨j, hj, rfl⟩ := List.getElem_of_mem ha
              exact HSh.out j _ (by omega) (List.getElem?_eq_getElem hj)))
            go_wp2
            go_ret
            first | exact ⟨false, rfl, fun _ => HNr.out, HBw.out⟩ | exact .inl ⟨rfl, HNr.out, HBw.out⟩ | exact .inl ⟨rfl, fun _ => HNr.out, HBw.out⟩
    · have b2 : ¬ (256 : Int) < (mx : Int) := by omega
      go_wp2_with (first
        | (go_at_call 18; (with_reducible refine HM2.out.mono ?_); rintro e w4 ⟨rfl, hb4⟩; clear d0 d1 d2 d3 d4 d5; obtain ⟨d0, d1, d2, d3, d4, d5⟩ := H6.out w4 (Hb2.out.trans (hb4.mono (by omega))); have hz4 := hb4.size; have HB4 := Lib.hid (HB2.out.trans (hb4.mono (by omega))); have HA4 := Lib.hid (HA.out w4 HB4.out hnx); clear hb4 HM2)
        | (go_at_call 19; refine HA4.out.mono ?_; rintro e w5 ⟨A5, c5, cs, rfl, hAr, hb5⟩; have HAr := Lib.hid hAr; have HB5 := Lib.hid (HB4.out.trans (hb5.mono (by omega))); clear hAr hb5 HA4)
        | fail)
      have hAm := HAr.out.am
      have HAm := Lib.hid hAm
      clear hAm HAr d0 d1 d2 d3 d4 d5 HA HM H6
      go_loopw [21] (fun i wr => ∃ k : Nat, k ≤ L.length ∧ i = .int .i64 (k : Int) ∧ Hid (Below w5.heap.size w5 wr) ∧ Hid (∀ j a, j < k → L[j]? = some a → Short a)) (fun i _ => L.length - (RowKit.intOf i).toNat)
      case atStart => exact ⟨0, Nat.zero_le _, rfl, Lib.hid (Below.refl _ _), Lib.hid (fun j a hj => by omega)⟩
      case round =>
        obtain ⟨k, hk, rfl, HB, HSh⟩ := hrel
        have hzr := HB.out.size
        have HBw := Lib.hid (HB5.out.trans (HB.out.mono HB5.out.size))
        by_cases hlt : k < L.length
        · have b4 : (k : Int) < (L.length : Int) := by omega
          obtain ⟨a, hae⟩ : ∃ a, L[k]? = some a := ⟨_, List.getElem?_eq_getElem hlt⟩
          obtain ⟨g, off, A6', c6', rfl, hg, h6⟩ := (HAm.out.below HB.out).at_ hae
          obtain ⟨c0, c1, c2, c3, c4, c5'⟩ := h6
          obtain ⟨z1, z2⟩ := Hsz.out a (List.mem_of_getElem? hae)
          have q : IntKind.i64.wrap ((a.f.size : Int) + (a.t.size : Int)) = (a.f.size : Int) + (a.t.size : Int) := IntWalk.i64_in _ (by omega)
          have HBV := Lib.hid (HB.out.alloc hzr (.cells #[.int .i64 a.k, .int .i64 a.p, .string a.f, .string a.t, .int .i64 a.n, .slice A6' a.l.length c6'] 24))
          have HBV2 := Lib.hid (HBw.out.alloc (by have := HBw.out.size; omega) (.cells #[.int .i64 a.k, .int .i64 a.p, .string a.f, .string a.t, .int .i64 a.n, .slice A6' a.l.length c6'] 24))
          have HS1 : Hid (a.f.size + a.t.size ≤ 100 → ∀ j b, j < k + 1 → L[j]? = some b → Short b) := Lib.hid (fun h j b hj hb => by
            by_cases e : j = k
            · subst e; rw [hae] at hb; injection hb with hb; subst hb; exact h
            · exact HSh.out j b (by omega) hb)
          clear hae
          generalize a.k = ak at *
          generalize a.p = ap at *
          generalize a.f = af at *
          generalize a.t = at' at *
          generalize a.n = an at *
          generalize a.l.length = al at *
          by_cases hs : af.size + at'.size ≤ 100
          · have b5 : ¬ (100 : Int) < (af.size : Int) + (at'.size : Int) := by omega
            go_wp2
            go_roundw
            case rel => exact ⟨k + 1, by omega, by go_num, HBV, Lib.hid (HS1.out hs)⟩
            case measure => simp [RowKit.intOf]; omega
          · have b5 : (100 : Int) < (af.size : Int) + (at'.size : Int) := by omega
            go_wp2
            go_ret
            exact ⟨true, rfl, fun h => (by cases h), HBV2.out⟩
        · have b4 : ¬ (k : Int) < (L.length : Int) := by omega
          have HNr := Lib.hid (HNw.out hnx (fun a ha => by
            obtain ⟨j, hj, rfl⟩ := List.getElem_of_mem ha
            exact HSh.out j _ (by omega) (List.getElem?_eq_getElem hj)))
          go_wp2
          go_ret
          first | exact ⟨false, rfl, fun _ => HNr.out, HBw.out⟩ | exact .inl ⟨rfl, HNr.out, HBw.out⟩ | exact .inl ⟨rfl, fun _ => HNr.out, HBw.out⟩
end Go.Proofs.YtehjkgfdfihfmaaDoor
