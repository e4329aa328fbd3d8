/- A chain of hand-overs: New, Boxes, As, Now. -/
import Derived.Test.YtdinloecgaapaaaGreatDoorMRPlain
import Derived.Test.YtdinloecgaapaaaGreatDoorMHNames
import Derived.Test.YtdinloecgaapaaaGreatDoorRAud1
import Derived.BigQuiet
import Derived.OwnWalk
namespace Go.Proofs.YtdinloecgaapaaaGreatDoor
open Go.RowKit Go.Maps Go.Lib Go.Sort
set_option linter.unusedVariables false
set_option maxRecDepth 100000

theorem flat_at {α β : Type} (f : α → List β) (n : Nat) (hn : ∀ x, (f x).length = n) (L : List α) : ∀ (i : Nat) x, L[i]? = some x → ∀ j, j < n → (L.flatMap f)[i * n + j]? = (f x)[j]? := by
  induction L with
  | nil => intro i x h; simp at h
  | cons y L ih =>
    intro i x h j hj
    rw [List.flatMap_cons]
    cases i with
    | zero =>
      simp only [List.getElem?_cons_zero, Option.some.injEq] at h
      subst h
      rw [List.getElem?_append_left (by rw [hn]; omega), Nat.zero_mul, Nat.zero_add]
    | succ i =>
      simp only [List.getElem?_cons_succ] at h
      rw [List.getElem?_append_right (by rw [hn, Nat.add_mul]; omega), hn, show (i + 1) * n + j - n = i * n + j by rw [Nat.add_mul]; omega]
      exact ih i x h j hj
theorem hn_len (h : Hn) : (hnC h).length = 5 := rfl
theorem Oh.at_ {w : World} {base : Nat} {A : Option Addr} {c : Nat} {L : List Hn} (h : Oh w base (.slice A L.length c) L) {k : Nat} (hk : k < L.length) : ∃ g, A = some ⟨g, 0, none⟩ ∧ base ≤ g ∧ g < w.heap.size ∧ ∀ j, j < 5 → w.cell? ⟨g, k * 5 + j, none⟩ = (hnC L[k])[j]? := by
  rcases h.2 with ⟨_, h0⟩ | ⟨g, cap, cur, e, hb, hg, _, _, _, h7⟩
  · omega
  · injection e with e _ _
    refine ⟨g, e, hb, lt_of_some hg, fun j hj => ?_⟩
    rw [cell_of hg, ← flat_at hnC 5 hn_len L k _ (List.getElem?_eq_getElem hk) j hj, ← h7, List.getElem?_take, if_pos (by omega), Array.getElem?_toList]
/-- a chain: what each box went through -/
structure ChS (w : World) (base p b k : Nat) (H : ByteArray → List Hn) : Prop where
  reg : w.heap[p]? = some (.cells #[.map (some b)] 84 (0, 0))
  plo : base ≤ p
  gq : Gq base w b k none H
  day : ∀ s, ∀ h ∈ H s, h.day ≤ 1048576
  tos : ∀ s, ∀ h ∈ H s, h.tt.size ≤ 16
  key : ∀ s, H s ≠ [] → s.size ≤ 16
  len : ∀ s, (H s).length ≤ k
def Chn (w : World) (base p k : Nat) : Prop := ∃ b H, ChS w base p b k H
section
variable {w w' : World} {base p b k : Nat} {H : ByteArray → List Hn}
theorem ChS.below (h : ChS w base p b k H) (hb : Below w.heap.size w w') : ChS w' base p b k H := ⟨keep_of_below hb h.reg, h.plo, h.gq.below hb (.inl rfl), h.day, h.tos, h.key, h.len⟩
theorem ChS.more (h : ChS w base p b k H) {m : Nat} (hm : k ≤ m) : ChS w base p b m H := ⟨h.reg, h.plo, h.gq.more hm, h.day, h.tos, h.key, fun s => Nat.le_trans (h.len s) hm⟩
theorem ChS.cell (h : ChS w base p b k H) : w.cell? ⟨p, 0, none⟩ = some (.map (some b)) := cell_of h.reg 0
theorem Chn.below (h : Chn w base p k) (hb : Below w.heap.size w w') : Chn w' base p k := by
  obtain ⟨b, H, h⟩ := h
  exact ⟨b, H, h.below hb⟩
theorem Chn.more (h : Chn w base p k) {m : Nat} (hm : k ≤ m) : Chn w base p m := by
  obtain ⟨b, H, h⟩ := h
  exact ⟨b, H, h.more hm⟩
/-- what lies at a key, and whether the key is there -/
theorem Gq.look_ok {av : Option Nat} {F : ByteArray → List Hn} (h : Gq base w b k av F) (s : ByteArray) (hs : s.size ≤ maxLen) : ∃ (A0 : Option Addr) (c0 : Nat), Oh w base (.slice A0 (F s).length c0) (F s) ∧
    (∀ X, Below w.heap.size w X → (Instr.lookup 82 (.map (some b)) (.string s) false).run Tryz.prog X = .ok (.slice A0 (F s).length c0) X ∧
    (Instr.lookup 82 (.map (some b)) (.string s) true).run Tryz.prog X = .ok (.tuple #[.slice A0 (F s).length c0, .bool (decide (F s ≠ []))]) X) := by
  obtain ⟨h0, Q, h1, h2, h3, h4, h5⟩ := h
  obtain ⟨v0, hv0⟩ : ∃ v0 : Sl, v0 = (Q s).getD ⟨none, 0, 0⟩ := ⟨_, rfl⟩
  have hn : v0.n = (F s).length := by
    cases hq : Q s with
    | none => rw [hv0, hq, h2 s hq]; rfl
    | some v => rw [hv0, hq]; exact (h3 s v hq).2.1
  have how : Oh w base (slV v0) (F s) := by
    cases hq : Q s with
    | none => rw [hv0, hq, h2 s hq]; exact Oh.nil w base
    | some v => rw [hv0, hq]; exact (h3 s v hq).2.2
  have hsl : slV v0 = .slice (v0.A.map fun g => ⟨g, 0, none⟩) (F s).length v0.c := by unfold slV; rw [hn]
  have hb : (Q s).isSome = decide (F s ≠ []) := by
    cases hq : Q s with
    | none => rw [h2 s hq]; rfl
    | some v => have := (h3 s v hq).1; simp [this]
  refine ⟨v0.A.map fun g => ⟨g, 0, none⟩, v0.c, by rw [← hsl]; exact how, fun X hX => ⟨?_, ?_⟩⟩
  · have := (h1.below hX h1.lt).look (t := 82) (e := 37) Tryz.underlying82 (zeroHl X) trivial (x := s) hs
    rw [← hv0] at this
    rw [← hsl]
    exact this
  · have := (h1.below hX h1.lt).look_ok (t := 82) (e := 37) Tryz.underlying82 (zeroHl X) trivial (x := s) hs
    rw [← hv0, hb] at this
    rw [← hsl]
    exact this
theorem Gq.len {av : Option Nat} {F : ByteArray → List Hn} (h : Gq base w b k av F) : ∃ m : Nat, ∀ X, Below w.heap.size w X → ∀ ty, (Builtin.len_ #[82] ty #[.map (some b)]).run Tryz.prog X = .ok (.int .i64 (m : Nat)) X := by
  obtain ⟨h0, Q, ⟨D, hown, hR⟩, _⟩ := h
  refine ⟨Maps.size D, fun X hX ty => ?_⟩
  have hk : X.ownsMap Tryz.prog 9 slE.R b k D := by
    obtain ⟨es, clock, e2, e3⟩ := hown
    exact ⟨es, clock, keep_of_below hX e2, e3⟩
  exact hk.len (t := 82) (e := 37) Tryz.underlying82 ty
/-- the keys, rising -/
theorem Gq.sorted {av : Option Nat} {F : ByteArray → List Hn} (h : Gq base w b k av F) (hk : k ≤ 1000000) (hF : ∀ s, F s ≠ [] → s.size ≤ 1000) :
    Calls Tryz.prog 30 #[.func (.func 67) #[] #[.pointer (some ⟨w.heap.size, 0, none⟩)]] (w.alloc (.cells #[.map (some b)] 82)) fun e w' =>
      ∃ A c keys, e = .returned (.slice A (List.length keys) c) ∧ Srt keys ∧ (∀ s, s ∈ keys ↔ F s ≠ []) ∧ keys.length ≤ k ∧ Ow w' w.heap.size (.slice A keys.length c) keys ∧ Below w.heap.size w w' := by
  obtain ⟨h0, Q, h1, h2, h3, h4, h5⟩ := h
  obtain ⟨D, hown, hR⟩ := h1
  have hsz := hown.size_le
  refine (callsIn_wide.1 (Tryz.slices_Sorted_keys_30_36 b k D _ w hown (by unfold maxLen; omega) (by omega))).mono ?_
  rintro e w' ⟨v, ss, rfl, hP, hrow, hnil, hb⟩
  obtain ⟨A, c, keys, he, q1, q2, q3, q4, q5, q6⟩ := keys_of hown hR hP hrow (by simp) (((Below.refl _ w).alloc (Nat.le_refl _) _).trans (hb.mono (by simp)))
  refine ⟨A, c, keys, he, q1, fun s => ?_, q4, q5, q6⟩
  constructor
  · intro hs
    have := (q3 s (q2 s hs)).1 hs
    obtain ⟨v, hv⟩ := Option.isSome_iff_exists.1 this
    exact (h3 s v hv).1
  · intro hs
    refine (q3 s (by have := hF s hs; unfold maxLen; omega)).2 ?_
    cases hq : Q s with
    | none => exact absurd (h2 s hq) hs
    | some v => rfl
end
theorem keysH_fn (mb : Option Nat) (W : World) : Calls Tryz.prog 36 #[.map mb] W fun e w' => e = .returned (.func (.func 67) #[] #[.pointer (some ⟨W.heap.size, 0, none⟩)]) ∧ w' = W.alloc (.cells #[.map mb] 82) :=
  callsIn_wide.1 (Tryz.maps_Keys_36 mb W)
set_option maxHeartbeats 400000 in
theorem newC_c (w : World) : Calls Tryz.prog 12 #[] w fun e w' =>
    e = .returned (.pointer (some ⟨w.heap.size + 1, 0, none⟩)) ∧ Chn w' w.heap.size (w.heap.size + 1) 0 ∧ Below w.heap.size w w' := by
  have hmm := @run_makeMap Tryz.prog
  go_enter Tryz.func12, Tryz.ntmps12
  go_wp2
  go_ret
  have h1 : (w.alloc (.map #[] 0)).heap.size = w.heap.size + 1 := by simp
  have hal : Below (w.alloc (.map #[] 0)).heap.size (w.alloc (.map #[] 0)) ((w.alloc (.map #[] 0)).alloc (.cells #[.map (some w.heap.size)] 84)) := (Below.refl _ _).alloc (Nat.le_refl _) _
  have h3 := (MapKept.heap_alloc (w.alloc (.map #[] 0)) (.cells #[.map (some w.heap.size)] 84)).1
  rw [h1] at h3
  exact ⟨rfl, ⟨w.heap.size, fun _ => [], ⟨h3, by omega, (Gq.made w).below hal (.inl rfl), (fun _ _ h => by cases h), (fun _ _ h => by cases h), (fun _ h => absurd rfl h), fun _ => Nat.le_refl _⟩⟩, ((Below.refl _ _).alloc (Nat.le_refl _) _).trans (hal.mono (by omega))⟩
def BoP (H : ByteArray → List Hn) (k : Nat) (w : World) (e : Ending) (w' : World) : Prop := ∃ A c keys, e = .returned (.slice A (List.length keys) c) ∧ Srt keys ∧ (∀ s, s ∈ keys ↔ H s ≠ []) ∧ keys.length ≤ k ∧ Ow w' w.heap.size (.slice A keys.length c) keys ∧ Below w.heap.size w w'
set_option maxHeartbeats 400000 in
theorem boxes_c (base p b k : Nat) (H : ByteArray → List Hn) (w : World) (h : ChS w base p b k H) (hk : k ≤ 100000) :
    Calls Tryz.prog 15 #[.pointer (some ⟨p, 0, none⟩)] w fun e w' => BoP H k w e w' := by
  have c0 := h.cell
  have HK := Lib.hid (keysH_fn (some b) w)
  have HS := Lib.hid (h.gq.sorted (by omega) (fun s hs => by have := h.key s hs; omega))
  generalize hCP : BoP H k w = CP
  have HF : Hid (∀ e w', BoP H k w e w' → CP e w') := Lib.hid fun e w' h => by rw [← hCP]; exact h
  clear h
  go_enter Tryz.func15, Tryz.ntmps15
  go_wp2_with fail
  refine HK.out.mono ?_
  rintro e w8 ⟨rfl, rfl⟩
  go_wp2_with fail
  refine HS.out.mono ?_
  rintro e w9 ⟨A, c, keys, rfl, hr⟩
  have HF2 := Lib.hid (HF.out (.returned (.slice A (List.length keys) c)) w9 ⟨A, c, keys, rfl, hr⟩)
  clear hr HF HS HK hCP
  go_wp2_with fail
  first
    | exact HF2.out
    | (go_ret; exact HF2.out)
/-- who has a box -/
def whoOf (H : ByteArray → List Hn) (s : ByteArray) : Option ByteArray := (H s).getLast?.map (·.tt)
def NwP (H : ByteArray → List Hn) (s : ByteArray) (w : World) (e : Ending) (w' : World) : Prop := ∃ pl : ByteArray, e = .returned (.tuple #[.string ((whoOf H s).getD ⟨#[]⟩), .string pl, .bool (whoOf H s).isSome]) ∧ Below w.heap.size w w'
set_option maxHeartbeats 1000000 in
theorem as_c (base p b k : Nat) (H : ByteArray → List Hn) (s : ByteArray) (w : World) (h : ChS w base p b k H) (hs : s.size ≤ maxLen) (hk : k ≤ 100000) :
    Calls Tryz.prog 37 #[.pointer (some ⟨p, 0, none⟩), .string s, .int .i64 1048576] w fun e w' => NwP H s w e w' := by
  have c0 := h.cell
  obtain ⟨A0, c0', how, hlk⟩ := h.gq.look_ok s hs
  have hl0 := (hlk w (Below.refl _ _)).1
  have hlen := h.len s
  have hday := h.day s
  have HF : Hid (∀ W pl, Below w.heap.size w W → NwP H s w (.returned (.tuple #[.string ((whoOf H s).getD ⟨#[]⟩), .string pl, .bool (whoOf H s).isSome])) W) := Lib.hid fun W pl hb => ⟨pl, rfl, hb⟩
  have HW := Lib.hid (show whoOf H s = (H s).getLast?.map (·.tt) from rfl)
  have HO := Lib.hid how
  generalize NwP H s w = CP at *
  generalize whoOf H s = wo at *
  clear h hlk how
  generalize H s = L at *
  by_cases h0 : L = []
  · subst h0
    have hwo : wo = none := HW.out
    subst hwo
    go_enter Tryz.func37, Tryz.ntmps37
    go_wp2_with fail
    go_loopw [10] (fun i wr => i = .int .i64 (-1) ∧ wr = w) (fun i _ => 0)
    case atStart => exact ⟨rfl, rfl⟩
    case round =>
      obtain ⟨rfl, rfl⟩ := hrel
      go_wp2_with fail
      first
        | exact HF.out _ _ (Below.refl _ _)
        | (refine bodyPost_ret (results_tmp3 rfl _ _ _) rfl ?_; exact HF.out _ _ (Below.refl _ _))
  · have hpos : 0 < L.length := List.length_pos_iff.2 h0
    obtain ⟨g, rfl, _, hg, hc⟩ := HO.out.at_ (k := L.length - 1) (by omega)
    have hlast : L.getLast? = some L[L.length - 1] := by rw [List.getLast?_eq_getElem?, List.getElem?_eq_getElem (by omega)]
    have hd := hday _ (List.getElem_mem (l := L) (n := L.length - 1) (by omega))
    rw [hlast] at HW
    generalize L[L.length - 1] = x at *
    have hwo : wo = some x.tt := HW.out
    subst hwo
    obtain ⟨n, hn⟩ : ∃ n, L.length = n + 1 := ⟨L.length - 1, by omega⟩
    rw [hn] at hc hl0 hlen
    simp only [Nat.add_sub_cancel] at hc
    have c2 := hc 2 (by omega)
    have c3 := hc 3 (by omega)
    have c4 := hc 4 (by omega)
    simp only [hnC, List.getElem?_cons_succ, List.getElem?_cons_zero] at c2 c3 c4
    have hnk : (n : Int) ≤ 100000 := by omega
    clear hc HO HW hlast hday
    go_enter Tryz.func37, Tryz.ntmps37
    go_wp2_with fail
    go_loopw [10] (fun i wr => i = .int .i64 (n : Int) ∧ wr = w) (fun i _ => 0)
    case atStart => exact ⟨by go_num, rfl⟩
    case round =>
      obtain ⟨rfl, rfl⟩ := hrel
      have hn0 : (0 : Int) ≤ (n : Int) := by omega
      go_wp2_with fail
      go_quiet (fail)
      have HB := Lib.hid (below_drewR (Below.refl wr.heap.size wr) nq)
      go_wp2_with fail
      first
        | exact HF.out _ _ HB.out
        | (refine bodyPost_ret (results_tmp3 rfl _ _ _) rfl ?_; exact HF.out _ _ HB.out)
set_option maxHeartbeats 400000 in
theorem now_c (base p b k : Nat) (H : ByteArray → List Hn) (s : ByteArray) (w : World) (h : ChS w base p b k H) (hs : s.size ≤ maxLen) (hk : k ≤ 100000) :
    Calls Tryz.prog 16 #[.pointer (some ⟨p, 0, none⟩), .string s] w fun e w' => NwP H s w e w' := by
  have HA := Lib.hid (as_c base p b k H s w h hs hk)
  have HF : Hid (∀ W pl, Below w.heap.size w W → NwP H s w (.returned (.tuple #[.string ((whoOf H s).getD ⟨#[]⟩), .string pl, .bool (whoOf H s).isSome])) W) := Lib.hid fun W pl hb => ⟨pl, rfl, hb⟩
  clear h
  generalize hCP : NwP H s w = CP at HF ⊢
  clear hCP
  go_enter Tryz.func16, Tryz.ntmps16
  go_wp2_with fail
  refine HA.out.mono ?_
  rintro e w2 ⟨pl, rfl, hb⟩
  have HF2 := Lib.hid (HF.out w2 pl hb)
  clear hb HF HA
  go_wp2_with fail
  first
    | exact HF2.out
    | (go_ret; exact HF2.out)
    | (refine bodyPost_ret (results_tmp3 rfl _ _ _) rfl ?_; exact HF2.out)
end Go.Proofs.YtdinloecgaapaaaGreatDoor
