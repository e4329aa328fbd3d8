/- ref56.has, ref56.surrendered; the document's boxes of a carrier, plain. ref56.has, ref56.surrendered. -/
import Derived.Test.YtdinloecgaapaaaGreatDoorMHPlain
import Derived.Test.YtdinloecgaapaaaGreatDoorRRef
namespace Go.Proofs.YtdinloecgaapaaaGreatDoor
open Go.RowKit Go.Maps Go.Lib Go.Sort
set_option linter.unusedVariables false
set_option maxRecDepth 100000

/-- who has what: texts by twos -/
abbrev Wh := ByteArray × ByteArray
def whC (p : Wh) : List Value := [.string p.1, .string p.2]
def Rwh (w : World) (B : Nat) (A : Option Addr) (L : List Wh) : Prop :=
  0 < L.length → ∃ g, A = some ⟨g, 0, none⟩ ∧ g < B ∧ ∀ (i : Nat) p, L[i]? = some p → w.cell? ⟨g, i * 2, none⟩ = some (.string p.1) ∧ w.cell? ⟨g, i * 2 + 1, none⟩ = some (.string p.2)
theorem Rwh.below {w w' : World} {B : Nat} {A : Option Addr} {L : List Wh} (h : Rwh w B A L) (hb : Below B w w') : Rwh w' B A L := fun hl => by
  obtain ⟨g, e, hg, hc⟩ := h hl
  exact ⟨g, e, hg, fun i p hp => ⟨(hb.cell (p := ⟨g, _, none⟩) hg).trans (hc i p hp).1, (hb.cell (p := ⟨g, _, none⟩) hg).trans (hc i p hp).2⟩⟩
theorem Rwh.more {w : World} {B B' : Nat} {A : Option Addr} {L : List Wh} (h : Rwh w B A L) (hB : B ≤ B') : Rwh w B' A L := fun hl => by
  obtain ⟨g, e, hg, hc⟩ := h hl
  exact ⟨g, e, by omega, hc⟩
theorem Rwh.at_ {w : World} {B : Nat} {A : Option Addr} {L : List Wh} (h : Rwh w B A L) {k : Nat} (hk : k < L.length) : ∃ g, A = some ⟨g, 0, none⟩ ∧ g < B ∧ w.cell? ⟨g, k * 2, none⟩ = some (.string L[k].1) ∧ w.cell? ⟨g, k * 2 + 1, none⟩ = some (.string L[k].2) := by
  obtain ⟨g, e, hg, hc⟩ := h (by omega)
  exact ⟨g, e, hg, hc k _ (List.getElem?_eq_getElem hk)⟩
/-- who has a box -/
def hasW (L : List Wh) (s : ByteArray) : Option ByteArray := (L.find? fun p => decide (p.1 = s)).map (·.2)
theorem hasW_snoc (L : List Wh) (s : ByteArray) (k : Nat) (h : k < L.length) (h0 : hasW (L.take k) s = none) : (L[k].1 = s → hasW L s = some L[k].2) ∧ (L[k].1 ≠ s → hasW (L.take (k + 1)) s = none) := by
  have hf : (L.take k).find? (fun p => decide (p.1 = s)) = none := by
    unfold hasW at h0
    exact Option.map_eq_none_iff.1 h0
  constructor
  · intro e
    have : L = L.take k ++ L[k] :: L.drop (k + 1) := by
      rw [← List.drop_eq_getElem_cons h, List.take_append_drop]
    have h2 : hasW L s = hasW (L.take k ++ L[k] :: L.drop (k + 1)) s := congrArg (fun l => hasW l s) this
    rw [h2]
    unfold hasW
    rw [List.find?_append, hf, List.find?_cons]
    simp [e]
  · intro e
    rw [List.take_succ_eq_append_getElem h]
    unfold hasW
    rw [List.find?_append, hf, List.find?_cons]
    simp [e]
theorem hasW_all (L : List Wh) (s : ByteArray) (k : Nat) (h : ¬ k < L.length) (h0 : hasW (L.take k) s = none) : hasW L s = none := by
  rw [List.take_of_length_le (by omega)] at h0
  exact h0
/-- was a box surrendered by somebody? -/
def surO (x : En) (a : ByteArray) (i : Nat) : Bool := decide ((x.o i).s = 1) && decide ((x.o i).h = a)
def surM (x : En) (p : Nt) : Bool := decide (x.s = 1) && inS x.l p.2 && (surO x p.1 0 || surO x p.1 1 || surO x p.1 2)
def surB (L : List Bm) (p : Nt) : Bool := L.any fun m => surM m.x p
theorem surM_iff (x : En) (p : Nt) : surM x p = true ↔ surE p x := by
  unfold surM surE surO
  rw [Bool.and_eq_true, Bool.and_eq_true, Bool.or_eq_true, Bool.or_eq_true, inS_iff]
  simp only [Bool.and_eq_true, decide_eq_true_eq]
  constructor
  · rintro ⟨⟨h1, h2⟩, h3⟩
    refine ⟨h1, ?_, h2⟩
    rcases h3 with (h | h) | h
    · exact ⟨0, by omega, h⟩
    · exact ⟨1, by omega, h⟩
    · exact ⟨2, by omega, h⟩
  · rintro ⟨h1, ⟨i, hi, h⟩, h2⟩
    refine ⟨⟨h1, h2⟩, ?_⟩
    obtain rfl | rfl | rfl : i = 0 ∨ i = 1 ∨ i = 2 := by omega
    · exact .inl (.inl h)
    · exact .inl (.inr h)
    · exact .inr h
theorem surB_iff (L : List Bm) (p : Nt) : surB L p = true ↔ ∃ m ∈ L, surE p m.x := by
  unfold surB
  rw [List.any_eq_true]
  constructor
  · rintro ⟨m, hm, h⟩; exact ⟨m, hm, (surM_iff _ _).1 h⟩
  · rintro ⟨m, hm, h⟩; exact ⟨m, hm, (surM_iff _ _).2 h⟩
theorem surB_at (L : List Bm) (p : Nt) (k : Nat) (h : k < L.length) (e : surM L[k].x p = true) : surB L p = true := by
  unfold surB
  rw [List.any_eq_true]
  exact ⟨_, List.getElem_mem h, e⟩
theorem surB_step (L : List Bm) (p : Nt) (k : Nat) (h : k < L.length) (h0 : surB (L.take k) p = false) (e : surM L[k].x p = false) : surB (L.take (k + 1)) p = false := by
  rw [List.take_succ_eq_append_getElem h]
  unfold surB at h0 ⊢
  rw [List.any_append, h0, List.any_cons, e]
  rfl
/-- a slice of bills, with their originals -/
def Rbo (w : World) (B : Nat) (A : Option Addr) (L : List Bm) : Prop :=
  0 < L.length → ∃ g, A = some ⟨g, 0, none⟩ ∧ g < B ∧ ∀ (i : Nat) m, L[i]? = some m → w.cell? ⟨g, i * 3, none⟩ = some (.slice m.A m.x.l.length m.c) ∧ w.cell? ⟨g, i * 3 + 1, none⟩ = some (.int .i64 m.x.s) ∧ w.cell? ⟨g, i * 3 + 2, none⟩ = some (.slice m.O 3 m.oc) ∧ Rs w B m.A m.x.l ∧
    ∃ q, m.O = some ⟨q, 0, none⟩ ∧ q < B ∧ ∀ j, j < 3 → w.cell? ⟨q, j * 4 + 2, none⟩ = some (.int .i64 (m.x.o j).s) ∧ w.cell? ⟨q, j * 4 + 3, none⟩ = some (.string (m.x.o j).h)
section
variable {w w' : World} {B B' : Nat} {A : Option Addr} {L : List Bm}
theorem Rbo.below (h : Rbo w B A L) (hb : Below B w w') : Rbo w' B A L := fun hl => by
  obtain ⟨g, e, hg, hc⟩ := h hl
  refine ⟨g, e, hg, fun i m hm => ?_⟩
  obtain ⟨h1, h2, h3, h4, q, h5, h6, h7⟩ := hc i m hm
  exact ⟨(hb.cell (p := ⟨g, _, none⟩) hg).trans h1, (hb.cell (p := ⟨g, _, none⟩) hg).trans h2, (hb.cell (p := ⟨g, _, none⟩) hg).trans h3, h4.below hb, q, h5, h6, fun j hj => ⟨(hb.cell (p := ⟨q, _, none⟩) h6).trans (h7 j hj).1, (hb.cell (p := ⟨q, _, none⟩) h6).trans (h7 j hj).2⟩⟩
theorem Rbo.more (h : Rbo w B A L) (hB : B ≤ B') : Rbo w B' A L := fun hl => by
  obtain ⟨g, e, hg, hc⟩ := h hl
  refine ⟨g, e, by omega, fun i m hm => ?_⟩
  obtain ⟨h1, h2, h3, h4, q, h5, h6, h7⟩ := hc i m hm
  exact ⟨h1, h2, h3, h4.more hB, q, h5, by omega, h7⟩
theorem Rbo.rb (h : Rbo w B A L) : Rb w B A L := fun hl => by
  obtain ⟨g, e, hg, hc⟩ := h hl
  exact ⟨g, e, hg, fun i m hm => ⟨(hc i m hm).1, (hc i m hm).2.1, (hc i m hm).2.2.2.1⟩⟩
theorem Rbo.at_ (h : Rbo w B A L) {k : Nat} (hk : k < L.length) : ∃ g q, A = some ⟨g, 0, none⟩ ∧ g < B ∧ ∀ X, Below B w X → X.cell? ⟨g, k * 3, none⟩ = some (.slice L[k].A L[k].x.l.length L[k].c) ∧ X.cell? ⟨g, k * 3 + 1, none⟩ = some (.int .i64 L[k].x.s) ∧ X.cell? ⟨g, k * 3 + 2, none⟩ = some (.slice (some ⟨q, 0, none⟩) 3 L[k].oc) ∧ Rs X B L[k].A L[k].x.l ∧
    ∀ j, j < 3 → X.cell? ⟨q, j * 4 + 2, none⟩ = some (.int .i64 (L[k].x.o j).s) ∧ X.cell? ⟨q, j * 4 + 3, none⟩ = some (.string (L[k].x.o j).h) := by
  obtain ⟨g, e, hg, hc⟩ := h (by omega)
  obtain ⟨h1, h2, h3, h4, q, h5, h6, h7⟩ := hc k _ (List.getElem?_eq_getElem hk)
  rw [h5] at h3
  exact ⟨g, q, e, hg, fun X hb => ⟨(hb.cell (p := ⟨g, _, none⟩) hg).trans h1, (hb.cell (p := ⟨g, _, none⟩) hg).trans h2, (hb.cell (p := ⟨g, _, none⟩) hg).trans h3, h4.below hb, fun j hj => ⟨(hb.cell (p := ⟨q, _, none⟩) h6).trans (h7 j hj).1, (hb.cell (p := ⟨q, _, none⟩) h6).trans (h7 j hj).2⟩⟩⟩
end
theorem flat3c (L : List Bm) : ∀ (i : Nat) m, L[i]? = some m → (L.flatMap bmC)[i * 3 + 2]? = some (.slice m.O 3 m.oc) := fun i m hm => (flat_at bmC 3 (fun _ => rfl) L i m hm 2 (by omega)).trans rfl
theorem Bw.rbo {base : Nat} {w : World} {A : Option Addr} {c : Nat} {BL : List Bm} (h : Bw base w A c BL) : Rbo w w.heap.size A BL := fun hl => by
  have hrb := h.rb
  obtain ⟨g0, e0, hg0, hc0⟩ := hrb hl
  rcases h.row.2 with ⟨h1, h2⟩ | ⟨g, cap, cur, e, hb, hg, h4, h5, h6, h7⟩
  · omega
  · injection e with e
    rw [e0] at e
    injection e with e
    injection e with e _ _
    subst e
    refine ⟨g0, e0, hg0, fun i m hm => ⟨(hc0 i m hm).1, (hc0 i m hm).2.1, ?_, (hc0 i m hm).2.2, ?_⟩⟩
    · have hv := flat3c BL i m hm
      rw [cell_of hg, ← Array.getElem?_toList]
      rw [← h7, List.getElem?_take] at hv
      split at hv
      · exact hv
      · cases hv
    · obtain ⟨bs, ho⟩ := (h.each m (List.mem_of_getElem? hm)).org
      obtain ⟨q, cs, e9, hq, hv⟩ := org_row ho
      exact ⟨q, e9, lt_of_some hq, fun j hj => ⟨(cell_of hq _).trans (hv j hj 2 _ rfl), (cell_of hq _).trans (hv j hj 3 _ rfl)⟩⟩
/-- the document's boxes -/
def docM (ch : List Wh) (out : List Hn) (L : List Bm) : List ByteArray := putsB [] (ch.map (·.1) ++ out.map (·.bx) ++ boxL L)
theorem docM_srt (ch : List Wh) (out : List Hn) (L : List Bm) : Srt (docM ch out L) ∧ ∀ s, s ∈ docM ch out L ↔ (∃ p ∈ ch, p.1 = s) ∨ (∃ h ∈ out, h.bx = s) ∨ ∃ m ∈ L, s ∈ m.x.l := by
  have h := puts_srt (ch.map (·.1) ++ out.map (·.bx) ++ boxL L) [] List.Pairwise.nil
  refine ⟨h.1, fun s => ?_⟩
  show s ∈ putsB [] _ ↔ _
  rw [h.2 s]
  simp only [List.not_mem_nil, false_or, List.mem_append, List.mem_map, boxL, List.mem_flatMap, or_assoc]
/-- what the document's lines hang on -/
def docD (name : ByteArray) (ch : List Wh) (out : List Hn) (L : List Bm) : Shp := ⟨name, out, hasW ch, surB L, liveB (L.map Bm.bl)⟩
end Go.Proofs.YtdinloecgaapaaaGreatDoor
namespace Go.Proofs.YtdinloecgaapaaaGreatDoor
open Go.RowKit Go.Maps Go.Lib Go.Sort
set_option linter.unusedVariables false
set_option maxRecDepth 100000

set_option maxHeartbeats 1000000 in
theorem has_r (L : List Wh) (s : ByteArray) (A : Option Addr) (c : Nat) (w : World) (h : Rwh w w.heap.size A L) (hl : L.length ≤ 100000) :
    Calls Tryz.prog 42 #[.slice A L.length c, .string s] w fun e w' => e = .returned (.tuple #[.string ((hasW L s).getD ⟨#[]⟩), .bool (hasW L s).isSome]) ∧ Below w.heap.size w w' := by
  have HL := Lib.hid h
  clear h
  generalize hCP : (fun (e : Ending) (w' : World) => e = .returned (.tuple #[.string ((hasW L s).getD ⟨#[]⟩), .bool (hasW L s).isSome]) ∧ Below w.heap.size w w') = CP
  have HF : Hid (∀ w' o, hasW L s = o → Below w.heap.size w w' → CP (.returned (.tuple #[.string (o.getD ⟨#[]⟩), .bool o.isSome])) w') := Lib.hid fun w' o ho hb => by rw [← hCP, ho]; exact ⟨rfl, hb⟩
  clear hCP
  go_enter Tryz.func42, Tryz.ntmps42
  go_wp2_with fail
  go_loopw [6] (fun i wr => ∃ k : Nat, k ≤ L.length ∧ i = .int .i64 k ∧ Hid (Below w.heap.size w wr) ∧ Hid (hasW (L.take k) s = none)) (fun i _ => L.length - (RowKit.intOf i).toNat)
  case atStart => exact ⟨0, Nat.zero_le _, rfl, Lib.hid (Below.refl _ _), Lib.hid rfl⟩
  case round =>
    obtain ⟨k, hk, rfl, HB, HN⟩ := hrel
    by_cases hlt : k < L.length
    · obtain ⟨g1, rfl, hg1, hc0, hc1⟩ := (HL.out.below HB.out).at_ hlt
      have hlt' : (k : Int) < (L.length : Int) := by omega
      have HS := Lib.hid (hasW_snoc L s k hlt HN.out)
      generalize L[k] = p at *
      obtain ⟨a, b⟩ := p
      simp only at hc0 hc1 HS
      clear HN
      by_cases e : a = s
      · subst e
        have hq : (a.toList == a.toList) = true := by simp
        have HT := Lib.hid (HF.out wr _ (HS.out.1 rfl) HB.out)
        clear HF HS HL
        go_wp2_with fail
        first
          | exact HT.out
          | (refine bodyPost_ret (results_tmp2 rfl _ _) rfl ?_; exact HT.out)
          | (go_ret; exact HT.out)
      · have hq : (a.toList == s.toList) = false := by simpa using fun e2 => e (tl_inj e2)
        have HT := Lib.hid (HS.out.2 e)
        clear HS HF HL e
        go_wp2_with fail
        exact ⟨⟨k + 1, by omega, by go_num, HB, HT⟩, by simp [RowKit.intOf]; omega⟩
    · have hlt' : ¬ (k : Int) < (L.length : Int) := by omega
      have HT := Lib.hid (HF.out wr none (hasW_all L s k hlt HN.out) HB.out)
      clear HF HL HN
      go_wp2_with fail
      first
        | exact HT.out
        | (refine bodyPost_ret (results_tmp2 rfl _ _) rfl ?_; exact HT.out)
        | (go_ret; exact HT.out)

set_option maxHeartbeats 2000000 in
theorem sur_r (L : List Bm) (s a : ByteArray) (A : Option Addr) (c : Nat) (w : World) (h : Rbo w w.heap.size A L) (hl : L.length ≤ 100000) (hL : ∀ m ∈ L, m.x.l.length ≤ 64) :
    Calls Tryz.prog 43 #[.slice A L.length c, .string s, .string a] w fun e w' => e = .returned (.bool (surB L (a, s))) ∧ Below w.heap.size w w' := by
  have HL := Lib.hid h
  have HLl := Lib.hid hL
  clear h hL
  generalize hCP : (fun (e : Ending) (w' : World) => e = .returned (.bool (surB L (a, s))) ∧ Below w.heap.size w w') = CP
  have HF : Hid (∀ w' o, surB L (a, s) = o → Below w.heap.size w w' → CP (.returned (.bool o)) w') := Lib.hid fun w' o ho hb => by rw [← hCP, ho]; exact ⟨rfl, hb⟩
  clear hCP
  go_enter Tryz.func43, Tryz.ntmps43
  go_wp2_with fail
  go_loopw [7] (fun i wr => ∃ k : Nat, k ≤ L.length ∧ i = .int .i64 k ∧ Hid (Below w.heap.size w wr) ∧ Hid (surB (L.take k) (a, s) = false)) (fun i _ => L.length - (RowKit.intOf i).toNat)
  case atStart => exact ⟨0, Nat.zero_le _, rfl, Lib.hid (Below.refl _ _), Lib.hid rfl⟩
  case round =>
    obtain ⟨k, hk, rfl, HB, HN⟩ := hrel
    by_cases hlt : k < L.length
    · have hlt' : (k : Int) < (L.length : Int) := by omega
      have hll := HLl.out _ (List.getElem_mem hlt)
      obtain ⟨g1, q1, rfl, hg1, hat⟩ := HL.out.at_ hlt
      have HX := Lib.hid hat
      have HA := Lib.hid (fun e => surB_at L (a, s) k hlt e)
      have HS := Lib.hid (fun e => surB_step L (a, s) k hlt HN.out e)
      obtain ⟨hc0, hc1, hc2, hrs, hor⟩ := hat wr HB.out
      have HI := Lib.hid (in_any L[k].x.l s L[k].A L[k].c wr (hrs.more HB.out.size) (by omega))
      generalize L[k] = m at *
      clear hrs hor hat HN HL HLl
      obtain ⟨mk, x, mA, mc, mO, moc⟩ := m
      simp only at *
      by_cases h0 : x.s = 1
      · have HM := Lib.hid (show surM x (a, s) = (inS x.l s && (surO x a 0 || surO x a 1 || surO x a 2)) from by unfold surM; rw [decide_eq_true h0, Bool.true_and])
        have hb0 : (x.s == 1) = true := by simpa using h0
        have hb1 : (x.s != 1) = false := by simpa using h0
        have HXS := Lib.hid h0
        have hxs := h0
        clear h0
        generalize x.s = xs at *
        subst hxs
        go_wp2_with fail
        refine HI.out.mono ?_
        rintro e w2 ⟨rfl, hb2⟩
        have Hb2 := Lib.hid (HB.out.trans (hb2.mono HB.out.size))
        cases hin : inS x.l s with
        | false =>
          have HT := Lib.hid (HS.out (by rw [HM.out, hin]; rfl))
          clear hb2 HS HA HI HF HX HM hc0 hc1 hc2
          go_wp2_with fail
          exact ⟨⟨k + 1, by omega, by go_num, Hb2, HT⟩, by simp [RowKit.intOf]; omega⟩
        | true =>
          rw [hin, Bool.true_and] at HM
          clear hb2 HI HB hc0 hc1 hc2 hin
          have hc2 := (HX.out w2 Hb2.out).2.2.1
          go_wp2_with fail
          go_loopw [8] (fun i wx => ∃ j : Nat, j ≤ 3 ∧ i = .int .i64 j ∧ wx = w2 ∧ Hid (∀ i, i < j → surO x a i = false)) (fun i _ => 3 - (RowKit.intOf i).toNat)
          case atStart => exact ⟨0, by omega, rfl, rfl, Lib.hid fun i hi => by omega⟩
          case round =>
            obtain ⟨j, hj, rfl, rfl, HJ⟩ := hrel
            by_cases hlj : j < 3
            · have hlj' : (j : Int) < 3 := by omega
              obtain ⟨d1, d2⟩ := (HX.out wr Hb2.out).2.2.2.2 j hlj
              have HO := Lib.hid (show surO x a j = (decide ((x.o j).s = 1) && decide ((x.o j).h = a)) from rfl)
              have HM2 : Hid (surO x a j = true → surM x (a, s) = true) := Lib.hid fun e => by
                rw [HM.out]
                obtain rfl | rfl | rfl : j = 0 ∨ j = 1 ∨ j = 2 := by omega
                all_goals rw [e]; simp
              have HJ2 : Hid (surO x a j = false → ∀ i, i < j + 1 → surO x a i = false) := Lib.hid fun e i hi => by
                by_cases h : i < j
                · exact HJ.out i h
                · rw [show i = j by omega]; exact e
              generalize (x.o j).s = os at *
              generalize (x.o j).h = oh at *
              by_cases e1 : os = 1
              · subst e1
                by_cases e2 : oh = a
                · have hq2 : (oh.toList == a.toList) = true := by rw [e2]; simp
                  have HT := Lib.hid (HF.out wr true (HA.out (HM2.out (by rw [HO.out, e2]; simp))) Hb2.out)
                  clear HF HS HA HM HM2 HJ HJ2 HO e2 HX
                  go_wp2_with fail
                  first
                    | exact HT.out
                    | (go_ret; exact HT.out)
                · have hq2 : (oh.toList == a.toList) = false := by simpa using fun e => e2 (tl_inj e)
                  have HT := Lib.hid (HJ2.out (by rw [HO.out]; simp [e2]))
                  clear HF HS HA HM HM2 HJ HJ2 HO e2 HX
                  go_wp2_with fail
                  exact ⟨⟨j + 1, by omega, by go_num, by first | rfl | trivial, HT⟩, by simp [RowKit.intOf]; omega⟩
              · have hq1 : (os == 1) = false := by simpa using e1
                have HT := Lib.hid (HJ2.out (by rw [HO.out]; simp [e1]))
                clear HF HS HA HM HM2 HJ HJ2 HO e1 HX
                go_wp2_with fail
                exact ⟨⟨j + 1, by omega, by go_num, by first | rfl | trivial, HT⟩, by simp [RowKit.intOf]; omega⟩
            · have hlj' : ¬ (j : Int) < 3 := by omega
              have HT := Lib.hid (HS.out (by rw [HM.out, HJ.out 0 (by omega), HJ.out 1 (by omega), HJ.out 2 (by omega)]; rfl))
              clear HF HS HA HM HJ HX
              go_wp2_with fail
              exact ⟨⟨k + 1, by omega, by go_num, Hb2, HT⟩, by simp [RowKit.intOf]; omega⟩
      · have hb0 : (x.s == 1) = false := by simpa using h0
        have hb1 : (x.s != 1) = true := by simpa using h0
        have HT := Lib.hid (HS.out (by unfold surM; rw [decide_eq_false h0]; rfl))
        clear HS HA HI HX HF hc0 hc2
        generalize x.s = xs at *
        go_wp2_with fail
        exact ⟨⟨k + 1, by omega, by go_num, HB, HT⟩, by simp [RowKit.intOf]; omega⟩
    · have hlt' : ¬ (k : Int) < (L.length : Int) := by omega
      have hke : L.take k = L := List.take_of_length_le (by omega)
      have HT := Lib.hid (HF.out wr false (by rw [← hke]; exact HN.out) HB.out)
      clear HF HL HN hke HLl
      go_wp2_with fail
      first
        | exact HT.out
        | (go_ret; exact HT.out)
end Go.Proofs.YtdinloecgaapaaaGreatDoor
