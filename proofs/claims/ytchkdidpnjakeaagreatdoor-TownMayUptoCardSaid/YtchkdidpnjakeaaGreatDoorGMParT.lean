/- town.partiesMay: which parties may be. money.May, ref01.May: a currency, and an amount within bounds. -/
import Derived.Test.YtchkdidpnjakeaaGreatDoorGMHeavy2
import Derived.Test.YtchkdidpnjakeaaGreatDoorGBOfs
namespace Go.Proofs.YtchkdidpnjakeaaGreatDoor
open Go.RowKit Go.Maps Go.Lib
set_option linter.unusedVariables false
set_option maxRecDepth 100000

/-- a store into a map behind one block more -/
theorem Mp.step {P : Program} {k : TypeId} {α β : Type} {C : KeyC P k α} {E : ElC β} [DecidableEq α] {wr w0 : World} {mb n B : Nat} {G : α → Option β} (h : Mp C E wr mb n G) (hb : Below B w0 wr) (hB : B ≤ mb) (o : Obj) {t e : TypeId} (ht : P.underlying t = some (.map k e)) (hn : n < maxLen) {x : α} (hx : C.ok x) {v : β} (hv : E.ok v) :
    ∃ w', (Instr.mapUpdate t (.map (some mb)) (C.mk x) (E.mk v)).run P (wr.alloc o) = .ok () w' ∧ Mp C E w' mb (n + 1) (putG G x v) ∧ Below B w0 w' ∧ ∀ q, q ≠ mb → q < wr.heap.size → w'.heap[q]? = wr.heap[q]? := by
  have hl := h.lt
  obtain ⟨w', h1, h2, h3⟩ := (h.alloc o).store ht hn hx hv
  have hba : Below B w0 (wr.alloc o) := hb.alloc (by omega) o
  refine ⟨w', h1, h2, turned_below hba h3 hB (by simp; omega), fun q hq hqs => ?_⟩
  rw [h3.grown.block q (by simp; omega) (fun e => by injection e with e; omega)]
  first
    | exact heap_alloc_old wr o hqs
    | exact heap_alloc_old wr _ _ hqs
noncomputable def kdE : ElC Int := intE Tryz.prog 3 Tryz.underlying3
theorem zeroIntM (w : World) : (zeroValue 3).run Tryz.prog w = .ok (.int .i64 0) w := by kernel_rfl
theorem kd_ok {a : Int} (h0 : -9223372036854775808 ≤ a) (h1 : a ≤ 9223372036854775807) : kdE.ok a := by
  show (Lit.int .i64 a).wf = true
  simp [Lit.wf, IntKind.min, IntKind.max, IntKind.signed, IntKind.bits]
  omega
def kdG (l : List Py) (k : Nat) : ByteArray → Option Int := fun s => (parF (l.take k) s).map (·.kd)
def Pr1To (l : List Py) (k : Nat) : Prop := ∀ i p, i < k → l[i]? = some p → P1 l i p
theorem Pr1To.step {l : List Py} {k : Nat} {p : Py} (h : Pr1To l k) (hp : l[k]? = some p) (h1 : P1 l k p) : Pr1To l (k + 1) := fun i q hi hq => by
  by_cases e : i = k
  · subst e
    rw [hp] at hq
    cases hq
    exact h1
  · exact h i q (by omega) hq
theorem parF_takeM {l : List Py} {k : Nat} {s : ByteArray} : (parF (l.take k) s).isSome = true ↔ ∃ i q, i < k ∧ l[i]? = some q ∧ q.nm = s := by
  unfold parF
  rw [List.find?_isSome]
  constructor
  · rintro ⟨q, hq, hs⟩
    obtain ⟨i, hi⟩ := List.mem_iff_getElem?.1 hq
    rw [List.getElem?_take] at hi
    split at hi
    · exact ⟨i, q, by assumption, hi, by simpa using hs⟩
    · cases hi
  · rintro ⟨i, q, hi, hq, hs⟩
    refine ⟨q, List.mem_iff_getElem?.2 ⟨i, ?_⟩, by simpa using hs⟩
    rw [List.getElem?_take, if_pos hi]
    exact hq
theorem kdG_step {l : List Py} {k : Nat} {p : Py} (hp : l[k]? = some p) (h : parF (l.take k) p.nm = none) : putG (kdG l k) p.nm p.kd = kdG l (k + 1) := by
  funext s
  unfold putG kdG
  rw [take_snoc' hp, parF_snoc]
  by_cases e : s = p.nm
  · subst e
    rw [if_pos rfl, h]
    simp
  · rw [if_neg e]
    cases h2 : parF (l.take k) s with
    | some y => simp
    | none => simp; exact fun e2 => absurd e2.symm e
/-- the kinds as far as they are noted -/
def KiI (W1 wr : World) (mb : Nat) (l : List Py) (k : Nat) : Prop := Below W1.heap.size W1 wr ∧ W1.heap.size ≤ mb ∧ Mp curC kdE wr mb k (kdG l k)
theorem KiI.look {W1 wr : World} {mb : Nat} {l : List Py} {k : Nat} (h : KiI W1 wr mb l k) {s : ByteArray} (hs : s.size ≤ maxLen) (o : Obj) :
    (Instr.lookup 114 (.map (some mb)) (.string s) true).run Tryz.prog (wr.alloc o) = .ok (.tuple #[.int .i64 ((kdG l k s).getD 0), .bool (kdG l k s).isSome]) (wr.alloc o) :=
  (h.2.2.alloc o).look_ok Tryz.underlying114 (z := 0) (zeroIntM _) (kd_ok (by omega) (by omega)) (x := s) (show curC.ok s from hs)
theorem KiI.step {W1 wr : World} {mb : Nat} {l : List Py} {k : Nat} (h : KiI W1 wr mb l k) (hk : k ≤ 1000) {p : Py} (hp : l[k]? = some p) (hn : parF (l.take k) p.nm = none) (hs : p.nm.size ≤ maxLen) (h0 : 0 ≤ p.kd) (h4 : p.kd ≤ 4) (o : Obj) :
    ∃ w', (Instr.mapUpdate 114 (.map (some mb)) (.string p.nm) (.int .i64 p.kd)).run Tryz.prog (wr.alloc o) = .ok () w' ∧ KiI W1 w' mb l (k + 1) := by
  obtain ⟨hb, hm, hM⟩ := h
  obtain ⟨w', h1, h2, h3, h4⟩ := hM.step hb hm o Tryz.underlying114 (by unfold maxLen; omega) (x := p.nm) (show curC.ok p.nm from hs) (v := p.kd) (kd_ok (by omega) (by omega))
  rw [kdG_step hp hn] at h2
  exact ⟨w', h1, h3, hm, h2⟩
theorem KiI.alloc {W1 wr : World} {mb : Nat} {l : List Py} {k : Nat} (h : KiI W1 wr mb l k) (o : Obj) : KiI W1 (wr.alloc o) mb l k := ⟨h.1.alloc (Nat.le_of_lt (Nat.lt_of_le_of_lt h.2.1 h.2.2.lt)) o, h.2.1, h.2.2.alloc o⟩
theorem KiI.low {W1 wr : World} {mb : Nat} {l : List Py} {k : Nat} (h : KiI W1 wr mb l k) : mb < wr.heap.size := h.2.2.lt
theorem bk_own' {l : List Py} {p : Py} (h : ¬ (p.kd = 1 ∨ p.kd = 2)) : BkOk l p ↔ kdG l l.length p.bk = some 2 := by
  unfold BkOk kdG; rw [if_neg h, List.take_length, Option.map_eq_some_iff]
theorem ptParties {l : List Py} (h1 : Pr1To l l.length) (hf : 1 ≤ l.length ∧ l.length ≤ 16) (h2 : ∀ i p, i < l.length → l[i]? = some p → BkOk l p) : PartiesOk l := by
  refine ⟨hf, fun i p hp => h1 i p (List.getElem?_eq_some_iff.1 hp).1 hp, fun p hp => ?_⟩
  obtain ⟨i, hi⟩ := List.mem_iff_getElem?.1 hp
  exact h2 i p (List.getElem?_eq_some_iff.1 hi).1 hi
set_option maxHeartbeats 8000000 in
theorem parties_t {w : World} {l : List Py} {A : Option Addr} {c B : Nat} (hP : Pys w B A l) (hB : B ≤ w.heap.size) (hp0 : l.length ≤ 100000000) (hst : ∀ p ∈ l, p.nm.size ≤ maxLen ∧ p.bk.size ≤ maxLen) :
    Calls Tryz.prog 23 #[.slice A l.length c] w fun e w' => BoolQ (PartiesOk l) w e w' := by
  have HPy : Hid (∀ X, Below w.heap.size w X → Pys X B A l) := Lib.hid fun X hX => hP.below (hX.mono hB)
  have HN : Hid (¬ PartiesOk l → ∀ X, Below w.heap.size w X → BoolQ (PartiesOk l) w (.returned (.bool false)) X) := Lib.hid fun h X hX => BoolQ.no h hX
  have HY : Hid (PartiesOk l → ∀ X, Below w.heap.size w X → BoolQ (PartiesOk l) w (.returned (.bool true)) X) := Lib.hid fun h X hX => BoolQ.yes h hX
  have HZ := Lib.hid hst
  have HBr := Lib.hid (Below.refl w.heap.size w)
  have HIn := Lib.hid (among_m (l.length : Int) 1 16)
  clear hP hst
  generalize BoolQ (PartiesOk l) w = CP at *
  by_cases hf : (1 : Int) ≤ (l.length : Int) ∧ (l.length : Int) ≤ 16
  · rw [decide_eq_true hf] at HIn
    have hmm := @run_makeMap Tryz.prog
    have HI0 : Hid (KiI w (w.alloc (.map #[] 0)) w.heap.size l 0) := Lib.hid ⟨(Below.refl _ _).alloc (Nat.le_refl _) _, Nat.le_refl _, by
      have hM := Mp.made (C := curC) (E := kdE) w
      have e : kdG l 0 = fun _ => none := by funext s; simp [kdG, parF]
      rw [e]
      exact hM⟩
    go_enter Tryz.func23, Tryz.ntmps23
    go_wp2_with (first
      | (go_at_call 51; (with_reducible refine (HIn.out _).mono ?_); rintro e w' ⟨rfl, h⟩; subst h)
      | fail)
    rename World => w0
    go_loopw [19, 5, 6, 7] (fun i _ _ _ wr => ∃ k : Nat, k ≤ l.length ∧ i = .int .i64 (k : Int) ∧ Hid (Pr1To l k) ∧ Hid (KiI w0 wr w0.heap.size l k)) (fun i _ _ _ _ => l.length - (RowKit.intOf i).toNat)
    case atStart => exact ⟨0, Nat.zero_le _, rfl, Lib.hid (fun i p hi => by omega), HI0⟩
    case round =>
      clear HI0 HIn hmm
      obtain ⟨k, hk, rfl, HR, HI⟩ := hrel
      by_cases hlt : k < l.length
      · have b1 : (k : Int) < (l.length : Int) := by omega
        obtain ⟨p, hp⟩ : ∃ p, l[k]? = some p := ⟨l[k], List.getElem?_eq_getElem hlt⟩
        have heq : l[k] = p := (List.getElem?_eq_some_iff.1 hp).2
        obtain ⟨g, off, hPA, hg, c0, c1, c2⟩ := (HPy.out wr HI.out.1).at_ hlt
        rw [heq] at c0 c1 c2
        have hmb := HI.out.low
        have hgw : g < wr.heap.size := by omega
        have hz := HZ.out p (List.mem_of_getElem? hp)
        rw [hPA]
        have HNm := Lib.hid (fun X => markName_any p.nm X hz.1)
        have HAm := Lib.hid (among_m p.kd 0 4)
        have HBy : Hid (∀ o, Below w0.heap.size w0 (wr.alloc o)) := Lib.hid fun o => (HI.out.alloc o).1
        have HNo : Hid (¬ P1 l k p → ∀ o, CP (.returned (.bool false)) (wr.alloc o)) := Lib.hid fun h o => HN.out (fun h2 => h (h2.one k p hp)) _ (HBy.out o)
        have HL := Lib.hid (fun o => HI.out.look hz.1 o)
        cases hG : parF (l.take k) p.nm with
        | some y =>
          have hG2 : kdG l k p.nm = some y.kd := by simp [kdG, hG]
          have HX := Lib.hid (HNo.out (fun h => by
            obtain ⟨i, q, hi, hq, hs⟩ := parF_takeM.1 (show (parF (l.take k) p.nm).isSome = true by rw [hG]; rfl)
            exact h.2.2.2 i q hi hq hs))
          have r1 := HL.out (.cells #[.string p.nm, .string p.bk, .int .i64 p.kd] 38)
          rw [hG2] at r1
          have r2 : (Instr.lookup 114 (.map (some w0.heap.size)) (.string p.nm) true).run Tryz.prog (wr.alloc (.cells #[.string p.nm, .string p.bk, .int .i64 p.kd] 38)) = .ok (.tuple #[.int .i64 y.kd, .bool true]) (wr.alloc (.cells #[.string p.nm, .string p.bk, .int .i64 p.kd] 38)) := r1
          clear r1 hG hG2 HL HNo HR HI HN HY HNm HAm hPA heq hp hz
          go_wp2_with fail
          first
            | exact HX.out _
            | (go_ret; exact HX.out _)
        | none =>
          have hG2 : kdG l k p.nm = none := by simp [kdG, hG]
          have r1 := HL.out (.cells #[.string p.nm, .string p.bk, .int .i64 p.kd] 38)
          rw [hG2] at r1
          have r2 : (Instr.lookup 114 (.map (some w0.heap.size)) (.string p.nm) true).run Tryz.prog (wr.alloc (.cells #[.string p.nm, .string p.bk, .int .i64 p.kd] 38)) = .ok (.tuple #[.int .i64 0, .bool false]) (wr.alloc (.cells #[.string p.nm, .string p.bk, .int .i64 p.kd] 38)) := r1
          clear r1 HL
          by_cases h1 : nameB p.nm.data.toList = true
          · rw [h1] at HNm
            by_cases h2 : 0 ≤ p.kd ∧ p.kd ≤ 4
            · rw [decide_eq_true h2] at HAm
              obtain ⟨w', r3, hI'⟩ := HI.out.step (by omega) hp hG hz.1 h2.1 h2.2 (.cells #[.string p.nm, .string p.bk, .int .i64 p.kd] 38)
              have HI2 := Lib.hid hI'
              have HR2 := Lib.hid (HR.out.step hp ⟨h1, h2.1, h2.2, fun i q hi hq hs => by
                have h3 := parF_takeM.2 ⟨i, q, hi, hq, hs⟩
                rw [hG] at h3
                cases h3⟩)
              clear hG hG2 HNo HR HI HN HY hPA heq hp hz hI' h1 h2
              go_wp2_with (first
                | (go_at_call 52; (with_reducible refine (HNm.out _).mono ?_); rintro e w' ⟨rfl, h⟩; subst h)
                | (go_at_call 51; (with_reducible refine (HAm.out _).mono ?_); rintro e w' ⟨rfl, h⟩; subst h)
                | fail)
              go_roundw
              case rel => exact ⟨k + 1, by omega, by go_num, HR2, HI2⟩
              case measure => simp [RowKit.intOf] <;> omega
            · rw [decide_eq_false h2] at HAm
              have HX := Lib.hid (HNo.out (fun h => h2 ⟨h.2.1, h.2.2.1⟩))
              clear hG hG2 HNo HR HI HN HY hPA heq hp hz h1 h2
              go_wp2_with (first
                | (go_at_call 52; (with_reducible refine (HNm.out _).mono ?_); rintro e w' ⟨rfl, h⟩; subst h)
                | (go_at_call 51; (with_reducible refine (HAm.out _).mono ?_); rintro e w' ⟨rfl, h⟩; subst h)
                | fail)
              first
                | exact HX.out _
                | (go_ret; exact HX.out _)
          · have HX := Lib.hid (HNo.out (fun h => h1 h.1))
            rw [Bool.not_eq_true] at h1
            rw [h1] at HNm
            clear hG hG2 HNo HR HI HN HY hPA heq hp hz h1
            go_wp2_with (first
              | (go_at_call 52; (with_reducible refine (HNm.out _).mono ?_); rintro e w' ⟨rfl, h⟩; subst h)
              | fail)
            first
              | exact HX.out _
              | (go_ret; exact HX.out _)
      · have b1 : ¬ (k : Int) < (l.length : Int) := by omega
        obtain rfl : k = l.length := by omega
        have HR0 := Lib.hid HR.out
        clear hk hlt HR
        go_wp2_with fail
        clear b1
        go_loopw [51, 9, 10, 11] (fun i _ _ _ wr => ∃ k : Nat, k ≤ l.length ∧ i = .int .i64 (k : Int) ∧ Hid (∀ i p, i < k → l[i]? = some p → BkOk l p) ∧ Hid (KiI w0 wr w0.heap.size l l.length)) (fun i _ _ _ _ => l.length - (RowKit.intOf i).toNat)
        case atStart => exact ⟨0, Nat.zero_le _, rfl, Lib.hid (fun i p hi => by omega), HI⟩
        case round =>
          clear HI
          obtain ⟨k, hk, rfl, HK, HI⟩ := hrel
          by_cases hlt : k < l.length
          · have b1 : (k : Int) < (l.length : Int) := by omega
            obtain ⟨p, hp⟩ : ∃ p, l[k]? = some p := ⟨l[k], List.getElem?_eq_getElem hlt⟩
            have heq : l[k] = p := (List.getElem?_eq_some_iff.1 hp).2
            obtain ⟨g, off, hPA, hg, c0, c1, c2⟩ := (HPy.out wr HI.out.1).at_ hlt
            rw [heq] at c0 c1 c2
            have hmb := HI.out.low
            have hgw : g < wr.heap.size := by omega
            have hz := HZ.out p (List.mem_of_getElem? hp)
            rw [hPA]
            have hp1 := HR0.out k p hlt hp
            have HNo : Hid (¬ BkOk l p → ∀ o, CP (.returned (.bool false)) (wr.alloc o)) := Lib.hid fun h o => HN.out (fun h2 => h (h2.bank p (List.mem_of_getElem? hp))) _ (HI.out.alloc o).1
            have HI2 : Hid (KiI w0 (wr.alloc (.cells #[.string p.nm, .string p.bk, .int .i64 p.kd] 38)) w0.heap.size l l.length) := Lib.hid (HI.out.alloc _)
            have HSt : Hid (BkOk l p → ∀ i q, i < k + 1 → l[i]? = some q → BkOk l q) := Lib.hid fun h i q hi hq => by
              by_cases e : i = k
              · subst e; rw [hp] at hq; cases hq; exact h
              · exact HK.out i q (by omega) hq
            have r1 := HI.out.look hz.2 (.cells #[.string p.nm, .string p.bk, .int .i64 p.kd] 38)
            have hkd := hp1.2.1
            have hkd4 := hp1.2.2.1
            clear hPA heq hp hp1 HI HK
            by_cases hpl : p.kd = 1 ∨ p.kd = 2
            · have t0 : (p.kd == 0) = false := by rw [beq_eq_false_iff_ne]; omega
              have t3 : (p.kd == 3) = false := by rw [beq_eq_false_iff_ne]; omega
              have t4 : (p.kd == 4) = false := by rw [beq_eq_false_iff_ne]; omega
              have r2 : (Instr.lookup 114 (.map (some w0.heap.size)) (.string p.bk) true).run Tryz.prog (wr.alloc (.cells #[.string p.nm, .string p.bk, .int .i64 p.kd] 38)) = .ok (.tuple #[.int .i64 ((kdG l l.length p.bk).getD 0), .bool (kdG l l.length p.bk).isSome]) (wr.alloc (.cells #[.string p.nm, .string p.bk, .int .i64 p.kd] 38)) := r1
              generalize (kdG l l.length p.bk).getD 0 = z1 at *
              generalize (kdG l l.length p.bk).isSome = z2 at *
              by_cases hb0 : p.bk.size = 0
              · have HX := Lib.hid (HSt.out ((bk_plain hpl).2 hb0))
                have hb2 : (p.bk.toList == []) = true := by rw [size0.1 hb0]; rfl
                clear r1 hpl hb0 HNo HSt HN HY hkd hkd4
                generalize p.kd = kd at *
                go_wp2_with fail
                go_roundw
                case rel => exact ⟨k + 1, by omega, by go_num, HX, HI2⟩
                case measure => simp [RowKit.intOf] <;> omega
              · have HX := Lib.hid (HNo.out (fun h => hb0 ((bk_plain hpl).1 h)))
                have hb2 : (p.bk.toList == []) = false := by
                  rw [beq_eq_false_iff_ne]
                  exact fun h => hb0 (size0.2 h)
                clear r1 hpl hb0 HNo HSt HN HY hkd hkd4
                generalize p.kd = kd at *
                go_wp2_with fail
                first
                  | exact HX.out _
                  | (go_ret; exact HX.out _)
            · have HT : Hid ((p.kd == 0) = true ∨ (p.kd == 0) = false ∧ (p.kd == 3) = true ∨ (p.kd == 0) = false ∧ (p.kd == 3) = false ∧ (p.kd == 4) = true) := Lib.hid (by
                rcases (show p.kd = 0 ∨ p.kd = 3 ∨ p.kd = 4 by omega) with h | h | h
                · left; simp [h]
                · right; left; simp [h]
                · right; right; simp [h])
              by_cases hb0 : kdG l l.length p.bk = some 2
              · have HX := Lib.hid (HSt.out ((bk_own' hpl).2 hb0))
                have r2 : (Instr.lookup 114 (.map (some w0.heap.size)) (.string p.bk) true).run Tryz.prog (wr.alloc (.cells #[.string p.nm, .string p.bk, .int .i64 p.kd] 38)) = .ok (.tuple #[.int .i64 2, .bool true]) (wr.alloc (.cells #[.string p.nm, .string p.bk, .int .i64 p.kd] 38)) := by
                  rw [hb0] at r1
                  exact r1
                clear r1 hpl hb0 HNo HSt HN HY hkd hkd4
                generalize p.kd = kd at *
                rcases HT.out with t0 | ⟨t0, t3⟩ | ⟨t0, t3, t4⟩
                all_goals
                  clear HT
                  go_wp2_with fail
                  go_roundw
                  case rel => exact ⟨k + 1, by omega, by go_num, HX, HI2⟩
                  case measure => simp [RowKit.intOf] <;> omega
              · have HX := Lib.hid (HNo.out (fun h => hb0 ((bk_own' hpl).1 h)))
                cases hG : kdG l l.length p.bk with
                | none =>
                  have r2 : (Instr.lookup 114 (.map (some w0.heap.size)) (.string p.bk) true).run Tryz.prog (wr.alloc (.cells #[.string p.nm, .string p.bk, .int .i64 p.kd] 38)) = .ok (.tuple #[.int .i64 0, .bool false]) (wr.alloc (.cells #[.string p.nm, .string p.bk, .int .i64 p.kd] 38)) := by
                    rw [hG] at r1
                    exact r1
                  clear r1 hpl hb0 HNo HSt HN HY hkd hkd4 hG
                  generalize p.kd = kd at *
                  rcases HT.out with t0 | ⟨t0, t3⟩ | ⟨t0, t3, t4⟩
                  all_goals
                    clear HT
                    go_wp2_with fail
                    first
                      | exact HX.out _
                      | (go_ret; exact HX.out _)
                | some v =>
                  have t2 : (v == 2) = false := by
                    rw [beq_eq_false_iff_ne]
                    rintro rfl
                    exact hb0 hG
                  have r2 : (Instr.lookup 114 (.map (some w0.heap.size)) (.string p.bk) true).run Tryz.prog (wr.alloc (.cells #[.string p.nm, .string p.bk, .int .i64 p.kd] 38)) = .ok (.tuple #[.int .i64 v, .bool true]) (wr.alloc (.cells #[.string p.nm, .string p.bk, .int .i64 p.kd] 38)) := by
                    rw [hG] at r1
                    exact r1
                  clear r1 hpl hb0 HNo HSt HN HY hkd hkd4 hG
                  generalize p.kd = kd at *
                  rcases HT.out with t0 | ⟨t0, t3⟩ | ⟨t0, t3, t4⟩
                  all_goals
                    clear HT
                    go_wp2_with fail
                    first
                      | exact HX.out _
                      | (go_ret; exact HX.out _)
          · have b1 : ¬ (k : Int) < (l.length : Int) := by omega
            obtain rfl : k = l.length := by omega
            have HX := Lib.hid (HY.out (ptParties HR0.out (by omega) HK.out) wr HI.out.1)
            clear HN HY HK
            go_wp2_with fail
            first
              | exact HX.out
              | (go_ret; exact HX.out)
  · rw [decide_eq_false hf] at HIn
    have HX := Lib.hid (HN.out (fun h => hf (by have := h.few; omega)) w HBr.out)
    go_enter Tryz.func23, Tryz.ntmps23
    go_wp2_with (first
      | (go_at_call 51; (with_reducible refine (HIn.out _).mono ?_); rintro e w' ⟨rfl, h⟩; subst h)
      | fail)
    first
      | exact HX.out
      | (go_ret; exact HX.out)
end Go.Proofs.YtchkdidpnjakeaaGreatDoor
namespace Go.Proofs.YtchkdidpnjakeaaGreatDoor
open Go.RowKit Go.Lib
set_option linter.unusedVariables false
set_option maxRecDepth 100000

def MnOk (s : ByteArray) (n : Int) : Prop := curOk s ∧ -1099511627776 ≤ n ∧ n ≤ 1099511627776
set_option maxHeartbeats 2000000 in
theorem money_m (s : ByteArray) (n : Int) (w : World) (hs0 : s.size ≤ maxLen) : Calls Tryz.prog 62 #[.agg #[.string s, .int .i64 n]] w fun e w' => BoolQ (MnOk s n) w e w' := by
  have hb1 : Below w.heap.size w (w.alloc (.cells #[.string s, .int .i64 n] 69)) := (Below.refl _ _).alloc (Nat.le_refl _) _
  have HN : Hid (¬ MnOk s n → BoolQ (MnOk s n) w (.returned (.bool false)) (w.alloc (.cells #[.string s, .int .i64 n] 69))) := Lib.hid fun h => BoolQ.no h hb1
  have HY : Hid (MnOk s n → BoolQ (MnOk s n) w (.returned (.bool true)) (w.alloc (.cells #[.string s, .int .i64 n] 69))) := Lib.hid fun h => BoolQ.yes h hb1
  have HC := Lib.hid (cur_m s (w.alloc (.cells #[.string s, .int .i64 n] 69)) hs0)
  clear hb1
  generalize BoolQ (MnOk s n) w = CP at *
  go_enter Tryz.func62, Tryz.ntmps62
  go_wp2_with fail
  refine HC.out.mono ?_
  rintro e w2 ⟨rfl, r, rfl, hr⟩
  have HR := Lib.hid hr
  clear hr HC
  cases r with
  | false =>
    have HX := Lib.hid (HN.out (fun h => by have := HR.out.2 h.1; cases this))
    clear HN HY HR
    go_wp2_with fail
    first
      | exact HX.out
      | (go_ret; exact HX.out)
  | true =>
    by_cases h1 : -1099511627776 ≤ n
    · have b1 : decide (-1099511627776 ≤ n) = true := decide_eq_true h1
      by_cases h2 : n ≤ 1099511627776
      · have b2 : decide (n ≤ 1099511627776) = true := decide_eq_true h2
        have HX := Lib.hid (HY.out ⟨HR.out.1 rfl, h1, h2⟩)
        clear HN HY HR
        go_wp2_with fail
        first
          | exact HX.out
          | (go_ret; exact HX.out)
      · have b2 : decide (n ≤ 1099511627776) = false := decide_eq_false h2
        have HX := Lib.hid (HN.out (fun h => h2 h.2.2))
        clear HN HY HR
        go_wp2_with fail
        first
          | exact HX.out
          | (go_ret; exact HX.out)
    · have b1 : decide (-1099511627776 ≤ n) = false := decide_eq_false h1
      have HX := Lib.hid (HN.out (fun h => h1 h.2.1))
      clear HN HY HR
      go_wp2_with fail
      first
        | exact HX.out
        | (go_ret; exact HX.out)
set_option maxHeartbeats 2000000 in
theorem refMoney_m (s : ByteArray) (n : Int) (w : World) (hs0 : s.size ≤ maxLen) : Calls Tryz.prog 85 #[.agg #[.string s, .int .i64 n]] w fun e w' => BoolQ (MnOk s n) w e w' := by
  have hb1 : Below w.heap.size w (w.alloc (.cells #[.string s, .int .i64 n] 69)) := (Below.refl _ _).alloc (Nat.le_refl _) _
  have HN : Hid (¬ MnOk s n → BoolQ (MnOk s n) w (.returned (.bool false)) (w.alloc (.cells #[.string s, .int .i64 n] 69))) := Lib.hid fun h => BoolQ.no h hb1
  have HY : Hid (MnOk s n → BoolQ (MnOk s n) w (.returned (.bool true)) (w.alloc (.cells #[.string s, .int .i64 n] 69))) := Lib.hid fun h => BoolQ.yes h hb1
  have HC := Lib.hid (refCur_m s (w.alloc (.cells #[.string s, .int .i64 n] 69)) hs0)
  clear hb1
  generalize BoolQ (MnOk s n) w = CP at *
  go_enter Tryz.func85, Tryz.ntmps85
  go_wp2_with fail
  refine HC.out.mono ?_
  rintro e w2 ⟨rfl, r, rfl, hr⟩
  have HR := Lib.hid hr
  clear hr HC
  cases r with
  | false =>
    have HX := Lib.hid (HN.out (fun h => by have := HR.out.2 h.1; cases this))
    clear HN HY HR
    go_wp2_with fail
    first
      | exact HX.out
      | (go_ret; exact HX.out)
  | true =>
    by_cases h1 : -1099511627776 ≤ n
    · have b1 : decide (-1099511627776 ≤ n) = true := decide_eq_true h1
      by_cases h2 : n ≤ 1099511627776
      · have b2 : decide (n ≤ 1099511627776) = true := decide_eq_true h2
        have HX := Lib.hid (HY.out ⟨HR.out.1 rfl, h1, h2⟩)
        clear HN HY HR
        go_wp2_with fail
        first
          | exact HX.out
          | (go_ret; exact HX.out)
      · have b2 : decide (n ≤ 1099511627776) = false := decide_eq_false h2
        have HX := Lib.hid (HN.out (fun h => h2 h.2.2))
        clear HN HY HR
        go_wp2_with fail
        first
          | exact HX.out
          | (go_ret; exact HX.out)
    · have b1 : decide (-1099511627776 ≤ n) = false := decide_eq_false h1
      have HX := Lib.hid (HN.out (fun h => h1 h.2.1))
      clear HN HY HR
      go_wp2_with fail
      first
        | exact HX.out
        | (go_ret; exact HX.out)
end Go.Proofs.YtchkdidpnjakeaaGreatDoor
