/- desk.fresh: a desk without a book. desk.Open: the desk of a store without writes. -/
import Derived.Test.YtchkdidpnjakeaaGreatDoorGMBook
import Derived.Test.YtchkdidpnjakeaaGreatDoorGMClone
import Derived.Deep.RegionWith
namespace Go.Proofs.YtchkdidpnjakeaaGreatDoor
open Go.RowKit Go.Maps Go.Lib Led
set_option linter.unusedVariables false
set_option maxRecDepth 100000

theorem Ow.weaken {w : World} {b b' : Nat} {v : Value} {L : List ByteArray} (h : Ow w b v L) (hb : b' ≤ b) : Ow w b' v L := by
  refine ⟨h.1, ?_⟩
  rcases h.2 with h2 | ⟨g, cap, cur, e, h3, h4⟩
  · exact .inl h2
  · exact .inr ⟨g, cap, cur, e, Nat.le_trans hb h3, h4⟩
/-- the texts of an own row, cell by cell -/
theorem Ow.cells {w : World} {b c : Nat} {A : Option Addr} {L : List ByteArray} (h : Ow w b (.slice A L.length c) L) : (A = none → L.length = 0) ∧ ∀ ad, A = some ad → ∀ j u, (L.map Value.string)[j]? = some u → w.cell? (ad.add j) = some u := by
  constructor
  · rintro rfl
    by_cases h0 : 0 < L.length
    · obtain ⟨g, e, _⟩ := h.at_ h0
      cases e
    · omega
  · rintro ad rfl j u hu
    rw [List.getElem?_map] at hu
    cases hj : L[j]? with
    | none => rw [hj] at hu; cases hu
    | some x =>
      rw [hj] at hu
      have hl := (List.getElem?_eq_some_iff.1 hj).1
      have he := (List.getElem?_eq_some_iff.1 hj).2
      obtain ⟨g, e, _, _, hc⟩ := h.at_ hl
      injection e with e
      subst e
      rw [he] at hc
      simp at hu
      subst hu
      have e2 : (⟨g, 0, none⟩ : Addr).add j = ⟨g, j, none⟩ := by cases j <;> simp [Addr.add]
      rw [e2]
      exact hc
/-- what the others of a desk are -/
structure OtOk (nm : ByteArray) (L : List ByteArray) : Prop where
  few : L.length ≤ 16
  nd : L.Nodup
  one : ∀ o ∈ L, nameB o.data.toList = true ∧ o ≠ nm ∧ o.size ≤ 1000
/-- a desk under way: k ends stand -/
structure FrI (w wr : World) (b q em : Nat) (D : Array Value) (A : Option Addr) (c : Nat) (L : List ByteArray) (k : Nat) : Prop where
  bw : Below w.heap.size w wr
  desk : wr.heap[q]? = some (.cells D 124 (0, 0))
  row : Ow wr w.heap.size (.slice A L.length c) L
  lo : w.heap.size ≤ em ∧ b ≤ w.heap.size
  ends : ∃ F : ByteArray → Option (Option Nat), Mp curC ptE wr em k F ∧ (∀ i o, i < k → L[i]? = some o → ∃ e, F o = some (some e) ∧ EndAt wr e ∧ b ≤ e) ∧ ∀ s, F s ≠ none → ∃ i, i < k ∧ L[i]? = some s
theorem EndAt.ne_map {w : World} {e em n : Nat} {F : ByteArray → Option (Option Nat)} (h : EndAt w e) (hM : Mp curC ptE w em n F) : e ≠ em := by
  obtain ⟨x, y, m, h⟩ := h
  exact hM.neCells h
theorem FrI.look {w wr : World} {b q em c k : Nat} {D : Array Value} {A : Option Addr} {L : List ByteArray} (h : FrI w wr b q em D A c L k) (hL : L.Nodup) {o : ByteArray} (ho : L[k]? = some o) (hs : o.size ≤ maxLen) :
    (Instr.lookup 122 (.map (some em)) (.string o) true).run Tryz.prog wr = .ok (.tuple #[.pointer none, .bool false]) wr := by
  obtain ⟨F, h1, h2, h3⟩ := h.ends
  have h5 := h1.look_ok Tryz.underlying122 (z := none) (zeroEnd wr) trivial (x := o) (show curC.ok o from hs)
  have hn : F o = none := by
    cases hF : F o with
    | none => rfl
    | some y =>
      obtain ⟨i, hi, hio⟩ := h3 o (by rw [hF]; simp)
      have hil := (List.getElem?_eq_some_iff.1 hio).1
      have hkl := (List.getElem?_eq_some_iff.1 ho).1
      have e1 := (List.getElem?_eq_some_iff.1 hio).2
      have e2 := (List.getElem?_eq_some_iff.1 ho).2
      exact absurd (e1.trans e2.symm) (List.pairwise_iff_getElem.1 hL i k hil hkl hi)
  rw [hn] at h5
  exact h5
theorem FrI.step {w wr : World} {b q em c k : Nat} {D : Array Value} {A : Option Addr} {L : List ByteArray} (h : FrI w wr b q em D A c L k) (hk : k ≤ 100) {o : ByteArray} (ho : L[k]? = some o) (hs : o.size ≤ maxLen) {X : World} (hX : Below wr.heap.size wr X) {e : Nat} (he : EndAt X e) (hbe : wr.heap.size ≤ e) :
    ∃ w', (Instr.mapUpdate 122 (.map (some em)) (.string o) (.pointer (some ⟨e, 0, none⟩))).run Tryz.prog X = .ok () w' ∧ FrI w w' b q em D A c L (k + 1) := by
  obtain ⟨F, h1, h2, h3⟩ := h.ends
  have hM := h1.below hX h1.lt
  obtain ⟨w', e1, e2, e3⟩ := hM.store Tryz.underlying122 (by unfold maxLen; omega) (x := o) (show curC.ok o from hs) (v := some e) trivial
  have hbw : Below w.heap.size w X := h.bw.trans (hX.mono h.bw.size)
  have hdX : X.heap[q]? = some (.cells D 124 (0, 0)) := (hX.block q (Array.getElem?_eq_some_iff.1 h.desk).1).trans h.desk
  have hrX : Ow X w.heap.size (.slice A L.length c) L := h.row.below hX
  have hg := e3.grown
  have hsame : ∀ j, j ≠ em → j < X.heap.size → w'.heap[j]? = X.heap[j]? := fun j h1 h2 => hg.block j h2 (fun e => by injection e with e; omega)
  have hse : ∀ e', EndAt X e' → EndAt w' e' := fun e' h' => by
    have hne := h'.ne_map hM
    have hl := h'.lt
    obtain ⟨x, y, m, h'⟩ := h'
    exact ⟨x, y, m, (hsame e' hne hl).trans h'⟩
  refine ⟨w', e1, turned_below hbw e3 h.lo.1 hbw.size, (hsame q (hM.neCells hdX) (Array.getElem?_eq_some_iff.1 hdX).1).trans hdX, hrX.keep fun j hj => hsame j ?_ (hrX.lt hj).2, h.lo, _, e2, fun i x hi hx => ?_, fun s hs' => ?_⟩
  · rcases hrX.2 with ⟨h6, _⟩ | ⟨g, cap, cur, h6, _, h7, _⟩
    · rw [h6] at hj; simp [Value.ownBlock] at hj
    · rw [h6] at hj
      simp [Value.ownBlock] at hj
      subst hj
      exact hM.neCells h7
  · by_cases e4 : x = o
    · subst e4
      exact ⟨e, by simp [putG], hse e he, by have := h.lo; have := h.bw.size; omega⟩
    · have hik : i ≠ k := by
        rintro rfl
        rw [ho] at hx
        cases hx
        exact e4 rfl
      obtain ⟨e', g1, g2, g3⟩ := h2 i x (by omega) hx
      exact ⟨e', by rw [putG_other _ _ e4]; exact g1, hse e' (g2.below hX), g3⟩
  · by_cases e4 : s = o
    · subst e4; exact ⟨k, by omega, ho⟩
    · rw [putG_other _ _ e4] at hs'
      obtain ⟨i, hi, hx⟩ := h3 s hs'
      exact ⟨i, by omega, hx⟩
def FshP (w : World) (b : Nat) (nm : ByteArray) (mv : Value) (L : List ByteArray) (e : Ending) (w' : World) : Prop :=
  ∃ q em A c L', e = .returned (.tuple #[.pointer (some ⟨q, 0, none⟩), .int .i64 0]) ∧ L'.Perm L ∧ w'.heap[q]? = some (.cells #[.string nm, .pointer none, mv, .slice A L'.length c, .map (some em), .slice none 0 0, .int .i64 0] 124 (0, 0)) ∧ Ow w' b (.slice A L'.length c) L' ∧ EdAt w' b em L' ∧ b ≤ q ∧ w.heap.size ≤ q ∧ Below w.heap.size w w'
set_option maxHeartbeats 8000000 in
theorem fresh_d {w : World} {b c t p : Nat} {nm : ByteArray} {A : Option Addr} {L : List ByteArray} (hO : Ow w b (.slice A L.length c) L) (hb : b ≤ w.heap.size) (hn : nameB nm.data.toList = true) (hns : nm.size ≤ 1000) (hL : OtOk nm L) :
    Calls Tryz.prog 98 #[.string nm, .iface t (.pointer (some ⟨p, 0, none⟩)), .slice A L.length c] w fun e w' => FshP w b nm (.iface t (.pointer (some ⟨p, 0, none⟩))) L e w' := by
  have HN1 := Lib.hid (fun X => markName_any nm X (by unfold maxLen; omega))
  rw [hn] at HN1
  have HNo := Lib.hid (fun (o : ByteArray) (ho : o ∈ L) X => markName_any o X (by have := (hL.one o ho).2.2; unfold maxLen; omega))
  have HCl := Lib.hid (cloneSt A L.length c (L.map Value.string) w (by simp) hO.cells.1 hO.cells.2 (by intro u hu; obtain ⟨x, _, rfl⟩ := List.mem_map.1 hu; rfl) (by have := hL.few; omega))
  have HL := Lib.hid hL
  have hfew := hL.few
  have HLN := Lib.hid (fun (o : ByteArray) (ho : o ∈ L) (X : World) => linkNew_m nm o X hn (hL.one o ho).1 (fun e => (hL.one o ho).2.1 e.symm) (by unfold maxLen; omega) (by have := (hL.one o ho).2.2; unfold maxLen; omega))
  have HOw := Lib.hid hO
  have hmm := @run_makeMap Tryz.prog
  clear hO hL hn
  go_enter Tryz.func98, Tryz.ntmps98
  go_wp2_with (first
    | (go_at_call 52; (with_reducible refine (HN1.out _).mono ?_); rintro e w' ⟨rfl, h⟩; subst h)
    | fail)
  refine HCl.out.mono ?_
  rintro e w1 ⟨A1, c1, rfl, hrow, hb1⟩
  obtain ⟨W2, hW2⟩ : ∃ W2, W2 = (w1.alloc (.map #[] 0)).alloc (.cells #[.string nm, .pointer none, .iface t (.pointer (some ⟨p, 0, none⟩)), .slice A1 L.length c1, .map (some w1.heap.size), .slice none 0 0, .int .i64 0] 124) := ⟨_, rfl⟩
  have hsm : (w1.alloc (.map #[] 0)).heap.size = w1.heap.size + 1 := by simp
  have hbm : Below w1.heap.size w1 (w1.alloc (.map #[] 0)) := (Below.refl _ _).alloc (Nat.le_refl _) _
  have hb2 : Below w1.heap.size w1 W2 := by rw [hW2]; exact hbm.alloc (by omega) _
  have hO1 : Ow w1 w.heap.size (.slice A1 L.length c1) L := hrow
  have hz1 := hb1.size
  have HI0 : Hid (FrI w W2 b (w1.heap.size + 1) w1.heap.size #[.string nm, .pointer none, .iface t (.pointer (some ⟨p, 0, none⟩)), .slice A1 L.length c1, .map (some w1.heap.size), .slice none 0 0, .int .i64 0] A1 c1 L 0) := Lib.hid (by
    refine ⟨hb1.trans (hb2.mono hb1.size), ?_, hO1.below hb2, ⟨hz1, hb⟩, fun _ => none, ?_, fun i o hi => by omega, fun s hs => absurd rfl hs⟩
    · rw [hW2, ← hsm]
      exact heap_alloc_new _ _
    · rw [hW2]
      exact (Mp.made (C := curC) (E := ptE) w1).alloc _)
  have HWe : Hid ((w1.alloc (.map #[] 0)).alloc (.cells #[.string nm, .pointer none, .iface t (.pointer (some ⟨p, 0, none⟩)), .slice A1 L.length c1, .map (some w1.heap.size), .slice none 0 0, .int .i64 0] 124) = W2) := Lib.hid hW2.symm
  have HOW : Hid (∀ X, Below w.heap.size w X → Ow X b (.slice A L.length c) L) := Lib.hid fun X hX => HOw.out.below hX
  have HZ1 := Lib.hid hz1
  clear hrow hb1 hW2 hsm hbm hb2 hO1 HCl HOw hz1
  go_upto_region 4 with fail
  rw [HWe.out]
  clear HWe hmm
  generalize hem : w1.heap.size = em at *
  clear hem
  go_wp2_with fail
  go_loopw [29, 10, 11, 12] (fun i _ _ _ wr => ∃ k : Nat, k ≤ L.length ∧ i = .int .i64 (k : Int) ∧ Hid (FrI w wr b (em + 1) em #[.string nm, .pointer none, .iface t (.pointer (some ⟨p, 0, none⟩)), .slice A1 L.length c1, .map (some em), .slice none 0 0, .int .i64 0] A1 c1 L k)) (fun i _ _ _ _ => L.length - (RowKit.intOf i).toNat)
  case atStart => exact ⟨0, Nat.zero_le _, rfl, HI0⟩
  case round =>
    clear HI0
    obtain ⟨k, hk, rfl, HI⟩ := hrel
    have hdl := (Array.getElem?_eq_some_iff.1 HI.out.desk).1
    have d3 : wr.cell? ⟨em + 1, 3, none⟩ = some (.slice A1 L.length c1) := by simp [World.cell?, HI.out.desk]
    by_cases hlt : k < L.length
    · have b1 : (k : Int) < (L.length : Int) := by omega
      obtain ⟨o, ho⟩ : ∃ o, L[k]? = some o := ⟨L[k], List.getElem?_eq_getElem hlt⟩
      have heq : L[k] = o := (List.getElem?_eq_some_iff.1 ho).2
      have hom := List.mem_of_getElem? ho
      obtain ⟨g, rfl, hg, hgw, hc⟩ := (HOW.out wr HI.out.bw).at_ hlt
      rw [heq] at hc
      have hos := (HL.out.one o hom).2.2
      have hr := HI.out.look HL.out.nd ho (by unfold maxLen; omega)
      have d4 : wr.cell? ⟨em + 1, 4, none⟩ = some (.map (some em)) := by simp [World.cell?, HI.out.desk]
      have b2 : (o.toList == nm.toList) = false := by rw [ba_beq]; simp [(HL.out.one o hom).2.1]
      have HNk := Lib.hid (HNo.out o hom)
      rw [(HL.out.one o hom).1] at HNk
      have HLk := Lib.hid (HLN.out o hom)
      have HD4 : Hid (∀ X, Below wr.heap.size wr X → X.cell? ⟨em + 1, 4, none⟩ = some (.map (some em)) ∧ em + 1 < X.heap.size) := Lib.hid fun X hX => ⟨(hX.cell (p := ⟨em + 1, 4, none⟩) hdl).trans d4, Nat.lt_of_lt_of_le hdl hX.size⟩
      have HSt : Hid (∀ X, Below wr.heap.size wr X → ∀ e, EndAt X e → wr.heap.size ≤ e → ∃ w', (Instr.mapUpdate 122 (.map (some em)) (.string o) (.pointer (some ⟨e, 0, none⟩))).run Tryz.prog X = .ok () w' ∧ Hid (FrI w w' b (em + 1) em #[.string nm, .pointer none, .iface t (.pointer (some ⟨p, 0, none⟩)), .slice A1 L.length c1, .map (some em), .slice none 0 0, .int .i64 0] A1 c1 L (k + 1))) := Lib.hid fun X hX e he hbe => by
        obtain ⟨w', e1, e2⟩ := HI.out.step (by omega) ho (by unfold maxLen; omega) hX he hbe
        exact ⟨w', e1, Lib.hid e2⟩
      clear heq ho hom d3 HI
      go_upto_region 10 with (first
        | (go_at_call 52; (with_reducible refine (HNk.out _).mono ?_); rintro e w' ⟨rfl, h⟩; subst h)
        | fail)
      clear hr hc b2 HNk HOW
      go_region_held3 (fun w' => w'.cell? ⟨em + 1, 4, none⟩ = some (.map (some em)))
        (first | go_keep | exact d4 | exact d9)
        (first
          | (go_at_call 133; refine (HLk.out _).mono ?_; rintro e w2 ⟨rfl, hE, hb, hz⟩; have hB : Below wr.heap.size wr w2 := (show Below wr.heap.size wr _ from by first | exact Below.refl _ _ | exact ⟨rfl, rfl, rfl, Nat.le_refl _, fun _ _ => rfl⟩).trans (hb.mono (Nat.le_refl _)); obtain ⟨w9, r9, HX⟩ := HSt.out w2 hB (wr.heap.size + 1) hE (by omega); obtain ⟨d4, hd4⟩ := HD4.out w2 hB; have d9 : w9.cell? ⟨em + 1, 4, none⟩ = some (.map (some em)) := (by simp [World.cell?, HX.out.desk]); clear hE hb hz hB))
      go_wp2_with fail
      go_roundw
      case rel => exact ⟨k + 1, by omega, by go_num, HX⟩
      case measure => simp [RowKit.intOf] <;> omega
    · have b1 : ¬ (k : Int) < (L.length : Int) := by omega
      obtain rfl : k = L.length := by omega
      have HSo := Lib.hid (sort_o w.heap.size A1 c1 L wr HI.out.row HI.out.bw.size (by omega))
      go_wp2_with fail
      refine HSo.out.mono ?_
      rintro e w5 ⟨rfl, L', hpe, hO5, hgr⟩
      have HX : Hid (L'.Perm L ∧ w5.heap[em + 1]? = some (.cells #[.string nm, .pointer none, .iface t (.pointer (some ⟨p, 0, none⟩)), .slice A1 L'.length c1, .map (some em), .slice none 0 0, .int .i64 0] 124 (0, 0)) ∧ Ow w5 b (.slice A1 L'.length c1) L' ∧ EdAt w5 b em L' ∧ b ≤ em + 1 ∧ w.heap.size ≤ em + 1 ∧ Below w.heap.size w w5) := Lib.hid (by
        have hI := HI.out
        have hll : L'.length = L.length := hpe.length_eq
        obtain ⟨F, h1, h2, h3⟩ := hI.ends
        have hsame : ∀ (j : Nat) (cs : Array Value) (ty : TypeId) (fr : Nat × Nat), wr.heap[j]? = some (.cells cs ty fr) → ty ≠ 9 → w5.heap[j]? = wr.heap[j]? := fun j cs ty fr hj hty => hgr.block j (Array.getElem?_eq_some_iff.1 hj).1 fun e => by
          rcases hI.row.2 with ⟨h6, _⟩ | ⟨g, cap, cur, h6, _, h7, _⟩
          · rw [h6] at e; simp [Value.ownBlock] at e
          · rw [h6] at e
            simp [Value.ownBlock] at e
            subst e
            rw [hj] at h7
            injection h7 with h7
            injection h7 with _ h8 _
            exact hty h8
        have hem : w5.heap[em]? = wr.heap[em]? := hgr.block em h1.lt fun e => by
          rcases hI.row.2 with ⟨h6, _⟩ | ⟨g, cap, cur, h6, _, h7, _⟩
          · rw [h6] at e; simp [Value.ownBlock] at e
          · rw [h6] at e
            simp [Value.ownBlock] at e
            subst e
            exact h1.neCells h7 rfl
        have hbw : Below w.heap.size w w5 := hI.bw.grown hgr hI.bw.size fun j hj => (hI.row.lt hj).1
        refine ⟨hpe, ?_, hO5.weaken hb, ⟨L.length, F, h1.of_block hem, by have := hI.lo; omega, by omega, fun o ho => ?_⟩, by have := hI.lo; omega, by have := hI.lo; omega, hbw⟩
        · rw [hll]
          exact (hsame _ _ _ _ hI.desk (by decide)).trans hI.desk
        · have hoL := hpe.mem_iff.1 ho
          obtain ⟨i, hi⟩ := List.mem_iff_getElem?.1 hoL
          obtain ⟨e, g1, g2, g3⟩ := h2 i o (List.getElem?_eq_some_iff.1 hi).1 hi
          refine ⟨by have := (HL.out.one o hoL).2.2; unfold maxLen; omega, e, g1, ?_, g3⟩
          obtain ⟨x, y, m, h'⟩ := g2
          exact ⟨x, y, m, (hsame _ _ _ _ h' (by decide)).trans h'⟩)
      clear HI HSo hpe hO5 hgr hk hlt
      go_wp2_with fail
      go_ret2
      exact ⟨_, _, _, _, L', rfl, HX.out⟩
end Go.Proofs.YtchkdidpnjakeaaGreatDoor
namespace Go.Proofs.YtchkdidpnjakeaaGreatDoor
open Go.RowKit Go.Maps Go.Lib Led
set_option linter.unusedVariables false
set_option maxRecDepth 100000

def OpnP (w : World) (b s : Nat) (nm : ByteArray) (mv : Value) (e : Ending) (w' : World) : Prop :=
  ∃ q bk em A c L', e = .returned (.tuple #[.pointer (some ⟨q, 0, none⟩), .int .i64 0]) ∧ DkAt w' b s q nm mv bk em A c L' ∧ w.heap.size ≤ q ∧ Below w.heap.size w w'
/-- a desk gets its book -/
theorem desk_book {w2 w4 : World} {b s q bk em c : Nat} {nm : ByteArray} {mv : Value} {A : Option Addr} {L : List ByteArray} (hD : w2.heap[q]? = some (.cells #[.string nm, .pointer none, mv, .slice A L.length c, .map (some em), .slice none 0 0, .int .i64 0] 124 (0, 0))) (hR : Ow w2 b (.slice A L.length c) L) (hE : EdAt w2 b em L) (hb : Below w2.heap.size w2 w4) (hB : BookAt w4 s bk) (hbk : w2.heap.size ≤ bk) (hs : s ≠ q) (hbs : b ≤ s) (hbq : b ≤ q) (hl : L.length ≤ 1000) :
    DkAt (w4.setCell ⟨q, 1, none⟩ (.pointer (some ⟨bk, 0, none⟩))) b s q nm mv bk em A c L := by
  have hql := (Array.getElem?_eq_some_iff.1 hD).1
  have hD4 := (hb.block q hql).trans hD
  have ho : ∀ k, k ≠ q → (w4.setCell ⟨q, 1, none⟩ (.pointer (some ⟨bk, 0, none⟩))).heap[k]? = w4.heap[k]? := fun k hk => heap_setCell_other _ _ _ _ hk
  have hty : ∀ (k : Nat) (cs : Array Value) (t : TypeId) (fr : Nat × Nat), w4.heap[k]? = some (.cells cs t fr) → t ≠ 124 → k ≠ q := fun k cs t fr hk ht e => by
    rw [e, hD4] at hk
    injection hk with hk
    injection hk with _ h2 _
    exact ht h2.symm
  obtain ⟨x, y, h1, h2⟩ := hB
  refine ⟨?_, ⟨x, y, (ho s hs).trans h1, (ho bk (by omega)).trans h2⟩, (hR.below hb).keep fun k hk => ho k ?_, ?_, ⟨hbq, by omega, hbs⟩, hl⟩
  · have := Go.heap_setCell_same w4 q 1 _ _ (.pointer (some ⟨bk, 0, none⟩)) hD4
    exact this
  · rcases (hR.below hb).2 with ⟨h6, _⟩ | ⟨g, cap, cur, h6, _, h7, _⟩
    · rw [h6] at hk; simp [Value.ownBlock] at hk
    · rw [h6] at hk
      simp [Value.ownBlock] at hk
      subst hk
      exact hty _ _ _ _ h7 (by decide)
  · obtain ⟨n, F, g1, g2, g3, g4⟩ := hE
    have gM := g1.below hb g1.lt
    refine ⟨n, F, gM.of_block (ho em (fun e => gM.neCells hD4 e.symm)), g2, g3, fun o hoL => ?_⟩
    obtain ⟨k1, e, k2, k3, k4⟩ := g4 o hoL
    refine ⟨k1, e, k2, ?_, k4⟩
    obtain ⟨x, y, m, k5⟩ := k3.below hb
    exact ⟨x, y, m, (ho e (hty _ _ _ _ k5 (by decide))).trans k5⟩
set_option maxHeartbeats 8000000 in
theorem open_d {w : World} {b c t p s : Nat} {nm : ByteArray} {A : Option Addr} {L : List ByteArray} (hO : Ow w b (.slice A L.length c) L) (hb : b ≤ w.heap.size) (hS : StoreAt w s) (hbs : b ≤ s) (hn : nameB nm.data.toList = true) (hns : nm.size ≤ 1000) (hL : OtOk nm L) :
    Calls Tryz.prog 49 #[.string nm, .pointer (some ⟨s, 0, none⟩), .iface t (.pointer (some ⟨p, 0, none⟩)), .slice A L.length c] w fun e w' => OpnP w b s nm (.iface t (.pointer (some ⟨p, 0, none⟩))) e w' := by
  have HF := Lib.hid (fresh_d (t := t) (p := p) hO hb hn hns hL)
  have HBo := Lib.hid (fun X (hX : Below w.heap.size w X) => bookOpen_m (hS.below hX) nm hn hns)
  have HLl := Lib.hid hL.few
  have HSl := Lib.hid hS.lt
  have HFin : Hid (∀ q bk em A c L' X, DkAt X b s q nm (.iface t (.pointer (some ⟨p, 0, none⟩))) bk em A c L' → w.heap.size ≤ q → Below w.heap.size w X → OpnP w b s nm (.iface t (.pointer (some ⟨p, 0, none⟩))) (.returned (.tuple #[.pointer (some ⟨q, 0, none⟩), .int .i64 0])) X) := Lib.hid fun q bk em A c L' X h1 h2 h3 => ⟨q, bk, em, A, c, L', rfl, h1, h2, h3⟩
  clear hO hS hL hn
  generalize OpnP w b s nm (.iface t (.pointer (some ⟨p, 0, none⟩))) = CP at *
  go_enter Tryz.func49, Tryz.ntmps49
  go_wp2_with fail
  refine HF.out.mono ?_
  rintro e w2 ⟨q, em, A2, c2, L2, rfl, hpe, hD, hR, hE, hbq, hwq, hb2⟩
  have HB2 := Lib.hid hb2
  have HK := Lib.hid (fun (w4 : World) (bk : Nat) (h1 : Below w2.heap.size w2 w4) (h2 : BookAt w4 s bk) (h3 : w2.heap.size ≤ bk) => desk_book hD hR hE h1 h2 h3 (by have := HSl.out; omega) hbs hbq (by rw [hpe.length_eq]; have := HLl.out; omega))
  have HDd := Lib.hid hD
  have HQ := Lib.hid hwq
  have hqz := (Array.getElem?_eq_some_iff.1 hD).1
  clear hb2 hD hR hE HF hpe hwq
  go_wp2_with fail
  refine (HBo.out w2 HB2.out).mono ?_
  rintro e w4 ⟨bk, rfl, hbk, hbl, hb4⟩
  have HD5 := Lib.hid (HK.out w4 bk hb4 hbk hbl)
  have HB5 : Hid (Below w.heap.size w (w4.setCell ⟨q, 1, none⟩ (.pointer (some ⟨bk, 0, none⟩)))) := Lib.hid ((HB2.out.trans (hb4.mono HB2.out.size)).setCell HQ.out _)
  have k1 : w4.cell? ⟨q, 1, none⟩ = some (.pointer none) := by simp [World.cell?, (hb4.block q hqz).trans HDd.out]
  have k2 : w4.frozen? ⟨q, 1, none⟩ = false := by simp [World.frozen?, (hb4.block q hqz).trans HDd.out]
  have hq4 : q < w4.heap.size := Nat.lt_of_lt_of_le hqz hb4.size
  clear hb4 hbk hbl HK HDd HBo
  go_upto_region 5 with fail
  generalize w4.setCell ⟨q, 1, none⟩ (.pointer (some ⟨bk, 0, none⟩)) = w5 at *
  clear k1 k2
  have d1 := HD5.out.cells.1
  have hq5 := HD5.out.lt
  have HAl := Lib.hid (bookAll_m HD5.out.book)
  go_wp2_with fail
  refine HAl.out.mono ?_
  rintro e w6 ⟨A6, c6, rfl, hb6⟩
  have HD6 := Lib.hid (HD5.out.below hb6)
  have HB6 := Lib.hid (HB5.out.trans (hb6.mono HB5.out.size))
  clear hb6 HAl d1 hq5 hq4 HD5 HB5
  go_wp2_with fail
  go_loopw [44, 13, 14, 15] (fun i _ _ _ wr => i = .int .i64 0 ∧ w6 = wr) (fun _ _ _ _ _ => 0)
  case atStart => exact ⟨rfl, rfl⟩
  case round =>
    obtain ⟨rfl, rfl⟩ := hrel
    have HSu := Lib.hid (sure_d HD6.out)
    go_wp2_with fail
    refine HSu.out.mono ?_
    rintro e w7 ⟨rfl, hb7⟩
    have HX := Lib.hid (HFin.out q bk em A2 c2 L2 w7 (HD6.out.below hb7) HQ.out (HB6.out.trans (hb7.mono HB6.out.size)))
    clear hb7 HSu
    go_wp2_with fail
    first
      | exact HX.out
      | (go_ret2; exact HX.out)
end Go.Proofs.YtchkdidpnjakeaaGreatDoor
