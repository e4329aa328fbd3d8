/- law56.AuditRemits answers true. -/
import Derived.Test.YtooeelaobmhifaaDoorAAwake
import Derived.Test.YtooeelaobmhifaaDoorARefRemits
namespace Go.Proofs.YtooeelaobmhifaaDoor
open Go.RowKit Go.Maps Go.Lib
set_option linter.unusedVariables false
set_option maxRecDepth 100000

def fromT : ByteArray := ⟨#[102, 114, 111, 109]⟩
def toT : ByteArray := ⟨#[116, 111]⟩
def vtT : ByteArray := ⟨#[118, 111, 115, 116, 114, 111, 58, 116, 111]⟩
def veT : ByteArray := ⟨#[118, 111, 115, 116, 114, 111, 58, 101, 108, 115, 101]⟩
def ntT : ByteArray := ⟨#[110, 111, 115, 116, 114, 111, 58, 116, 111]⟩
def nfT : ByteArray := ⟨#[110, 111, 115, 116, 114, 111, 58, 102, 114, 111, 109]⟩
def neT : ByteArray := ⟨#[110, 111, 115, 116, 114, 111, 58, 101, 108, 115, 101]⟩
def vfT : ByteArray := ⟨#[118, 111, 115, 116, 114, 111, 58, 102, 114, 111, 109]⟩
theorem nodup_bytes (l : List (List UInt8)) (h : l.Nodup) : (l.map fun x => (⟨x.toArray⟩ : ByteArray)).Nodup := by
  induction l with
  | nil => simp
  | cons x l ih =>
    have hh := List.nodup_cons.1 h
    rw [List.map_cons, List.nodup_cons]
    refine ⟨fun hm => ?_, ih hh.2⟩
    obtain ⟨y, hy, e⟩ := List.mem_map.1 hm
    have : y = x := by injection e with e; simpa using e
    exact hh.1 (this ▸ hy)
theorem nm_of (l : List (List UInt8)) (h0 : 0 < l.length) (h1 : l.length ≤ 10) (h : l.all (fun x => decide (1 ≤ x.length) && decide (x.length ≤ 32) && x.all (fun c => decide (goodC c))) = true) (hn : ([120] :: l).Nodup) : Nm (l.map fun x => (⟨x.toArray⟩ : ByteArray)) := by
  refine ⟨by simpa using h0, by simpa using h1, fun a ha => ?_, nodup_bytes ([120] :: l) hn⟩
  obtain ⟨x, hx, rfl⟩ := List.mem_map.1 ha
  have := List.all_eq_true.1 h x hx
  simp only [Bool.and_eq_true, decide_eq_true_eq] at this
  exact goodName_of x this.1.1 this.1.2 this.2
def namesA : List ByteArray := [vtT, veT, ntT]
def namesB : List ByteArray := [nfT, neT, vfT]
theorem nmA : Nm namesA := nm_of [[118, 111, 115, 116, 114, 111, 58, 116, 111], [118, 111, 115, 116, 114, 111, 58, 101, 108, 115, 101], [110, 111, 115, 116, 114, 111, 58, 116, 111]] (by decide) (by decide) (by decide) (by decide)
theorem nmB : Nm namesB := nm_of [[110, 111, 115, 116, 114, 111, 58, 102, 114, 111, 109], [110, 111, 115, 116, 114, 111, 58, 101, 108, 115, 101], [118, 111, 115, 116, 114, 111, 58, 102, 114, 111, 109]] (by decide) (by decide) (by decide) (by decide)
theorem ents_fine {names : List ByteArray} (hN : Nm names) {ms : List Mv} (hM : ∀ m ∈ ms, m.Fine) : ∀ l ∈ ms.map (entsOf names), ∀ e ∈ l, e.Fine := by
  intro l hl
  obtain ⟨m, hm, rfl⟩ := List.mem_map.1 hl
  have hf := hM m hm
  have h0 := hf.lo
  have h1 := hf.hi
  have hg := (hN.good _ (acc_mem hN m.a)).le
  exact fine_two (by omega) (by decide) (by cases m.d <;> decide) (by omega) (by omega) (by omega) (by omega)
theorem moves_few (acc : ByteArray) (s : Int) (names : List ByteArray) (ms : List Mv) : ((ms.map (entsOf names)).flatMap (movesE acc s)).length ≤ 2 * ms.length := by
  induction ms with
  | nil => simp
  | cons m ms ih =>
    have h1 := movesE_le acc s (entsOf names m)
    have h2 : (entsOf names m).length = 2 := rfl
    simp only [List.map_cons, List.flatMap_cons, List.length_append, List.length_cons] at ih ⊢
    omega
/-- a ledger that was booked -/
structure Bd (w : World) (p : Nat) (names : List ByteArray) (ms : List Mv) : Prop where
  ldg : ∃ base L, Ldg w base p L ∧ L.map (fun x => x.pt.ents) = ms.map (entsOf names)
theorem Bd.below {w w' : World} {p : Nat} {names : List ByteArray} {ms : List Mv} (h : Bd w p names ms) (hb : Below w.heap.size w w') : Bd w' p names ms := by
  obtain ⟨base, L, h1, h2⟩ := h.ldg
  exact ⟨base, L, h1.below hb, h2⟩
theorem bd_of {w w' : World} {p b : Nat} {hv : Value} {names : List ByteArray} {ms : List Mv} (h : Bo w w' p b hv names ms) (hN : Nm names) (hM : ∀ m ∈ ms, m.Fine) (hl : ms.length ≤ 30) : Bd w' p names ms := by
  obtain ⟨n, G, pv, L, h1, h2, _, _⟩ := h.led
  exact ⟨_, L, ldg_of h1 h2 (by simp; omega) (ents_fine hN hM), h2⟩
/-- the lines of two booked ledgers -/
def linesB (na nb : List ByteArray) (ma mb : List Mv) : List ByteArray := linesT fromT toT (firstBad 0 ((ma.map (entsOf na)).flatMap (movesE (vostroT toT) 1)) ((mb.map (entsOf nb)).flatMap (movesE (nostroT fromT) (-1))))
theorem bd_remits {w : World} {pa pb : Nat} {na nb : List ByteArray} {ma mb : List Mv} (hA : Bd w pa na ma) (hB : Bd w pb nb mb) (la : ma.length ≤ 30) (lb : mb.length ≤ 30) :
    Calls Tryd.prog 8 #[.string fromT, .string toT, .pointer (some ⟨pa, 0, none⟩), .pointer (some ⟨pb, 0, none⟩)] w fun e w' => ∃ A c, e = .returned (.slice A (linesB na nb ma mb).length c) ∧ Rs w' w'.heap.size A (linesB na nb ma mb) ∧ Below w.heap.size w w' := by
  obtain ⟨ba, La, h1, e1⟩ := hA.ldg
  obtain ⟨bb, Lb, h2, e2⟩ := hB.ldg
  have ms : moves (vostroT toT) 1 (La.map Pl.pt) = (ma.map (entsOf na)).flatMap (movesE (vostroT toT) 1) := by rw [moves_pl, e1]
  have mg : moves (nostroT fromT) (-1) (Lb.map Pl.pt) = (mb.map (entsOf nb)).flatMap (movesE (nostroT fromT) (-1)) := by rw [moves_pl, e2]
  have f1 := moves_few (vostroT toT) 1 na ma
  have f2 := moves_few (nostroT fromT) (-1) nb mb
  have := remits_any fromT toT w _ pa _ pb La Lb h1 h2 (by decide) (by decide) (by rw [mg]; omega) (by rw [ms]; omega)
  rw [ms, mg] at this
  exact this
/-- the posts of a booked ledger -/
structure Bp (w : World) (v : Value) (names : List ByteArray) (ms : List Mv) : Prop where
  psl : ∃ L, Psl w v L ∧ L.map (fun x => x.pt.ents) = ms.map (entsOf names)
theorem Bp.below {w w' : World} {v : Value} {names : List ByteArray} {ms : List Mv} (h : Bp w v names ms) (hb : Below w.heap.size w w') : Bp w' v names ms := by
  obtain ⟨L, h1, h2⟩ := h.psl
  exact ⟨L, h1.below hb, h2⟩
theorem bd_posts {w : World} {p : Nat} {names : List ByteArray} {ms : List Mv} (h : Bd w p names ms) :
    Calls Tryd.prog 10 #[.pointer (some ⟨p, 0, none⟩)] w fun e w' => ∃ v, e = .returned v ∧ Bp w' v names ms ∧ Below w.heap.size w w' := by
  obtain ⟨base, L, h1, h2⟩ := h.ldg
  obtain ⟨b, n, G, pv, hv, hl⟩ := h1.led
  refine (ledgerPosts_any L w hl (by have := h1.few; omega)).mono ?_
  rintro e w' ⟨v, L', he, hp, hw, hb⟩
  have hm : L'.map (fun x => x.pt.ents) = L.map (fun x => x.pt.ents) := by
    have := congrArg (List.map Pt.ents) hp
    rw [List.map_map, List.map_map] at this
    exact this
  have hlen : L'.length = L.length := by have := congrArg List.length hp; simpa using this
  refine ⟨v, he, ⟨L', ⟨⟨_, hw⟩, by rw [hlen]; exact h1.few, fun x hx => ?_⟩, by rw [hm, h2]⟩, hb⟩
  have : x.pt ∈ L.map Pl.pt := by rw [← hp]; exact List.mem_map_of_mem hx
  obtain ⟨y, hy, e⟩ := List.mem_map.1 this
  rw [← e]
  exact h1.fine y hy
theorem bp_remits {w : World} {va vb : Value} {na nb : List ByteArray} {ma mb : List Mv} (hA : Bp w va na ma) (hB : Bp w vb nb mb) (la : ma.length ≤ 30) (lb : mb.length ≤ 30) :
    Calls Tryd.prog 9 #[.string fromT, .string toT, va, vb] w fun e w' => ∃ A c, e = .returned (.slice A (linesB na nb ma mb).length c) ∧ Rs w' w'.heap.size A (linesB na nb ma mb) ∧ Below w.heap.size w w' := by
  obtain ⟨La, h1, e1⟩ := hA.psl
  obtain ⟨Lb, h2, e2⟩ := hB.psl
  have ms : moves (vostroT toT) 1 (La.map Pl.pt) = (ma.map (entsOf na)).flatMap (movesE (vostroT toT) 1) := by rw [moves_pl, e1]
  have mg : moves (nostroT fromT) (-1) (Lb.map Pl.pt) = (mb.map (entsOf nb)).flatMap (movesE (nostroT fromT) (-1)) := by rw [moves_pl, e2]
  have f1 := moves_few (vostroT toT) 1 na ma
  have f2 := moves_few (nostroT fromT) (-1) nb mb
  have := refRemits_any fromT toT w va vb La Lb h1 h2 (by decide) (by decide) (by rw [mg]; omega) (by rw [ms]; omega)
  rw [ms, mg] at this
  exact this
theorem lines_le (na nb : List ByteArray) (ma mb : List Mv) : (linesB na nb ma mb).length ≤ 1000000 := by
  unfold linesB linesT
  split <;> simp
theorem rs_three {V : World} {a b c : ByteArray} : Rs (V.alloc (.cells #[.string a, .string b, .string c] 9)) (V.alloc (.cells #[.string a, .string b, .string c] 9)).heap.size (some ⟨V.heap.size, 0, none⟩) [a, b, c] := fun _ => by
  refine ⟨V.heap.size, 0, rfl, by simp, fun i e he => ?_⟩
  rcases i with _ | _ | _ | i
  · simp at he; subst he; simp
  · simp at he; subst he; simp
  · simp at he; subst he; simp
  · simp at he
theorem rs_one {V : World} {a : ByteArray} : Rs (V.alloc (.cells #[.string a] 9)) (V.alloc (.cells #[.string a] 9)).heap.size (some ⟨V.heap.size, 0, none⟩) [a] := fun _ => by
  refine ⟨V.heap.size, 0, rfl, by simp, fun i e he => ?_⟩
  rcases i with _ | i
  · simp at he; subst he; simp
  · simp at he

theorem booked_bd (names : List ByteArray) (ms : List Mv) (Am An : Option Addr) (cm cn : Nat) (w : World) (hN : Nm names) (hM : ∀ m ∈ ms, m.Fine) (hl : ms.length ≤ 30) (hRm : Rm w w.heap.size Am ms) (hRn : Rs w w.heap.size An names) :
    Calls Tryd.prog 6 #[.slice Am ms.length cm, .slice An names.length cn] w fun e w' => ∃ p, e = .returned (.pointer (some ⟨p, 0, none⟩)) ∧ Bd w' p names ms ∧ Below w.heap.size w w' :=
  (booked_any names ms Am An cm cn w hN hM hl hRm hRn).mono fun e w' ⟨he, hv, hB⟩ => ⟨_, he, bd_of hB hN hM hl, hB.bel⟩

set_option maxHeartbeats 4000000 in
theorem auditRemits_any (ma mb : List Mv) (Aa Ab : Option Addr) (ca cb : Nat) (w : World) (hMa : ∀ m ∈ ma, m.Fine) (hMb : ∀ m ∈ mb, m.Fine) (hRa : Rm w w.heap.size Aa ma) (hRb : Rm w w.heap.size Ab mb) :
    Calls Tryd.prog 3 #[.slice Aa ma.length ca, .slice Ab mb.length cb] w fun e w' => e = .returned (.bool true) ∧ Below w.heap.size w w' := by
  have HMa := Lib.hid hMa
  have HMb := Lib.hid hMb
  have HRa := Lib.hid hRa
  have HRb := Lib.hid hRb
  clear hMa hMb hRa hRb
  by_cases hbig : 30 < ma.length ∨ 30 < mb.length
  · by_cases hba : 30 < ma.length
    · have q1 : decide ((30 : Int) < (ma.length : Int)) = true := by simp; omega
      go_enter Tryd.func3, Tryd.ntmps3
      go_wp2_with fail
      refine (awake_any w).mono ?_
      rintro e w1 ⟨rfl, hb1⟩
      have HB1 := Lib.hid hb1
      clear hb1
      go_wp2_with fail
      refine (awake_any w1).mono ?_
      rintro e w2 ⟨rfl, hb2⟩
      have HB2 := Lib.hid hb2
      clear hb2
      go_wp2
      go_ret
      exact ⟨rfl, HB1.out.trans (HB2.out.mono HB1.out.size)⟩
    · have q1 : decide ((30 : Int) < (ma.length : Int)) = false := by simp; omega
      have q2 : decide ((30 : Int) < (mb.length : Int)) = true := by simp; omega
      go_enter Tryd.func3, Tryd.ntmps3
      go_wp2_with fail
      refine (awake_any w).mono ?_
      rintro e w1 ⟨rfl, hb1⟩
      have HB1 := Lib.hid hb1
      clear hb1
      go_wp2_with fail
      refine (awake_any w1).mono ?_
      rintro e w2 ⟨rfl, hb2⟩
      have HB2 := Lib.hid hb2
      clear hb2
      go_wp2
      go_ret
      exact ⟨rfl, HB1.out.trans (HB2.out.mono HB1.out.size)⟩
  · have la : ma.length ≤ 30 := by omega
    have lb : mb.length ≤ 30 := by omega
    have q1 : decide ((30 : Int) < (ma.length : Int)) = false := by simp; omega
    have q2 : decide ((30 : Int) < (mb.length : Int)) = false := by simp; omega
    go_enter Tryd.func3, Tryd.ntmps3
    go_wp2_with fail
    refine (awake_any w).mono ?_
    rintro e w1 ⟨rfl, hb1⟩
    have HB1 := Lib.hid hb1
    clear hb1
    go_wp2_with fail
    have HV := Lib.hid ((Below.refl w1.heap.size w1).alloc (Nat.le_refl _) (.cells #[.string ⟨#[118, 111, 115, 116, 114, 111, 58, 116, 111]⟩, .string ⟨#[118, 111, 115, 116, 114, 111, 58, 101, 108, 115, 101]⟩, .string ⟨#[110, 111, 115, 116, 114, 111, 58, 116, 111]⟩] 9))
    have HBV := Lib.hid (HB1.out.trans (HV.out.mono HB1.out.size))
    refine (booked_bd namesA ma Aa _ ca 3 _ nmA HMa.out la ((HRa.out.below HBV.out).more HBV.out.size) (rs_three (V := w1) (a := vtT) (b := veT) (c := ntT))).mono ?_
    rintro e w2 ⟨pa, rfl, hD2, hb2⟩
    have HD2 := Lib.hid hD2
    have HB2 := Lib.hid (HBV.out.trans (hb2.mono HBV.out.size))
    clear hD2 hb2 HV HBV HB1
    go_wp2_with fail
    have HV := Lib.hid ((Below.refl w2.heap.size w2).alloc (Nat.le_refl _) (.cells #[.string ⟨#[110, 111, 115, 116, 114, 111, 58, 102, 114, 111, 109]⟩, .string ⟨#[110, 111, 115, 116, 114, 111, 58, 101, 108, 115, 101]⟩, .string ⟨#[118, 111, 115, 116, 114, 111, 58, 102, 114, 111, 109]⟩] 9))
    have HBV := Lib.hid (HB2.out.trans (HV.out.mono HB2.out.size))
    refine (booked_bd namesB mb Ab _ cb 3 _ nmB HMb.out lb ((HRb.out.below HBV.out).more HBV.out.size) (rs_three (V := w2) (a := nfT) (b := neT) (c := vfT))).mono ?_
    rintro e w3 ⟨pb, rfl, hD3, hb3⟩
    have HD3 := Lib.hid hD3
    have HD23 := Lib.hid ((HD2.out.below HV.out).below hb3)
    have HB3 := Lib.hid (HBV.out.trans (hb3.mono HBV.out.size))
    clear hD3 hb3 HV HBV HB2 HD2
    go_wp2_with fail
    refine (bd_remits HD23.out HD3.out la lb).mono ?_
    rintro e w4 ⟨A4, c4, rfl, hR4, hb4⟩
    have HR4 := Lib.hid hR4
    have HDa4 := Lib.hid (HD23.out.below hb4)
    have HDb4 := Lib.hid (HD3.out.below hb4)
    have HB4 := Lib.hid (HB3.out.trans (hb4.mono HB3.out.size))
    clear hR4 hb4 HD23 HD3 HB3
    go_wp2_with fail
    refine (bd_posts HDa4.out).mono ?_
    rintro e w5 ⟨va, rfl, hP5, hb5⟩
    have HP5 := Lib.hid hP5
    have HR5 := Lib.hid ((HR4.out.below hb5).more hb5.size)
    have HDb5 := Lib.hid (HDb4.out.below hb5)
    have HB5 := Lib.hid (HB4.out.trans (hb5.mono HB4.out.size))
    clear hP5 hb5 HR4 HDa4 HDb4 HB4
    go_wp2_with fail
    refine (bd_posts HDb5.out).mono ?_
    rintro e w6 ⟨vb, rfl, hP6, hb6⟩
    have HPa6 := Lib.hid (HP5.out.below hb6)
    have HPb6 := Lib.hid hP6
    have HR6 := Lib.hid ((HR5.out.below hb6).more hb6.size)
    have HB6 := Lib.hid (HB5.out.trans (hb6.mono HB5.out.size))
    clear hP6 hb6 HR5 HP5 HDb5 HB5
    go_wp2_with fail
    refine (bp_remits HPa6.out HPb6.out la lb).mono ?_
    rintro e w7 ⟨A7, c7, rfl, hR7, hb7⟩
    have HR7 := Lib.hid hR7
    have HR67 := Lib.hid ((HR6.out.below hb7).more hb7.size)
    have HB7 := Lib.hid (HB6.out.trans (hb7.mono HB6.out.size))
    clear hR7 hb7 HR6 HPa6 HPb6 HB6
    go_wp2_with fail
    refine (same_eq (linesB namesA namesB ma mb) A4 A7 c4 c7 w7 HR67.out HR7.out (lines_le _ _ _ _)).mono ?_
    rintro e w8 ⟨rfl, hb8⟩
    have HB8 := Lib.hid (HB7.out.trans (hb8.mono HB7.out.size))
    clear hb8 HB7
    go_wp2
    go_ret
    exact ⟨rfl, HB8.out⟩
end Go.Proofs.YtooeelaobmhifaaDoor
