/- register.New; a call of a register: put. ref23.Few; a register behind calls. -/
import Derived.Test.YtdinloecgaapaaaGreatDoorMRBox
import Derived.Test.YtdinloecgaapaaaGreatDoorMROps2
import Derived.Test.YtdinloecgaapaaaGreatDoorREnds
import Derived.Test.YtdinloecgaapaaaGreatDoorRIss2
namespace Go.Proofs.YtdinloecgaapaaaGreatDoor
open Go.RowKit Go.Maps Go.Lib Go.Sort
set_option linter.unusedVariables false
set_option maxRecDepth 100000

set_option maxHeartbeats 400000 in
theorem new_r (ca : ByteArray) (w : World) : Calls Tryz.prog 21 #[.string ca] w fun e w' =>
    e = .returned (.pointer (some ⟨w.heap.size + 1, 0, none⟩)) ∧ Reg w' w.heap.size (w.heap.size + 1) ca 0 ∧ Below w.heap.size w w' := by
  have hmm := @run_makeMap Tryz.prog
  go_enter Tryz.func21, Tryz.ntmps21
  go_wp2
  go_ret
  have h1 : (w.alloc (.map #[] 0)).heap.size = w.heap.size + 1 := by simp
  have h2 : Mp nmC ptE ((w.alloc (.map #[] 0)).alloc (.cells #[.string ca, .map (some w.heap.size)] 115)) w.heap.size 0 (fun _ => none) := (Mp.made w).alloc _
  have h3 := (MapKept.heap_alloc (w.alloc (.map #[] 0)) (.cells #[.string ca, .map (some w.heap.size)] 115)).1
  rw [h1] at h3
  refine ⟨rfl, ⟨w.heap.size, 0, fun _ => none, fun _ => none, ⟨h3, by omega, Nat.le_refl _, h2, Nat.le_refl _, fun _ _ h => (by cases h), fun _ _ h => (by cases h), fun _ _ _ _ _ _ _ h => (by cases h), fun _ _ h => (by cases h)⟩⟩, ((Below.refl _ _).alloc (Nat.le_refl _) _).alloc (by rw [h1]; omega) _⟩

/-- an act: a call of a register -/
structure Aa where
  kd : Int
  ix : Int
  day : Int
  bi : ByteArray
  by_ : ByteArray
  tt : ByteArray
  x : En
def aaA (a : Aa) : Array Value := #[.int .i64 a.kd, .int .i64 a.ix, .int .i64 a.day, .string a.bi, .string a.by_, .string a.tt, .string a.x.nu, .string a.x.ca, .string a.x.sh, .string a.x.fr, .string a.x.«to», .slice a.x.A a.x.l.length a.x.c, .slice a.x.PA a.x.p.length a.x.pc, .int .i64 a.x.is, .bool a.x.cl]
/-- an act's parts are small -/
structure AaOk (a : Aa) : Prop where
  bi : a.bi.size ≤ 100000000
  by_ : a.by_.size ≤ 100000000
  tt : a.tt.size ≤ 100000000
  nu : a.x.nu.size ≤ 100000000
  sh : a.x.sh.size ≤ 100000000
  fr : a.x.fr.size ≤ 100000000
  xto : a.x.«to».size ≤ 100000000
  l : a.x.l.length ≤ 100000000
  p : a.x.p.length ≤ 100000000
theorem aa_bill (a : Aa) (w : World) (g : Nat) {fz : Nat × Nat} (h : w.heap[g]? = some (.cells (aaA a) 61 fz)) : w.rangeAt g 6 (blA a.x).toList := fun j v hv => by
  have hj : j < 9 := by have := (List.getElem?_eq_some_iff.1 hv).1; simpa [blA] using this
  have : w.cell? ⟨g, 6 + j, none⟩ = (aaA a)[6 + j]? := by simp [World.cell?, h]
  rw [this, ← hv]
  match j, hj with
  | 0, _ => rfl
  | 1, _ => rfl
  | 2, _ => rfl
  | 3, _ => rfl
  | 4, _ => rfl
  | 5, _ => rfl
  | 6, _ => rfl
  | 7, _ => rfl
  | 8, _ => rfl
theorem cell_of {w : World} {g : Nat} {cs : Array Value} {t : TypeId} {fz : Nat × Nat} (h : w.heap[g]? = some (.cells cs t fz)) (j : Nat) : w.cell? ⟨g, j, none⟩ = cs[j]? := by simp [World.cell?, h]
theorem OpP.more {base r N M : Nat} {ca : ByteArray} {w : World} {en : Ending} {w' : World} (h : OpP base r ca N w en w') (hM : N ≤ M) : OpP base r ca M w en w' := by
  obtain ⟨v, e, h1, h2⟩ := h
  exact ⟨v, e, h1.more hM, h2⟩

set_option maxHeartbeats 4000000 in
theorem put_r (base r N : Nat) (ca : ByteArray) (a : Aa) (w : World) (hR : Reg w base r ca N) (hN : N ≤ 10000) (hA : Rs w w.heap.size a.x.A a.x.l) (hP : Rs w w.heap.size a.x.PA a.x.p) (hO : AaOk a) :
    Calls Tryz.prog 22 #[.pointer (some ⟨r, 0, none⟩), .agg (aaA a)] w fun en w' => en = .returned (.tuple #[]) ∧ Reg w' base r ca (N + 1) ∧ Below base w w' := by
  have hlo : base ≤ w.heap.size := by
    obtain ⟨b, n, G, S, h⟩ := hR
    exact h.lo
  have hb1 : Below w.heap.size w (w.alloc (.cells (aaA a) 61)) := (Below.refl _ _).alloc (Nat.le_refl _) _
  have hz1 : (w.alloc (.cells (aaA a) 61)).heap.size = w.heap.size + 1 := by simp
  have k0 : (w.alloc (.cells (aaA a) 61)).heap[w.heap.size]? = some (.cells (aaA a) 61 (0, 0)) := heap_alloc_new _ _
  have hR1 := hR.below hb1
  have hA1 : Rs (w.alloc (.cells (aaA a) 61)) (w.alloc (.cells (aaA a) 61)).heap.size a.x.A a.x.l := (hA.below hb1).more (by omega)
  have hP1 : Rs (w.alloc (.cells (aaA a) 61)) (w.alloc (.cells (aaA a) 61)).heap.size a.x.PA a.x.p := (hP.below hb1).more (by omega)
  have HB := Lib.hid (aa_bill a _ _ k0)
  have hc : ∀ j, (w.alloc (.cells (aaA a) 61)).cell? ⟨w.heap.size, j, none⟩ = (aaA a)[j]? := fun j => cell_of k0 j
  have e0 : (w.alloc (.cells (aaA a) 61)).cell? ⟨w.heap.size, 0, none⟩ = some (.int .i64 a.kd) := hc 0
  have e1 : (w.alloc (.cells (aaA a) 61)).cell? ⟨w.heap.size, 1, none⟩ = some (.int .i64 a.ix) := hc 1
  have e2 : (w.alloc (.cells (aaA a) 61)).cell? ⟨w.heap.size, 2, none⟩ = some (.int .i64 a.day) := hc 2
  have e3 : (w.alloc (.cells (aaA a) 61)).cell? ⟨w.heap.size, 3, none⟩ = some (.string a.bi) := hc 3
  have e4 : (w.alloc (.cells (aaA a) 61)).cell? ⟨w.heap.size, 4, none⟩ = some (.string a.by_) := hc 4
  have e5 : (w.alloc (.cells (aaA a) 61)).cell? ⟨w.heap.size, 5, none⟩ = some (.string a.tt) := hc 5
  obtain ⟨W0, hW0⟩ : ∃ W0, W0 = w.alloc (.cells (aaA a) 61) := ⟨_, rfl⟩
  have HI := Lib.hid (show (Tryz.prog.info? 59).map (·.size) = some (blA a.x).toList.length from infoBill)
  rw [← hW0] at hb1 hR1 hA1 hP1 HB e0 e1 e2 e3 e4 e5
  have hbi : a.bi.size ≤ maxLen := by have := hO.bi; unfold maxLen; omega
  have H0 := Lib.hid (issue_r base r N ca a.tt a.x W0 hR1 hN hA1 hP1 hO.l hO.p hO.tt)
  have H1 := Lib.hid (endorse_r base r N ca a.bi a.by_ a.tt a.ix a.day W0 hR1 (by omega) hbi hO.tt)
  have H2 := Lib.hid (surrender_r base r N ca a.bi a.by_ a.ix a.day W0 hR1 (by omega) hbi)
  have H3 := Lib.hid (lose_r base r N ca a.bi a.by_ a.ix W0 hR1 (by omega) hbi)
  have H4 := Lib.hid (replace_r base r N ca a.bi a.by_ a.ix a.day W0 hR1 (by omega) hbi)
  have H5 := Lib.hid (retire_r base r N ca a.bi a.by_ a.day W0 hR1 (by omega) hbi)
  have HF : Hid (∀ en w', OpP base r ca (N + 1) W0 en w' → Reg w' base r ca (N + 1) ∧ Below base w w') := Lib.hid (fun en w' h => by
    obtain ⟨v, _, h1, h2⟩ := h
    exact ⟨h1, (hb1.mono hlo).trans h2⟩)
  have HQ : Hid (Reg W0 base r ca (N + 1) ∧ Below base w W0) := Lib.hid ⟨hR1.more (Nat.le_succ N), hb1.mono hlo⟩
  have HW := Lib.hid hW0
  have HC := Lib.hid (fun (w' : World) (h : Reg w' base r ca (N + 1) ∧ Below base w w') => h)
  generalize hCP : (fun w' => Reg w' base r ca (N + 1) ∧ Below base w w') = CP
  have hG : ∀ w', CP w' ↔ (Reg w' base r ca (N + 1) ∧ Below base w w') := fun w' => by rw [← hCP]
  have HF' : Hid (∀ en w', OpP base r ca (N + 1) W0 en w' → CP w') := Lib.hid (fun en w' h => (hG w').2 (HF.out en w' h))
  have HF'' : Hid (∀ en w', OpP base r ca N W0 en w' → CP w') := Lib.hid (fun en w' h => (hG w').2 (HF.out en w' (h.more (Nat.le_succ N))))
  have HQ' : Hid (CP W0) := Lib.hid ((hG W0).2 HQ.out)
  suffices hh : Calls Tryz.prog 22 #[.pointer (some ⟨r, 0, none⟩), .agg (aaA a)] w (fun en w' => en = .returned (.tuple #[]) ∧ CP w') from hh.mono fun en w' h => ⟨h.1, (hG w').1 h.2⟩
  clear hG hCP HC HQ HF hA hP hO hbi hA1 hP1 hR1 hb1 hR hc hz1 k0 HW
  obtain ⟨kd, ix, day, bi, by_, tt, x⟩ := a
  simp only at *
  generalize aaA ⟨kd, ix, day, bi, by_, tt, x⟩ = V at *
  go_enter Tryz.func22, Tryz.ntmps22
  have h2 : CP W0 := HQ'.out
  by_cases k0 : kd = 0
  · subst k0
    clear H1 H2 H3 H4 H5
    go_wp2_with (first
      | (rw [← hW0]; clear hW0; go_simp)
      | (refine wpList_load_mid rfl 59 (.tmp 9) rfl w.heap.size 6 rfl (blA x).toList _ HB.out Tryz.underlying59 rfl HI.out ?_)
      | fail)
    refine H0.out.mono ?_
    rintro en w2 hP
    have HG := Lib.hid (HF'.out _ _ hP)
    obtain ⟨v, rfl, _, _⟩ := hP
    clear HF' HF'' HQ' HB HI H0
    go_wp2_with fail
    go_end0
    exact ⟨rfl, HG.out⟩
  have b0 : (kd == 0) = false := by simpa using k0
  by_cases k1 : kd = 1
  · subst k1
    clear H0 H2 H3 H4 H5
    go_wp2_with (first
      | (rw [← hW0]; clear hW0; go_simp)
      | fail)
    refine H1.out.mono ?_
    rintro en w2 hP
    have HG := Lib.hid (HF'.out _ _ hP)
    obtain ⟨v, rfl, _, _⟩ := hP
    clear HF' HF'' HQ' HB HI H1
    go_wp2_with fail
    go_end0
    exact ⟨rfl, HG.out⟩
  have b1 : (kd == 1) = false := by simpa using k1
  by_cases k2 : kd = 2
  · subst k2
    clear H0 H1 H3 H4 H5
    go_wp2_with (first
      | (rw [← hW0]; clear hW0; go_simp)
      | fail)
    refine H2.out.mono ?_
    rintro en w2 hP
    have HG := Lib.hid (HF''.out _ _ hP)
    obtain ⟨v, rfl, _, _⟩ := hP
    clear HF' HF'' HQ' HB HI H2
    go_wp2_with fail
    go_end0
    exact ⟨rfl, HG.out⟩
  have b2 : (kd == 2) = false := by simpa using k2
  by_cases k3 : kd = 3
  · subst k3
    clear H0 H1 H2 H4 H5
    go_wp2_with (first
      | (rw [← hW0]; clear hW0; go_simp)
      | fail)
    refine H3.out.mono ?_
    rintro en w2 hP
    have HG := Lib.hid (HF''.out _ _ hP)
    obtain ⟨v, rfl, _, _⟩ := hP
    clear HF' HF'' HQ' HB HI H3
    go_wp2_with fail
    go_end0
    exact ⟨rfl, HG.out⟩
  have b3 : (kd == 3) = false := by simpa using k3
  by_cases k4 : kd = 4
  · subst k4
    clear H0 H1 H2 H3 H5
    go_wp2_with (first
      | (rw [← hW0]; clear hW0; go_simp)
      | fail)
    refine H4.out.mono ?_
    rintro en w2 hP
    have HG := Lib.hid (HF''.out _ _ hP)
    obtain ⟨v, rfl, _, _⟩ := hP
    clear HF' HF'' HQ' HB HI H4
    go_wp2_with fail
    go_end0
    exact ⟨rfl, HG.out⟩
  have b4 : (kd == 4) = false := by simpa using k4
  by_cases k5 : kd = 5
  · subst k5
    clear H0 H1 H2 H3 H4
    go_wp2_with (first
      | (rw [← hW0]; clear hW0; go_simp)
      | fail)
    refine H5.out.mono ?_
    rintro en w2 hP
    have HG := Lib.hid (HF''.out _ _ hP)
    obtain ⟨v, rfl, _, _⟩ := hP
    clear HF' HF'' HQ' HB HI H5
    go_wp2_with fail
    go_end0
    exact ⟨rfl, HG.out⟩
  have b5 : (kd == 5) = false := by simpa using k5
  clear H0 H1 H2 H3 H4 H5
  go_wp2_with (first
      | (rw [← hW0]; clear hW0; go_simp)
      | fail)
  go_end0
  exact ⟨rfl, HQ'.out⟩
end Go.Proofs.YtdinloecgaapaaaGreatDoor
namespace Go.Proofs.YtdinloecgaapaaaGreatDoor
open Go.RowKit Go.Maps Go.Lib Go.Sort
set_option linter.unusedVariables false
set_option maxRecDepth 100000

def zaa : Array Value := #[.int .i64 0, .int .i64 0, .int .i64 0, .string ⟨#[]⟩, .string ⟨#[]⟩, .string ⟨#[]⟩, .string ⟨#[]⟩, .string ⟨#[]⟩, .string ⟨#[]⟩, .string ⟨#[]⟩, .string ⟨#[]⟩, .slice none 0 0, .slice none 0 0, .int .i64 0, .bool false]
theorem infoAct : (Tryz.prog.info? 61).map (·.size) = some 15 := by kernel_rfl
theorem aaA_one (a : Aa) : (aaA a).all (·.oneCell') = true := by simp [aaA, Value.oneCell']
/-- a slice of acts -/
def Ra (w : World) (B : Nat) (A : Option Addr) (L : List Aa) : Prop :=
  0 < L.length → ∃ g off, A = some ⟨g, off, none⟩ ∧ g < B ∧ ∀ (i : Nat) a, L[i]? = some a → w.rangeAt g (off + i * 15) (aaA a).toList ∧ Rs w B a.x.A a.x.l ∧ Rs w B a.x.PA a.x.p ∧ AaOk a
section
variable {w w' : World} {B : Nat} {A : Option Addr} {L : List Aa}
theorem range_below {g o : Nat} {cs : List Value} (h : w.rangeAt g o cs) (hb : Below B w w') (hg : g < B) : w'.rangeAt g o cs := fun j v hv => (hb.cell (p := ⟨g, o + j, none⟩) hg).trans (h j v hv)
theorem Ra.below (h : Ra w B A L) (hb : Below B w w') : Ra w' B A L := fun hl => by
  obtain ⟨g, off, e, hg, hc⟩ := h hl
  exact ⟨g, off, e, hg, fun i a ha => ⟨range_below (hc i a ha).1 hb hg, (hc i a ha).2.1.below hb, (hc i a ha).2.2.1.below hb, (hc i a ha).2.2.2⟩⟩
theorem Ra.at_ (h : Ra w B A L) {k : Nat} (hk : k < L.length) : ∃ g off, A = some ⟨g, off, none⟩ ∧ g < B ∧ w.rangeAt g (off + k * 15) (aaA L[k]).toList ∧ Rs w B L[k].x.A L[k].x.l ∧ Rs w B L[k].x.PA L[k].x.p ∧ AaOk L[k] := by
  obtain ⟨g, off, e, hg, hc⟩ := h (by omega)
  exact ⟨g, off, e, hg, hc k _ (List.getElem?_eq_getElem hk)⟩
end
/-- a variable of an act is laid -/
theorem laid_act (W1 : World) (g : Nat) (cs V : Array Value) (t : TypeId) (fz : Nat × Nat) (h : W1.heap[g]? = some (.cells cs t fz)) : (W1.setRow g V).heap[g]? = some (.cells V t fz) := by
  simp [World.setRow, Array.getElem?_modify, h]
theorem laid_below (W : World) (cs V : Array Value) (t : TypeId) : Below W.heap.size W ((W.alloc (.cells cs t)).setRow W.heap.size V) ∧ ((W.alloc (.cells cs t)).setRow W.heap.size V).heap.size = W.heap.size + 1 := by
  have hb : Below W.heap.size W (W.alloc (.cells cs t)) := (Below.refl _ _).alloc (Nat.le_refl _) _
  exact ⟨⟨hb.os, hb.tape, hb.output, by simp [World.setRow], fun k hk => (setRow_other _ _ _ _ (by omega)).trans (hb.block k hk)⟩, by simp [World.setRow]⟩

set_option maxHeartbeats 400000 in
theorem few_r (L : List Aa) (A : Option Addr) (c : Nat) (w : World) (h : Ra w w.heap.size A L) (hl : L.length ≤ 100000000) :
    Calls Tryz.prog 6 #[.slice A L.length c] w fun e w' => ∃ r : Bool, e = .returned (.bool r) ∧ (r = true → L.length ≤ 41) ∧ Below w.heap.size w w' := by
  have HL := Lib.hid h
  have hIb : (Tryz.prog.info? 61).map (·.size) = some 15 := infoAct
  have HI := Lib.hid hIb
  clear h hIb
  generalize hCP : (fun (e : Ending) (w' : World) => ∃ r : Bool, e = .returned (.bool r) ∧ (r = true → L.length ≤ 41) ∧ Below w.heap.size w w') = CP
  have HF : Hid (∀ w', Below w.heap.size w w' → CP (.returned (.bool false)) w') := Lib.hid fun w' hb => by rw [← hCP]; exact ⟨false, rfl, (fun e => by cases e), hb⟩
  have HT : Hid (L.length ≤ 41 → ∀ w', Below w.heap.size w w' → CP (.returned (.bool true)) w') := Lib.hid fun h41 w' hb => by rw [← hCP]; exact ⟨true, rfl, fun _ => h41, hb⟩
  clear hCP
  go_enter Tryz.func6, Tryz.ntmps6
  go_wp2_with fail
  go_loopw [3] (fun i wr => ∃ k : Nat, k ≤ L.length ∧ i = .int .i64 k ∧ k ≤ 41 ∧ Hid (Below w.heap.size w wr)) (fun i _ => L.length - (RowKit.intOf i).toNat)
  case atStart => exact ⟨0, Nat.zero_le _, rfl, by omega, Lib.hid (Below.refl _ _)⟩
  case round =>
    obtain ⟨k, hk, rfl, h41, HB⟩ := hrel
    by_cases hlt : k < L.length
    · obtain ⟨g, off, rfl, hg, hr, _, _, ho⟩ := (HL.out.below HB.out).at_ hlt
      generalize L[k] = a at *
      have hlt' : (k : Int) < (L.length : Int) := by omega
      obtain ⟨hb2, hz2⟩ := laid_below wr zaa (aaA a) 61
      have hm := heap_alloc_new wr (.cells zaa 61)
      obtain ⟨W1, hW1⟩ : ∃ W1, W1 = wr.alloc (.cells zaa 61) := ⟨_, rfl⟩
      rw [← hW1] at hb2 hz2 hm
      have l0 := laid_act W1 wr.heap.size zaa (aaA a) _ _ hm
      have HM := Lib.hid hm
      have HS := Lib.hid (show W1.heap.size = wr.heap.size + 1 from by rw [hW1]; simp)
      obtain ⟨W2, hW2⟩ : ∃ W2, W2 = W1.setRow wr.heap.size (aaA a) := ⟨_, rfl⟩
      rw [← hW2] at hb2 hz2 l0
      have HB2 := Lib.hid (HB.out.trans (hb2.mono HB.out.size))
      have c3 : W2.cell? ⟨wr.heap.size, 3, none⟩ = some (.string a.bi) := cell_of l0 3
      have c4 : W2.cell? ⟨wr.heap.size, 4, none⟩ = some (.string a.by_) := cell_of l0 4
      have c5 : W2.cell? ⟨wr.heap.size, 5, none⟩ = some (.string a.tt) := cell_of l0 5
      have c6 : W2.cell? ⟨wr.heap.size, 6, none⟩ = some (.string a.x.nu) := cell_of l0 6
      have c8 : W2.cell? ⟨wr.heap.size, 8, none⟩ = some (.string a.x.sh) := cell_of l0 8
      have c9 : W2.cell? ⟨wr.heap.size, 9, none⟩ = some (.string a.x.fr) := cell_of l0 9
      have c10 : W2.cell? ⟨wr.heap.size, 10, none⟩ = some (.string a.x.«to») := cell_of l0 10
      have c11 : W2.cell? ⟨wr.heap.size, 11, none⟩ = some (.slice a.x.A a.x.l.length a.x.c) := cell_of l0 11
      have c12 : W2.cell? ⟨wr.heap.size, 12, none⟩ = some (.slice a.x.PA a.x.p.length a.x.pc) := cell_of l0 12
      have HR := Lib.hid hr
      have HO := Lib.hid (aaA_one a)
      have HIb := Lib.hid (show (Tryz.prog.info? 61).map (·.size) = some (aaA a).toList.length from infoAct)
      have HIs := Lib.hid (show (Tryz.prog.info? 61).map (·.size) = some (aaA a).size from infoAct)
      have HSz := Lib.hid (show zaa.size = (aaA a).size from rfl)
      clear hr hm l0 hb2 hz2
      have o1 := ho.bi
      have o2 := ho.by_
      have o3 := ho.tt
      have o4 := ho.nu
      have o5 := ho.sh
      have o6 := ho.fr
      have o7 := ho.xto
      have o8 := ho.l
      have o9 := ho.p
      clear ho
      unfold zaa at hW1
      generalize aaA a = V at *
      generalize a.bi = bi at *
      generalize a.by_ = by_ at *
      generalize a.tt = tt at *
      generalize a.x = x at *
      generalize x.nu = nu at *
      generalize x.sh = sh at *
      generalize x.fr = fr at *
      generalize x.«to» = xt at *
      generalize x.l.length = nl at *
      generalize x.p.length = np at *
      generalize x.A = xA at *
      generalize x.c = xc at *
      generalize x.PA = xP at *
      generalize x.pc = xpc at *
      go_wp2_with (first
        | (have _t := hW1; clear _t; refine wpList_load_mid rfl 61 (.tmp 13) rfl g (off + k * 15) rfl V.toList _ HR.out Tryz.underlying61 rfl HIb.out ?_)
        | (rw [← hW1]; clear hW1; refine wpList_store_row rfl 61 (.tmp 4) (.tmp 14) rfl wr.heap.size V rfl rfl 61 _ HM.out HIs.out HSz.out HO.out ?_; rw [← hW2]; clear hW2)
        | fail)
      all_goals first
        | exact HF.out _ HB2.out
        | (refine ⟨⟨k + 1, by omega, by go_num, by first | omega | (simp only [decide_eq_false_iff_not, decide_eq_true_eq] at *; omega), HB2⟩, by simp [RowKit.intOf]; omega⟩)
    · have hlt' : ¬ (k : Int) < (L.length : Int) := by omega
      have HF2 := Lib.hid (HT.out (by omega) _ HB.out)
      clear HT HF
      go_wp2_with fail
      first
        | exact HF2.out
        | (go_ret; exact HF2.out)
end Go.Proofs.YtdinloecgaapaaaGreatDoor
