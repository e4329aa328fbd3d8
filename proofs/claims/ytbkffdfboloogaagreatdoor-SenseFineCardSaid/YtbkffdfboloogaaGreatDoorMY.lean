/- The credits that the law makes out of one: what is said of them. The law SenseFine. -/
import Derived.Test.YtbkffdfboloogaaGreatDoorMV
import Derived.Test.YtbkffdfboloogaaGreatDoorFFine
import Derived.Test.YtbkffdfboloogaaGreatDoorFLong
import Derived.Test.YtbkffdfboloogaaGreatDoorMZ
import Derived.Test.YtbkffdfboloogaaGreatDoorNA
import Derived.Test.YtbkffdfboloogaaGreatDoorSAwake
import Derived.Lib.MinMax
import Derived.Deep.Cut
namespace Go.Proofs.YtbkffdfboloogaaGreatDoor
open Go.RowKit Go.Maps Go.Lib
set_option linter.unusedVariables false
set_option maxRecDepth 100000

theorem Thin.late {c : Cr} (h : Thin c) (mx : Int) : Thin (lateC c mx) := ⟨⟨h.fair.str, h.fair.need, h.fair.few⟩, h.nine, h.show_⟩
theorem late_not (c : Cr) {mx : Int} (h : 0 < mx) : Faulty (lateC c mx) := late_faulty _ h
theorem odd_narrow {s : ByteArray} (hs : s.size ≤ 60) : Narrow (oddNd s).r ∧ Good (oddNd s).r := by
  have ha : atomsR (oddNd s).r = [(oddNd s).r] := atoms_a _ rfl
  refine ⟨⟨by rw [nsz_l]; show 1 + nszL [] ≤ 30; simp [nszL], fun a h => ?_⟩, ⟨_, by show (-9223372036854775808 : Int) ≤ 0; omega, by show (0 : Int) ≤ 9223372036854775807; omega, by show s.size ≤ _; omega, by show (1 : Nat) ≤ _; omega, fun y hy => by cases hy⟩⟩
  rw [ha] at h
  simp at h
  subst h
  show s.size + 1 ≤ 100
  omega
theorem odd_brief {c : Cr} (h : Brief c) (hg : GoodC c) {s : ByteArray} (hs : s.size ≤ 60) : Thin (oddC c s) := by
  obtain ⟨n1, n2⟩ := odd_narrow hs
  have hm : ∀ x ∈ (oddC c s).needs, Narrow x.r ∧ Good x.r := fun x hx => by
    rcases List.mem_append.1 hx with hx | hx
    · exact ⟨h.narrow x hx, (hg.need x hx).1⟩
    · simp at hx; subst hx; exact ⟨n1, n2⟩
  have hl : (oddC c s).needs.length ≤ 9 := by
    show (c.needs ++ [oddNd s]).length ≤ 9
    have := h.eight
    simp; omega
  exact ⟨⟨hg.str, fun x hx => ⟨by have := (hm x hx).1.size; omega, (hm x hx).1.fits (hm x hx).2⟩, by omega⟩, hl, fun x hx => (hm x hx).1.show_ (hm x hx).2⟩
theorem odd_kinds {c : Cr} (hg : GoodC c) (s : ByteArray) : ∀ x ∈ (oddC c s).needs, -9223372036854775808 ≤ x.k ∧ x.k ≤ 9223372036854775807 := fun x hx => by
  rcases List.mem_append.1 hx with hx | hx
  · exact (hg.need x hx).2
  · simp at hx; subst hx; exact ⟨by show (-9223372036854775808 : Int) ≤ 4; omega, by show (4 : Int) ≤ 9223372036854775807; omega⟩
theorem odd_not {c : Cr} {s : ByteArray} (h : ¬ Faulty (oddC c s)) : inL fl4 s = true := by
  cases hi : inL fl4 s with
  | true => rfl
  | false =>
    refine absurd (odd_faulty (oddC c s) c.needs.length (oddNd s) ?_ rfl rfl hi) h
    show (c.needs ++ [oddNd s])[c.needs.length]? = _
    rw [List.getElem?_append_right (Nat.le_refl _), Nat.sub_self]
    rfl
end Go.Proofs.YtbkffdfboloogaaGreatDoor
namespace Go.Proofs.YtbkffdfboloogaaGreatDoor
open Go.RowKit Go.Maps Go.Lib
set_option linter.unusedVariables false
set_option maxRecDepth 100000

noncomputable def flB (c : Cr) : Bool := @decide (Faulty c) (Classical.propDecidable _)
theorem flB_iff (c : Cr) : flB c = true ↔ Faulty c := @decide_eq_true_iff _ (Classical.propDecidable _)
theorem flB_no (c : Cr) : flB c = false ↔ ¬ Faulty c := by rw [← flB_iff]; cases flB c <;> simp
theorem fn_is {c : Cr} {r : Bool} (h : r = true ↔ mayB c = true ∧ ¬ Faulty c) : r = (mayB c && !flB c) := by
  rw [Bool.eq_iff_iff, h, ← flB_no]
  cases mayB c <;> cases flB c <;> simp
theorem ck_is {c : Cr} {n : Nat} (h : n = 0 ↔ ¬ Faulty c) : ((n : Int) == 0) = !flB c := by
  rw [Bool.eq_iff_iff, eq_zero, h, ← flB_no]
  cases flB c <;> simp
theorem fl4_cases {s : ByteArray} (h : inL fl4 s = true) : (s.toList == [115, 101, 108, 108, 101, 114]) = true ∨ ((s.toList == [115, 101, 108, 108, 101, 114]) = false ∧ (s.toList == [99, 111, 117, 110, 116, 114, 121]) = true) ∨ ((s.toList == [115, 101, 108, 108, 101, 114]) = false ∧ (s.toList == [99, 111, 117, 110, 116, 114, 121]) = false ∧ (s.toList == [98, 111, 120, 101, 115]) = true) := by
  have hm := (inL_iff fl4 s).1 h
  simp only [fl4, List.mem_cons, List.not_mem_nil, or_false] at hm
  rcases hm with rfl | rfl | rfl
  · exact .inl (by rw [ByteArray.toList_eq]; decide)
  · exact .inr (.inl (by rw [ByteArray.toList_eq]; decide))
  · exact .inr (.inr (by rw [ByteArray.toList_eq]; decide))

theorem bc_step {B : Nat} {a W w' : World} (h : Below B a W) (hB : B ≤ a.heap.size) (hb : Below W.heap.size W w') : Below B a w' := h.trans (hb.mono (Nat.le_trans hB h.size))
theorem box_cell {W : World} {q : Nat} {cs : Array Value} {t : TypeId} (h : W.heap[q]? = some (.cells cs t (0, 0))) (j : Nat) : W.cell? ⟨q, j, none⟩ = cs[j]? := by
  rw [World.cell?, h]
  rfl
def crZ : Array Value := #[.string ⟨#[]⟩, .string ⟨#[]⟩, .string ⟨#[]⟩, .string ⟨#[]⟩, .string ⟨#[]⟩, .string ⟨#[]⟩, .string ⟨#[]⟩, .string ⟨#[]⟩, .int .i64 0, .int .i64 0, .int .i64 0, .int .i64 0, .int .i64 0, .int .i64 0, .int .i64 0, .bool false, .bool false, .slice none 0 0]
theorem box_free {W : World} {q : Nat} {cs : Array Value} {t : TypeId} (h : W.heap[q]? = some (.cells cs t (0, 0))) (j : Nat) : W.frozen? ⟨q, j, none⟩ = false := by
  simp [World.frozen?, h]
theorem crA_all (c : Cr) (A : Option Addr) (cp : Nat) : (crA c A cp).all (·.oneCell') = true := by
  simp [crA, Value.oneCell']
theorem setRow_alloc (W : World) (cs ds : Array Value) (t : TypeId) : (W.alloc (.cells cs t)).setRow W.heap.size ds = W.alloc (.cells ds t) := by
  unfold World.setRow World.alloc
  simp only
  congr 1
  apply Array.ext
  · simp
  · intro i h1 h2
    rw [Array.getElem_modify]
    by_cases hi : W.heap.size = i
    · subst hi; simp
    · have hlt : i < W.heap.size := by simp at h1; omega
      simp [hi, Array.getElem_push, hlt]
theorem store_credit (W : World) (c : Cr) (A : Option Addr) (cp : Nat) : Sem.run Tryz.prog (storeCells ⟨W.heap.size, 0, none⟩ (crA c A cp).toList) (W.alloc (.cells crZ 26)) = .ok () (W.alloc (.cells (crA c A cp) 26)) := by
  have h := run_storeCells_from (P := Tryz.prog) W.heap.size 26 (crA c A cp).toList 0 crZ (W.alloc (.cells crZ 26)) (heap_alloc_new W _) rfl (by
    intro v hv
    simp only [crA, List.mem_cons, List.not_mem_nil, or_false] at hv
    rcases hv with rfl | rfl | rfl | rfl | rfl | rfl | rfl | rfl | rfl | rfl | rfl | rfl | rfl | rfl | rfl | rfl | rfl | rfl <;> rfl)
  rw [setRow_alloc] at h
  simpa using h
def LwP (w : World) (e : Ending) (w' : World) : Prop := e = .returned (.bool true) ∧ Below w.heap.size w w'
set_option maxHeartbeats 16000000 in
theorem fineLaw_any (c : Cr) (hg : GoodC c) (A : Option Addr) (cp : Nat) (hA : A = none → cp = 0) (s : ByteArray) (w : World) (hN : Ns w w.heap.size A c.needs) (hE : Ev w) :
    Calls Tryz.prog 3 #[.agg (crA c A cp), .string s] w fun e w' => LwP w e w' := by
  have hb1 : Below w.heap.size w (w.alloc (.cells (crA c A cp) 26)) := (Below.refl _ _).alloc (Nat.le_refl _) _
  have hz1 : (w.alloc (.cells (crA c A cp) 26)).heap.size = w.heap.size + 1 := by simp
  have HLg : Hid (∀ W, Below w.heap.size w W → Calls Tryz.prog 5 #[.agg (crA c A cp)] W fun e w' => ∃ r : Bool, e = .returned (.bool r) ∧ (r = false → Brief c) ∧ Below W.heap.size W w') := Lib.hid (fun W hb => long_any c hg A cp w.heap.size W (hN.kept hb) hb.size)
  have HAw : Hid (∀ W, Below w.heap.size w W → Calls Tryz.prog 6 #[] W fun e w' => e = .returned (.bool true) ∧ Below W.heap.size W w') := Lib.hid (fun W hb => awake_any W (hE.all hb).gl)
  have HFn : Hid (Brief c → ∀ W, Below w.heap.size w W → Calls Tryz.prog 7 #[.agg (crA c A cp)] W fun e w' => e = .returned (.bool (mayB c && !flB c)) ∧ Below W.heap.size W w') := Lib.hid (fun hB W hb =>
    (fine_any c (hB.thin hg) (fun x hx => (hg.need x hx).2) A cp w.heap.size W (hN.kept hb) hb.size (hE.all hb)).mono (by rintro e w' ⟨r, rfl, hr, hb2⟩; exact ⟨by rw [fn_is hr], hb2⟩))
  have HMy : Hid (Brief c → ∀ W, Below w.heap.size w W → Calls Tryz.prog 8 #[.agg (crA c A cp)] W fun e w' => e = .returned (.bool (mayB c)) ∧ Below W.heap.size W w') := Lib.hid (fun hB W hb => refMay_any c (hB.thin hg) A cp W w.heap.size (hN.kept hb) hb.size (hE.all hb))
  have HCk : Hid (Brief c → ∀ W, Below w.heap.size w W → Calls Tryz.prog 9 #[.agg (crA c A cp)] W fun e w' => ∃ Av n cv, e = .returned (.slice Av n cv) ∧ ((n : Int) == 0) = !flB c ∧ Below W.heap.size W w') := Lib.hid (fun hB W hb =>
    (refCheck_any c (hB.thin hg).fair A cp w.heap.size W (hN.kept hb) hb.size (hB.thin hg).nine).mono (by rintro e w' ⟨Av, n, cv, rfl, hn, hb2⟩; exact ⟨Av, n, cv, rfl, ck_is hn, hb2⟩))
  have HLt : Hid (Brief c → ∀ mx : Int, 0 < mx → ∀ W, Below w.heap.size w W → Calls Tryz.prog 7 #[.agg (crA (lateC c mx) A cp)] W fun e w' => e = .returned (.bool false) ∧ Below W.heap.size W w') := Lib.hid (fun hB mx hm W hb =>
    (fine_any (lateC c mx) ((hB.thin hg).late mx) (fun x hx => (hg.need x hx).2) A cp w.heap.size W (hN.kept hb) hb.size (hE.all hb)).mono (by
      rintro e w' ⟨r, rfl, hr, hb2⟩
      refine ⟨?_, hb2⟩
      cases r with
      | false => rfl
      | true => exact absurd (late_not c hm) (hr.1 rfl).2))
  have HOd : Hid (Brief c → s.size ≤ 60 → ∀ (A10 : Option Addr) (c10 : Nat) (W : World), Below w.heap.size w W → Ns W W.heap.size A10 (oddC c s).needs → Calls Tryz.prog 7 #[.agg (crA (oddC c s) A10 c10)] W fun e w' => ∃ r : Bool, e = .returned (.bool r) ∧ (r = true → inL fl4 s = true) ∧ Below W.heap.size W w') := Lib.hid (fun hB hs A10 c10 W hb hN10 =>
    (fine_any (oddC c s) (odd_brief hB hg hs) (odd_kinds hg s) A10 c10 W.heap.size W hN10 (Nat.le_refl _) (hE.all hb)).mono (by
      rintro e w' ⟨r, rfl, hr, hb2⟩
      exact ⟨r, rfl, fun h => odd_not (hr.1 h).2, hb2⟩))
  have HMk : Hid (Brief c → ∀ W, Below w.heap.size w W → ∃ v9 w9 A10 c10 w10, (Builtin.append_ #[24, 24] 24 #[.slice (some ⟨W.heap.size + 1, 0, none⟩) 0 0, .slice A c.needs.length cp]).run Tryz.prog ((W.alloc (.cells (crA c A cp) 26)).alloc (.cells #[] 35)) = .ok v9 w9 ∧
      (Builtin.append_ #[24, 24] 24 #[v9, .slice (some ⟨w9.heap.size, 0, none⟩) 1 1]).run Tryz.prog (w9.alloc (.cells #[.int .i64 4, .int .i64 1, .int .i64 4, .int .i64 0, .string s, .string ⟨#[120]⟩, .int .i64 0, .slice none 0 0] 35)) = .ok (.slice A10 (c.needs.length + 1) c10) w10 ∧
      W.heap.size < w10.heap.size ∧ w10.heap[W.heap.size]? = some (.cells (crA c A cp) 26 (0, 0)) ∧
      Hid (Below W.heap.size W (w10.setCell ⟨W.heap.size, 17, none⟩ (.slice A10 (c.needs.length + 1) c10))) ∧
      Hid ((w10.setCell ⟨W.heap.size, 17, none⟩ (.slice A10 (c.needs.length + 1) c10)).heap[W.heap.size]? = some (.cells (crA (oddC c s) A10 c10) 26 (0, 0))) ∧
      Hid (Ns (w10.setCell ⟨W.heap.size, 17, none⟩ (.slice A10 (c.needs.length + 1) c10)) (w10.setCell ⟨W.heap.size, 17, none⟩ (.slice A10 (c.needs.length + 1) c10)).heap.size A10 (oddC c s).needs)) := Lib.hid (fun hB W hb => odd_made c A cp w.heap.size s W (hN.kept hb) hb.size hA hB.eight)
  have HK : Hid (∀ W, Below (w.heap.size + 1) (w.alloc (.cells (crA c A cp) 26)) W → W.heap[w.heap.size]? = some (.cells (crA c A cp) 26 (0, 0))) := Lib.hid (fun W hb => (hb.block _ (by omega)).trans (heap_alloc_new w _))
  have H18 : Hid (∀ W, Below (w.heap.size + 1) (w.alloc (.cells (crA c A cp) 26)) W → C18 W w.heap.size c A cp) := Lib.hid (fun W hb => (C18.new w c A cp 26).below hb (by omega))
  have HSt : Hid (∀ W : World, Sem.run Tryz.prog (storeCells ⟨W.heap.size, 0, none⟩ (crA c A cp).toList) (W.alloc (.cells #[.string ⟨#[]⟩, .string ⟨#[]⟩, .string ⟨#[]⟩, .string ⟨#[]⟩, .string ⟨#[]⟩, .string ⟨#[]⟩, .string ⟨#[]⟩, .string ⟨#[]⟩, .int .i64 0, .int .i64 0, .int .i64 0, .int .i64 0, .int .i64 0, .int .i64 0, .int .i64 0, .bool false, .bool false, .slice none 0 0] 26)) = .ok () (W.alloc (.cells (crA c A cp) 26))) := Lib.hid (fun W => store_credit W c A cp)
  have HC11 : Hid (∀ W : World, w.heap.size + 1 ≤ W.heap.size → Below (w.heap.size + 1) (w.alloc (.cells (crA c A cp) 26)) W → (W.alloc (.cells (crA c A cp) 26)).cell? ⟨w.heap.size, 11, none⟩ = some (.int .i64 c.lat)) := Lib.hid (fun W hz hb => Lib.cell?_alloc_some _ ((H18.out W hb).c11))
  have HC17 : Hid (∀ W : World, Below (w.heap.size + 1) (w.alloc (.cells (crA c A cp) 26)) W → ((W.alloc (.cells (crA c A cp) 26)).alloc (.cells #[] 35)).cell? ⟨w.heap.size, 17, none⟩ = some (.slice A c.needs.length cp)) := Lib.hid (fun W hb => Lib.cell?_alloc_some _ (Lib.cell?_alloc_some _ ((H18.out W hb).c17)))
  have HM : Hid (∀ (W : World) (j : Nat), j < 18 → (W.alloc (.cells (crA c A cp) 26)).cell? ⟨W.heap.size, j, none⟩ = (crA c A cp)[j]?) := Lib.hid (fun W j _ => box_cell (heap_alloc_new W _) j)
  have HB1 := Lib.hid hb1
  have HI := Lib.hid (crA_size c A cp)
  have HIL := Lib.hid (fun mx => crA_size (lateC c mx) A cp)
  have HIO := Lib.hid (fun A10 c10 => crA_size (oddC c s) A10 c10)
  have HBc : Hid (Below (w.heap.size + 1) (w.alloc (.cells (crA c A cp) 26)) (w.alloc (.cells (crA c A cp) 26))) := Lib.hid (Below.refl _ _)
  have HBw : Hid (∀ W, Below (w.heap.size + 1) (w.alloc (.cells (crA c A cp) 26)) W → Below w.heap.size w W) := Lib.hid (fun W hb => hb1.trans (hb.mono (by omega)))
  have Hz1 := Lib.hid hz1
  have HEnd : Hid (∀ W, Below (w.heap.size + 1) (w.alloc (.cells (crA c A cp) 26)) W → LwP w (.returned (.bool true)) W) := Lib.hid (fun W hb => ⟨rfl, hb1.trans (hb.mono (by omega))⟩)
  clear hb1 hg hN hE hA hz1
  go_enter Tryz.func3, Tryz.ntmps3
  go_wp2_with (first
    | (refine wpList_load_row rfl 26 (.tmp 2) rfl w.heap.size rfl 26 (crA c A cp) (0, 0) _ (HK.out _ HBc.out) Tryz.underlying26 rfl HI.out ?_)
    | fail)
  refine (HLg.out _ (HBw.out _ HBc.out)).mono ?_
  rintro e w2 ⟨r, rfl, hr, hb2⟩
  have HBd := Lib.hid (bc_step HBc.out (by rw [Hz1.out]; omega) hb2)
  clear HBc HLg
  have HBc := HBd
  clear HBd hb2
  cases r with
  | true =>
    go_wp2_with (first
      | (go_at_call 6; (with_reducible refine (HAw.out _ (HBw.out _ HBc.out)).mono ?_); rintro e w3 ⟨rfl, hb3⟩; have HF := Lib.hid (HEnd.out _ (bc_step HBc.out (by rw [Hz1.out]; omega) hb3)); clear hb3)
      | fail)
    first
      | exact HF.out
      | (go_ret; exact HF.out)
  | false =>
    have hBr := hr rfl
    clear hr
    by_cases hs : s.size ≤ 60
    · have b1 : ¬ (60 : Int) < (s.size : Int) := by omega
      have HFn' := Lib.hid (HFn.out hBr)
      have HMy' := Lib.hid (HMy.out hBr)
      have HCk' := Lib.hid (HCk.out hBr)
      have HLt' := Lib.hid (HLt.out hBr)
      have HOd' := Lib.hid (HOd.out hBr hs)
      have HMk' := Lib.hid (HMk.out hBr)
      clear HFn HMy HCk HLt HOd HMk hBr hs
      unfold crA at HCk'
      generalize flB c = fb at *
      cases hm : mayB c with
      | false =>
        rw [hm] at HFn' HMy'
        clear HCk' hm
        simp only [Bool.false_and] at HFn'
        go_upto_region 6 with (first
          | (refine wpList_load_row rfl 26 (.tmp 2) rfl w.heap.size rfl 26 (crA c A cp) (0, 0) _ (HK.out _ HBc.out) Tryz.underlying26 rfl HI.out ?_)
          | (go_at_call 7; (with_reducible refine (HFn'.out _ (HBw.out _ HBc.out)).mono ?_); rintro e w3 ⟨rfl, hb⟩; have HBd := Lib.hid (bc_step HBc.out (by rw [Hz1.out]; omega) hb); clear HBc hb; have HBc := HBd; clear HBd; clear HFn')
          | (go_at_call 8; (with_reducible refine (HMy'.out _ (HBw.out _ HBc.out)).mono ?_); rintro e wq ⟨rfl, hb⟩; have HBd := Lib.hid (bc_step HBc.out (by rw [Hz1.out]; omega) hb); clear HBc hb; have HBc := HBd; clear HBd; clear HMy')
          | fail)
        have hzq : w.heap.size + 1 ≤ wq.heap.size := by have := HBc.out.size; rw [Hz1.out] at this; omega
        have hmx : (0 : Int) < max c.lat 1 := by omega
        have Hlb : Hid ((wq.alloc (.cells (((crA c A cp).setIfInBounds 11 (.int .i64 (max c.lat 1))).setIfInBounds 12 (.int .i64 0)) 26)).heap[wq.heap.size]? = some (.cells (crA (lateC c (max c.lat 1)) A cp) 26 (0, 0))) := Lib.hid (heap_alloc_new _ _)
        have Hlw : Hid (Below (w.heap.size + 1) (w.alloc (.cells (crA c A cp) 26)) (wq.alloc (.cells (((crA c A cp).setIfInBounds 11 (.int .i64 (max c.lat 1))).setIfInBounds 12 (.int .i64 0)) 26))) := Lib.hid (HBc.out.alloc hzq _)
        have HLt2 := Lib.hid (HLt'.out (max c.lat 1) hmx _ (HBw.out _ Hlw.out))
        have k11 := HC11.out wq hzq HBc.out
        have m11 := HM.out wq 11 (by omega)
        have m12 := HM.out wq 12 (by omega)
        clear hmx
        go_upto_region 13 with (first
          | (refine wpList_load_row rfl 26 (.tmp 2) rfl w.heap.size rfl 26 (crA c A cp) (0, 0) _ (HK.out _ HBc.out) Tryz.underlying26 rfl HI.out ?_)
          | (refine wpList_store_row rfl 26 (.tmp 6) (.tmp 28) rfl wq.heap.size (crA c A cp) rfl rfl 26 _ (heap_alloc_new _ _) HI.out rfl (crA_all c A cp) ?_; rw [setRow_alloc])
          | (refine wpList_load_row rfl 26 (.tmp 6) rfl wq.heap.size rfl 26 (crA (lateC c (max c.lat 1)) A cp) (0, 0) _ Hlb.out Tryz.underlying26 rfl (HIL.out _) ?_)
          | (go_at_call 7; (with_reducible refine HLt2.out.mono ?_); rintro e w7 ⟨rfl, hb⟩; have HBd := Lib.hid (bc_step Hlw.out (by rw [Hz1.out]; omega) hb); clear HBc Hlw Hlb HLt2 HLt' hb k11 m11 m12; have HBc := HBd; clear HBd; have k17 := HC17.out w7 HBc.out; obtain ⟨v9, w9, A10, c10, w10, r1, r2, hz10, hk10, HB10, Hk10, HN10⟩ := HMk'.out _ (HBw.out _ HBc.out); have n17 := box_cell hk10 17; have f17 := box_free hk10 17; clear hk10 HMk')
          | (refine wpList_store_row rfl 26 (.tmp 7) (.tmp 36) rfl w7.heap.size (crA c A cp) rfl rfl 26 _ (heap_alloc_new _ _) HI.out rfl (crA_all c A cp) ?_; rw [setRow_alloc])
          | (at_builtin; refine Lib.wpList_append_run _ rfl _ _ _ _ rfl _ _ rfl rfl _ _ r1 ?_; clear r1)
          | (at_builtin; refine Lib.wpList_append_run _ rfl _ _ _ _ rfl _ _ rfl rfl _ _ r2 ?_; clear r2)
          | fail)
        go_wp2_with (first
          | (refine wpList_load_row rfl 26 (.tmp 7) rfl w7.heap.size rfl 26 (crA (oddC c s) A10 c10) (0, 0) _ Hk10.out Tryz.underlying26 rfl (HIO.out _ _) ?_)
          | fail)
        refine (HOd'.out A10 c10 _ ((HBw.out _ HBc.out).trans (HB10.out.mono (HBw.out _ HBc.out).size)) HN10.out).mono ?_
        rintro e w12 ⟨r, rfl, hr, hb⟩
        have HBn := Lib.hid (bc_step (HBc.out.trans (HB10.out.mono (Nat.le_trans (by rw [Hz1.out]; omega) HBc.out.size))) (by rw [Hz1.out]; omega) hb)
        clear HBc hb HB10 Hk10 HN10 HOd'
        have HAw2 := Lib.hid (HAw.out _ (HBw.out _ HBn.out))
        cases r with
        | false =>
          go_wp2_with (first
            | (go_at_call 6; (with_reducible refine HAw2.out.mono ?_); rintro e w13 ⟨rfl, hb⟩; have HF := Lib.hid (HEnd.out _ (bc_step HBn.out (by rw [Hz1.out]; omega) hb)); clear hb)
            | fail)
          first
            | exact HF.out
            | (go_ret; exact HF.out)
        | true =>
          have h4 := fl4_cases (hr rfl)
          clear hr
          rcases h4 with q1 | ⟨q1, q2⟩ | ⟨q1, q2, q3⟩
          all_goals
            go_wp2_with (first
              | (go_at_call 6; (with_reducible refine HAw2.out.mono ?_); rintro e w13 ⟨rfl, hb⟩; have HF := Lib.hid (HEnd.out _ (bc_step HBn.out (by rw [Hz1.out]; omega) hb)); clear hb)
              | fail)
            first
              | exact HF.out
              | (go_ret; exact HF.out)
      | true =>
        rw [hm] at HFn' HMy'
        clear hm
        simp only [Bool.true_and] at HFn'
        go_upto_region 6 with (first
          | (refine wpList_load_row rfl 26 (.tmp 2) rfl w.heap.size rfl 26 (crA c A cp) (0, 0) _ (HK.out _ HBc.out) Tryz.underlying26 rfl HI.out ?_)
          | (go_at_call 7; (with_reducible refine (HFn'.out _ (HBw.out _ HBc.out)).mono ?_); rintro e w3 ⟨rfl, hb⟩; have HBd := Lib.hid (bc_step HBc.out (by rw [Hz1.out]; omega) hb); clear HBc hb; have HBc := HBd; clear HBd; clear HFn')
          | (go_at_call 8; (with_reducible refine (HMy'.out _ (HBw.out _ HBc.out)).mono ?_); rintro e w4 ⟨rfl, hb⟩; have HBd := Lib.hid (bc_step HBc.out (by rw [Hz1.out]; omega) hb); clear HBc hb; have HBc := HBd; clear HBd; obtain ⟨e0, e1, e2, e3, e4, e5, e6, e7, e8, e9, e10, e11, e12, e13, e14, e15, e16, e17⟩ := H18.out _ HBc.out; clear HMy')
          | (go_at_call 9; (with_reducible refine (HCk'.out _ (HBw.out _ HBc.out)).mono ?_); rintro e wq ⟨Av, n, cv, rfl, hn, hb⟩; have HBd := Lib.hid (bc_step HBc.out (by rw [Hz1.out]; omega) hb); clear HBc hb; have HBc := HBd; clear HBd; clear HCk' e0 e1 e2 e3 e4 e5 e6 e7 e8 e9 e10 e11 e12 e13 e14 e15 e16 e17)
          | fail)
        have hzq : w.heap.size + 1 ≤ wq.heap.size := by have := HBc.out.size; rw [Hz1.out] at this; omega
        have hmx : (0 : Int) < max c.lat 1 := by omega
        have Hlb : Hid ((wq.alloc (.cells (((crA c A cp).setIfInBounds 11 (.int .i64 (max c.lat 1))).setIfInBounds 12 (.int .i64 0)) 26)).heap[wq.heap.size]? = some (.cells (crA (lateC c (max c.lat 1)) A cp) 26 (0, 0))) := Lib.hid (heap_alloc_new _ _)
        have Hlw : Hid (Below (w.heap.size + 1) (w.alloc (.cells (crA c A cp) 26)) (wq.alloc (.cells (((crA c A cp).setIfInBounds 11 (.int .i64 (max c.lat 1))).setIfInBounds 12 (.int .i64 0)) 26))) := Lib.hid (HBc.out.alloc hzq _)
        have HLt2 := Lib.hid (HLt'.out (max c.lat 1) hmx _ (HBw.out _ Hlw.out))
        have k11 := HC11.out wq hzq HBc.out
        have m11 := HM.out wq 11 (by omega)
        have m12 := HM.out wq 12 (by omega)
        clear hmx
        go_upto_region 13 with (first
          | (refine wpList_load_row rfl 26 (.tmp 2) rfl w.heap.size rfl 26 (crA c A cp) (0, 0) _ (HK.out _ HBc.out) Tryz.underlying26 rfl HI.out ?_)
          | (refine wpList_store_row rfl 26 (.tmp 6) (.tmp 28) rfl wq.heap.size (crA c A cp) rfl rfl 26 _ (heap_alloc_new _ _) HI.out rfl (crA_all c A cp) ?_; rw [setRow_alloc])
          | (refine wpList_load_row rfl 26 (.tmp 6) rfl wq.heap.size rfl 26 (crA (lateC c (max c.lat 1)) A cp) (0, 0) _ Hlb.out Tryz.underlying26 rfl (HIL.out _) ?_)
          | (go_at_call 7; (with_reducible refine HLt2.out.mono ?_); rintro e w7 ⟨rfl, hb⟩; have HBd := Lib.hid (bc_step Hlw.out (by rw [Hz1.out]; omega) hb); clear HBc Hlw Hlb HLt2 HLt' hb k11 m11 m12; have HBc := HBd; clear HBd; have k17 := HC17.out w7 HBc.out; obtain ⟨v9, w9, A10, c10, w10, r1, r2, hz10, hk10, HB10, Hk10, HN10⟩ := HMk'.out _ (HBw.out _ HBc.out); have n17 := box_cell hk10 17; have f17 := box_free hk10 17; clear hk10 HMk')
          | (refine wpList_store_row rfl 26 (.tmp 7) (.tmp 36) rfl w7.heap.size (crA c A cp) rfl rfl 26 _ (heap_alloc_new _ _) HI.out rfl (crA_all c A cp) ?_; rw [setRow_alloc])
          | (at_builtin; refine Lib.wpList_append_run _ rfl _ _ _ _ rfl _ _ rfl rfl _ _ r1 ?_; clear r1)
          | (at_builtin; refine Lib.wpList_append_run _ rfl _ _ _ _ rfl _ _ rfl rfl _ _ r2 ?_; clear r2)
          | fail)
        go_wp2_with (first
          | (refine wpList_load_row rfl 26 (.tmp 7) rfl w7.heap.size rfl 26 (crA (oddC c s) A10 c10) (0, 0) _ Hk10.out Tryz.underlying26 rfl (HIO.out _ _) ?_)
          | fail)
        refine (HOd'.out A10 c10 _ ((HBw.out _ HBc.out).trans (HB10.out.mono (HBw.out _ HBc.out).size)) HN10.out).mono ?_
        rintro e w12 ⟨r, rfl, hr, hb⟩
        have HBn := Lib.hid (bc_step (HBc.out.trans (HB10.out.mono (Nat.le_trans (by rw [Hz1.out]; omega) HBc.out.size))) (by rw [Hz1.out]; omega) hb)
        clear HBc hb HB10 Hk10 HN10 HOd'
        have HAw2 := Lib.hid (HAw.out _ (HBw.out _ HBn.out))
        cases r with
        | false =>
          go_wp2_with (first
            | (go_at_call 6; (with_reducible refine HAw2.out.mono ?_); rintro e w13 ⟨rfl, hb⟩; have HF := Lib.hid (HEnd.out _ (bc_step HBn.out (by rw [Hz1.out]; omega) hb)); clear hb)
            | fail)
          first
            | exact HF.out
            | (go_ret; exact HF.out)
        | true =>
          have h4 := fl4_cases (hr rfl)
          clear hr
          rcases h4 with q1 | ⟨q1, q2⟩ | ⟨q1, q2, q3⟩
          all_goals
            go_wp2_with (first
              | (go_at_call 6; (with_reducible refine HAw2.out.mono ?_); rintro e w13 ⟨rfl, hb⟩; have HF := Lib.hid (HEnd.out _ (bc_step HBn.out (by rw [Hz1.out]; omega) hb)); clear hb)
              | fail)
            first
              | exact HF.out
              | (go_ret; exact HF.out)
    · have b1 : (60 : Int) < (s.size : Int) := by omega
      go_wp2_with (first
        | (go_at_call 6; (with_reducible refine (HAw.out _ (HBw.out _ HBc.out)).mono ?_); rintro e w3 ⟨rfl, hb3⟩; have HF := Lib.hid (HEnd.out _ (bc_step HBc.out (by rw [Hz1.out]; omega) hb3)); clear hb3)
        | fail)
      first
        | exact HF.out
        | (go_ret; exact HF.out)
end Go.Proofs.YtbkffdfboloogaaGreatDoor
