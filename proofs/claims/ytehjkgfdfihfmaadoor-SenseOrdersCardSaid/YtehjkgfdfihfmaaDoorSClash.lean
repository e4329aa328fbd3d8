/- sense.Clash. -/
import Derived.Test.YtehjkgfdfihfmaaDoorSAll
import Derived.Test.YtehjkgfdfihfmaaDoorSClashes
namespace Go.Proofs.YtehjkgfdfihfmaaDoor
open Go.RowKit Go.Maps Go.Lib
set_option linter.unusedVariables false
set_option maxRecDepth 100000

/-- how many cases there are can be told, and all of them clash -/
def ClashR (x : Rl) : Prop := (cnt x).2 = true ∧ ∀ l ∈ casesR x, Clashes l
/-- atoms of a moderate size -/
def Fits (a : Rl) : Prop := a.f.size ≤ 1000 ∧ a.t.size ≤ 1000 ∧ -9223372036854775808 ≤ a.n ∧ a.n ≤ 9223372036854775807
theorem fm_at (L : List Rl) : ∀ l : List Nat, (∀ i ∈ l, i < L.length) → (l.filterMap fun i => L[i]?).length = l.length ∧ ∀ k (h : k < l.length) (h2 : k < (l.filterMap fun i => L[i]?).length), L[l[k]]? = some (l.filterMap fun i => L[i]?)[k] := by
  intro l
  induction l with
  | nil => intro _; exact ⟨rfl, fun k h => absurd h (by simp)⟩
  | cons i l ih =>
    intro h
    have hi := h i (by simp)
    obtain ⟨h1, h2⟩ := ih (fun j hj => h j (by simp [hj]))
    have e : ((i :: l).filterMap fun i => L[i]?) = L[i] :: (l.filterMap fun i => L[i]?) := by
      rw [List.filterMap_cons, List.getElem?_eq_getElem hi]
    rw [e]
    refine ⟨by simp [h1], fun k hk hk2 => ?_⟩
    match k, hk, hk2 with
    | 0, _, _ => simp
    | k + 1, hk, hk2 =>
      simp only [List.getElem_cons_succ]
      exact h2 k (by simpa using hk) _
theorem At.am {w : World} {base pb : Nat} {v : Value} {L : List Rl} {cs : List Value} (h : At w base pb v L cs) : ∃ A c, v = .slice A L.length c ∧ Am w w.heap.size A L := by
  rcases h.row.2 with ⟨h1, h2⟩ | ⟨g, cap, cur, h1, h2, h3, h4⟩
  · exact ⟨none, 0, by rw [h1, h2], fun hl => by omega⟩
  · refine ⟨_, _, h1, fun _ => ⟨g, 0, rfl, (Array.getElem?_eq_some_iff.1 h3).1, fun i a ha => ?_⟩⟩
    obtain ⟨e0, e1, e2, e3, e4, A5, c5, e5⟩ := h.each i a ha
    have hi := (List.getElem?_eq_some_iff.1 ha).1
    have hrow := h.row
    rw [h1] at hrow
    have c : ∀ j, j < 6 → w.cell? ⟨g, 0 + i * 6 + j, none⟩ = cs[6 * i + j]? := fun j hj => by
      rw [show 0 + i * 6 + j = 6 * i + j by omega]
      exact hrow.cellAt (6 * i + j) (by omega)
    exact ⟨A5, c5, (c 0 (by omega)).trans e0, (c 1 (by omega)).trans e1, (c 2 (by omega)).trans e2, (c 3 (by omega)).trans e3, (c 4 (by omega)).trans e4, (c 5 (by omega)).trans e5⟩
theorem Ri.is {w : World} {base : Nat} {A : Option Addr} {c : Nat} {l : List Nat} (h : Ri w base (.slice A l.length c) l) : Is w w.heap.size A l := by
  intro hl
  rcases h.cells with ⟨_, rfl⟩ | ⟨g, cap, e, _, hg, _, hc⟩
  · simp at hl
  · injection e with e
    exact ⟨g, 0, e, hg, fun i x hx => by rw [Nat.zero_add]; exact hc i x hx⟩
/-- a case is asked -/
theorem ask_case {w : World} {base pb B : Nat} {v u : Value} {L : List Rl} {cs : List Value} {ls : List (List Nat)} {us : List Value} {R : List (List Rl)} (hA : At w base pb v L cs) (hL : LL w B u ls us) (hI : InL L.length ls) (hR : rd L ls = R) (hG : Gl w) (hls : ∀ l ∈ R, l.length ≤ 10000) (hf : ∀ l ∈ R, ∀ a ∈ l, Fits a) {k : Nat} (hk : k < ls.length) :
    ∃ (g cap : Nat) (A : Option Addr) (c : Nat) (A1 : Option Addr) (c1 : Nat) (r : List Rl), u = .slice (some ⟨g, 0, none⟩) ls.length cap ∧ w.cell? ⟨g, k, none⟩ = some (.slice A ls[k].length c) ∧ w.cell? ⟨pb, 0, none⟩ = some (.slice A1 L.length c1) ∧ R[k]? = some r ∧
      Calls Tryd.prog 23 #[.slice A1 L.length c1, .slice A ls[k].length c] w fun e w' => ∃ b : Bool, e = .returned (.bool b) ∧ (b = true ↔ Clashes r) ∧ Below w.heap.size w w' := by
  obtain ⟨g, cap, A, c, e1, _, _, _, hc, hRi⟩ := hL.at_ hk
  obtain ⟨A1, c1, e2, hAm⟩ := hA.am
  have hbox := hA.box
  rw [e2] at hbox
  have hin : ∀ i ∈ ls[k], i < L.length := fun i hi => hI _ (List.getElem_mem hk) i hi
  obtain ⟨h1, h2⟩ := fm_at L ls[k] hin
  have hRk : R[k]? = some (ls[k].filterMap fun i => L[i]?) := by rw [← hR, rd, List.getElem?_map, List.getElem?_eq_getElem hk]; rfl
  have hm := List.mem_of_getElem? hRk
  refine ⟨g, cap, A, c, A1, c1, _, e1, hc, by simp [World.cell?, hbox], hRk, ?_⟩
  have hle := hls _ hm
  rw [h1] at hle
  exact clashes_any A1 A c1 c L ls[k] _ w hG hAm hRi.is hle h1 h2 (hf _ hm)
theorem gr_below {w w' : World} {pb B : Nat} {v v' : Value} (h : Gr pb v v' w w') (hv : v.ownBlock = none) (hB : B ≤ pb) (hs : B ≤ w.heap.size) : Below B w w' :=
  ⟨h.os, h.tape, h.output, h.size, fun q hq => h.block q (by omega) (by omega) (by rw [hv]; simp)⟩

set_option maxHeartbeats 4000000 in
theorem clash_any (x : Rl) (A : Option Addr) (c B : Nat) (w : World) (hN : NL w B A x.l) (hB : B ≤ w.heap.size) (hG : Gl w) (hsz : nsz x ≤ 1000) (hf : ∀ l ∈ casesR x, ∀ a ∈ l, Fits a) :
    Calls Tryd.prog 7 #[.agg #[.int .i64 x.k, .int .i64 x.p, .string x.f, .string x.t, .int .i64 x.n, .slice A x.l.length c]] w fun e w' => ∃ r : Bool, e = .returned (.bool r) ∧ (r = true ↔ ClashR x) ∧ Below w.heap.size w w' := by
  have hb1 : Below w.heap.size w (w.alloc (.cells #[.int .i64 x.k, .int .i64 x.p, .string x.f, .string x.t, .int .i64 x.n, .slice A x.l.length c] 24)) := (Below.refl _ _).alloc (Nat.le_refl _) _
  have h6 : C6 (w.alloc (.cells #[.int .i64 x.k, .int .i64 x.p, .string x.f, .string x.t, .int .i64 x.n, .slice A x.l.length c] 24)) w.heap.size 0 x A c := ⟨by simp, by simp, by simp, by simp, by simp, by simp⟩
  have hFew := few_nsz x (by omega)
  have HCn := Lib.hid (count_any x hFew A c (w.alloc (.cells #[.int .i64 x.k, .int .i64 x.p, .string x.f, .string x.t, .int .i64 x.n, .slice A x.l.length c] 24)) B (hN.kept (hb1.mono (by omega))) (by simp; omega) hFew.len)
  have HP : Hid (∀ w2 : World, Below (w.alloc (.cells #[.int .i64 x.k, .int .i64 x.p, .string x.f, .string x.t, .int .i64 x.n, .slice A x.l.length c] 24)).heap.size (w.alloc (.cells #[.int .i64 x.k, .int .i64 x.p, .string x.f, .string x.t, .int .i64 x.n, .slice A x.l.length c] 24)) w2 →
      Hid (Below w.heap.size w w2) ∧ (∀ o, C6 (w2.alloc o) w.heap.size 0 x A c) ∧ ((cnt x).2 = true → Hid (Calls Tryd.prog 22 #[.agg #[.int .i64 x.k, .int .i64 x.p, .string x.f, .string x.t, .int .i64 x.n, .slice A x.l.length c], .func (.func 21) #[] #[.pointer (some ⟨w2.heap.size, 0, none⟩)]] (w2.alloc (.cells #[.slice none 0 0] 22)) fun e w4 =>
        ∃ Au nu cu, e = .returned (.slice Au nu cu) ∧ w.heap.size ≤ w4.heap.size ∧ nu = (casesR x).length ∧ Hid (Below w.heap.size w w4) ∧ Hid (∀ wr, Below w4.heap.size w4 wr → ∀ k, k < (casesR x).length → ∃ g cap A' n' c' A1 n1 c1 r, (Value.slice Au nu cu) = .slice (some ⟨g, 0, none⟩) (casesR x).length cap ∧ wr.cell? ⟨g, k, none⟩ = some (.slice A' n' c') ∧ wr.cell? ⟨w2.heap.size, 0, none⟩ = some (.slice A1 n1 c1) ∧ (casesR x)[k]? = some r ∧
          Calls Tryd.prog 23 #[.slice A1 n1 c1, .slice A' n' c'] wr fun e w' => ∃ b : Bool, e = .returned (.bool b) ∧ (b = true ↔ Clashes r) ∧ Below wr.heap.size wr w')))) := Lib.hid (by
    intro w2 hb2
    have hB2 := hb1.trans (hb2.mono hb1.size)
    have hs2 : w.heap.size + 1 ≤ w2.heap.size := by have := hb2.size; simpa using this
    refine ⟨Lib.hid hB2, fun o => ?_, fun hc => Lib.hid ?_⟩
    · have hb3 := hb2.alloc (by exact hb2.size) o
      exact h6.keep fun p hp => hb3.cell (by rw [hp]; simp)
    · have hba : Below w2.heap.size w2 (w2.alloc (.cells #[.slice none 0 0] 22)) := (Below.refl _ _).alloc (Nat.le_refl _) _
      have hB3 := hB2.trans (hba.mono (by omega))
      have hAt : At (w2.alloc (.cells #[.slice none 0 0] 22)) (w2.heap.size + 1) w2.heap.size (.slice none 0 0) [] [] := ⟨heap_alloc_new _ _, World.ownsRow_nil _ _ _ _, fun i y hy => by simp at hy⟩
      refine (cases_said x A c (w2.alloc (.cells #[.slice none 0 0] 22)) B (w2.heap.size + 1) w2.heap.size (.slice none 0 0) [] [] (hN.kept (hB3.mono hB)) (by omega) (by omega) (by simp) hAt hc (by simp; omega)).mono ?_
      rintro e w4 ⟨u, rfl, ls, us, v', L', cs', g1, g2, g3, g4, g5, g6⟩
      simp only [List.nil_append] at g2 g4 g5
      obtain ⟨Au, cu, rfl⟩ := g1.form
      have hln : ls.length = (casesR x).length := by rw [← g4, rd_len]
      have hB4 : Below w.heap.size w w4 := hB3.trans (gr_below g3 rfl (by omega) hB3.size)
      refine ⟨Au, _, cu, rfl, hB4.size, hln, Lib.hid hB4, Lib.hid fun wr hbr k hk => ?_⟩
      obtain ⟨g, cap, A', c', A1, c1, r, q1, q2, q3, q4, q5⟩ := ask_case (g2.below' hbr) (g1.below hbr) g5 g4 (hG.below (hB4.trans (hbr.mono hB4.size))) (fun l hl => by have := casesR_short x l hl; omega) hf (k := k) (by omega)
      exact ⟨g, cap, A', _, c', A1, _, c1, r, by rw [← hln]; exact q1, q2, q3, q4, q5⟩)
  have HR : Hid (ClashR x ↔ ((cnt x).2 = true ∧ ∀ l ∈ casesR x, Clashes l)) := Lib.hid Iff.rfl
  generalize hCR : ClashR x = CR at *
  have hRl : (cnt x).2 = true → (casesR x).length ≤ 5000 := fun h => by rw [casesR_len x h]; have := cnt_le x; omega
  have HRl := Lib.hid hRl
  clear hRl
  generalize (cnt x).1 = ct at *
  clear hb1 h6 hFew hN hB hG hf hsz hCR
  cases hok : (cnt x).2 with
  | false =>
    rw [hok] at HCn HR
    have HR2 : Hid (¬ CR) := Lib.hid (fun h => by have := (HR.out.1 h).1; cases this)
    clear hok HR
    generalize x.k = xk at *
    generalize x.p = xp at *
    generalize x.f = xf at *
    generalize x.t = xt at *
    generalize x.n = xn at *
    generalize x.l.length = xl at *
    go_enter Tryd.func7, Tryd.ntmps7
    go_wp2_with (first
      | (go_at_call 20; refine HCn.out.mono ?_; rintro e w2 ⟨rfl, hb2⟩; obtain ⟨HB2, hc2, hc3⟩ := HP.out w2 hb2; clear hc2 hc3 hb2)
      | fail)
    go_ret
    exact ⟨false, rfl, ⟨fun h => (by cases h), fun h => absurd h HR2.out⟩, HB2.out⟩
  | true =>
    rw [hok] at HCn HR
    have HP2 := Lib.hid (fun w2 hb2 => (⟨(HP.out w2 hb2).1, (HP.out w2 hb2).2.1, (HP.out w2 hb2).2.2 hok⟩ : _ ∧ _ ∧ _))
    have hRl := HRl.out hok
    clear hok HP HRl
    generalize casesR x = R at *
    have hC6 : ∀ (W : World), C6 W w.heap.size 0 x A c → W.cell? ⟨w.heap.size, 0, none⟩ = some (.int .i64 x.k) ∧ W.cell? ⟨w.heap.size, 1, none⟩ = some (.int .i64 x.p) ∧ W.cell? ⟨w.heap.size, 2, none⟩ = some (.string x.f) ∧ W.cell? ⟨w.heap.size, 3, none⟩ = some (.string x.t) ∧ W.cell? ⟨w.heap.size, 4, none⟩ = some (.int .i64 x.n) ∧ W.cell? ⟨w.heap.size, 5, none⟩ = some (.slice A x.l.length c) := fun W h => ⟨h.c0, h.c1, h.c2, h.c3, h.c4, h.c5⟩
    have HC6 := Lib.hid hC6
    clear hC6
    go_enter Tryd.func7, Tryd.ntmps7
    go_wp2_with (first
      | (go_at_call 20; refine HCn.out.mono ?_; rintro e w2 ⟨rfl, hb2⟩; obtain ⟨HB2, hc2, HC3⟩ := HP2.out w2 hb2; obtain ⟨d0, d1, d2, d3, d4, d5⟩ := HC6.out _ (hc2 (.cells #[.slice none 0 0] 22)); have hs2 := hb2.size; clear hc2 hb2)
      | (go_at_call 22; refine HC3.out.mono ?_; rintro e w4 ⟨Au, nu, cu, rfl, hsw, hnu, HB4, HQ⟩)
      | fail)
    subst hnu
    clear HCn HP2 HC6 HB2 HC3
    go_loopw [21] (fun i wr => ∃ k : Nat, k ≤ R.length ∧ i = .int .i64 (k : Int) ∧ Hid (Below w4.heap.size w4 wr) ∧ Hid (∀ j r, j < k → R[j]? = some r → Clashes r)) (fun i _ => R.length - (RowKit.intOf i).toNat)
    case atStart => exact ⟨0, Nat.zero_le _, rfl, Lib.hid (Below.refl _ _), Lib.hid (fun j r hj => by omega)⟩
    case round =>
      clear d0 d1 d2 d3 d4 d5
      obtain ⟨k, hk, rfl, HB, HN⟩ := hrel
      have hzr := HB.out.size
      have HBw := Lib.hid (HB4.out.trans (HB.out.mono hsw))
      by_cases hlt : k < R.length
      · obtain ⟨g, cap, A', n', c', A1, n1, c1, r, q1, q2, q3, q4, q5⟩ := HQ.out wr HB.out k hlt
        injection q1 with q1 _ q1'
        subst q1 q1'
        have HC := Lib.hid q5
        have Hr := Lib.hid q4
        have hk1 : (k : Int) < (R.length : Int) := by omega
        have HFn : Hid (¬ Clashes r → ¬ CR) := Lib.hid (fun hn h => hn ((HR.out.1 h).2 r (List.mem_of_getElem? q4)))
        have HFy : Hid (Clashes r → ∀ j s, j < k + 1 → R[j]? = some s → Clashes s) := Lib.hid (fun hy j s hj hs => by
          by_cases e : j = k
          · subst e; rw [q4] at hs; injection hs with hs; rw [← hs]; exact hy
          · exact HN.out j s (by omega) hs)
        clear q4 q5 HQ Hr
        go_wp2_with (first
          | (go_at_call 23; refine HC.out.mono ?_; rintro e w5 ⟨b, rfl, hb, hb5⟩; have HB5 := Lib.hid hb5; have Hb := Lib.hid hb; clear hb5 hb; cases b)
          | fail)
        · go_ret
          exact ⟨false, rfl, ⟨fun h => (by cases h), fun h => absurd h (HFn.out (fun hc => by have := Hb.out.2 hc; cases this))⟩, HBw.out.trans (HB5.out.mono (by omega))⟩
        · go_roundw
          case rel => exact ⟨k + 1, by omega, by go_num, Lib.hid (HB.out.trans (HB5.out.mono hzr)), Lib.hid (HFy.out (Hb.out.1 (by first | exact rfl | trivial)))⟩
          case measure => simp [RowKit.intOf]; omega
      · have hk1 : ¬ (k : Int) < (R.length : Int) := by omega
        have HY : Hid CR := Lib.hid (HR.out.2 ⟨by first | exact rfl | trivial, fun l hl => by
          obtain ⟨j, hj, rfl⟩ := List.getElem_of_mem hl
          exact HN.out j _ (by omega) (List.getElem?_eq_getElem hj)⟩)
        clear HQ
        go_wp2
        go_ret
        exact .inr ⟨rfl, HY.out, HBw.out⟩
end Go.Proofs.YtehjkgfdfihfmaaDoor
