/- sense.Clash. A rule whose rules stand the other way round: it has as many cases, and clashes alike. Plain. Own slices of rules: how they lie, and what append makes of them. The law's size of a rule. The document's atoms of a rule. The document's count of a rule's cases, plain: it is the program's. The document's cases by number are the program's cases. Plain. A rule whose numbers and texts are as memory holds them. Cut from SNode. The law's examples. -/
import Derived.Test.YtbkffdfboloogaaGreatDoorMF
import Derived.Test.YtbkffdfboloogaaGreatDoorMN
import Derived.Maps.AppendAt
namespace Go.Proofs.YtbkffdfboloogaaGreatDoor
open Go.RowKit Go.Maps Go.Lib
set_option linter.unusedVariables false
set_option maxRecDepth 100000

/-- how many cases there are can be told, and all of them clash -/
def ClashR (x : Rl) : Prop := (cnt x).2 = true ∧ ∀ l ∈ casesR x, Clashes l
/-- atoms of a moderate size -/
def Fits (a : Rl) : Prop := a.f.size ≤ 4000000 ∧ a.t.size ≤ 4000000 ∧ -9223372036854775808 ≤ a.n ∧ a.n ≤ 9223372036854775807
theorem fm_at (L : List Rl) : ∀ l : List Nat, (∀ i ∈ l, i < L.length) → (l.filterMap fun i => L[i]?).length = l.length ∧ ∀ k (h : k < l.length) (h2 : k < (l.filterMap fun i => L[i]?).length), L[l[k]]? = some (l.filterMap fun i => L[i]?)[k] := by
  intro l
  induction l with
  | nil => intro _; exact ⟨rfl, fun k h => absurd h (by simp)⟩
  | cons i l ih =>
    intro h
    have hi := h i (by simp)
    obtain ⟨h1, h2⟩ := ih (fun j hj => h j (by simp [hj]))
    have e : ((i :: l).filterMap fun i => L[i]?) = L[i] :: (l.filterMap fun i => L[i]?) := by
      rw [List.filterMap_cons, List.getElem?_eq_getElem hi]
    rw [e]
    refine ⟨by simp [h1], fun k hk hk2 => ?_⟩
    match k, hk, hk2 with
    | 0, _, _ => simp
    | k + 1, hk, hk2 =>
      simp only [List.getElem_cons_succ]
      exact h2 k (by simpa using hk) _
theorem At.am {w : World} {base pb : Nat} {v : Value} {L : List Rl} {cs : List Value} (h : At w base pb v L cs) : ∃ A c, v = .slice A L.length c ∧ Am w w.heap.size A L := by
  rcases h.row.2 with ⟨h1, h2⟩ | ⟨g, cap, cur, h1, h2, h3, h4⟩
  · exact ⟨none, 0, by rw [h1, h2], fun hl => by omega⟩
  · refine ⟨_, _, h1, fun _ => ⟨g, 0, rfl, (Array.getElem?_eq_some_iff.1 h3).1, fun i a ha => ?_⟩⟩
    obtain ⟨e0, e1, e2, e3, e4, A5, c5, e5⟩ := h.each i a ha
    have hi := (List.getElem?_eq_some_iff.1 ha).1
    have hrow := h.row
    rw [h1] at hrow
    have c : ∀ j, j < 6 → w.cell? ⟨g, 0 + i * 6 + j, none⟩ = cs[6 * i + j]? := fun j hj => by
      rw [show 0 + i * 6 + j = 6 * i + j by omega]
      exact hrow.cellAt (6 * i + j) (by omega)
    exact ⟨A5, c5, (c 0 (by omega)).trans e0, (c 1 (by omega)).trans e1, (c 2 (by omega)).trans e2, (c 3 (by omega)).trans e3, (c 4 (by omega)).trans e4, (c 5 (by omega)).trans e5⟩
theorem Ri.is {w : World} {base : Nat} {A : Option Addr} {c : Nat} {l : List Nat} (h : Ri w base (.slice A l.length c) l) : Is w w.heap.size A l := by
  intro hl
  rcases h.cells with ⟨_, rfl⟩ | ⟨g, cap, e, _, hg, _, hc⟩
  · simp at hl
  · injection e with e
    exact ⟨g, 0, e, hg, fun i x hx => by rw [Nat.zero_add]; exact hc i x hx⟩
/-- a case is asked -/
theorem ask_case {w : World} {base pb B : Nat} {v u : Value} {L : List Rl} {cs : List Value} {ls : List (List Nat)} {us : List Value} {R : List (List Rl)} (hA : At w base pb v L cs) (hL : LL w B u ls us) (hI : InL L.length ls) (hR : rd L ls = R) (hG : Gl w) (hls : ∀ l ∈ R, l.length ≤ 10000) (hf : ∀ l ∈ R, ∀ a ∈ l, Fits a) {k : Nat} (hk : k < ls.length) :
    ∃ (g cap : Nat) (A : Option Addr) (c : Nat) (A1 : Option Addr) (c1 : Nat) (r : List Rl), u = .slice (some ⟨g, 0, none⟩) ls.length cap ∧ w.cell? ⟨g, k, none⟩ = some (.slice A ls[k].length c) ∧ w.cell? ⟨pb, 0, none⟩ = some (.slice A1 L.length c1) ∧ R[k]? = some r ∧
      Calls Tryz.prog 36 #[.slice A1 L.length c1, .slice A ls[k].length c] w fun e w' => ∃ b : Bool, e = .returned (.bool b) ∧ (b = true ↔ Clashes r) ∧ Below w.heap.size w w' := by
  obtain ⟨g, cap, A, c, e1, _, _, _, hc, hRi⟩ := hL.at_ hk
  obtain ⟨A1, c1, e2, hAm⟩ := hA.am
  have hbox := hA.box
  rw [e2] at hbox
  have hin : ∀ i ∈ ls[k], i < L.length := fun i hi => hI _ (List.getElem_mem hk) i hi
  obtain ⟨h1, h2⟩ := fm_at L ls[k] hin
  have hRk : R[k]? = some (ls[k].filterMap fun i => L[i]?) := by rw [← hR, rd, List.getElem?_map, List.getElem?_eq_getElem hk]; rfl
  have hm := List.mem_of_getElem? hRk
  refine ⟨g, cap, A, c, A1, c1, _, e1, hc, by simp [World.cell?, hbox], hRk, ?_⟩
  have hle := hls _ hm
  rw [h1] at hle
  exact clashes_any A1 A c1 c L ls[k] _ w hG hAm hRi.is hle h1 h2 (hf _ hm)
theorem gr_below {w w' : World} {pb B : Nat} {v v' : Value} (h : Gr pb v v' w w') (hv : v.ownBlock = none) (hB : B ≤ pb) (hs : B ≤ w.heap.size) : Below B w w' :=
  ⟨h.os, h.tape, h.output, h.size, fun q hq => h.block q (by omega) (by omega) (by rw [hv]; simp)⟩

set_option maxHeartbeats 4000000 in
theorem clash_any (x : Rl) (A : Option Addr) (c B : Nat) (w : World) (hN : NL w B A x.l) (hB : B ≤ w.heap.size) (hG : Gl w) (hsz : nsz x ≤ 1000) (hf : ∀ l ∈ casesR x, ∀ a ∈ l, Fits a) :
    Calls Tryz.prog 14 #[.agg #[.int .i64 x.k, .int .i64 x.p, .string x.f, .string x.t, .int .i64 x.n, .slice A x.l.length c]] w fun e w' => ∃ r : Bool, e = .returned (.bool r) ∧ (r = true ↔ ClashR x) ∧ Below w.heap.size w w' := by
  have hb1 : Below w.heap.size w (w.alloc (.cells #[.int .i64 x.k, .int .i64 x.p, .string x.f, .string x.t, .int .i64 x.n, .slice A x.l.length c] 33)) := (Below.refl _ _).alloc (Nat.le_refl _) _
  have h6 : C6 (w.alloc (.cells #[.int .i64 x.k, .int .i64 x.p, .string x.f, .string x.t, .int .i64 x.n, .slice A x.l.length c] 33)) w.heap.size 0 x A c := ⟨by simp, by simp, by simp, by simp, by simp, by simp⟩
  have hFew := few_nsz x (by omega)
  have HCn := Lib.hid (count_any x hFew A c (w.alloc (.cells #[.int .i64 x.k, .int .i64 x.p, .string x.f, .string x.t, .int .i64 x.n, .slice A x.l.length c] 33)) B (hN.kept (hb1.mono (by omega))) (by simp; omega) hFew.len)
  have HP : Hid (∀ w2 : World, Below (w.alloc (.cells #[.int .i64 x.k, .int .i64 x.p, .string x.f, .string x.t, .int .i64 x.n, .slice A x.l.length c] 33)).heap.size (w.alloc (.cells #[.int .i64 x.k, .int .i64 x.p, .string x.f, .string x.t, .int .i64 x.n, .slice A x.l.length c] 33)) w2 →
      Hid (Below w.heap.size w w2) ∧ (∀ o, C6 (w2.alloc o) w.heap.size 0 x A c) ∧ ((cnt x).2 = true → Hid (Calls Tryz.prog 35 #[.agg #[.int .i64 x.k, .int .i64 x.p, .string x.f, .string x.t, .int .i64 x.n, .slice A x.l.length c], .func (.func 34) #[] #[.pointer (some ⟨w2.heap.size, 0, none⟩)]] (w2.alloc (.cells #[.slice none 0 0] 31)) fun e w4 =>
        ∃ Au nu cu, e = .returned (.slice Au nu cu) ∧ w.heap.size ≤ w4.heap.size ∧ nu = (casesR x).length ∧ Hid (Below w.heap.size w w4) ∧ Hid (∀ wr, Below w4.heap.size w4 wr → ∀ k, k < (casesR x).length → ∃ g cap A' n' c' A1 n1 c1 r, (Value.slice Au nu cu) = .slice (some ⟨g, 0, none⟩) (casesR x).length cap ∧ wr.cell? ⟨g, k, none⟩ = some (.slice A' n' c') ∧ wr.cell? ⟨w2.heap.size, 0, none⟩ = some (.slice A1 n1 c1) ∧ (casesR x)[k]? = some r ∧
          Calls Tryz.prog 36 #[.slice A1 n1 c1, .slice A' n' c'] wr fun e w' => ∃ b : Bool, e = .returned (.bool b) ∧ (b = true ↔ Clashes r) ∧ Below wr.heap.size wr w')))) := Lib.hid (by
    intro w2 hb2
    have hB2 := hb1.trans (hb2.mono hb1.size)
    have hs2 : w.heap.size + 1 ≤ w2.heap.size := by have := hb2.size; simpa using this
    refine ⟨Lib.hid hB2, fun o => ?_, fun hc => Lib.hid ?_⟩
    · have hb3 := hb2.alloc (by exact hb2.size) o
      exact h6.keep fun p hp => hb3.cell (by rw [hp]; simp)
    · have hba : Below w2.heap.size w2 (w2.alloc (.cells #[.slice none 0 0] 31)) := (Below.refl _ _).alloc (Nat.le_refl _) _
      have hB3 := hB2.trans (hba.mono (by omega))
      have hAt : At (w2.alloc (.cells #[.slice none 0 0] 31)) (w2.heap.size + 1) w2.heap.size (.slice none 0 0) [] [] := ⟨heap_alloc_new _ _, World.ownsRow_nil _ _ _ _, fun i y hy => by simp at hy⟩
      refine (cases_said x A c (w2.alloc (.cells #[.slice none 0 0] 31)) B (w2.heap.size + 1) w2.heap.size (.slice none 0 0) [] [] (hN.kept (hB3.mono hB)) (by omega) (by omega) (by simp) hAt hc (by simp; omega)).mono ?_
      rintro e w4 ⟨u, rfl, ls, us, v', L', cs', g1, g2, g3, g4, g5, g6⟩
      simp only [List.nil_append] at g2 g4 g5
      obtain ⟨Au, cu, rfl⟩ := g1.form
      have hln : ls.length = (casesR x).length := by rw [← g4, rd_len]
      have hB4 : Below w.heap.size w w4 := hB3.trans (gr_below g3 rfl (by omega) hB3.size)
      refine ⟨Au, _, cu, rfl, hB4.size, hln, Lib.hid hB4, Lib.hid fun wr hbr k hk => ?_⟩
      obtain ⟨g, cap, A', c', A1, c1, r, q1, q2, q3, q4, q5⟩ := ask_case (g2.below' hbr) (g1.below hbr) g5 g4 (hG.below (hB4.trans (hbr.mono hB4.size))) (fun l hl => by have := casesR_short x l hl; omega) hf (k := k) (by omega)
      exact ⟨g, cap, A', _, c', A1, _, c1, r, by rw [← hln]; exact q1, q2, q3, q4, q5⟩)
  have HR : Hid (ClashR x ↔ ((cnt x).2 = true ∧ ∀ l ∈ casesR x, Clashes l)) := Lib.hid Iff.rfl
  generalize hCR : ClashR x = CR at *
  have hRl : (cnt x).2 = true → (casesR x).length ≤ 5000 := fun h => by rw [casesR_len x h]; have := cnt_le x; omega
  have HRl := Lib.hid hRl
  clear hRl
  generalize (cnt x).1 = ct at *
  clear hb1 h6 hFew hN hB hG hf hsz hCR
  cases hok : (cnt x).2 with
  | false =>
    rw [hok] at HCn HR
    have HR2 : Hid (¬ CR) := Lib.hid (fun h => by have := (HR.out.1 h).1; cases this)
    clear hok HR
    generalize x.k = xk at *
    generalize x.p = xp at *
    generalize x.f = xf at *
    generalize x.t = xt at *
    generalize x.n = xn at *
    generalize x.l.length = xl at *
    go_enter Tryz.func14, Tryz.ntmps14
    go_wp2_with (first
      | (go_at_call 33; refine HCn.out.mono ?_; rintro e w2 ⟨rfl, hb2⟩; obtain ⟨HB2, hc2, hc3⟩ := HP.out w2 hb2; clear hc2 hc3 hb2)
      | fail)
    go_ret
    exact ⟨false, rfl, ⟨fun h => (by cases h), fun h => absurd h HR2.out⟩, HB2.out⟩
  | true =>
    rw [hok] at HCn HR
    have HP2 := Lib.hid (fun w2 hb2 => (⟨(HP.out w2 hb2).1, (HP.out w2 hb2).2.1, (HP.out w2 hb2).2.2 hok⟩ : _ ∧ _ ∧ _))
    have hRl := HRl.out hok
    clear hok HP HRl
    generalize casesR x = R at *
    have hC6 : ∀ (W : World), C6 W w.heap.size 0 x A c → W.cell? ⟨w.heap.size, 0, none⟩ = some (.int .i64 x.k) ∧ W.cell? ⟨w.heap.size, 1, none⟩ = some (.int .i64 x.p) ∧ W.cell? ⟨w.heap.size, 2, none⟩ = some (.string x.f) ∧ W.cell? ⟨w.heap.size, 3, none⟩ = some (.string x.t) ∧ W.cell? ⟨w.heap.size, 4, none⟩ = some (.int .i64 x.n) ∧ W.cell? ⟨w.heap.size, 5, none⟩ = some (.slice A x.l.length c) := fun W h => ⟨h.c0, h.c1, h.c2, h.c3, h.c4, h.c5⟩
    have HC6 := Lib.hid hC6
    clear hC6
    go_enter Tryz.func14, Tryz.ntmps14
    go_wp2_with (first
      | (go_at_call 33; refine HCn.out.mono ?_; rintro e w2 ⟨rfl, hb2⟩; obtain ⟨HB2, hc2, HC3⟩ := HP2.out w2 hb2; obtain ⟨d0, d1, d2, d3, d4, d5⟩ := HC6.out _ (hc2 (.cells #[.slice none 0 0] 31)); have hs2 := hb2.size; clear hc2 hb2)
      | (go_at_call 35; refine HC3.out.mono ?_; rintro e w4 ⟨Au, nu, cu, rfl, hsw, hnu, HB4, HQ⟩)
      | fail)
    subst hnu
    clear HCn HP2 HC6 HB2 HC3
    go_loopw [21] (fun i wr => ∃ k : Nat, k ≤ R.length ∧ i = .int .i64 (k : Int) ∧ Hid (Below w4.heap.size w4 wr) ∧ Hid (∀ j r, j < k → R[j]? = some r → Clashes r)) (fun i _ => R.length - (RowKit.intOf i).toNat)
    case atStart => exact ⟨0, Nat.zero_le _, rfl, Lib.hid (Below.refl _ _), Lib.hid (fun j r hj => by omega)⟩
    case round =>
      clear d0 d1 d2 d3 d4 d5
      obtain ⟨k, hk, rfl, HB, HN⟩ := hrel
      have hzr := HB.out.size
      have HBw := Lib.hid (HB4.out.trans (HB.out.mono hsw))
      by_cases hlt : k < R.length
      · obtain ⟨g, cap, A', n', c', A1, n1, c1, r, q1, q2, q3, q4, q5⟩ := HQ.out wr HB.out k hlt
        injection q1 with q1 _ q1'
        subst q1 q1'
        have HC := Lib.hid q5
        have Hr := Lib.hid q4
        have hk1 : (k : Int) < (R.length : Int) := by omega
        have HFn : Hid (¬ Clashes r → ¬ CR) := Lib.hid (fun hn h => hn ((HR.out.1 h).2 r (List.mem_of_getElem? q4)))
        have HFy : Hid (Clashes r → ∀ j s, j < k + 1 → R[j]? = some s → Clashes s) := Lib.hid (fun hy j s hj hs => by
          by_cases e : j = k
          · subst e; rw [q4] at hs; injection hs with hs; rw [← hs]; exact hy
          · exact HN.out j s (by omega) hs)
        clear q4 q5 HQ Hr
        go_wp2_with (first
          | (go_at_call 36; refine HC.out.mono ?_; rintro e w5 ⟨b, rfl, hb, hb5⟩; have HB5 := Lib.hid hb5; have Hb := Lib.hid hb; clear hb5 hb; cases b)
          | fail)
        · go_ret
          exact ⟨false, rfl, ⟨fun h => (by cases h), fun h => absurd h (HFn.out (fun hc => by have := Hb.out.2 hc; cases this))⟩, HBw.out.trans (HB5.out.mono (by omega))⟩
        · go_roundw
          case rel => exact ⟨k + 1, by omega, by go_num, Lib.hid (HB.out.trans (HB5.out.mono hzr)), Lib.hid (HFy.out (Hb.out.1 (by first | exact rfl | trivial)))⟩
          case measure => simp [RowKit.intOf]; omega
      · have hk1 : ¬ (k : Int) < (R.length : Int) := by omega
        have HY : Hid CR := Lib.hid (HR.out.2 ⟨by first | exact rfl | trivial, fun l hl => by
          obtain ⟨j, hj, rfl⟩ := List.getElem_of_mem hl
          exact HN.out j _ (by omega) (List.getElem?_eq_getElem hj)⟩)
        clear HQ
        go_wp2
        go_ret
        exact .inr ⟨rfl, HY.out, HBw.out⟩
end Go.Proofs.YtbkffdfboloogaaGreatDoor
namespace Go.Proofs.YtbkffdfboloogaaGreatDoor
set_option linter.unusedVariables false

mutual
/-- the rules the other way round, all through -/
def turnR : Rl → Rl
  | ⟨k, p, f, t, n, l⟩ => ⟨k, p, f, t, n, turnL l⟩
def turnL : List Rl → List Rl
  | [] => []
  | x :: l => turnL l ++ [turnR x]
end
mutual
/-- the atoms of a rule, in order -/
def atomsR : Rl → List Rl
  | ⟨k, p, f, t, n, l⟩ => if atomB k = true then [⟨k, p, f, t, n, l⟩] else if 0 ≤ k ∧ k ≤ 2 then atomsL l else []
def atomsL : List Rl → List Rl
  | [] => []
  | x :: l => atomsR x ++ atomsL l
end
theorem turnL_eq (l : List Rl) : turnL l = (l.map turnR).reverse := by
  induction l with
  | nil => rfl
  | cons x l ih => rw [turnL, ih, List.map_cons, List.reverse_cons]
theorem turn_k (x : Rl) : (turnR x).k = x.k := by obtain ⟨k, p, f, t, n, l⟩ := x; rw [turnR]; rfl
theorem turn_p (x : Rl) : (turnR x).p = x.p := by obtain ⟨k, p, f, t, n, l⟩ := x; rw [turnR]; rfl
theorem turn_f (x : Rl) : (turnR x).f = x.f := by obtain ⟨k, p, f, t, n, l⟩ := x; rw [turnR]; rfl
theorem turn_t (x : Rl) : (turnR x).t = x.t := by obtain ⟨k, p, f, t, n, l⟩ := x; rw [turnR]; rfl
theorem turn_n (x : Rl) : (turnR x).n = x.n := by obtain ⟨k, p, f, t, n, l⟩ := x; rw [turnR]; rfl
theorem turn_l (x : Rl) : (turnR x).l = turnL x.l := by obtain ⟨k, p, f, t, n, l⟩ := x; rw [turnR]; rfl
theorem mem_turnL {l : List Rl} {y : Rl} : y ∈ turnL l ↔ ∃ x ∈ l, turnR x = y := by
  rw [turnL_eq, List.mem_reverse, List.mem_map]
theorem turn_turn (N : Nat) : ∀ x, SizeOf.sizeOf x ≤ N → turnR (turnR x) = x := by
  induction N with
  | zero =>
    intro x h
    obtain ⟨k, p, f, t, n, l⟩ := x
    simp at h
  | succ N ih =>
    intro x h
    have hk : ∀ y ∈ x.l, turnR (turnR y) = y := fun y hy => ih y (by have := Rl.lt_mem hy; omega)
    obtain ⟨k, p, f, t, n, l⟩ := x
    rw [turnR, turnR]
    have : turnL (turnL l) = l := by
      rw [turnL_eq, turnL_eq, List.map_reverse, List.reverse_reverse, List.map_map]
      refine (List.map_congr_left fun y hy => ?_).trans (List.map_id l)
      exact hk y hy
    rw [this]
theorem turn_twice (x : Rl) : turnR (turnR x) = x := turn_turn _ x (Nat.le_refl _)
theorem nsz_turn' (N : Nat) : ∀ x, SizeOf.sizeOf x ≤ N → nsz (turnR x) = nsz x := by
  induction N with
  | zero =>
    intro x h
    obtain ⟨k, p, f, t, n, l⟩ := x
    simp at h
  | succ N ih =>
    intro x h
    have hk : ∀ y ∈ x.l, nsz (turnR y) = nsz y := fun y hy => ih y (by have := Rl.lt_mem hy; omega)
    rw [nsz_l, nsz_l, turn_l]
    have : ∀ l : List Rl, (∀ y ∈ l, nsz (turnR y) = nsz y) → nszL (turnL l) = nszL l := by
      intro l
      induction l with
      | nil => intro _; rfl
      | cons y l il =>
        intro h
        rw [turnL, nszL_append, il (fun z hz => h z (by simp [hz])), nszL, nszL, nszL, h y (by simp)]
        omega
    rw [this _ hk]
theorem nsz_turn (x : Rl) : nsz (turnR x) = nsz x := nsz_turn' _ x (Nat.le_refl _)

/-! how many cases there are -/
def pstep (c : Rl → Nat × Bool) (s : Option (Nat × Bool)) (x : Rl) : Option (Nat × Bool) := match s with
  | none => none
  | some (t, z) => if (c x).2 = false then none else if (c x).1 = 0 then some (t, true) else some (min (t * (c x).1) 4097, z)
def pfin : Option (Nat × Bool) → Nat × Bool
  | none => (0, false)
  | some (t, z) => if z then (0, true) else (t, decide (t ≤ 4096))
theorem foldl_none (c : Rl → Nat × Bool) (l : List Rl) : l.foldl (pstep c) none = none := by
  induction l with
  | nil => rfl
  | cons x l ih => exact ih
theorem prodL_fold (l : List Rl) : ∀ t z, prodL l t z = pfin (l.foldl (pstep cnt) (some (t, z))) := by
  induction l with
  | nil => intro t z; rw [prodL]; rfl
  | cons x l ih =>
    intro t z
    rw [prodL, List.foldl_cons]
    simp only [pstep]
    split
    · rw [foldl_none]; rfl
    · split
      · exact ih _ _
      · exact ih _ _
theorem min_twice (t a b : Nat) (hb : 0 < b) : min (min (t * a) 4097 * b) 4097 = min (t * (a * b)) 4097 := by
  rw [← Nat.mul_assoc]
  by_cases h : t * a ≤ 4097
  · rw [Nat.min_eq_left h]
  · have h1 : 4097 ≤ t * a := by omega
    have h2 : 4097 ≤ t * a * b := Nat.le_trans h1 (Nat.le_mul_of_pos_right _ hb)
    rw [Nat.min_eq_right h1, Nat.min_eq_right h2, Nat.min_eq_right (Nat.le_mul_of_pos_right _ hb)]
theorem ps_no (c : Rl → Nat × Bool) (s : Nat × Bool) (x : Rl) (h : (c x).2 = false) : pstep c (some s) x = none := by
  obtain ⟨t, z⟩ := s
  simp only [pstep]
  rw [if_pos h]
theorem ps_zero (c : Rl → Nat × Bool) (s : Nat × Bool) (x : Rl) (h : ¬ (c x).2 = false) (h0 : (c x).1 = 0) : pstep c (some s) x = some (s.1, true) := by
  obtain ⟨t, z⟩ := s
  simp only [pstep]
  rw [if_neg h, if_pos h0]
theorem ps_more (c : Rl → Nat × Bool) (s : Nat × Bool) (x : Rl) (h : ¬ (c x).2 = false) (h0 : ¬ (c x).1 = 0) : pstep c (some s) x = some (min (s.1 * (c x).1) 4097, s.2) := by
  obtain ⟨t, z⟩ := s
  simp only [pstep]
  rw [if_neg h, if_neg h0]
theorem pstep_comm (c : Rl → Nat × Bool) (s : Option (Nat × Bool)) (x y : Rl) : pstep c (pstep c s x) y = pstep c (pstep c s y) x := by
  cases s with
  | none => rfl
  | some s =>
    by_cases hx : (c x).2 = false
    · rw [ps_no c s x hx]
      by_cases hy : (c y).2 = false
      · rw [ps_no c s y hy]; rfl
      · by_cases y0 : (c y).1 = 0
        · rw [ps_zero c s y hy y0, ps_no c _ x hx]; rfl
        · rw [ps_more c s y hy y0, ps_no c _ x hx]; rfl
    · by_cases hy : (c y).2 = false
      · rw [ps_no c s y hy]
        by_cases x0 : (c x).1 = 0
        · rw [ps_zero c s x hx x0, ps_no c _ y hy]; rfl
        · rw [ps_more c s x hx x0, ps_no c _ y hy]; rfl
      · by_cases x0 : (c x).1 = 0
        · rw [ps_zero c s x hx x0]
          by_cases y0 : (c y).1 = 0
          · rw [ps_zero c s y hy y0, ps_zero c _ y hy y0, ps_zero c _ x hx x0]
          · rw [ps_more c s y hy y0, ps_more c _ y hy y0, ps_zero c _ x hx x0]
        · rw [ps_more c s x hx x0]
          by_cases y0 : (c y).1 = 0
          · rw [ps_zero c s y hy y0, ps_zero c _ y hy y0, ps_more c _ x hx x0]
          · rw [ps_more c s y hy y0, ps_more c _ y hy y0, ps_more c _ x hx x0]
            simp only
            rw [min_twice _ _ _ (by omega), min_twice _ _ _ (by omega), Nat.mul_comm (c x).1]
def sstep (c : Rl → Nat × Bool) (s : Option Nat) (x : Rl) : Option Nat := match s with
  | none => none
  | some t => if (c x).2 = false ∨ 4096 < t + (c x).1 then none else some (t + (c x).1)
def sfin : Option Nat → Nat × Bool
  | none => (0, false)
  | some t => (t, true)
theorem foldl_none' (c : Rl → Nat × Bool) (l : List Rl) : l.foldl (sstep c) none = none := by
  induction l with
  | nil => rfl
  | cons x l ih => exact ih
theorem sumL_fold (l : List Rl) : ∀ t, sumL l t = sfin (l.foldl (sstep cnt) (some t)) := by
  induction l with
  | nil => intro t; rw [sumL]; rfl
  | cons x l ih =>
    intro t
    rw [sumL, List.foldl_cons]
    simp only [sstep]
    split
    · rw [foldl_none']; rfl
    · exact ih _
theorem sstep_comm (c : Rl → Nat × Bool) (s : Option Nat) (x y : Rl) : sstep c (sstep c s x) y = sstep c (sstep c s y) x := by
  cases s with
  | none => rfl
  | some t =>
    simp only [sstep]
    by_cases hx : (c x).2 = false ∨ 4096 < t + (c x).1
    · rw [if_pos hx]
      by_cases hy : (c y).2 = false ∨ 4096 < t + (c y).1
      · rw [if_pos hy]
      · rw [if_neg hy]
        simp only
        rw [if_pos (by rcases hx with h | h; exact .inl h; exact .inr (by omega))]
    · rw [if_neg hx]
      by_cases hy : (c y).2 = false ∨ 4096 < t + (c y).1
      · rw [if_pos hy]
        simp only
        rw [if_pos (by rcases hy with h | h; exact .inl h; exact .inr (by omega))]
      · rw [if_neg hy]
        simp only
        by_cases h : 4096 < t + (c x).1 + (c y).1
        · rw [if_pos (.inr h), if_pos (.inr (by omega))]
        · rw [if_neg (fun h' => h'.elim (fun e => hy (.inl e)) h), if_neg (fun h' => h'.elim (fun e => hx (.inl e)) (by omega))]
          congr 1
          omega
theorem fold_turn {σ : Type} (st : σ → Rl → σ) (hc : ∀ s x y, st (st s x) y = st (st s y) x) (l : List Rl) (he : ∀ x ∈ l, ∀ s, st s (turnR x) = st s x) (s : σ) : (turnL l).foldl st s = l.foldl st s := by
  rw [turnL_eq]
  rw [(List.reverse_perm (l.map turnR)).foldl_eq' (fun x _ y _ z => hc z x y) s]
  rw [List.foldl_map]
  induction l generalizing s with
  | nil => rfl
  | cons x l ih =>
    rw [List.foldl_cons, List.foldl_cons, he x (by simp), ih (fun y hy => he y (by simp [hy]))]
theorem cnt_turn' (N : Nat) : ∀ x, SizeOf.sizeOf x ≤ N → cnt (turnR x) = cnt x := by
  induction N with
  | zero =>
    intro x h
    obtain ⟨k, p, f, t, n, l⟩ := x
    simp at h
  | succ N ih =>
    intro x h
    have hk : ∀ y ∈ x.l, cnt (turnR y) = cnt y := fun y hy => ih y (by have := Rl.lt_mem hy; omega)
    have e := turn_k x
    by_cases h0 : x.k = 0
    · rw [cnt_0 _ (by rw [e]; exact h0), cnt_0 x h0, turn_l, prodL_fold, prodL_fold, fold_turn _ (pstep_comm cnt) _ (fun y hy s => ?_)]
      cases s with
      | none => rfl
      | some s => simp only [pstep, hk y hy]
    · by_cases h1 : x.k = 1
      · rw [cnt_1 _ (by rw [e]; exact h1), cnt_1 x h1, turn_l, sumL_fold, sumL_fold, fold_turn _ (sstep_comm cnt) _ (fun y hy s => ?_)]
        cases s with
        | none => rfl
        | some s => simp only [sstep, hk y hy]
      · rw [cnt_2 _ (by rw [e]; exact h0) (by rw [e]; exact h1), cnt_2 x h0 h1]
theorem cnt_turn (x : Rl) : cnt (turnR x) = cnt x := cnt_turn' _ x (Nat.le_refl _)

/-! which cases there are -/
def Sm (a b : Rl) : Prop := a.k = b.k ∧ a.f = b.f ∧ a.t = b.t ∧ a.n = b.n
theorem Sm.refl (a : Rl) : Sm a a := ⟨rfl, rfl, rfl, rfl⟩
theorem sm_turn (x : Rl) : Sm x (turnR x) := ⟨(turn_k x).symm, (turn_f x).symm, (turn_t x).symm, (turn_n x).symm⟩
theorem Sm.odds {a b c d : Rl} (h : Sm a c) (k : Sm b d) (ho : Odds a b) : Odds c d := by
  obtain ⟨a1, a2, a3, a4⟩ := h
  obtain ⟨b1, b2, b3, b4⟩ := k
  obtain ⟨e, ho⟩ := ho
  refine ⟨by rw [← a2, ← b2]; exact e, ?_⟩
  rw [← a1, ← b1, ← a4, ← b4, ← a3, ← b3]
  have : agB a.t d = agB a.t b := by unfold agB; rw [b1, b3, b4]
  rw [this]
  exact ho
/-- each atom of the one is in the other -/
def Sub (l m : List Rl) : Prop := ∀ a ∈ l, ∃ b ∈ m, Sm a b
theorem Sub.clashes {l m : List Rl} (h : Sub l m) (hc : Clashes l) : Clashes m := by
  obtain ⟨a, ha, b, hb, ho⟩ := hc
  obtain ⟨c, hc, h1⟩ := h a ha
  obtain ⟨d, hd, h2⟩ := h b hb
  exact ⟨c, hc, d, hd, h1.odds h2 ho⟩
theorem mem_anyR {L : List Rl} {m : List Rl} : m ∈ anyR L ↔ ∃ x ∈ L, m ∈ casesR x := by
  induction L with
  | nil => rw [anyR]; simp
  | cons x L ih => rw [anyR, List.mem_append, ih]; simp
theorem all_parts (L : List Rl) : ∀ (a : List (List Rl)) (m : List Rl), m ∈ allR L a → (∃ p ∈ a, ∀ u ∈ p, u ∈ m) ∧ (∀ y ∈ L, ∃ c ∈ casesR y, ∀ u ∈ c, u ∈ m) := by
  induction L with
  | nil => intro a m h; rw [allR] at h; exact ⟨⟨m, h, fun u hu => hu⟩, by simp⟩
  | cons x L ih =>
    intro a m h
    rw [allR] at h
    obtain ⟨⟨p, hp, hpm⟩, h2⟩ := ih _ m h
    obtain ⟨p0, hp0, hp⟩ := List.mem_flatMap.1 hp
    obtain ⟨q, hq, rfl⟩ := List.mem_map.1 hp
    refine ⟨⟨p0, hp0, fun u hu => hpm u (by simp [hu])⟩, fun y hy => ?_⟩
    rcases List.mem_cons.1 hy with rfl | hy
    · exact ⟨q, hq, fun u hu => hpm u (by simp [hu])⟩
    · exact h2 y hy
theorem all_make (m : List Rl) (L : List Rl) : ∀ a : List (List Rl), (∃ p ∈ a, Sub p m) → (∀ x ∈ L, ∃ c ∈ casesR x, Sub c m) → ∃ l ∈ allR L a, Sub l m := by
  induction L with
  | nil => intro a h _; rw [allR]; exact h
  | cons x L ih =>
    intro a h hx
    rw [allR]
    obtain ⟨p, hp, hs⟩ := h
    obtain ⟨c, hc, hcs⟩ := hx x (by simp)
    refine ih _ ⟨p ++ c, List.mem_flatMap.2 ⟨p, hp, List.mem_map.2 ⟨c, hc, rfl⟩⟩, fun u hu => ?_⟩ (fun y hy => hx y (by simp [hy]))
    rcases List.mem_append.1 hu with hu | hu
    · exact hs u hu
    · exact hcs u hu
theorem case_turn (N : Nat) : ∀ x, SizeOf.sizeOf x ≤ N → ∀ m ∈ casesR (turnR x), ∃ l ∈ casesR x, Sub l m := by
  induction N with
  | zero =>
    intro x h
    obtain ⟨k, p, f, t, n, l⟩ := x
    simp at h
  | succ N ih =>
    intro x h m hm
    have hk : ∀ y ∈ x.l, ∀ m ∈ casesR (turnR y), ∃ l ∈ casesR y, Sub l m := fun y hy => ih y (by have := Rl.lt_mem hy; omega)
    have e := turn_k x
    cases ha : atomB x.k with
    | true =>
      rw [cases_a _ (by rw [e]; exact ha)] at hm
      simp at hm
      subst hm
      exact ⟨[x], by rw [cases_a x ha]; simp, fun a ha => ⟨turnR x, by simp, by simp at ha; subst ha; exact sm_turn a⟩⟩
    | false =>
      by_cases h0 : x.k = 0
      · rw [cases_0 _ (by rw [e]; exact h0), turn_l] at hm
        rw [cases_0 x h0]
        obtain ⟨_, h2⟩ := all_parts _ _ _ hm
        refine all_make m x.l [[]] ⟨[], by simp, fun a ha => by cases ha⟩ fun y hy => ?_
        obtain ⟨c, hc, hcm⟩ := h2 (turnR y) (mem_turnL.2 ⟨y, hy, rfl⟩)
        obtain ⟨l, hl, hs⟩ := hk y hy c hc
        exact ⟨l, hl, fun a ha => by obtain ⟨b, hb, hsm⟩ := hs a ha; exact ⟨b, hcm b hb, hsm⟩⟩
      · by_cases h1 : x.k = 1
        · rw [cases_1 _ (by rw [e]; exact h1), turn_l] at hm
          rw [cases_1 x h1]
          obtain ⟨y, hy, hm⟩ := mem_anyR.1 hm
          obtain ⟨z, hz, rfl⟩ := mem_turnL.1 hy
          obtain ⟨l, hl, hs⟩ := hk z hz m hm
          exact ⟨l, mem_anyR.2 ⟨z, hz, hl⟩, hs⟩
        · rw [cases_2 _ (by rw [e]; exact ha) (by rw [e]; exact h0) (by rw [e]; exact h1)] at hm
          simp at hm
          subst hm
          exact ⟨[], by rw [cases_2 x ha h0 h1]; simp, fun a ha => by cases ha⟩
theorem clash_half (x : Rl) (h : ClashR x) : ClashR (turnR x) := by
  refine ⟨by rw [cnt_turn]; exact h.1, fun m hm => ?_⟩
  obtain ⟨l, hl, hs⟩ := case_turn _ x (Nat.le_refl _) m hm
  exact hs.clashes (h.2 l hl)
/-- whichever way the rules stand, they clash alike -/
theorem clash_turn (x : Rl) : ClashR (turnR x) ↔ ClashR x :=
  ⟨fun h => by have := clash_half _ h; rwa [turn_twice] at this, clash_half x⟩

/-! atoms -/
theorem atoms_a (x : Rl) (h : atomB x.k = true) : atomsR x = [x] := by
  obtain ⟨k, p, f, t, n, l⟩ := x
  have h' : atomB k = true := h
  rw [atomsR, if_pos h']
theorem atoms_l (x : Rl) (h : 0 ≤ x.k ∧ x.k ≤ 2) : atomsR x = atomsL x.l := by
  obtain ⟨k, p, f, t, n, l⟩ := x
  have h' : 0 ≤ k ∧ k ≤ 2 := h
  have ha : ¬ atomB k = true := by
    intro h
    simp [atomB] at h
    omega
  rw [atomsR, if_neg ha, if_pos h']
  rfl
theorem atoms_o (x : Rl) (ha : atomB x.k = false) (h : ¬ (0 ≤ x.k ∧ x.k ≤ 2)) : atomsR x = [] := by
  obtain ⟨k, p, f, t, n, l⟩ := x
  have h' : ¬ (0 ≤ k ∧ k ≤ 2) := h
  have ha' : ¬ atomB k = true := by rw [show atomB k = false from ha]; simp
  rw [atomsR, if_neg ha', if_neg h']
theorem mem_atomsL {L : List Rl} {a : Rl} : a ∈ atomsL L ↔ ∃ x ∈ L, a ∈ atomsR x := by
  induction L with
  | nil => rw [atomsL]; simp
  | cons x L ih => rw [atomsL, List.mem_append, ih]; simp
theorem case_atoms (N : Nat) : ∀ x, SizeOf.sizeOf x ≤ N → ∀ l ∈ casesR x, ∀ a ∈ l, a ∈ atomsR x := by
  induction N with
  | zero =>
    intro x h
    obtain ⟨k, p, f, t, n, l⟩ := x
    simp at h
  | succ N ih =>
    intro x h l hl a ha
    have hk : ∀ y ∈ x.l, ∀ l ∈ casesR y, ∀ a ∈ l, a ∈ atomsR y := fun y hy => ih y (by have := Rl.lt_mem hy; omega)
    cases hat : atomB x.k with
    | true =>
      rw [cases_a x hat] at hl
      simp at hl
      subst hl
      rw [atoms_a x hat]
      exact ha
    | false =>
      by_cases h0 : x.k = 0
      · rw [cases_0 x h0] at hl
        rw [atoms_l x (by omega)]
        have key : ∀ (L : List Rl) (acc : List (List Rl)), (∀ y ∈ L, ∀ l ∈ casesR y, ∀ a ∈ l, a ∈ atomsR y) → ∀ l ∈ allR L acc, ∀ a ∈ l, (∃ p ∈ acc, a ∈ p) ∨ a ∈ atomsL L := by
          intro L
          induction L with
          | nil => intro acc _ l hl a ha; rw [allR] at hl; exact .inl ⟨l, hl, ha⟩
          | cons y L iL =>
            intro acc hy l hl a ha
            rw [allR] at hl
            rcases iL _ (fun z hz => hy z (by simp [hz])) l hl a ha with ⟨p, hp, hap⟩ | h
            · obtain ⟨p0, hp0, hp⟩ := List.mem_flatMap.1 hp
              obtain ⟨q, hq, rfl⟩ := List.mem_map.1 hp
              rcases List.mem_append.1 hap with h | h
              · exact .inl ⟨p0, hp0, h⟩
              · exact .inr (mem_atomsL.2 ⟨y, by simp, hy y (by simp) q hq a h⟩)
            · obtain ⟨z, hz, h⟩ := mem_atomsL.1 h
              exact .inr (mem_atomsL.2 ⟨z, by simp [hz], h⟩)
        rcases key x.l [[]] hk l hl a ha with ⟨p, hp, h⟩ | h
        · simp at hp
          subst hp
          cases h
        · exact h
      · by_cases h1 : x.k = 1
        · rw [cases_1 x h1] at hl
          rw [atoms_l x (by omega)]
          obtain ⟨y, hy, hl⟩ := mem_anyR.1 hl
          exact mem_atomsL.2 ⟨y, hy, hk y hy l hl a ha⟩
        · rw [cases_2 x hat h0 h1] at hl
          simp at hl
          subst hl
          cases ha
theorem atoms_turn (N : Nat) : ∀ x, SizeOf.sizeOf x ≤ N → ∀ b ∈ atomsR (turnR x), ∃ a ∈ atomsR x, Sm a b := by
  induction N with
  | zero =>
    intro x h
    obtain ⟨k, p, f, t, n, l⟩ := x
    simp at h
  | succ N ih =>
    intro x h b hb
    have hk : ∀ y ∈ x.l, ∀ b ∈ atomsR (turnR y), ∃ a ∈ atomsR y, Sm a b := fun y hy => ih y (by have := Rl.lt_mem hy; omega)
    have e := turn_k x
    cases hat : atomB x.k with
    | true =>
      rw [atoms_a _ (by rw [e]; exact hat)] at hb
      simp at hb
      subst hb
      exact ⟨x, by rw [atoms_a x hat]; simp, sm_turn x⟩
    | false =>
      by_cases h2 : 0 ≤ x.k ∧ x.k ≤ 2
      · rw [atoms_l _ (by rw [e]; exact h2), turn_l] at hb
        rw [atoms_l x h2]
        obtain ⟨y, hy, hb⟩ := mem_atomsL.1 hb
        obtain ⟨z, hz, rfl⟩ := mem_turnL.1 hy
        obtain ⟨a, ha, hs⟩ := hk z hz b hb
        exact ⟨a, mem_atomsL.2 ⟨z, hz, ha⟩, hs⟩
      · rw [atoms_o _ (by rw [e]; exact hat) (by rw [e]; exact h2)] at hb
        cases hb
theorem Sm.fits {a b : Rl} (h : Sm a b) (hf : Fits a) : Fits b := by
  obtain ⟨_, h2, h3, h4⟩ := h
  unfold Fits at hf ⊢
  rw [← h2, ← h3, ← h4]
  exact hf
theorem fits_cases {x : Rl} (h : ∀ a ∈ atomsR x, Fits a) : ∀ l ∈ casesR x, ∀ a ∈ l, Fits a := fun l hl a ha => h a (case_atoms _ x (Nat.le_refl _) l hl a ha)
theorem fits_turn {x : Rl} (h : ∀ a ∈ atomsR x, Fits a) : ∀ l ∈ casesR (turnR x), ∀ a ∈ l, Fits a := fits_cases fun b hb => by
  obtain ⟨a, ha, hs⟩ := atoms_turn _ x (Nat.le_refl _) b hb
  exact hs.fits (h a ha)
end Go.Proofs.YtbkffdfboloogaaGreatDoor
namespace Go.Proofs.YtbkffdfboloogaaGreatDoor
open Go.RowKit Go.Maps Go.Lib
set_option linter.unusedVariables false
set_option maxRecDepth 100000

/-- v is a slice of its own, in a block from base on, of the rules L -/
structure Ar (w : World) (base : Nat) (v : Value) (L : List Rl) (cs : List Value) : Prop where
  row : w.ownsRow base 33 6 v L.length cs
  each : ∀ (i : Nat) (x : Rl), L[i]? = some x → cs[6 * i]? = some (.int .i64 x.k) ∧ cs[6 * i + 1]? = some (.int .i64 x.p) ∧ cs[6 * i + 2]? = some (.string x.f) ∧ cs[6 * i + 3]? = some (.string x.t) ∧ cs[6 * i + 4]? = some (.int .i64 x.n) ∧ ∃ A c, cs[6 * i + 5]? = some (.slice A x.l.length c)
/-- the cells of a rule -/
def six (x : Rl) (A : Option Addr) (c : Nat) : List Value := [.int .i64 x.k, .int .i64 x.p, .string x.f, .string x.t, .int .i64 x.n, .slice A x.l.length c]
theorem six_one (x : Rl) (A : Option Addr) (c : Nat) : ∀ u ∈ six x A c, u.oneCell' = true := by
  intro u hu
  simp only [six, List.mem_cons, List.not_mem_nil, or_false] at hu
  rcases hu with rfl | rfl | rfl | rfl | rfl | rfl <;> rfl
section
variable {w w' : World} {base : Nat} {v : Value} {L : List Rl} {cs : List Value}
theorem Ar.lt (h : Ar w base v L cs) {q : Nat} (hq : v.ownBlock = some q) : base ≤ q ∧ q < w.heap.size := by
  rcases h.row.2 with ⟨h1, _⟩ | ⟨g, cap, cur, h1, h2, h3, _⟩
  · rw [h1] at hq; simp [Value.ownBlock] at hq
  · rw [h1] at hq
    simp [Value.ownBlock] at hq
    subst hq
    exact ⟨h2, (Array.getElem?_eq_some_iff.1 h3).1⟩
theorem Ar.keep (h : Ar w base v L cs) (hk : ∀ q, v.ownBlock = some q → w'.heap[q]? = w.heap[q]?) : Ar w' base v L cs := by
  refine ⟨⟨h.row.1, ?_⟩, h.each⟩
  rcases h.row.2 with h0 | ⟨g, cap, cur, h1, h2, h3, h4⟩
  · exact .inl h0
  · exact .inr ⟨g, cap, cur, h1, h2, (hk g (by rw [h1]; simp [Value.ownBlock])).trans h3, h4⟩
theorem Ar.below (h : Ar w base v L cs) (hb : Below w.heap.size w w') : Ar w' base v L cs := h.keep fun q hq => hb.block q (h.lt hq).2
theorem Ar.base_le (h : Ar w base v L cs) {base' : Nat} (hb : base' ≤ base) : Ar w base' v L cs := by
  refine ⟨⟨h.row.1, ?_⟩, h.each⟩
  rcases h.row.2 with h0 | ⟨g, cap, cur, h1, h2, h3, h4⟩
  · exact .inl h0
  · exact .inr ⟨g, cap, cur, h1, by omega, h3, h4⟩
theorem Ar.form (h : Ar w base v L cs) : ∃ A c, v = .slice A L.length c := by
  rcases h.row.2 with ⟨h1, h2⟩ | ⟨g, cap, cur, h1, _⟩
  · exact ⟨none, 0, by rw [h1, h2]⟩
  · exact ⟨_, _, h1⟩
theorem Ar.one (h : Ar w base v L cs) : ∀ u ∈ cs, u.oneCell' = true := by
  intro u hu
  obtain ⟨j, hj, rfl⟩ := List.getElem_of_mem hu
  have hl := h.row.1
  have hi : j / 6 < L.length := by omega
  obtain ⟨e0, e1, e2, e3, e4, A, c, e5⟩ := h.each (j / 6) _ (List.getElem?_eq_getElem hi)
  have hr : j % 6 = 0 ∨ j % 6 = 1 ∨ j % 6 = 2 ∨ j % 6 = 3 ∨ j % 6 = 4 ∨ j % 6 = 5 := by omega
  have key : ∀ r u, j % 6 = r → cs[6 * (j / 6) + r]? = some u → cs[j] = u := fun r u hr hu => by
    have : cs[j]? = some u := by rw [← hu]; congr 1; omega
    rw [List.getElem?_eq_getElem hj] at this
    exact Option.some.inj this
  rcases hr with hr | hr | hr | hr | hr | hr
  · rw [key 0 _ hr e0]; rfl
  · rw [key 1 _ hr e1]; rfl
  · rw [key 2 _ hr e2]; rfl
  · rw [key 3 _ hr e3]; rfl
  · rw [key 4 _ hr e4]; rfl
  · rw [key 5 _ hr e5]; rfl
end
theorem each_app {L M : List Rl} {cs ds : List Value}
    (h : ∀ (i : Nat) (x : Rl), L[i]? = some x → cs[6 * i]? = some (.int .i64 x.k) ∧ cs[6 * i + 1]? = some (.int .i64 x.p) ∧ cs[6 * i + 2]? = some (.string x.f) ∧ cs[6 * i + 3]? = some (.string x.t) ∧ cs[6 * i + 4]? = some (.int .i64 x.n) ∧ ∃ A c, cs[6 * i + 5]? = some (.slice A x.l.length c))
    (k : ∀ (i : Nat) (x : Rl), M[i]? = some x → ds[6 * i]? = some (.int .i64 x.k) ∧ ds[6 * i + 1]? = some (.int .i64 x.p) ∧ ds[6 * i + 2]? = some (.string x.f) ∧ ds[6 * i + 3]? = some (.string x.t) ∧ ds[6 * i + 4]? = some (.int .i64 x.n) ∧ ∃ A c, ds[6 * i + 5]? = some (.slice A x.l.length c))
    (hl : cs.length = L.length * 6) :
    ∀ (i : Nat) (x : Rl), (L ++ M)[i]? = some x → (cs ++ ds)[6 * i]? = some (.int .i64 x.k) ∧ (cs ++ ds)[6 * i + 1]? = some (.int .i64 x.p) ∧ (cs ++ ds)[6 * i + 2]? = some (.string x.f) ∧ (cs ++ ds)[6 * i + 3]? = some (.string x.t) ∧ (cs ++ ds)[6 * i + 4]? = some (.int .i64 x.n) ∧ ∃ A c, (cs ++ ds)[6 * i + 5]? = some (.slice A x.l.length c) := by
  intro i y hy
  rcases Nat.lt_or_ge i L.length with hi | hi
  · rw [List.getElem?_append_left hi] at hy
    obtain ⟨h1, h5, h2, h3, h4, A, c, h6⟩ := h i y hy
    refine ⟨?_, ?_, ?_, ?_, ?_, A, c, ?_⟩ <;> rw [List.getElem?_append_left (by omega)] <;> assumption
  · rw [List.getElem?_append_right hi] at hy
    obtain ⟨h1, h5, h2, h3, h4, A, c, h6⟩ := k _ y hy
    refine ⟨?_, ?_, ?_, ?_, ?_, A, c, ?_⟩ <;> rw [List.getElem?_append_right (by omega)]
    · rw [show 6 * i - cs.length = 6 * (i - L.length) by omega]; exact h1
    · rw [show 6 * i + 1 - cs.length = 6 * (i - L.length) + 1 by omega]; exact h5
    · rw [show 6 * i + 2 - cs.length = 6 * (i - L.length) + 2 by omega]; exact h2
    · rw [show 6 * i + 3 - cs.length = 6 * (i - L.length) + 3 by omega]; exact h3
    · rw [show 6 * i + 4 - cs.length = 6 * (i - L.length) + 4 by omega]; exact h4
    · rw [show 6 * i + 5 - cs.length = 6 * (i - L.length) + 5 by omega]; exact h6
theorem each_six (x : Rl) (A : Option Addr) (c : Nat) : ∀ (i : Nat) (y : Rl), [x][i]? = some y → (six x A c)[6 * i]? = some (.int .i64 y.k) ∧ (six x A c)[6 * i + 1]? = some (.int .i64 y.p) ∧ (six x A c)[6 * i + 2]? = some (.string y.f) ∧ (six x A c)[6 * i + 3]? = some (.string y.t) ∧ (six x A c)[6 * i + 4]? = some (.int .i64 y.n) ∧ ∃ A' c', (six x A c)[6 * i + 5]? = some (.slice A' y.l.length c') := by
  intro i y hy
  match i, hy with
  | 0, hy => cases hy; exact ⟨rfl, rfl, rfl, rfl, rfl, A, c, rfl⟩
  | i + 1, hy => simp at hy
theorem info_node2 : (Tryz.prog.info? 33).map (fun i => (i.zero, i.size, i.bytes)) = some (some (.agg z6.toArray), 6, 80) := info_node
/-- append of a row of rules to an own one -/
theorem app_nodes {w : World} {base bx : Nat} (ty : TypeId) {v x : Value} {L M : List Rl} {cs ds : List Value} (hv : Ar w base v L cs) (hx : Ar w bx x M ds) (h63 : L.length + M.length ≤ 1000000) (hbase : base ≤ w.heap.size) :
    ∃ v' w', (Builtin.append_ #[31, 31] ty #[v, x]).run Tryz.prog w = .ok v' w' ∧ Ar w' base v' (L ++ M) (cs ++ ds) ∧ w.grownBy w' v.ownBlock ∧ (v'.ownBlock = v.ownBlock ∨ v'.ownBlock = some w.heap.size) := by
  obtain ⟨i0, hi0, hz0, hz1, hz2⟩ := info_parts info_node2
  have hea := each_app hv.each hx.each hv.row.1
  rcases hx.row.2 with ⟨rfl, h0⟩ | ⟨g, cap, cur, rfl, _, hg, _, _, _, htake⟩
  · have e1 : ds = [] := List.length_eq_zero_iff.1 (by rw [hx.row.1, h0])
    have e2 : M = [] := List.length_eq_zero_iff.1 h0
    subst e1 e2
    refine ⟨v, w, run_append_owned_none w base 31 ty 33 i0 6 Tryz.underlying31 hi0 v _ cs hv.row, by simpa using hv, World.grownBy_refl' w v, .inl rfl⟩
  · obtain ⟨v', w', hr, h2, h3, _, h5⟩ := run_append_own_at (P := Tryz.prog) (w := w) base 31 ty 33 i0 (.agg z6.toArray) 6 80 Tryz.underlying31 hi0 hz0 hz1 hz2 rfl (by omega) v L.length cs hv.row ⟨g, 0, none⟩ M.length cap ds hx.row.1 (fun j u hu => by
      have hj : j < M.length * 6 := by rw [← hx.row.1]; exact (List.getElem?_eq_some_iff.1 hu).1
      rw [show (⟨g, 0, none⟩ : Addr).add j = ⟨g, j, none⟩ from by unfold Addr.add; split <;> simp_all]
      rw [hx.row.cellAt j hj]
      exact hu) hx.one (by unfold maxLen; omega) (by omega) hbase
    exact ⟨v', w', hr, ⟨by rw [List.length_append]; exact h2, hea⟩, h3, h5⟩
/-- a slice of one rule, just built -/
theorem one_node (W : World) (x : Rl) (A : Option Addr) (c : Nat) : Ar (W.alloc (.cells #[.int .i64 x.k, .int .i64 x.p, .string x.f, .string x.t, .int .i64 x.n, .slice A x.l.length c] 33)) W.heap.size (.slice (some ⟨W.heap.size, 0, none⟩) 1 1) [x] (six x A c) :=
  ⟨⟨rfl, .inr ⟨W.heap.size, 1, _, rfl, Nat.le_refl _, heap_alloc_new _ _, Nat.le_refl _, by unfold maxLen; omega, rfl, rfl⟩⟩, each_six x A c⟩
/-- the empty slice, just built -/
theorem no_node (W : World) : Ar (W.alloc (.cells #[] 33)) W.heap.size (.slice (some ⟨W.heap.size, 0, none⟩) 0 0) [] [] :=
  ⟨⟨rfl, .inr ⟨W.heap.size, 0, _, rfl, Nat.le_refl _, heap_alloc_new _ _, Nat.le_refl _, by unfold maxLen; omega, rfl, rfl⟩⟩, fun i x h => by simp at h⟩
end Go.Proofs.YtbkffdfboloogaaGreatDoor
namespace Go.Proofs.YtbkffdfboloogaaGreatDoor
open Go.RowKit Go.Maps Go.Lib
set_option linter.unusedVariables false
set_option maxRecDepth 100000

theorem nszL_take_step (l : List Rl) (k : Nat) (hk : k < l.length) : nszL (l.take (k + 1)) = nszL (l.take k) + nsz l[k] := by
  rw [← List.take_append_getElem hk, nszL_append, nszL, nszL]
  omega
theorem nszL_take_more (l : List Rl) (k : Nat) : nszL (l.take k) ≤ nszL l := by
  have h := nszL_append (l.take k) (l.drop k)
  rw [List.take_append_drop] at h
  omega
def SizeSaid (x : Rl) : Prop := ∀ (A : Option Addr) (c m : Nat) (w : World) (B : Nat), NL w B A x.l → B ≤ w.heap.size → m ≤ 30 →
  Calls Tryz.prog 30 #[.agg #[.int .i64 x.k, .int .i64 x.p, .string x.f, .string x.t, .int .i64 x.n, .slice A x.l.length c], .int .i64 (m : Int)] w fun e w' => ∃ r : Nat, e = .returned (.int .i64 (r : Int)) ∧ r ≤ m + 1 ∧ (r ≤ m → r = nsz x) ∧ (m < r → m < nsz x) ∧ Below w.heap.size w w'

set_option maxHeartbeats 4000000 in
theorem size_step (x : Rl) (hC : ∀ y ∈ x.l, SizeSaid y) : SizeSaid x := by
  intro A c m w B hN hB hm
  have hb1 : Below w.heap.size w (w.alloc (.cells #[.int .i64 x.k, .int .i64 x.p, .string x.f, .string x.t, .int .i64 x.n, .slice A x.l.length c] 33)) := (Below.refl _ _).alloc (Nat.le_refl _) _
  have h5 : (w.alloc (.cells #[.int .i64 x.k, .int .i64 x.p, .string x.f, .string x.t, .int .i64 x.n, .slice A x.l.length c] 33)).cell? ⟨w.heap.size, 5, none⟩ = some (.slice A x.l.length c) := by simp
  have hs1 : (w.alloc (.cells #[.int .i64 x.k, .int .i64 x.p, .string x.f, .string x.t, .int .i64 x.n, .slice A x.l.length c] 33)).heap.size = w.heap.size + 1 := by simp
  have hsz := nsz_l x
  have HNs := Lib.hid hsz
  have HN := Lib.hid hN
  have HC := Lib.hid hC
  clear hN hC hsz
  generalize hX : x.l = X at *
  generalize hnx : nsz x = nx at *
  clear hX hnx
  generalize x.k = xk at *
  generalize x.p = xp at *
  generalize x.f = xf at *
  generalize x.t = xt at *
  generalize x.n = xn at *
  go_enter Tryz.func30, Tryz.ntmps30
  go_wp2
  generalize w.alloc (.cells #[.int .i64 xk, .int .i64 xp, .string xf, .string xt, .int .i64 xn, .slice A X.length c] 33) = w1 at *
  go_loopw [5, 6] (fun s i wr => ∃ k r : Nat, k ≤ X.length ∧ i = .int .i64 (k : Int) ∧ s = .int .i64 (r : Int) ∧ r ≤ m + 1 ∧ k ≤ 31 ∧ Hid (Below w1.heap.size w1 wr) ∧ Hid ((r ≤ m → r = 1 + nszL (X.take k)) ∧ (m < r → m < nx) ∧ (r ≤ m → k < r))) (fun _ i _ => X.length - (RowKit.intOf i).toNat)
  case atStart => exact ⟨0, 1, Nat.zero_le _, rfl, rfl, by omega, by omega, Lib.hid (Below.refl _ _), Lib.hid ⟨fun _ => by simp [nszL], fun h => by rw [HNs.out]; omega, fun _ => by omega⟩⟩
  case round =>
    obtain ⟨k, r, hk, rfl, rfl, hr, hk31, HB, HR⟩ := hrel
    have hz := HB.out.size
    have d5 : wr.cell? ⟨w.heap.size, 5, none⟩ = some (.slice A X.length c) := (HB.out.cell (p := ⟨w.heap.size, 5, none⟩) (by show w.heap.size < _; omega)).trans h5
    have HBw := Lib.hid (hb1.trans (HB.out.mono (by omega)))
    by_cases hlt : k < X.length
    · have b1 : (k : Int) < (X.length : Int) := by omega
      by_cases hrm : r ≤ m
      · have b2 : (r : Int) ≤ (m : Int) := by omega
        obtain ⟨g, off, A', c', rfl, hg, h6, hch⟩ := (HN.out.kept (HBw.out.mono hB)).at_ hlt
        obtain ⟨c0, c1, c2, c3, c4, c5⟩ := h6
        have q : IntKind.i64.wrap ((m : Int) - (r : Int)) = ((m - r : Nat) : Int) := by
          have := IntWalk.i64_in ((m : Int) - (r : Int)) (by omega)
          rw [this]; omega
        have HCk := Lib.hid (HC.out X[k] (List.getElem_mem hlt) A' c' (m - r) wr B hch (by have := HBw.out.size; omega) (by omega))
        have Hst := Lib.hid (nszL_take_step X k hlt)
        have Hmo := Lib.hid (nszL_take_more X (k + 1))
        have hkr := HR.out.2.2 hrm
        have HP : Hid (1 ≤ nsz X[k]) := Lib.hid (by rw [nsz_l]; omega)
        clear hch HC
        generalize X[k].l.length = yl at *
        generalize X[k].k = yk at *
        generalize X[k].p = yp at *
        generalize X[k].f = yf at *
        generalize X[k].t = yt at *
        generalize X[k].n = yn at *
        generalize nsz X[k] = ny at *
        go_wp2_with (first
          | (go_at_call 30; refine HCk.out.mono ?_; rintro e w3 ⟨r2, rfl, h1, h2, h3, hb3⟩; have H2 := Lib.hid h2; have H3 := Lib.hid h3; have HB3 := Lib.hid hb3; clear h2 h3 hb3 HCk)
          | fail)
        go_roundw
        case rel =>
          refine ⟨k + 1, r + r2, by omega, by go_num, by go_num, by omega, by omega, Lib.hid (HB.out.trans (HB3.out.mono hz)), Lib.hid ⟨fun h => ?_, fun h => ?_, fun h => ?_⟩⟩
          · have e1 := H2.out (by omega)
            have e2 := HR.out.1 hrm
            have e3 := Hst.out
            omega
          · have e1 := H3.out (by omega)
            have e2 := HR.out.1 hrm
            have e3 := Hst.out
            have e4 := Hmo.out
            have e5 := HNs.out
            omega
          · have e1 := H2.out (by omega)
            have e6 := HP.out
            omega
        case measure => simp [RowKit.intOf]; omega
      · have b2 : ¬ (r : Int) ≤ (m : Int) := by omega
        go_wp2
        go_ret
        exact ⟨r, rfl, hr, fun h => absurd h hrm, HR.out.2.1, HBw.out⟩
    · have b1 : ¬ (k : Int) < (X.length : Int) := by omega
      have HE : Hid (r ≤ m → r = nx) := Lib.hid (fun h => by have := HR.out.1 h; rw [List.take_of_length_le (by omega)] at this; rw [HNs.out]; exact this)
      go_wp2
      go_ret
      exact ⟨r, rfl, hr, HE.out, HR.out.2.1, HBw.out⟩
theorem size_fuel (N : Nat) : ∀ x, SizeOf.sizeOf x ≤ N → SizeSaid x := by
  induction N with
  | zero =>
    intro x h
    obtain ⟨k, p, f, t, n, l⟩ := x
    simp at h
  | succ N ih => intro x hN; exact size_step x fun y hy => ih y (by have := Rl.lt_mem hy; omega)
theorem size_any (x : Rl) : SizeSaid x := size_fuel _ x (Nat.le_refl _)
end Go.Proofs.YtbkffdfboloogaaGreatDoor
namespace Go.Proofs.YtbkffdfboloogaaGreatDoor
open Go.RowKit Go.Maps Go.Lib
set_option linter.unusedVariables false
set_option maxRecDepth 100000

theorem atomsL_take (l : List Rl) (k : Nat) (hk : k < l.length) : atomsL (l.take (k + 1)) = atomsL (l.take k) ++ atomsR l[k] := by
  have key : ∀ a b : List Rl, atomsL (a ++ b) = atomsL a ++ atomsL b := by
    intro a b
    induction a with
    | nil => rfl
    | cons x a ih => rw [List.cons_append, atomsL, atomsL, ih, List.append_assoc]
  rw [← List.take_append_getElem hk, key, atomsL, atomsL, List.append_nil]
theorem atoms_len (N : Nat) : ∀ x, SizeOf.sizeOf x ≤ N → (atomsR x).length ≤ nsz x := by
  induction N with
  | zero =>
    intro x h
    obtain ⟨k, p, f, t, n, l⟩ := x
    simp at h
  | succ N ih =>
    intro x h
    have hk : ∀ y ∈ x.l, (atomsR y).length ≤ nsz y := fun y hy => ih y (by have := Rl.lt_mem hy; omega)
    have key : ∀ l : List Rl, (∀ y ∈ l, (atomsR y).length ≤ nsz y) → (atomsL l).length ≤ nszL l := by
      intro l
      induction l with
      | nil => intro _; simp [atomsL, nszL]
      | cons y l il =>
        intro h
        rw [atomsL, List.length_append, nszL]
        have := h y (by simp)
        have := il fun z hz => h z (by simp [hz])
        omega
    rw [nsz_l]
    cases ha : atomB x.k with
    | true => rw [atoms_a x ha]; simp
    | false =>
      by_cases h2 : 0 ≤ x.k ∧ x.k ≤ 2
      · rw [atoms_l x h2]
        have := key x.l hk
        omega
      · rw [atoms_o x ha h2]; simp
theorem atomsL_len (l : List Rl) : (atomsL l).length ≤ nszL l := by
  induction l with
  | nil => simp [atomsL, nszL]
  | cons y l il =>
    rw [atomsL, List.length_append, nszL]
    have := atoms_len _ y (Nat.le_refl _)
    omega
def AtomsSaid (x : Rl) : Prop := ∀ (A : Option Addr) (c : Nat) (w : World) (B : Nat), NL w B A x.l → B ≤ w.heap.size → nsz x ≤ 1000 →
  Calls Tryz.prog 19 #[.agg #[.int .i64 x.k, .int .i64 x.p, .string x.f, .string x.t, .int .i64 x.n, .slice A x.l.length c]] w fun e w' => ∃ A' c' cs, e = .returned (.slice A' (atomsR x).length c') ∧ Ar w' w.heap.size (.slice A' (atomsR x).length c') (atomsR x) cs ∧ Below w.heap.size w w'

set_option maxHeartbeats 4000000 in
theorem atoms_step (x : Rl) (hC : ∀ y ∈ x.l, AtomsSaid y) : AtomsSaid x := by
  intro A c w B hN hB hm
  have hb1 : Below w.heap.size w (w.alloc (.cells #[.int .i64 x.k, .int .i64 x.p, .string x.f, .string x.t, .int .i64 x.n, .slice A x.l.length c] 33)) := (Below.refl _ _).alloc (Nat.le_refl _) _
  have hs1 : (w.alloc (.cells #[.int .i64 x.k, .int .i64 x.p, .string x.f, .string x.t, .int .i64 x.n, .slice A x.l.length c] 33)).heap.size = w.heap.size + 1 := by simp
  have h6 : C6 (w.alloc (.cells #[.int .i64 x.k, .int .i64 x.p, .string x.f, .string x.t, .int .i64 x.n, .slice A x.l.length c] 33)) w.heap.size 0 x A c := ⟨by simp, by simp, by simp, by simp, by simp, by simp⟩
  have hr0 := no_node (w.alloc (.cells #[.int .i64 x.k, .int .i64 x.p, .string x.f, .string x.t, .int .i64 x.n, .slice A x.l.length c] 33))
  rw [hs1] at hr0
  have hb2 := hb1.alloc (by omega) (.cells #[] 33)
  have hs2 : ((w.alloc (.cells #[.int .i64 x.k, .int .i64 x.p, .string x.f, .string x.t, .int .i64 x.n, .slice A x.l.length c] 33)).alloc (.cells #[] 33)).heap.size = w.heap.size + 2 := by simp
  have h6' : C6 ((w.alloc (.cells #[.int .i64 x.k, .int .i64 x.p, .string x.f, .string x.t, .int .i64 x.n, .slice A x.l.length c] 33)).alloc (.cells #[] 33)) w.heap.size 0 x A c := h6.keep fun p hp => ((Below.refl (w.heap.size + 1) _).alloc (by omega) _).cell (by rw [hp]; omega)
  obtain ⟨d0, d1, d2, d3, d4, d5⟩ := h6'
  simp only [Nat.zero_add] at d1 d2 d3 d4 d5
  cases ha : atomB x.k with
  | true =>
    have hk37 : 3 ≤ x.k ∧ x.k ≤ 7 := by
      simp [atomB] at ha
      omega
    obtain ⟨hk3, hk7⟩ := hk37
    have hone := one_node ((w.alloc (.cells #[.int .i64 x.k, .int .i64 x.p, .string x.f, .string x.t, .int .i64 x.n, .slice A x.l.length c] 33)).alloc (.cells #[] 33)) x A c
    rw [hs2] at hone
    have hb3 := hb2.alloc (by omega) (.cells #[.int .i64 x.k, .int .i64 x.p, .string x.f, .string x.t, .int .i64 x.n, .slice A x.l.length c] 33)
    have hr1 := hr0.keep (w' := ((w.alloc (.cells #[.int .i64 x.k, .int .i64 x.p, .string x.f, .string x.t, .int .i64 x.n, .slice A x.l.length c] 33)).alloc (.cells #[] 33)).alloc (.cells #[.int .i64 x.k, .int .i64 x.p, .string x.f, .string x.t, .int .i64 x.n, .slice A x.l.length c] 33)) (fun q hq => heap_alloc_old _ _ (by have := (hr0.lt hq).2; omega))
    have hrun := fun ty => app_nodes ty hr1 hone (by simp) (by simp)
    simp only [List.nil_append] at hrun
    have HE : Hid (atomsR x = [x]) := Lib.hid (atoms_a x ha)
    have HB3 := Lib.hid hb3
    have HR := Lib.hid hrun
    clear hb1 hb2 h6 hr0 hr1 hone hb3 hrun ha hN hC hm
    generalize atomsR x = aR at *
    have hy : aR = [x] := HE.out
    subst hy
    obtain ⟨v4, w4, hrn, har, hg4, hloc4⟩ := HR.out 31
    obtain ⟨A4, c4, rfl⟩ := har.form
    have HA4 := Lib.hid har
    have HG4 := Lib.hid (HB3.out.grown hg4 (by simp; omega) (fun j hj => by simp [Value.ownBlock] at hj; omega))
    clear HR har hg4 hloc4 HE
    generalize x.k = xk at *
    generalize x.p = xp at *
    generalize x.f = xf at *
    generalize x.t = xt at *
    generalize x.n = xn at *
    generalize x.l.length = xl at *
    go_enter Tryz.func19, Tryz.ntmps19
    go_wp2_with (first
      | (at_builtin; refine Lib.wpList_append_run _ rfl _ _ _ _ rfl _ _ rfl rfl _ _ hrn ?_)
      | fail)
    go_ret
    exact ⟨A4, c4, _, rfl, HA4.out.base_le (by omega), HG4.out⟩
  | false =>
    have hno := atoms_o x ha
    have hB0 := hr0.form
    by_cases h2 : 0 ≤ x.k ∧ x.k ≤ 2
    · have HE := Lib.hid (atoms_l x h2)
      have HNs := Lib.hid (nsz_l x)
      have hXl : x.l.length ≤ 1000 := by have := len_nszL x.l; have := nsz_l x; omega
      have HN := Lib.hid hN
      have HC := Lib.hid hC
      have HR0 := Lib.hid hr0
      have HB2 := Lib.hid hb2
      obtain ⟨q0, q2⟩ := h2
      have q3 : ¬ (3 : Int) ≤ x.k := by omega
      clear hno hB0 hb1 h6 hr0 hb2 ha hN hC
      generalize atomsR x = aR at *
      have hy : aR = atomsL x.l := HE.out
      subst hy
      generalize nsz x = nx at *
      generalize x.l = X at *
      generalize x.k = xk at *
      generalize x.p = xp at *
      generalize x.f = xf at *
      generalize x.t = xt at *
      generalize x.n = xn at *
      go_enter Tryz.func19, Tryz.ntmps19
      go_wp2
      generalize hV : (w.alloc (.cells #[.int .i64 xk, .int .i64 xp, .string xf, .string xt, .int .i64 xn, .slice A X.length c] 33)).alloc (.cells #[] 33) = V at *
      clear hV d0 d1 d2 d3 d4
      go_loopw [3, 4] (fun v i wr => ∃ (k : Nat) (Av : Option Addr) (cv : Nat) (cs : List Value), k ≤ X.length ∧ i = .int .i64 (k : Int) ∧ v = .slice Av (atomsL (X.take k)).length cv ∧ Hid (Ar wr (w.heap.size + 1) (.slice Av (atomsL (X.take k)).length cv) (atomsL (X.take k)) cs) ∧ Hid (Below (w.heap.size + 1) V wr)) (fun _ i _ => X.length - (RowKit.intOf i).toNat)
      case atStart => exact ⟨0, some ⟨w.heap.size + 1, 0, none⟩, 0, [], Nat.zero_le _, rfl, rfl, HR0, Lib.hid (Below.refl _ _)⟩
      case round =>
        clear HR0
        obtain ⟨k, Av, cv, cs, hk, rfl, rfl, HA, HB⟩ := hrel
        have hz := HB.out.size
        have e5 : wr.cell? ⟨w.heap.size, 5, none⟩ = some (.slice A X.length c) := (HB.out.cell (p := ⟨w.heap.size, 5, none⟩) (by show w.heap.size < _; omega)).trans d5
        have HBw := Lib.hid (HB2.out.trans (HB.out.mono (by omega)))
        have hwz := HBw.out.size
        by_cases hlt : k < X.length
        · have b1 : (k : Int) < (X.length : Int) := by omega
          obtain ⟨g, off, A', c', rfl, hg, h6, hch⟩ := (HN.out.kept (HBw.out.mono hB)).at_ hlt
          obtain ⟨c0, c1, c2, c3, c4, c5⟩ := h6
          have hst := nszL_take_step X k hlt
          have hmo := nszL_take_more X (k + 1)
          have hns := HNs.out
          have hal := atomsL_len (X.take k)
          have hal2 := atoms_len _ X[k] (Nat.le_refl _)
          have HCk := Lib.hid (HC.out X[k] (List.getElem_mem hlt) A' c' wr B hch (by omega) (by omega))
          have HT := Lib.hid (atomsL_take X k hlt)
          have Hlen : Hid ((atomsL (X.take k)).length + (atomsR X[k]).length ≤ 1000000) := Lib.hid (by omega)
          clear hch HC hst hmo hns hal hal2
          generalize X[k].l.length = yl at *
          generalize X[k].k = yk at *
          generalize X[k].p = yp at *
          generalize X[k].f = yf at *
          generalize X[k].t = yt at *
          generalize X[k].n = yn at *
          generalize atomsR X[k] = aY at *
          go_wp2_with (first
            | (go_at_call 19; refine HCk.out.mono ?_; rintro e w3 ⟨A3, c3', cs3, rfl, hr3, hb3⟩; obtain ⟨v4, w4, hrn, har, hg4, hloc⟩ := app_nodes 31 (HA.out.below hb3) hr3 Hlen.out (by have := hb3.size; omega); have HA4 := Lib.hid har; have HB4 := Lib.hid (HB.out.trans ((hb3.mono (by omega)).grown hg4 (by have := hb3.size; omega) (fun j hj => (HA.out.lt hj).1))); clear har hg4 hloc hr3 hb3 HCk)
            | (at_builtin; refine Lib.wpList_append_run _ rfl _ _ _ _ rfl _ _ rfl rfl _ _ hrn ?_)
            | fail)
          rw [← HT.out] at HA4
          obtain ⟨A4, c4', rfl⟩ := HA4.out.form
          go_roundw
          case rel => exact ⟨k + 1, A4, c4', _, by omega, by go_num, rfl, HA4, HB4⟩
          case measure => simp [RowKit.intOf]; omega
        · have b1 : ¬ (k : Int) < (X.length : Int) := by omega
          have HK : Hid (X.take k = X) := Lib.hid (List.take_of_length_le (by omega))
          rw [HK.out] at HA ⊢
          go_wp2
          go_ret
          first | exact ⟨_, _, _, rfl, HA.out.base_le (by omega), HBw.out⟩ | exact ⟨_, _, rfl, ⟨_, HA.out.base_le (by omega)⟩, HBw.out⟩
    · have HE := Lib.hid (hno h2)
      have HR0 := Lib.hid hr0
      have HB2 := Lib.hid hb2
      have hk : x.k < 0 ∨ 7 < x.k := by
        simp [atomB] at ha
        omega
      clear hno hB0 hb1 h6 hr0 hb2 ha hN hC h2
      generalize atomsR x = aR at *
      have hy : aR = [] := HE.out
      subst hy
      generalize x.l.length = xl at *
      generalize x.k = xk at *
      generalize x.p = xp at *
      generalize x.f = xf at *
      generalize x.t = xt at *
      generalize x.n = xn at *
      rcases hk with hk | hk
      · have q3 : ¬ (3 : Int) ≤ xk := by omega
        have q0 : ¬ (0 : Int) ≤ xk := by omega
        go_enter Tryz.func19, Tryz.ntmps19
        go_wp2
        go_ret
        first | exact ⟨_, _, _, rfl, HR0.out.base_le (by omega), HB2.out⟩ | exact ⟨_, _, rfl, ⟨_, HR0.out.base_le (by omega)⟩, HB2.out⟩
      · have q3 : (3 : Int) ≤ xk := by omega
        have q7 : ¬ xk ≤ (7 : Int) := by omega
        have q0 : (0 : Int) ≤ xk := by omega
        have q2 : ¬ xk ≤ (2 : Int) := by omega
        go_enter Tryz.func19, Tryz.ntmps19
        go_wp2
        go_ret
        first | exact ⟨_, _, _, rfl, HR0.out.base_le (by omega), HB2.out⟩ | exact ⟨_, _, rfl, ⟨_, HR0.out.base_le (by omega)⟩, HB2.out⟩
theorem atoms_fuel (N : Nat) : ∀ x, SizeOf.sizeOf x ≤ N → AtomsSaid x := by
  induction N with
  | zero =>
    intro x h
    obtain ⟨k, p, f, t, n, l⟩ := x
    simp at h
  | succ N ih => intro x hN; exact atoms_step x fun y hy => ih y (by have := Rl.lt_mem hy; omega)
theorem atoms_any (x : Rl) : AtomsSaid x := atoms_fuel _ x (Nat.le_refl _)
end Go.Proofs.YtbkffdfboloogaaGreatDoor
namespace Go.Proofs.YtbkffdfboloogaaGreatDoor
set_option linter.unusedVariables false

/-- how many cases a rule has; 4097: too many -/
def mN (x : Rl) : Nat := if (cnt x).2 = true then (cnt x).1 else 4097
def proN : List Nat → Nat
  | [] => 1
  | a :: l => a * proN l
def sumN : List Nat → Nat
  | [] => 0
  | a :: l => a + sumN l
theorem proN_append (a b : List Nat) : proN (a ++ b) = proN a * proN b := by
  induction a with
  | nil => simp [proN]
  | cons x a ih => rw [List.cons_append, proN, proN, ih, Nat.mul_assoc]
theorem sumN_append (a b : List Nat) : sumN (a ++ b) = sumN a + sumN b := by
  induction a with
  | nil => simp [sumN]
  | cons x a ih => rw [List.cons_append, sumN, sumN, ih]; omega
theorem proN_pos {l : List Nat} (h : ∀ a ∈ l, 0 < a) : 0 < proN l := by
  induction l with
  | nil => simp [proN]
  | cons a l ih => rw [proN]; exact Nat.mul_pos (h a (by simp)) (ih fun b hb => h b (by simp [hb]))
theorem sumL_le (l : List Rl) : ∀ s, s ≤ 4096 → (sumL l s).1 ≤ 4096 := by
  induction l with
  | nil => intro s h; rw [sumL]; exact h
  | cons x l ih =>
    intro s h
    rw [sumL]
    split
    · simp
    · rename_i hn
      exact ih _ (by omega)
theorem cnt_ok_le (x : Rl) (h : (cnt x).2 = true) : (cnt x).1 ≤ 4096 := by
  by_cases h0 : x.k = 0
  · rw [cnt_0 x h0] at h ⊢
    rcases (prod_len x.l 1 false h (by omega) (fun y _ hy => casesR_len y hy)).1 with ⟨e, _⟩ | ⟨_, e, h2⟩ <;> omega
  · by_cases h1 : x.k = 1
    · rw [cnt_1 x h1]; exact sumL_le _ _ (by omega)
    · rw [cnt_2 x h0 h1]; simp
theorem mN_ok {x : Rl} (h : (cnt x).2 = true) : mN x = (cnt x).1 := by unfold mN; rw [if_pos h]
theorem mN_no {x : Rl} (h : (cnt x).2 = false) : mN x = 4097 := by unfold mN; rw [if_neg (by rw [h]; simp)]
theorem mN_small (x : Rl) : mN x ≤ 4096 ↔ (cnt x).2 = true := by
  cases h : (cnt x).2 with
  | true => rw [mN_ok h]; have := cnt_ok_le x h; simp; exact this
  | false => rw [mN_no h]; simp
theorem mN_le (x : Rl) : mN x ≤ 4097 := by
  cases h : (cnt x).2 with
  | true => rw [mN_ok h]; have := cnt_ok_le x h; omega
  | false => rw [mN_no h]; omega
theorem prodL_bad {y : Rl} (h : (cnt y).2 = false) (l : List Rl) : ∀ t z, y ∈ l → (prodL l t z).2 = false := by
  induction l with
  | nil => intro t z hy; cases hy
  | cons x l ih =>
    intro t z hy
    rw [prodL]
    by_cases hx : (cnt x).2 = false
    · rw [if_pos hx]
    · rw [if_neg hx]
      have hy' : y ∈ l := by
        rcases List.mem_cons.1 hy with rfl | hy
        · exact absurd h hx
        · exact hy
      split
      · exact ih _ _ hy'
      · exact ih _ _ hy'
theorem sumL_bad {y : Rl} (h : (cnt y).2 = false) (l : List Rl) : ∀ s, y ∈ l → (sumL l s).2 = false := by
  induction l with
  | nil => intro s hy; cases hy
  | cons x l ih =>
    intro s hy
    rw [sumL]
    split
    · rfl
    · rename_i hn
      refine ih _ ?_
      rcases List.mem_cons.1 hy with rfl | hy
      · exact absurd (.inl h) hn
      · exact hy
theorem mN_bad {x y : Rl} (hx : x.k = 0 ∨ x.k = 1) (hy : y ∈ x.l) (h : (cnt y).2 = false) : mN x = 4097 := by
  refine mN_no ?_
  rcases hx with hx | hx
  · rw [cnt_0 x hx]; exact prodL_bad h _ _ _ hy
  · rw [cnt_1 x hx]; exact sumL_bad h _ _ hy
theorem prodL_zero (l : List Rl) : ∀ t z, (∀ y ∈ l, (cnt y).2 = true) → (z = true ∨ ∃ y ∈ l, (cnt y).1 = 0) → prodL l t z = (0, true) := by
  induction l with
  | nil => intro t z _ h; rw [prodL]; rcases h with h | ⟨y, hy, _⟩; (rw [h]; rfl); cases hy
  | cons x l ih =>
    intro t z hk h
    rw [prodL, if_neg (by rw [hk x (by simp)]; simp)]
    have hk' : ∀ y ∈ l, (cnt y).2 = true := fun y hy => hk y (by simp [hy])
    split
    · exact ih _ _ hk' (.inl rfl)
    · rename_i h0
      refine ih _ _ hk' ?_
      rcases h with h | ⟨y, hy, hz⟩
      · exact .inl h
      · rcases List.mem_cons.1 hy with rfl | hy
        · exact absurd hz h0
        · exact .inr ⟨y, hy, hz⟩
theorem mN_zero {x y : Rl} (hx : x.k = 0) (hk : ∀ y ∈ x.l, (cnt y).2 = true) (hy : y ∈ x.l) (h : mN y = 0) : mN x = 0 := by
  have e : cnt x = (0, true) := by
    rw [cnt_0 x hx]
    exact prodL_zero _ _ _ hk (.inr ⟨y, hy, by rw [← mN_ok (hk y hy)]; exact h⟩)
  rw [mN_ok (by rw [e]), e]
theorem prodL_pro (l : List Rl) : ∀ t, 0 < t → t ≤ 4097 → (∀ y ∈ l, (cnt y).2 = true ∧ 0 < mN y) → prodL l t false = if t * proN (l.map mN) ≤ 4096 then (t * proN (l.map mN), true) else (4097, false) := by
  induction l with
  | nil =>
    intro t h0 h1 _
    rw [prodL, List.map_nil, proN, Nat.mul_one]
    split
    · simp at *
    · split
      · rename_i h; simp [h]
      · rename_i h
        have : t = 4097 := by omega
        simp [this]
  | cons x l ih =>
    intro t h0 h1 hk
    obtain ⟨hx, hp⟩ := hk x (by simp)
    have hk' : ∀ y ∈ l, (cnt y).2 = true ∧ 0 < mN y := fun y hy => hk y (by simp [hy])
    have hpos : 0 < proN (l.map mN) := proN_pos (fun a ha => by obtain ⟨y, hy, rfl⟩ := List.mem_map.1 ha; exact (hk' y hy).2)
    have em := mN_ok hx
    rw [prodL, if_neg (by rw [hx]; simp), if_neg (by omega), List.map_cons, proN, ← em, ← Nat.mul_assoc]
    have htp : 0 < t * mN x := Nat.mul_pos h0 hp
    rw [ih _ (by omega) (by omega) hk']
    by_cases hb : t * mN x ≤ 4097
    · rw [Nat.min_eq_left hb]
    · rw [Nat.min_eq_right (by omega)]
      have a1 : 4097 ≤ 4097 * proN (l.map mN) := Nat.le_mul_of_pos_right _ hpos
      have a2 : t * mN x ≤ t * mN x * proN (l.map mN) := Nat.le_mul_of_pos_right _ hpos
      rw [if_neg (by omega), if_neg (by omega)]
theorem mN_pro {x : Rl} (hx : x.k = 0) (hk : ∀ y ∈ x.l, (cnt y).2 = true ∧ 0 < mN y) : mN x = if proN (x.l.map mN) ≤ 4096 then proN (x.l.map mN) else 4097 := by
  have e := prodL_pro x.l 1 (by omega) (by omega) hk
  rw [← cnt_0 x hx, Nat.one_mul] at e
  by_cases h : proN (x.l.map mN) ≤ 4096
  · rw [if_pos h] at e ⊢
    rw [mN_ok (by rw [e]), e]
  · rw [if_neg h] at e ⊢
    rw [mN_no (by rw [e])]
theorem sumL_sum (l : List Rl) : ∀ s, s ≤ 4096 → (∀ y ∈ l, (cnt y).2 = true) → sumL l s = if s + sumN (l.map mN) ≤ 4096 then (s + sumN (l.map mN), true) else (0, false) := by
  induction l with
  | nil => intro s h _; rw [sumL, List.map_nil, sumN, Nat.add_zero, if_pos h]
  | cons x l ih =>
    intro s h hk
    have hx := hk x (by simp)
    rw [sumL, List.map_cons, sumN, ← Nat.add_assoc, mN_ok hx]
    by_cases hb : 4096 < s + (cnt x).1
    · rw [if_pos (.inr hb), if_neg (by omega)]
    · rw [if_neg (fun h => h.elim (fun e => by rw [hx] at e; cases e) hb)]
      exact ih _ (by omega) (fun y hy => hk y (by simp [hy]))
theorem mN_sum {x : Rl} (hx : x.k = 1) (hk : ∀ y ∈ x.l, (cnt y).2 = true) : mN x = if sumN (x.l.map mN) ≤ 4096 then sumN (x.l.map mN) else 4097 := by
  have e := sumL_sum x.l 0 (by omega) hk
  rw [← cnt_1 x hx, Nat.zero_add] at e
  by_cases h : sumN (x.l.map mN) ≤ 4096
  · rw [if_pos h] at e ⊢
    rw [mN_ok (by rw [e]), e]
  · rw [if_neg h] at e ⊢
    rw [mN_no (by rw [e])]
end Go.Proofs.YtbkffdfboloogaaGreatDoor
namespace Go.Proofs.YtbkffdfboloogaaGreatDoor
set_option linter.unusedVariables false

mutual
/-- the j-th case of a rule -/
def caseN : Rl → Nat → List Rl
  | ⟨k, p, f, t, n, l⟩, j => if atomB k = true then [⟨k, p, f, t, n, l⟩] else if k = 0 then caseAll l j else if k = 1 then caseAny l j else []
def caseAll : List Rl → Nat → List Rl
  | [], _ => []
  | x :: l, j => if mN x = 0 then [] else caseN x (j % mN x) ++ caseAll l (j / mN x)
def caseAny : List Rl → Nat → List Rl
  | [], _ => []
  | x :: l, j => if j < mN x then caseN x j else caseAny l (j - mN x)
end
theorem caseN_a (x : Rl) (h : atomB x.k = true) (j : Nat) : caseN x j = [x] := by
  obtain ⟨k, p, f, t, n, l⟩ := x
  have h' : atomB k = true := h
  rw [caseN, if_pos h']
theorem caseN_0 (x : Rl) (h : x.k = 0) (j : Nat) : caseN x j = caseAll x.l j := by
  obtain ⟨k, p, f, t, n, l⟩ := x
  have h' : k = 0 := h
  subst h'
  rw [caseN, if_neg (by decide), if_pos rfl]
  rfl
theorem caseN_1 (x : Rl) (h : x.k = 1) (j : Nat) : caseN x j = caseAny x.l j := by
  obtain ⟨k, p, f, t, n, l⟩ := x
  have h' : k = 1 := h
  subst h'
  rw [caseN, if_neg (by decide), if_neg (by decide), if_pos rfl]
  rfl
theorem caseN_2 (x : Rl) (ha : atomB x.k = false) (h0 : x.k ≠ 0) (h1 : x.k ≠ 1) (j : Nat) : caseN x j = [] := by
  obtain ⟨k, p, f, t, n, l⟩ := x
  have ha' : ¬ atomB k = true := by rw [show atomB k = false from ha]; simp
  have h0' : ¬ k = 0 := h0
  have h1' : ¬ k = 1 := h1
  rw [caseN, if_neg ha', if_neg h0', if_neg h1']
theorem all_acc (L : List Rl) : ∀ (a : List (List Rl)) (m : List Rl), m ∈ allR L a ↔ ∃ p ∈ a, ∃ q ∈ allR L [[]], m = p ++ q := by
  induction L with
  | nil =>
    intro a m
    rw [allR, allR]
    constructor
    · intro h; exact ⟨m, h, [], by simp, by simp⟩
    · rintro ⟨p, hp, q, hq, rfl⟩; simp at hq; subst hq; simpa using hp
  | cons x L ih =>
    intro a m
    rw [allR, ih, allR]
    constructor
    · rintro ⟨p, hp, q, hq, rfl⟩
      obtain ⟨p0, hp0, hp⟩ := List.mem_flatMap.1 hp
      obtain ⟨c, hc, rfl⟩ := List.mem_map.1 hp
      exact ⟨p0, hp0, c ++ q, (ih _ _).2 ⟨c, List.mem_flatMap.2 ⟨[], by simp, List.mem_map.2 ⟨c, hc, rfl⟩⟩, q, hq, rfl⟩, by simp⟩
    · rintro ⟨p0, hp0, r, hr, rfl⟩
      obtain ⟨c, hc, q, hq, rfl⟩ := (ih _ _).1 hr
      obtain ⟨e, he, hc⟩ := List.mem_flatMap.1 hc
      simp at he
      subst he
      obtain ⟨c', hc', rfl⟩ := List.mem_map.1 hc
      exact ⟨p0 ++ c', List.mem_flatMap.2 ⟨p0, hp0, List.mem_map.2 ⟨c', hc', rfl⟩⟩, q, hq, by simp⟩
theorem all_num (L : List Rl) : (∀ y ∈ L, 0 < mN y ∧ ∀ m, m ∈ casesR y ↔ ∃ j, j < mN y ∧ caseN y j = m) → ∀ m, m ∈ allR L [[]] ↔ ∃ j, j < proN (L.map mN) ∧ caseAll L j = m := by
  induction L with
  | nil =>
    intro _ m
    rw [allR, List.map_nil, proN]
    constructor
    · intro h; simp at h; subst h; exact ⟨0, by omega, by rw [caseAll]⟩
    · rintro ⟨j, hj, rfl⟩; rw [caseAll]; simp
  | cons x L ih =>
    intro h m
    obtain ⟨hp, hx⟩ := h x (by simp)
    have hL := ih fun y hy => h y (by simp [hy])
    rw [allR, all_acc, List.map_cons, proN]
    constructor
    · rintro ⟨p, hpm, q, hq, rfl⟩
      obtain ⟨e, he, hpm⟩ := List.mem_flatMap.1 hpm
      simp at he
      subst he
      obtain ⟨c, hc, rfl⟩ := List.mem_map.1 hpm
      obtain ⟨j0, h0, rfl⟩ := (hx c).1 hc
      obtain ⟨j1, h1, rfl⟩ := (hL q).1 hq
      refine ⟨j0 + mN x * j1, ?_, ?_⟩
      · have : mN x * (j1 + 1) ≤ mN x * proN (L.map mN) := Nat.mul_le_mul_left _ h1
        rw [Nat.mul_add, Nat.mul_one] at this
        omega
      · rw [caseAll, if_neg (by omega), Nat.add_mul_mod_self_left, Nat.mod_eq_of_lt h0, Nat.add_mul_div_left _ _ hp, Nat.div_eq_of_lt h0]
        simp
    · rintro ⟨j, hj, rfl⟩
      rw [caseAll, if_neg (by omega)]
      refine ⟨caseN x (j % mN x), List.mem_flatMap.2 ⟨[], by simp, List.mem_map.2 ⟨_, (hx _).2 ⟨j % mN x, Nat.mod_lt _ hp, rfl⟩, rfl⟩⟩, caseAll L (j / mN x), (hL _).2 ⟨j / mN x, ?_, rfl⟩, rfl⟩
      exact Nat.div_lt_of_lt_mul hj
theorem any_num (L : List Rl) : (∀ y ∈ L, ∀ m, m ∈ casesR y ↔ ∃ j, j < mN y ∧ caseN y j = m) → ∀ m, m ∈ anyR L ↔ ∃ j, j < sumN (L.map mN) ∧ caseAny L j = m := by
  induction L with
  | nil =>
    intro _ m
    rw [anyR, List.map_nil, sumN]
    constructor
    · intro h; cases h
    · rintro ⟨j, hj, _⟩; omega
  | cons x L ih =>
    intro h m
    have hx := h x (by simp)
    have hL := ih fun y hy => h y (by simp [hy])
    rw [anyR, List.mem_append, hx, hL, List.map_cons, sumN]
    constructor
    · rintro (⟨j, hj, rfl⟩ | ⟨j, hj, rfl⟩)
      · exact ⟨j, by omega, by rw [caseAny, if_pos hj]⟩
      · exact ⟨mN x + j, by omega, by rw [caseAny, if_neg (by omega), Nat.add_sub_cancel_left]⟩
    · rintro ⟨j, hj, rfl⟩
      by_cases hlt : j < mN x
      · exact .inl ⟨j, hlt, by rw [caseAny, if_pos hlt]⟩
      · exact .inr ⟨j - mN x, by omega, by rw [caseAny, if_neg hlt]⟩
theorem case_num (N : Nat) : ∀ x, SizeOf.sizeOf x ≤ N → (cnt x).2 = true → ∀ m, m ∈ casesR x ↔ ∃ j, j < mN x ∧ caseN x j = m := by
  induction N with
  | zero =>
    intro x h
    obtain ⟨k, p, f, t, n, l⟩ := x
    simp at h
  | succ N ih =>
    intro x h hok m
    have hk : ∀ y ∈ x.l, (cnt y).2 = true → ∀ m, m ∈ casesR y ↔ ∃ j, j < mN y ∧ caseN y j = m := fun y hy => ih y (by have := Rl.lt_mem hy; omega)
    have hsm := (mN_small x).2 hok
    by_cases h0 : x.k = 0
    · have hok' := hok
      rw [cnt_0 x h0] at hok'
      have hall := (prod_len x.l 1 false hok' (by omega) (fun y _ hy => casesR_len y hy)).2
      by_cases hz : ∃ y ∈ x.l, mN y = 0
      · obtain ⟨y, hy, hz⟩ := hz
        have e := mN_zero h0 hall hy hz
        have hlen := casesR_len x hok
        rw [← mN_ok hok, e] at hlen
        rw [List.length_eq_zero_iff.1 hlen, e]
        constructor
        · intro h; cases h
        · rintro ⟨j, hj, _⟩; omega
      · have hpos : ∀ y ∈ x.l, (cnt y).2 = true ∧ 0 < mN y := fun y hy => ⟨hall y hy, by
          rcases Nat.eq_zero_or_pos (mN y) with h | h
          · exact absurd ⟨y, hy, h⟩ hz
          · exact h⟩
        have e := mN_pro h0 hpos
        have e2 : mN x = proN (x.l.map mN) := by
          by_cases h : proN (x.l.map mN) ≤ 4096
          · rw [if_pos h] at e; exact e
          · rw [if_neg h] at e; omega
        rw [cases_0 x h0, all_num x.l (fun y hy => ⟨(hpos y hy).2, hk y hy (hall y hy)⟩), e2]
        simp only [caseN_0 x h0]
    · by_cases h1 : x.k = 1
      · have hok' := hok
        rw [cnt_1 x h1] at hok'
        have hall := (any_len x.l 0 hok' (fun y _ hy => casesR_len y hy)).2
        have e := mN_sum h1 hall
        have e2 : mN x = sumN (x.l.map mN) := by
          by_cases h : sumN (x.l.map mN) ≤ 4096
          · rw [if_pos h] at e; exact e
          · rw [if_neg h] at e; omega
        rw [cases_1 x h1, any_num x.l (fun y hy => hk y hy (hall y hy)), e2]
        simp only [caseN_1 x h1]
      · have e1 : mN x = 1 := by rw [mN_ok hok, cnt_2 x h0 h1]
        rw [e1]
        cases ha : atomB x.k with
        | true =>
          rw [cases_a x ha]
          constructor
          · intro h; simp at h; subst h; exact ⟨0, by omega, caseN_a x ha 0⟩
          · rintro ⟨j, _, rfl⟩; rw [caseN_a x ha]; simp
        | false =>
          rw [cases_2 x ha h0 h1]
          constructor
          · intro h; simp at h; subst h; exact ⟨0, by omega, caseN_2 x ha h0 h1 0⟩
          · rintro ⟨j, _, rfl⟩; rw [caseN_2 x ha h0 h1]; simp
/-- the document's clash is the program's -/
theorem clash_num (x : Rl) : ClashR x ↔ mN x ≤ 4096 ∧ ∀ j, j < mN x → Clashes (caseN x j) := by
  unfold ClashR
  rw [mN_small x]
  constructor
  · rintro ⟨hok, h⟩
    exact ⟨hok, fun j hj => h _ ((case_num _ x (Nat.le_refl _) hok _).2 ⟨j, hj, rfl⟩)⟩
  · rintro ⟨hok, h⟩
    refine ⟨hok, fun l hl => ?_⟩
    obtain ⟨j, hj, rfl⟩ := (case_num _ x (Nat.le_refl _) hok l).1 hl
    exact h j hj
end Go.Proofs.YtbkffdfboloogaaGreatDoor
namespace Go.Proofs.YtbkffdfboloogaaGreatDoor
open Go.RowKit Go.Lib
set_option linter.unusedVariables false
set_option maxRecDepth 100000

/-- each number of a rule is an int64, each text no longer than memory reaches -/
inductive Good : Rl → Prop
  | mk (x : Rl) (h0 : -9223372036854775808 ≤ x.n) (h1 : x.n ≤ 9223372036854775807) (hf : x.f.size ≤ 140737488351232) (ht : x.t.size ≤ 140737488351232) (hk : ∀ y ∈ x.l, Good y) : Good x
theorem Good.atoms (N : Nat) : ∀ x, SizeOf.sizeOf x ≤ N → Good x → ∀ a ∈ atomsR x, (-9223372036854775808 ≤ a.n ∧ a.n ≤ 9223372036854775807) ∧ a.f.size ≤ 140737488351232 ∧ a.t.size ≤ 140737488351232 := by
  induction N with
  | zero =>
    intro x h
    obtain ⟨k, p, f, t, n, l⟩ := x
    simp at h
  | succ N ih =>
    intro x h hg a ha
    obtain ⟨_, h0, h1, hf, ht, hk⟩ := hg
    cases hat : atomB x.k with
    | true => rw [atoms_a x hat] at ha; simp at ha; subst ha; exact ⟨⟨h0, h1⟩, hf, ht⟩
    | false =>
      by_cases h2 : 0 ≤ x.k ∧ x.k ≤ 2
      · rw [atoms_l x h2] at ha
        obtain ⟨y, hy, ha⟩ := mem_atomsL.1 ha
        exact ih y (by have := Rl.lt_mem hy; omega) (hk y hy) a ha
      · rw [atoms_o x hat h2] at ha; cases ha
end Go.Proofs.YtbkffdfboloogaaGreatDoor
namespace Go.Proofs.YtbkffdfboloogaaGreatDoor
open Go.RowKit Go.Maps Go.Lib
set_option linter.unusedVariables false
set_option maxRecDepth 100000

def aT : Rl := ⟨5, 0, ⟨#[115, 117, 109]⟩, ⟨#[]⟩, 5, []⟩
def bT : Rl := ⟨6, 0, ⟨#[115, 117, 109]⟩, ⟨#[]⟩, 6, []⟩
def allT : Rl := ⟨0, 0, ⟨#[]⟩, ⟨#[]⟩, 0, [aT, bT]⟩
def anyT : Rl := ⟨1, 0, ⟨#[]⟩, ⟨#[]⟩, 0, [aT, bT]⟩
theorem val12 : valB ⟨#[49, 50]⟩ 1 = (12, true) := by kernel_rfl
theorem typeI : typeB ⟨#[105, 115, 115, 117, 101, 100]⟩ = 2 := by kernel_rfl
theorem cases_aT : casesR aT = [[aT]] := cases_a aT rfl
theorem cases_bT : casesR bT = [[bT]] := cases_a bT rfl
theorem cases_all : casesR allT = [[aT, bT]] := by
  rw [cases_0 allT rfl]
  show allR [aT, bT] [[]] = _
  rw [allR, allR, allR, cases_aT, cases_bT]
  rfl
theorem cases_any : casesR anyT = [[aT], [bT]] := by
  rw [cases_1 anyT rfl]
  show anyR [aT, bT] = _
  rw [anyR, anyR, anyR, cases_aT, cases_bT]
  rfl
theorem all_clash : ClashR allT := by
  refine ⟨by kernel_rfl, fun l hl => ?_⟩
  rw [cases_all] at hl
  simp at hl
  subst hl
  exact ⟨aT, by simp, bT, by simp, rfl, .inl ⟨rfl, rfl, by decide⟩⟩
theorem any_clash : ¬ ClashR anyT := by
  rintro ⟨_, h⟩
  obtain ⟨a, ha, b, hb, _, h⟩ := h [aT] (by rw [cases_any]; simp)
  simp at ha hb
  subst ha hb
  rcases h with ⟨_, h, _⟩ | ⟨h, _⟩ | ⟨h, _⟩
  · exact absurd h (by decide)
  · exact absurd h (by decide)
  · exact absurd h (by decide)
theorem fit_ab : Fits aT ∧ Fits bT := ⟨⟨by decide, by decide, by decide, by decide⟩, by decide, by decide, by decide, by decide⟩
/-- a rule over the field sum -/
def N6 (w : World) (p : Nat) (k n : Int) : Prop := w.cell? ⟨p, 0, none⟩ = some (.int .i64 k) ∧ w.cell? ⟨p, 1, none⟩ = some (.int .i64 0) ∧ w.cell? ⟨p, 2, none⟩ = some (.string ⟨#[115, 117, 109]⟩) ∧ w.cell? ⟨p, 3, none⟩ = some (.string ⟨#[]⟩) ∧ w.cell? ⟨p, 4, none⟩ = some (.int .i64 n) ∧ w.cell? ⟨p, 5, none⟩ = some (.slice none 0 0)
theorem N6.keep {w w' : World} {p B : Nat} {k n : Int} (h : N6 w p k n) (hb : Below B w w') (hp : p < B) : N6 w' p k n :=
  ⟨(hb.cell (p := ⟨p, 0, none⟩) hp).trans h.1, (hb.cell (p := ⟨p, 1, none⟩) hp).trans h.2.1, (hb.cell (p := ⟨p, 2, none⟩) hp).trans h.2.2.1, (hb.cell (p := ⟨p, 3, none⟩) hp).trans h.2.2.2.1, (hb.cell (p := ⟨p, 4, none⟩) hp).trans h.2.2.2.2.1, (hb.cell (p := ⟨p, 5, none⟩) hp).trans h.2.2.2.2.2⟩
def n6 (k n : Int) : Array Value := #[.int .i64 k, .int .i64 0, .string ⟨#[115, 117, 109]⟩, .string ⟨#[]⟩, .int .i64 n, .slice none 0 0]
def n12 : Array Value := #[.int .i64 5, .int .i64 0, .string ⟨#[115, 117, 109]⟩, .string ⟨#[]⟩, .int .i64 5, .slice none 0 0, .int .i64 6, .int .i64 0, .string ⟨#[115, 117, 109]⟩, .string ⟨#[]⟩, .int .i64 6, .slice none 0 0]
theorem n6_new (W : World) (k n : Int) : N6 (W.alloc (.cells #[.int .i64 k, .int .i64 0, .string ⟨#[115, 117, 109]⟩, .string ⟨#[]⟩, .int .i64 n, .slice none 0 0] 33)) W.heap.size k n := ⟨by simp, by simp, by simp, by simp, by simp, by simp⟩
theorem nl_two (W : World) : NL (W.alloc (.cells n12 33)) (W.heap.size + 1) (some ⟨W.heap.size, 0, none⟩) [aT, bT] := by
  refine ⟨_, _, fun _ => none, fun _ => 0, fun _ => ⟨W.heap.size, 0, rfl, by omega, fun i x hx => ?_⟩, fun i x hx => ?_⟩
  · match i, hx with
    | 0, hx => cases hx; exact ⟨by simp [n12, aT, Rl.k], by simp [n12, aT, Rl.p], by simp [n12, aT, Rl.f], by simp [n12, aT, Rl.t], by simp [n12, aT, Rl.n], by simp [n12, aT, Rl.l]⟩
    | 1, hx => cases hx; exact ⟨by simp [n12, bT, Rl.k], by simp [n12, bT, Rl.p], by simp [n12, bT, Rl.f], by simp [n12, bT, Rl.t], by simp [n12, bT, Rl.n], by simp [n12, bT, Rl.l]⟩
    | i + 2, hx => simp at hx
  · match i, hx with
    | 0, hx => cases hx; exact NL.nil _ _ _
    | 1, hx => cases hx; exact NL.nil _ _ _
    | i + 2, hx => simp at hx
theorem all_call (W : World) (hG : Gl W) : Calls Tryz.prog 14 #[.agg #[.int .i64 0, .int .i64 0, .string ⟨#[]⟩, .string ⟨#[]⟩, .int .i64 0, .slice (some ⟨W.heap.size, 0, none⟩) 2 2]] (W.alloc (.cells n12 33)) fun e w' => e = .returned (.bool true) ∧ Below W.heap.size W w' := by
  have hb : Below W.heap.size W (W.alloc (.cells n12 33)) := (Below.refl _ _).alloc (Nat.le_refl _) _
  refine (clash_any allT (some ⟨W.heap.size, 0, none⟩) 2 (W.heap.size + 1) _ (nl_two W) (by simp) (hG.below hb) (by decide) ?_).mono ?_
  · intro l hl a ha
    rw [cases_all] at hl
    simp at hl
    subst hl
    simp at ha
    rcases ha with rfl | rfl
    · exact fit_ab.1
    · exact fit_ab.2
  · rintro e w' ⟨r, rfl, hr, hb2⟩
    have : r = true := hr.2 all_clash
    subst this
    exact ⟨rfl, hb.trans (hb2.mono hb.size)⟩
theorem any_call (W : World) (hG : Gl W) : Calls Tryz.prog 14 #[.agg #[.int .i64 1, .int .i64 0, .string ⟨#[]⟩, .string ⟨#[]⟩, .int .i64 0, .slice (some ⟨W.heap.size, 0, none⟩) 2 2]] (W.alloc (.cells n12 33)) fun e w' => e = .returned (.bool false) ∧ Below W.heap.size W w' := by
  have hb : Below W.heap.size W (W.alloc (.cells n12 33)) := (Below.refl _ _).alloc (Nat.le_refl _) _
  refine (clash_any anyT (some ⟨W.heap.size, 0, none⟩) 2 (W.heap.size + 1) _ (nl_two W) (by simp) (hG.below hb) (by decide) ?_).mono ?_
  · intro l hl a ha
    rw [cases_any] at hl
    simp at hl
    rcases hl with rfl | rfl
    · simp at ha
      subst ha
      exact fit_ab.1
    · simp at ha
      subst ha
      exact fit_ab.2
  · rintro e w' ⟨r, rfl, hr, hb2⟩
    have : r = false := by
      cases r
      · rfl
      · exact absurd (hr.1 rfl) any_clash
    subst this
    exact ⟨rfl, hb.trans (hb2.mono hb.size)⟩
set_option maxHeartbeats 2000000 in
theorem awake_any (w : World) (hG : Gl w) : Calls Tryz.prog 6 #[] w fun e w' => e = .returned (.bool true) ∧ Below w.heap.size w w' := by
  have ha := n6_new w 5 5
  have hb := n6_new (w.alloc (.cells #[.int .i64 5, .int .i64 0, .string ⟨#[115, 117, 109]⟩, .string ⟨#[]⟩, .int .i64 5, .slice none 0 0] 33)) 6 6
  have hs1 : (w.alloc (.cells #[.int .i64 5, .int .i64 0, .string ⟨#[115, 117, 109]⟩, .string ⟨#[]⟩, .int .i64 5, .slice none 0 0] 33)).heap.size = w.heap.size + 1 := by simp
  rw [hs1] at hb
  have hb1 : Below w.heap.size w (w.alloc (.cells #[.int .i64 5, .int .i64 0, .string ⟨#[115, 117, 109]⟩, .string ⟨#[]⟩, .int .i64 5, .slice none 0 0] 33)) := (Below.refl _ _).alloc (Nat.le_refl _) _
  have hbb : Below (w.heap.size + 1) (w.alloc (.cells #[.int .i64 5, .int .i64 0, .string ⟨#[115, 117, 109]⟩, .string ⟨#[]⟩, .int .i64 5, .slice none 0 0] 33)) ((w.alloc (.cells #[.int .i64 5, .int .i64 0, .string ⟨#[115, 117, 109]⟩, .string ⟨#[]⟩, .int .i64 5, .slice none 0 0] 33)).alloc (.cells #[.int .i64 6, .int .i64 0, .string ⟨#[115, 117, 109]⟩, .string ⟨#[]⟩, .int .i64 6, .slice none 0 0] 33)) := (Below.refl _ _).alloc (by omega) _
  have hs2 : ((w.alloc (.cells #[.int .i64 5, .int .i64 0, .string ⟨#[115, 117, 109]⟩, .string ⟨#[]⟩, .int .i64 5, .slice none 0 0] 33)).alloc (.cells #[.int .i64 6, .int .i64 0, .string ⟨#[115, 117, 109]⟩, .string ⟨#[]⟩, .int .i64 6, .slice none 0 0] 33)).heap.size = w.heap.size + 2 := by simp
  have hB2 := hb1.trans (hbb.mono (by omega))
  have ha2 := ha.keep hbb (by omega)
  have HV := Lib.hid (value_any ⟨#[49, 50]⟩ 1 _ (hG.below hB2) (by decide))
  rw [val12] at HV
  have HK : Hid (∀ w3 : World, Below ((w.alloc (.cells #[.int .i64 5, .int .i64 0, .string ⟨#[115, 117, 109]⟩, .string ⟨#[]⟩, .int .i64 5, .slice none 0 0] 33)).alloc (.cells #[.int .i64 6, .int .i64 0, .string ⟨#[115, 117, 109]⟩, .string ⟨#[]⟩, .int .i64 6, .slice none 0 0] 33)).heap.size ((w.alloc (.cells #[.int .i64 5, .int .i64 0, .string ⟨#[115, 117, 109]⟩, .string ⟨#[]⟩, .int .i64 5, .slice none 0 0] 33)).alloc (.cells #[.int .i64 6, .int .i64 0, .string ⟨#[115, 117, 109]⟩, .string ⟨#[]⟩, .int .i64 6, .slice none 0 0] 33)) w3 → N6 w3 w.heap.size 5 5 ∧ N6 w3 (w.heap.size + 1) 6 6 ∧ Gl w3 ∧ Below w.heap.size w w3 ∧ w.heap.size + 2 ≤ w3.heap.size) := Lib.hid (by
    intro w3 h3
    have hB3 := hB2.trans (h3.mono (by omega))
    have := h3.size
    exact ⟨ha2.keep h3 (by omega), hb.keep h3 (by omega), hG.below hB3, hB3, by omega⟩)
  clear ha hb hb1 hbb hB2 ha2 hs1 hs2
  have HT := Lib.hid (fun W => type_any ⟨#[105, 115, 115, 117, 101, 100]⟩ W)
  rw [typeI] at HT
  go_enter Tryz.func6, Tryz.ntmps6
  go_wp2_with (first
    | (go_at_call 13; refine HV.out.mono ?_; rintro e w3 ⟨rfl, hb3⟩; obtain ⟨hn1, hn2, hG3, hB3, hs3⟩ := HK.out w3 hb3; have HN1 := Lib.hid hn1; have HN2 := Lib.hid hn2; obtain ⟨a0, a1, a2, a3, a4, a5⟩ := hn1; obtain ⟨e0, e1, e2, e3, e4, e5⟩ := hn2; have hA := all_call w3 hG3; unfold n12 at hA; have HA := Lib.hid hA; have HG3 := Lib.hid hG3; have HB3 := Lib.hid hB3; clear hb3 hG3 hB3 hA HK HV)
    | (go_at_call 14; refine HA.out.mono ?_; rintro e w4 ⟨rfl, hb4⟩; clear a0 a1 a2 a3 a4 a5 e0 e1 e2 e3 e4 e5; obtain ⟨a0, a1, a2, a3, a4, a5⟩ := HN1.out.keep hb4 (by omega); obtain ⟨e0, e1, e2, e3, e4, e5⟩ := HN2.out.keep hb4 (by omega); have hB := any_call w4 (HG3.out.below hb4); unfold n12 at hB; have HBc := Lib.hid hB; have hs4 := hb4.size; have HB4 := Lib.hid hb4; clear hb4 hB HA)
    | (go_at_call 14; refine HBc.out.mono ?_; rintro e w5 ⟨rfl, hb5⟩; have hs5 := hb5.size; have HB5 := Lib.hid hb5; clear hb5 HBc)
    | (go_at_call 15; refine (HT.out _).mono ?_; rintro e w6 ⟨rfl, hb6⟩; have HB6 := Lib.hid hb6; clear hb6 HT)
    | fail)
  go_ret
  exact ⟨rfl, HB3.out.trans ((HB4.out.trans ((HB5.out.trans (HB6.out.mono (by omega))).mono (by omega))).mono (by omega))⟩
end Go.Proofs.YtbkffdfboloogaaGreatDoor
