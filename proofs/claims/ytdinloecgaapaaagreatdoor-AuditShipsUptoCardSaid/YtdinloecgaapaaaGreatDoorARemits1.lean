/- audit.Remits' closure; audit.gather over it. -/
import Derived.Test.YtdinloecgaapaaaGreatDoorMRShelf
import Derived.Test.YtdinloecgaapaaaGreatDoorMRMark
import Derived.Deep.QuietTactic
import Derived.BigQuiet
import Derived.Deep.RegionHeld3
namespace Go.Proofs.YtdinloecgaapaaaGreatDoor
open Go.RowKit Go.Maps Go.Lib
set_option linter.unusedVariables false
set_option maxRecDepth 100000

def eqM (x y : Mo) : Bool := (x.cur.toList == y.cur.toList) && decide (x.n = y.n)
/-- the first place, from i on, at which what was got is not what was sent -/
def firstBad : Nat → List Mo → List Mo → Option Nat
  | _, _, [] => none
  | i, [], _ :: _ => some i
  | i, x :: s, y :: g => if eqM x y then firstBad (i + 1) s g else some i
theorem firstBad_end (i : Nat) (s g : List Mo) (h : g.length ≤ i) : firstBad i (s.drop i) (g.drop i) = none := by
  rw [List.drop_of_length_le h]
  cases s.drop i <;> rfl
theorem firstBad_short (i : Nat) (s g : List Mo) (h : i < g.length) (hs : s.length ≤ i) : firstBad i (s.drop i) (g.drop i) = some i := by
  rw [List.drop_of_length_le hs, List.drop_eq_getElem_cons h]
  rfl
theorem firstBad_same (i : Nat) (s g : List Mo) (h : i < g.length) (hs : i < s.length) (he : eqM s[i] g[i] = true) : firstBad i (s.drop i) (g.drop i) = firstBad (i + 1) (s.drop (i + 1)) (g.drop (i + 1)) := by
  rw [List.drop_eq_getElem_cons h, List.drop_eq_getElem_cons hs, firstBad, he]
  rfl
theorem firstBad_differ (i : Nat) (s g : List Mo) (h : i < g.length) (hs : i < s.length) (he : eqM s[i] g[i] = false) : firstBad i (s.drop i) (g.drop i) = some i := by
  rw [List.drop_eq_getElem_cons h, List.drop_eq_getElem_cons hs, firstBad, he]
  rfl
def lineT (fr to : ByteArray) (i : Nat) : ByteArray := ⟨(Lib.join ([fr, to, ⟨#[114, 101, 109, 105, 116, 115]⟩, ⟨(decDigits i).toArray⟩].map (·.data.toList)) [32]).toArray⟩
def linesT (fr to : ByteArray) (o : Option Nat) : List ByteArray := match o with
  | none => []
  | some i => [lineT fr to i]

theorem hSMoney : Tryz.prog.underlying 111 = some (.struct (Tryz.prog.fieldsOf 111)) := by kernel_rfl
theorem hPMoney : Tryz.prog.stoodInHeld 111 = false := by kernel_rfl
theorem eqIn_money (xa a : ByteArray) (x y : Int) (W : World) : (Op.equalIn 10000 111 (.agg #[.string xa, .int .i64 x]) (.agg #[.string a, .int .i64 y])).run Tryz.prog W = .ok (eqM ⟨xa, x⟩ ⟨a, y⟩) W := by
  rw [run_equalIn_agg W 9999 111 _ _ hSMoney hPMoney]
  simp only [Program.fieldsOf, Tryz.underlying111]
  unfold eqM
  by_cases h1 : (xa.toList == a.toList) = true <;> by_cases h2 : x = y
  all_goals go_simp
theorem row_at {w : World} {base : Nat} {v : Value} {T : List Mo} (hr : w.ownsRow base 111 2 v T.length (cellsM T)) {k : Nat} (hk : k < T.length) : ∃ g cap, v = .slice (some ⟨g, 0, none⟩) T.length cap ∧ g < w.heap.size ∧ w.cell? ⟨g, k * 2, none⟩ = some (.string T[k].cur) ∧ w.cell? ⟨g, k * 2 + 1, none⟩ = some (.int .i64 T[k].n) := by
  rcases hr.2 with ⟨h0, hn⟩ | ⟨g, cap, cur, he, _⟩
  · omega
  · subst he
    obtain ⟨c0, c1⟩ := cellsM_at T k _ (List.getElem?_eq_getElem hk)
    exact ⟨g, cap, rfl, (hr.lt g rfl).2, (hr.cellAt _ (by omega)).trans c0, (hr.cellAt _ (by omega)).trans c1⟩
theorem row_form {w : World} {base : Nat} {v : Value} {T : List Mo} (hr : w.ownsRow base 111 2 v T.length (cellsM T)) : ∃ A c, v = .slice A T.length c := by
  rcases hr.2 with ⟨h0, hn⟩ | ⟨g, cap, cur, he, _⟩
  · exact ⟨none, 0, by rw [h0, hn]⟩
  · exact ⟨_, _, he⟩
/-- what the closure has caught -/
structure Cx (w : World) (bg bs bf bt : Nat) (gv sv : Value) (fr to : ByteArray) (sent got : List Mo) : Prop where
  cg : w.cell? ⟨bg, 0, none⟩ = some gv
  cs : w.cell? ⟨bs, 0, none⟩ = some sv
  cf : w.cell? ⟨bf, 0, none⟩ = some (.string fr)
  ct : w.cell? ⟨bt, 0, none⟩ = some (.string to)
  lg : bg < w.heap.size
  ls : bs < w.heap.size
  lf : bf < w.heap.size
  lt : bt < w.heap.size
  rg : w.ownsRow 0 111 2 gv got.length (cellsM got)
  rs : w.ownsRow 0 111 2 sv sent.length (cellsM sent)
theorem Cx.below {w w' : World} {bg bs bf bt : Nat} {gv sv : Value} {fr to : ByteArray} {sent got : List Mo} (h : Cx w bg bs bf bt gv sv fr to sent got) (hb : Below w.heap.size w w') : Cx w' bg bs bf bt gv sv fr to sent got :=
  ⟨(hb.cell (p := ⟨bg, 0, none⟩) h.lg).trans h.cg, (hb.cell (p := ⟨bs, 0, none⟩) h.ls).trans h.cs, (hb.cell (p := ⟨bf, 0, none⟩) h.lf).trans h.cf, (hb.cell (p := ⟨bt, 0, none⟩) h.lt).trans h.ct,
    Nat.lt_of_lt_of_le h.lg hb.size, Nat.lt_of_lt_of_le h.ls hb.size, Nat.lt_of_lt_of_le h.lf hb.size, Nat.lt_of_lt_of_le h.lt hb.size,
    ownsRow_kp h.rg (Kp.of_below (fun _ => False) hb) (fun _ _ e => e), ownsRow_kp h.rs (Kp.of_below (fun _ => False) hb) (fun _ _ e => e)⟩
theorem join_small (fr to : ByteArray) (i : Nat) (h1 : fr.size ≤ 100) (h2 : to.size ≤ 100) (hi : i < 100) : (lineT fr to i).size ≤ 1000000 := by
  have hd : (decDigits i).length ≤ 2 := by
    by_cases h : i < 10
    · rw [dec_small h]; simp
    · rw [dec_big h, dec_small (by omega)]; simp
  change (Lib.join _ _).toArray.size ≤ 1000000
  simp [Lib.join]
  omega

set_option maxHeartbeats 4000000 in
theorem remits1_any (fr to : ByteArray) (sent got : List Mo) (po bg bs bf bt : Nat) (gv sv : Value) (w : World) (hX : Cx w bg bs bf bt gv sv fr to sent got) (hc : w.heap[po]? = some (.cells #[.slice none 0 0] 22 (0, 0))) (hg : got.length ≤ 100) (hsl : sent.length ≤ 1000000) (h1 : fr.size ≤ 100) (h2 : to.size ≤ 100) :
    Calls Tryz.prog 48 #[.func (.func 60) #[] #[.pointer (some ⟨po, 0, none⟩)], .pointer (some ⟨bg, 0, none⟩), .pointer (some ⟨bs, 0, none⟩), .pointer (some ⟨bf, 0, none⟩), .pointer (some ⟨bt, 0, none⟩)] w fun e w' =>
      e = .returned (.tuple #[]) ∧ ∃ A c, w'.cell? ⟨po, 0, none⟩ = some (.slice A (linesT fr to (firstBad 0 sent got)).length c) ∧ Rs w' w'.heap.size A (linesT fr to (firstBad 0 sent got)) ∧ Kp (fun k => k = po) w w' := by
  have HX := Lib.hid hX
  have Hc := Lib.hid hc
  have hpo : po < w.heap.size := (Array.getElem?_eq_some_iff.1 hc).1
  have cg := hX.cg
  obtain ⟨Ag, cpg, rfl⟩ := row_form hX.rg
  obtain ⟨As, cps, rfl⟩ := row_form hX.rs
  clear hX hc
  go_enter Tryz.func48, Tryz.ntmps48
  go_wp2_with fail
  clear cg
  go_loopw [10] (fun i wr => ∃ k : Nat, k ≤ got.length ∧ i = .int .i64 k ∧ Hid (Below w.heap.size w wr) ∧ Hid (firstBad 0 sent got = firstBad k (sent.drop k) (got.drop k))) (fun i _ => got.length - (RowKit.intOf i).toNat)
  case atStart => exact ⟨0, Nat.zero_le _, rfl, Lib.hid (Below.refl _ _), Lib.hid rfl⟩
  case round =>
    obtain ⟨k, hk, rfl, Hb, Hf⟩ := hrel
    have HXr := Lib.hid (HX.out.below Hb.out)
    by_cases hlt : k < got.length
    · obtain ⟨gg, capg, he, hgg, d0, d1⟩ := row_at HXr.out.rg hlt
      injection he with e1 _ e2
      subst e1 e2
      obtain ⟨⟨yc, yn⟩, hy⟩ : ∃ y : Mo, got[k] = y := ⟨_, rfl⟩
      rw [hy] at d0 d1
      simp only at d0 d1
      have hbV := Hb.out.alloc Hb.out.size (.cells #[.string yc, .int .i64 yn] 111)
      have HbV := Lib.hid hbV
      have hXV := HX.out.below hbV
      have HXV := Lib.hid hXV
      have cs := hXV.cs
      have m0 : (wr.alloc (.cells #[.string yc, .int .i64 yn] 111)).cell? ⟨wr.heap.size, 0, none⟩ = some (.string yc) := by simp
      have m1 : (wr.alloc (.cells #[.string yc, .int .i64 yn] 111)).cell? ⟨wr.heap.size, 1, none⟩ = some (.int .i64 yn) := by simp
      by_cases hls : k < sent.length
      · skip
        obtain ⟨gs, capS, he, hgs, b0, b1⟩ := row_at hXV.rs hls
        injection he with e1 _ e2
        subst e1 e2
        obtain ⟨⟨xc, xn⟩, hx⟩ : ∃ x : Mo, sent[k] = x := ⟨_, rfl⟩
        rw [hx] at b0 b1
        simp only at b0 b1
        have q0 : ¬ (sent.length ≤ k) := by omega
        have q1 : decide ((sent.length : Int) ≤ (k : Int)) = false := by simp; omega
        have q2 : decide (sent.length ≤ k) = false := by simp; omega
        by_cases heq : eqM ⟨xc, xn⟩ ⟨yc, yn⟩ = true
        · have Hnx := Lib.hid (Hf.out.trans (firstBad_same k sent got hlt hls (by rw [hx, hy]; exact heq)))
          have qe : ∀ W : World, (Op.equalIn 10000 111 (.agg #[.string xc, .int .i64 xn]) (.agg #[.string yc, .int .i64 yn])).run Tryz.prog W = .ok true W := fun W => by rw [eqIn_money, heq]
          clear hbV hXV hx hy
          go_wp2_with fail
          clear d0 d1
          generalize wr.alloc (.cells #[.string yc, .int .i64 yn] 111) = V at *
          go_quiet (fail)
          go_wp2_with fail
          go_roundw
          case rel => exact ⟨k + 1, by omega, by go_num, Lib.hid (below_drewN HbV.out nq), Hnx⟩
          case measure => simp [RowKit.intOf]; omega
        · have heq' : eqM ⟨xc, xn⟩ ⟨yc, yn⟩ = false := by simpa using heq
          have Hfin := Lib.hid (Hf.out.trans (firstBad_differ k sent got hlt hls (by rw [hx, hy]; exact heq')))
          have qe : ∀ W : World, (Op.equalIn 10000 111 (.agg #[.string xc, .int .i64 xn]) (.agg #[.string yc, .int .i64 yn])).run Tryz.prog W = .ok false W := fun W => by rw [eqIn_money, heq']
          clear hbV hXV hx hy
          go_wp2_with fail
          clear d0 d1
          generalize wr.alloc (.cells #[.string yc, .int .i64 yn] 111) = V at *
          go_quiet (fail)
          clear b0 b1 qe
          have HX2 := Lib.hid (HXV.out.below (below_drewN (Below.refl V.heap.size V) nq))
          have Hb2 := Lib.hid (below_drewN HbV.out nq)
          clear HXV HbV cs m0 m1 HXr
          generalize V.drewN nq = w2 at *
          go_wp2_with fail
          have cf := HX2.out.cf
          have ct := HX2.out.ct
          have hpf : bf ≠ po := by
            rintro rfl
            have := (Hb2.out.block bf hpo).trans Hc.out
            simp [World.cell?, this] at cf
          have hpt : bt ≠ po := by
            rintro rfl
            have := (Hb2.out.block bt hpo).trans Hc.out
            simp [World.cell?, this] at ct
          have hs2 := Hb2.out.size
          have hlf := HX2.out.lf
          have hlT := HX2.out.lt
          have HL := Lib.hid (line_nil po w2.heap.size 0 4 [fr, to, ⟨#[114, 101, 109, 105, 116, 115]⟩, ⟨(decDigits k).toArray⟩] (lineT fr to k) (w2.alloc (.cells #[.string fr, .string to, .string ⟨#[114, 101, 109, 105, 116, 115]⟩, .string ⟨(decDigits k).toArray⟩] 9)).drew
            ((Below.heap_alloc w2 _ po (by omega)).trans ((Hb2.out.block po hpo).trans Hc.out)) (by
              intro j x hj
              rcases j with _ | _ | _ | _ | j
              · simp at hj; subst hj; simp
              · simp at hj; subst hj; simp
              · simp at hj; subst hj; simp
              · simp at hj; subst hj; simp
              · simp at hj) (by simp) (by simp) (Nat.le_refl _) rfl (join_small fr to k h1 h2 (by omega)))
          have HI := Lib.hid (fun W : World => Tryz.strconv_Itoa_small k (by omega) W)
          go_region_held3 (fun w' => w'.cell? ⟨bf, 0, none⟩ = some (.string fr) ∧ w'.cell? ⟨bt, 0, none⟩ = some (.string to))
            (first | exact ⟨cf, ct⟩ | exact ⟨Lib.cell?_alloc_some _ cf, Lib.cell?_alloc_some _ ct⟩ | exact ⟨cf4, ct4⟩ | go_keep)
            (first
              | (go_at_call 49; refine (HI.out _).mono ?_; rintro e w3 ⟨rfl, rfl⟩)
              | (go_at_call 60; refine HL.out.mono ?_; rintro e w4 ⟨rfl, g4, cap4, hc4, hR4, hk4⟩; have cf4 : w4.cell? ⟨bf, 0, none⟩ = some (.string fr) := (World.cell?_of_block (a := ⟨bf, 0, none⟩) (hk4.block bf (by simp; omega) hpf)).trans (Lib.cell?_alloc_some _ cf); have ct4 : w4.cell? ⟨bt, 0, none⟩ = some (.string to) := (World.cell?_of_block (a := ⟨bt, 0, none⟩) (hk4.block bt (by simp; omega) hpt)).trans (Lib.cell?_alloc_some _ ct)))
          all_goals
            have Hc4 := Lib.hid hc4
            have HR4 := Lib.hid hR4
            have HK4 := Lib.hid hk4
            clear hc4 hR4 hk4 HL HI
            go_wp2
            refine bodyPost_ret (results_none rfl _ _ _) rfl ?_
            refine ⟨rfl, some ⟨g4, 0, none⟩, cap4, ?_, ?_, ?_⟩
            · rw [Hfin.out]; exact Hc4.out
            · rw [Hfin.out]; exact HR4.out
            · exact ((Kp.of_below _ Hb2.out).trans (Kp.of_below _ (((Below.refl w2.heap.size w2).alloc (Nat.le_refl _) _).drew))).trans HK4.out
      · have q0 : sent.length ≤ k := by omega
        have q1 : decide ((sent.length : Int) ≤ (k : Int)) = true := by simp; omega
        have q2 : decide (sent.length ≤ k) = true := by simp; omega
        have Hfin := Lib.hid (Hf.out.trans (firstBad_short k sent got hlt (by omega)))
        clear hbV hXV
        go_wp2_with fail
        clear d0 d1
        generalize wr.alloc (.cells #[.string yc, .int .i64 yn] 111) = V at *
        go_quiet (fail)
        have HX2 := Lib.hid (HXV.out.below (below_drewN (Below.refl V.heap.size V) nq))
        have Hb2 := Lib.hid (below_drewN HbV.out nq)
        clear HXV HbV cs m0 m1 HXr
        generalize V.drewN nq = w2 at *
        go_wp2_with fail
        have cf := HX2.out.cf
        have ct := HX2.out.ct
        have hpf : bf ≠ po := by
          rintro rfl
          have := (Hb2.out.block bf hpo).trans Hc.out
          simp [World.cell?, this] at cf
        have hpt : bt ≠ po := by
          rintro rfl
          have := (Hb2.out.block bt hpo).trans Hc.out
          simp [World.cell?, this] at ct
        have hs2 := Hb2.out.size
        have hlf := HX2.out.lf
        have hlT := HX2.out.lt
        have HL := Lib.hid (line_nil po w2.heap.size 0 4 [fr, to, ⟨#[114, 101, 109, 105, 116, 115]⟩, ⟨(decDigits k).toArray⟩] (lineT fr to k) (w2.alloc (.cells #[.string fr, .string to, .string ⟨#[114, 101, 109, 105, 116, 115]⟩, .string ⟨(decDigits k).toArray⟩] 9)).drew
          ((Below.heap_alloc w2 _ po (by omega)).trans ((Hb2.out.block po hpo).trans Hc.out)) (by
            intro j x hj
            rcases j with _ | _ | _ | _ | j
            · simp at hj; subst hj; simp
            · simp at hj; subst hj; simp
            · simp at hj; subst hj; simp
            · simp at hj; subst hj; simp
            · simp at hj) (by simp) (by simp) (Nat.le_refl _) rfl (join_small fr to k h1 h2 (by omega)))
        have HI := Lib.hid (fun W : World => Tryz.strconv_Itoa_small k (by omega) W)
        go_region_held3 (fun w' => w'.cell? ⟨bf, 0, none⟩ = some (.string fr) ∧ w'.cell? ⟨bt, 0, none⟩ = some (.string to))
          (first | exact ⟨cf, ct⟩ | exact ⟨Lib.cell?_alloc_some _ cf, Lib.cell?_alloc_some _ ct⟩ | exact ⟨cf4, ct4⟩ | go_keep)
          (first
            | (go_at_call 49; refine (HI.out _).mono ?_; rintro e w3 ⟨rfl, rfl⟩)
            | (go_at_call 60; refine HL.out.mono ?_; rintro e w4 ⟨rfl, g4, cap4, hc4, hR4, hk4⟩; have cf4 : w4.cell? ⟨bf, 0, none⟩ = some (.string fr) := (World.cell?_of_block (a := ⟨bf, 0, none⟩) (hk4.block bf (by simp; omega) hpf)).trans (Lib.cell?_alloc_some _ cf); have ct4 : w4.cell? ⟨bt, 0, none⟩ = some (.string to) := (World.cell?_of_block (a := ⟨bt, 0, none⟩) (hk4.block bt (by simp; omega) hpt)).trans (Lib.cell?_alloc_some _ ct)))
        all_goals
          have Hc4 := Lib.hid hc4
          have HR4 := Lib.hid hR4
          have HK4 := Lib.hid hk4
          clear hc4 hR4 hk4 HL HI
          go_wp2
          refine bodyPost_ret (results_none rfl _ _ _) rfl ?_
          refine ⟨rfl, some ⟨g4, 0, none⟩, cap4, ?_, ?_, ?_⟩
          · rw [Hfin.out]; exact Hc4.out
          · rw [Hfin.out]; exact HR4.out
          · exact ((Kp.of_below _ Hb2.out).trans (Kp.of_below _ (((Below.refl w2.heap.size w2).alloc (Nat.le_refl _) _).drew))).trans HK4.out
    · have Hfin := Lib.hid (Hf.out.trans (firstBad_end k sent got (by omega)))
      go_wp2
      go_end0
      refine ⟨rfl, none, 0, ?_, ?_, Kp.of_below _ Hb.out⟩
      · rw [Hfin.out]
        have := (Hb.out.block po hpo).trans Hc.out
        simp [World.cell?, this, linesT]
      · rw [Hfin.out]
        intro h
        simp [linesT] at h

set_option maxHeartbeats 2000000 in
theorem gather_any (fr to : ByteArray) (sent got : List Mo) (bg bs bf bt : Nat) (gv sv : Value) (w : World) (hX : Cx w bg bs bf bt gv sv fr to sent got) (hg : got.length ≤ 100) (hsl : sent.length ≤ 1000000) (h1 : fr.size ≤ 100) (h2 : to.size ≤ 100) :
    Calls Tryz.prog 28 #[.func (.func 48) #[] #[.pointer (some ⟨bg, 0, none⟩), .pointer (some ⟨bs, 0, none⟩), .pointer (some ⟨bf, 0, none⟩), .pointer (some ⟨bt, 0, none⟩)]] w fun e w' =>
      ∃ A c, e = .returned (.slice A (linesT fr to (firstBad 0 sent got)).length c) ∧ Rs w' w'.heap.size A (linesT fr to (firstBad 0 sent got)) ∧ Below w.heap.size w w' := by
  have hmf : ∀ (fn : Fn) (first cap : Array Value) (w : World), (Instr.makeFunc fn first cap).run Tryz.prog w = .ok (.func fn first cap) w := fun _ _ _ _ => rfl
  have hb1 := (Below.refl w.heap.size w).alloc (Nat.le_refl _) (.cells #[.slice none 0 0] 22)
  have HX1 := Lib.hid (hX.below hb1)
  have HB1 := Lib.hid hb1
  have hc1 : (w.alloc (.cells #[.slice none 0 0] 22)).heap[w.heap.size]? = some (.cells #[.slice none 0 0] 22 (0, 0)) := heap_alloc_new w _
  have HR := Lib.hid (remits1_any fr to sent got w.heap.size bg bs bf bt gv sv _ HX1.out hc1 hg hsl h1 h2)
  clear hX hb1 hc1
  go_enter Tryz.func28, Tryz.ntmps28
  go_wp2_with (first
    | (go_at_call 48; refine HR.out.mono ?_; rintro e w2 ⟨rfl, A2, c2, hc2, hR2, hk2⟩)
    | go_in)
  have HR2 := Lib.hid hR2
  have HK2 := Lib.hid hk2
  clear hR2 hk2 HR
  go_wp2
  go_ret
  refine ⟨A2, c2, rfl, HR2.out, HB1.out.trans (HK2.out.below (by simp) (fun k e => by omega))⟩
end Go.Proofs.YtdinloecgaapaaaGreatDoor
