/- Own rows of fields, and append to them. paper.fields: names and values, put together into fields. field.Get: the first field of a name. -/
import Derived.Test.YtbkffdfboloogaaGreatDoorMB
import Derived.Test.YtbkffdfboloogaaGreatDoorGMap
import Derived.Maps.AppendAt
import Derived.Laws.OwnMore
import Derived.OwnWalk
import Derived.Lib.ItoaMem
import Derived.Test.YtbkffdfboloogaaGreatDoorMD
import Derived.Deep.RegionLaw
import Derived.Laws.MakeOwn
import Derived.Shelf.Abstract
namespace Go.Proofs.YtbkffdfboloogaaGreatDoor
open Go.RowKit Go.Maps Go.Lib
set_option linter.unusedVariables false
set_option maxRecDepth 100000

abbrev Fp := ByteArray × ByteArray
/-- the fields l stand from off on in block g -/
def FpAt (w : World) (g off : Nat) (l : List Fp) : Prop := ∀ i x, l[i]? = some x → w.cell? ⟨g, off + i * 2, none⟩ = some (.string x.1) ∧ w.cell? ⟨g, off + i * 2 + 1, none⟩ = some (.string x.2)
/-- a slice of fields, in a block below B -/
def Fps (w : World) (B : Nat) (A : Option Addr) (l : List Fp) : Prop := 0 < l.length → ∃ g off, A = some ⟨g, off, none⟩ ∧ g < B ∧ FpAt w g off l
section
variable {w w' : World} {B B' : Nat} {A : Option Addr} {l : List Fp}
theorem FpAt.below {g off : Nat} (h : FpAt w g off l) (hb : Below B w w') (hg : g < B) : FpAt w' g off l := fun i x hx =>
  ⟨(hb.cell (p := ⟨g, off + i * 2, none⟩) hg).trans (h i x hx).1, (hb.cell (p := ⟨g, off + i * 2 + 1, none⟩) hg).trans (h i x hx).2⟩
theorem Fps.kept (h : Fps w B A l) (hb : Below B w w') : Fps w' B A l := fun h0 => by
  obtain ⟨g, off, e, hg, hc⟩ := h h0
  exact ⟨g, off, e, hg, hc.below hb hg⟩
theorem Fps.more (h : Fps w B A l) (hB : B ≤ B') : Fps w B' A l := fun h0 => by
  obtain ⟨g, off, e, hg, hc⟩ := h h0
  exact ⟨g, off, e, by omega, hc⟩
theorem Fps.at_ (h : Fps w B A l) {i : Nat} (hi : i < l.length) : ∃ g off, A = some ⟨g, off, none⟩ ∧ g < B ∧ w.cell? ⟨g, off + i * 2, none⟩ = some (.string l[i].1) ∧ w.cell? ⟨g, off + i * 2 + 1, none⟩ = some (.string l[i].2) := by
  obtain ⟨g, off, e, hg, hc⟩ := h (by omega)
  exact ⟨g, off, e, hg, hc i _ (List.getElem?_eq_getElem hi)⟩
end
def fc (x : Fp) : List Value := [.string x.1, .string x.2]
def fpcs (L : List Fp) : List Value := L.flatMap fc
def zfp : List Value := [.string ⟨#[]⟩, .string ⟨#[]⟩]
theorem info_fld : (Tryz.prog.info? 118).map (fun i => (i.zero, i.size, i.bytes)) = some (some (.agg zfp.toArray), 2, 32) := by kernel_rfl
theorem fcs_len (L : List Fp) : (fpcs L).length = L.length * 2 := by
  induction L with
  | nil => rfl
  | cons x L ih =>
    unfold fpcs at *
    rw [List.flatMap_cons, List.length_append, ih, List.length_cons]
    simp [fc]
    omega
theorem fcs_app (L M : List Fp) : fpcs (L ++ M) = fpcs L ++ fpcs M := List.flatMap_append
theorem fcs_at (L : List Fp) : ∀ (i : Nat) (x : Fp), L[i]? = some x → ∀ j, j < 2 → (fpcs L)[i * 2 + j]? = (fc x)[j]? := by
  induction L with
  | nil => intro i x h; simp at h
  | cons y L ih =>
    intro i x h j hj
    unfold fpcs at *
    rw [List.flatMap_cons]
    match i, h with
    | 0, h =>
      cases h
      rw [Nat.zero_mul, Nat.zero_add, List.getElem?_append_left (by simpa [fc] using hj)]
    | i + 1, h =>
      rw [List.getElem?_append_right (by simp [fc]; omega)]
      have : (i + 1) * 2 + j - (fc y).length = i * 2 + j := by simp [fc]; omega
      rw [this]
      exact ih i x h j hj
theorem fcs_one (L : List Fp) : ∀ u ∈ fpcs L, u.oneCell' = true := by
  intro u hu
  obtain ⟨x, _, hu⟩ := List.mem_flatMap.1 hu
  simp only [fc, List.mem_cons, List.not_mem_nil, or_false] at hu
  rcases hu with rfl | rfl <;> rfl
/-- v is a slice of its own, in a block from base on, of the fields L -/
def Pw (w : World) (base : Nat) (v : Value) (L : List Fp) : Prop := w.ownsRow base 118 2 v L.length (fpcs L)
section
variable {w w' : World} {base : Nat} {v : Value} {L : List Fp}
theorem Pw.lt (h : Pw w base v L) {q : Nat} (hq : v.ownBlock = some q) : base ≤ q ∧ q < w.heap.size := by
  rcases h.2 with ⟨h1, _⟩ | ⟨g, cap, cur, h1, h2, h3, _⟩
  · rw [h1] at hq; simp [Value.ownBlock] at hq
  · rw [h1] at hq
    simp [Value.ownBlock] at hq
    subst hq
    exact ⟨h2, (Array.getElem?_eq_some_iff.1 h3).1⟩
theorem Pw.keep (h : Pw w base v L) (hk : ∀ q, v.ownBlock = some q → w'.heap[q]? = w.heap[q]?) : Pw w' base v L := by
  refine ⟨h.1, ?_⟩
  rcases h.2 with h0 | ⟨g, cap, cur, h1, h2, h3, h4⟩
  · exact .inl h0
  · exact .inr ⟨g, cap, cur, h1, h2, (hk g (by rw [h1]; simp [Value.ownBlock])).trans h3, h4⟩
theorem Pw.below (h : Pw w base v L) (hb : Below w.heap.size w w') : Pw w' base v L := h.keep fun q hq => hb.block q (h.lt hq).2
theorem Pw.form (h : Pw w base v L) : ∃ A c, v = .slice A L.length c ∧ (A = none → c = 0) := by
  rcases h.2 with ⟨h1, h2⟩ | ⟨g, cap, cur, h1, _⟩
  · exact ⟨none, 0, by rw [h1, h2], fun _ => rfl⟩
  · exact ⟨_, _, h1, fun h => (by cases h)⟩
theorem Pw.nil (w : World) (base : Nat) : Pw w base (.slice none 0 0) [] := World.ownsRow_nil _ _ _ _
theorem Pw.lts {A : Option Addr} {c : Nat} (h : Pw w base (.slice A L.length c) L) : Fps w w.heap.size A L := by
  intro hl
  rcases h.2 with ⟨h1, h2⟩ | ⟨g, cap, cur, h1, h2, h3, h4⟩
  · omega
  · injection h1 with h1
    subst h1
    refine ⟨g, 0, rfl, (Array.getElem?_eq_some_iff.1 h3).1, fun i x hx => ?_⟩
    have hi := (List.getElem?_eq_some_iff.1 hx).1
    have k : ∀ j, j < 2 → w.cell? ⟨g, 0 + i * 2 + j, none⟩ = (fc x)[j]? := fun j hj => by
      rw [← fcs_at L i x hx j hj, Nat.zero_add]
      exact h.cellAt _ (by omega)
    exact ⟨k 0 (by omega), k 1 (by omega)⟩
end
/-- append of fields that stand anywhere to an own row -/
theorem app_flds {w : World} {base g off cap : Nat} (ty : TypeId) {v : Value} {L M : List Fp} (hv : Pw w base v L) (hs : FpAt w g off M) (hl : L.length + M.length ≤ 100000000) (hbase : base ≤ w.heap.size) :
    ∃ v' w', (Builtin.append_ #[58, 58] ty #[v, .slice (some ⟨g, off, none⟩) M.length cap]).run Tryz.prog w = .ok v' w' ∧ Pw w' base v' (L ++ M) ∧ w.grownBy w' v.ownBlock ∧ (v'.ownBlock = v.ownBlock ∨ v'.ownBlock = some w.heap.size) := by
  obtain ⟨i0, hi0, hz0, hz1, hz2⟩ := info_parts info_fld
  obtain ⟨v', w', hr, h2, h3, _, h5⟩ := run_append_own_at (P := Tryz.prog) (w := w) base 58 ty 118 i0 (.agg zfp.toArray) 2 32 Tryz.underlying58 hi0 hz0 hz1 hz2 rfl (by omega) v L.length (fpcs L) hv ⟨g, off, none⟩ M.length cap (fpcs M) (fcs_len M) (fun j u hu => by
      have hj : j < M.length * 2 := by rw [← fcs_len M]; exact (List.getElem?_eq_some_iff.1 hu).1
      have hi : j / 2 < M.length := by omega
      have h := hs (j / 2) _ (List.getElem?_eq_getElem hi)
      have hm : j % 2 < 2 := Nat.mod_lt _ (by omega)
      have ha := fcs_at M (j / 2) _ (List.getElem?_eq_getElem hi) (j % 2) hm
      rw [show j / 2 * 2 + j % 2 = j by omega, hu] at ha
      rw [Lib.add_plain]
      have e : j % 2 = 0 ∨ j % 2 = 1 := by omega
      rcases e with e | e
      · rw [e] at ha
        rw [show off + j = off + j / 2 * 2 by omega, h.1]
        exact ha.symm
      · rw [e] at ha
        rw [show off + j = off + j / 2 * 2 + 1 by omega, h.2]
        exact ha.symm) (fcs_one M) (by unfold maxLen; omega) (by omega) hbase
  exact ⟨v', w', hr, by unfold Pw; rw [List.length_append, fcs_app]; exact h2, h3, h5⟩
/-- a row of one lot, just built -/
theorem one_fld (W : World) (x : Fp) : FpAt (W.alloc (.cells #[.string x.1, .string x.2] 118)) W.heap.size 0 [x] := fun i y hy => by
  match i, hy with
  | 0, hy => cases hy; exact ⟨by simp, by simp⟩
  | i + 1, hy => simp at hy
end Go.Proofs.YtbkffdfboloogaaGreatDoor
namespace Go.Proofs.YtbkffdfboloogaaGreatDoor
open Go.RowKit Go.Maps Go.Lib
set_option linter.unusedVariables false
set_option maxRecDepth 100000

/-- texts from off on in block g -/
def StrAt (w : World) (g off : Nat) (S : List ByteArray) : Prop := ∀ i x, S[i]? = some x → w.cell? ⟨g, off + i, none⟩ = some (.string x)
theorem StrAt.below {w w' : World} {B g off : Nat} {S : List ByteArray} (h : StrAt w g off S) (hb : Below B w w') (hg : g < B) : StrAt w' g off S := fun i x hx => (hb.cell (p := ⟨g, off + i, none⟩) hg).trans (h i x hx)
def flatF (F : List Fp) : List ByteArray := F.flatMap fun x => [x.1, x.2]
theorem flatF_len (F : List Fp) : (flatF F).length = 2 * F.length := by
  induction F with
  | nil => rfl
  | cons x F ih =>
    unfold flatF at *
    rw [List.flatMap_cons, List.length_append, ih, List.length_cons]
    simp
    omega
theorem flatF_at (F : List Fp) : ∀ (k : Nat) (x : Fp), F[k]? = some x → (flatF F)[2 * k]? = some x.1 ∧ (flatF F)[2 * k + 1]? = some x.2 := by
  induction F with
  | nil => intro k x h; simp at h
  | cons y F ih =>
    intro k x h
    have e : flatF (y :: F) = y.1 :: y.2 :: flatF F := rfl
    rw [e]
    match k, h with
    | 0, h => cases h; exact ⟨rfl, rfl⟩
    | k + 1, h =>
      have := ih k x h
      rw [show 2 * (k + 1) = 2 * k + 1 + 1 by omega]
      simpa using this
set_option maxHeartbeats 4000000 in
theorem pfields_any (F : List Fp) (N g off c : Nat) (hN : N = 2 * F.length) (w : World) (hS : StrAt w g off (flatF F)) (hg : g < w.heap.size) (hl : F.length ≤ 1000) :
    Calls Tryz.prog 55 #[.slice (some ⟨g, off, none⟩) N c] w fun e w' => ∃ A' n' c', e = .returned (.slice A' n' c') ∧ n' = F.length ∧ Pw w' w.heap.size (.slice A' n' c') F ∧ Below w.heap.size w w' := by
  obtain ⟨i0, hi0, hz0, hz1, hz2⟩ := info_parts info_fld
  obtain ⟨w1, hmk, hown, hgr⟩ := run_make_own (P := Tryz.prog) w w.heap.size 58 118 i0 (.agg zfp.toArray) 2 Tryz.underlying58 hi0 hz0 hz1 .i64 .i64 F.length (by rw [hz2]; omega) (by unfold maxLen; omega) (Nat.le_refl _)
  have HS := Lib.hid hS
  have q0 : Int.tdiv (N : Int) 2 = (F.length : Int) := by
    rw [Int.tdiv_eq_ediv_of_nonneg (by omega)]
    omega
  have HP1 : Hid (Pw w1 w.heap.size (.slice (some ⟨w.heap.size, 0, none⟩) 0 F.length) []) := Lib.hid hown
  have HB1 : Hid (Below w.heap.size w w1) := Lib.hid ((Below.refl _ _).grown hgr (Nat.le_refl _) (fun j hj => by cases hj))
  have HN := Lib.hid hN
  clear hS hown hgr hi0 hz0 hz1 hz2 hN
  go_enter Tryz.func55, Tryz.ntmps55
  go_wp2_with fail
  go_loopw [3, 4] (fun v i wr => ∃ (k m : Nat) (A' : Option Addr) (c' : Nat), k ≤ F.length ∧ Hid (m = 2 * k) ∧ i = .int .i64 (m : Int) ∧ v = .slice A' k c' ∧ Hid (Pw wr w.heap.size (.slice A' k c') (F.take k)) ∧ Hid (Below w.heap.size w wr)) (fun _ i _ => N - (RowKit.intOf i).toNat)
  case atStart => exact ⟨0, 0, _, _, Nat.zero_le _, Lib.hid rfl, rfl, rfl, HP1, HB1⟩
  case round =>
    clear HP1 HB1 hmk
    obtain ⟨k, m, A', c', hk, HM, rfl, rfl, HP, HB⟩ := hrel
    have hm := HM.out
    have hN := HN.out
    have hNb : N ≤ 2000 := by omega
    have hmb : m ≤ 2000 := by omega
    have hsz := HB.out.size
    by_cases hlt : k < F.length
    · have b1 : (m : Int) + 1 < (N : Int) := by omega
      have b2 : (0 : Int) ≤ (m : Int) := by omega
      have b3 : (m : Int) < (N : Int) := by omega
      have b4 : (0 : Int) ≤ (m : Int) + 1 := by omega
      have q1 : ((m : Int) + 1).toNat = m + 1 := by omega
      have qw : IntKind.i64.wrap ((m : Int) + 1) = (m : Int) + 1 := IntWalk.i64_in _ (by omega)
      obtain ⟨e0, e1⟩ := flatF_at F k _ (List.getElem?_eq_getElem hlt)
      rw [← hm] at e0 e1
      have c0 := (HB.out.cell (p := ⟨g, off + m, none⟩) hg).trans (HS.out _ _ e0)
      have c1 := (HB.out.cell (p := ⟨g, off + (m + 1), none⟩) hg).trans (HS.out _ _ e1)
      have htk : F.take (k + 1) = F.take k ++ [F[k]] := by rw [← List.take_append_getElem hlt]
      have hbd : Below wr.heap.size wr wr.drew := (Below.refl _ _).drew
      have hba : Below wr.heap.size wr (wr.drew.alloc (.cells #[.string F[k].1, .string F[k].2] 118)) := hbd.alloc (by rw [World.size_drew]; exact Nat.le_refl _) _
      have hone := one_fld wr.drew F[k]
      rw [World.size_drew] at hone
      obtain ⟨v8, w8, hrn, hP8, hg8, _⟩ := app_flds (cap := 1) 58 (HP.out.below hba) hone (by rw [List.length_take]; simp; omega) (by have := hba.size; omega)
      rw [← htk] at hP8
      obtain ⟨A8, c8, rfl, _⟩ := hP8.form
      have hlen : (F.take (k + 1)).length = k + 1 := by rw [List.length_take]; omega
      rw [hlen] at hP8 hrn
      have HP8 := Lib.hid hP8
      have HB8 : Hid (Below w.heap.size w w8) := Lib.hid ((HB.out.trans (hba.mono hsz)).grown hg8 (by have := hba.size; omega) (fun j hj => (HP.out.lt hj).1))
      generalize F[k] = x at *
      obtain ⟨xa, xb⟩ := x
      simp only at c0 c1 hrn
      have HM2 : Hid (m + 2 = 2 * (k + 1)) := Lib.hid (by omega)
      have hmN : m + 2 ≤ N := by omega
      clear hm hN e0 e1 htk hbd hba hone hP8 hg8 hlen HP HB
      go_wp2_with fail
      go_region_law (first
        | ((try simp only [Act.put, List.setIfInBounds_toArray, List.set_cons_zero, List.set_cons_succ]); rw [if_pos (by rfl)]; refine Lib.wp_append_run _ (.tmp 16) (.tmp 27) 58 58 (by rfl) (.slice A' k c') (.slice (some ⟨wr.heap.size, 0, none⟩) 1 1) (by rfl) (by rfl) _ _ hrn ?_))
      all_goals
        go_wp2_with fail
        go_roundw
        case rel => exact ⟨k + 1, m + 2, A8, c8, by omega, HM2, by go_num, rfl, HP8, HB8⟩
        case measure => simp [RowKit.intOf]; omega
    · have b1 : ¬ (m : Int) + 1 < (N : Int) := by omega
      have hkl : k = F.length := by omega
      have HPf : Hid (Pw wr w.heap.size (.slice A' k c') F) := Lib.hid (by
        have := HP.out
        rwa [List.take_of_length_le (by omega)] at this)
      clear HP hm hN
      subst hkl
      go_wp2_with fail
      go_ret
      exact ⟨A', F.length, c', rfl, rfl, HPf.out, HB.out⟩
end Go.Proofs.YtbkffdfboloogaaGreatDoor
namespace Go.Proofs.YtbkffdfboloogaaGreatDoor
open Go.RowKit Go.Maps Go.Lib
set_option linter.unusedVariables false
set_option maxRecDepth 100000

def isF (s : ByteArray) (x : Fp) : Bool := x.1.toList == s.toList
def getF (l : List Fp) (s : ByteArray) : ByteArray × Bool := match l.find? (isF s) with
  | some x => (x.2, true)
  | none => (⟨#[]⟩, false)
set_option maxHeartbeats 1000000 in
theorem place1_any (x : Fp) (nb : Nat) (s : ByteArray) (w : World) (hn : w.cell? ⟨nb, 0, none⟩ = some (.string s)) :
    Calls Tryz.prog 110 #[.agg #[.string x.1, .string x.2], .pointer (some ⟨nb, 0, none⟩)] w fun e w' => e = .returned (.bool (isF s x)) ∧ Below w.heap.size w w' := by
  have hb : Below w.heap.size w (w.alloc (.cells #[.string x.1, .string x.2] 118)) := (Below.refl _ _).alloc (Nat.le_refl _) _
  have hn' := Lib.cell?_alloc_some (.cells #[.string x.1, .string x.2] 118) hn
  have HB := Lib.hid hb
  have HE : Hid (isF s x = (x.1.toList == s.toList)) := Lib.hid rfl
  clear hb hn
  generalize isF s x = r at *
  obtain ⟨a, b⟩ := x
  simp only at *
  go_enter Tryz.func110, Tryz.ntmps110
  go_wp2_with fail
  go_ret
  exact ⟨by rw [HE.out] <;> rfl, HB.out⟩
/-- where the first field of a name stands -/
def AtF (l : List Fp) (s : ByteArray) (r : Int) : Prop := (r = -1 ∧ ∀ x ∈ l, isF s x = false) ∨ ∃ (k : Nat) (h : k < l.length), r = (k : Int) ∧ isF s l[k] = true ∧ ∀ x ∈ l.take k, isF s x = false
set_option maxHeartbeats 2000000 in
theorem indexFd_any (nb B c : Nat) (A : Option Addr) (l : List Fp) (s : ByteArray) (w : World) (hn : w.cell? ⟨nb, 0, none⟩ = some (.string s)) (hnb : nb < w.heap.size) (hN : Fps w B A l) (hB : B ≤ w.heap.size) (hl : l.length ≤ 1000000) :
    Calls Tryz.prog 109 #[.slice A l.length c, .func (.func 110) #[] #[.pointer (some ⟨nb, 0, none⟩)]] w fun e w' => ∃ r : Int, e = .returned (.int .i64 r) ∧ AtF l s r ∧ Below w.heap.size w w' := by
  have eg : ∀ args w, (callFunc 110 args).run Tryz.prog w = .ok (.enter 110 args) w := enters_of Tryz.func110 (by kernel_rfl) rfl
  have HN := Lib.hid hN
  have HC : Hid (∀ W, Below w.heap.size w W → ∀ x : Fp, Calls Tryz.prog 110 #[.agg #[.string x.1, .string x.2], .pointer (some ⟨nb, 0, none⟩)] W fun e w' => e = .returned (.bool (isF s x)) ∧ Below W.heap.size W w') := Lib.hid (fun W hb x => place1_any x nb s W ((hb.cell (p := ⟨nb, 0, none⟩) hnb).trans hn))
  clear hN hn
  go_enter Tryz.func109, Tryz.ntmps109
  go_wp2
  go_loopw [8] (fun i wr => ∃ k : Nat, k ≤ l.length ∧ i = .int .i64 (k : Int) ∧ Hid (∀ x ∈ l.take k, isF s x = false) ∧ Hid (Below w.heap.size w wr)) (fun i _ => l.length - (RowKit.intOf i).toNat)
  case atStart => exact ⟨0, Nat.zero_le _, rfl, Lib.hid (by simp), Lib.hid (Below.refl _ _)⟩
  case round =>
    obtain ⟨k, hk, rfl, HK, HB⟩ := hrel
    by_cases hlt : k < l.length
    · obtain ⟨q, off, rfl, hq, c0, c1⟩ := (HN.out.kept (HB.out.mono hB)).at_ hlt
      have HC2 := Lib.hid (HC.out wr HB.out l[k])
      have hk1 : (k : Int) < (l.length : Int) := by omega
      have hz := HB.out.size
      have HT : Hid (isF s l[k] = false → ∀ x ∈ l.take (k + 1), isF s x = false) := Lib.hid (fun h x hx => by
        rw [← List.take_append_getElem hlt] at hx
        rcases List.mem_append.1 hx with hx | hx
        · exact HK.out x hx
        · have := List.mem_singleton.1 hx
          subst this; exact h)
      have HY : Hid (isF s l[k] = true → AtF l s (k : Int)) := Lib.hid (fun h => .inr ⟨k, hlt, rfl, h, HK.out⟩)
      generalize l[k] = x at *
      clear HC
      cases hp : isF s x with
      | true =>
        rw [hp] at HC2
        have HE := Lib.hid (HY.out hp)
        clear hp HT HY
        obtain ⟨xa, xb⟩ := x
        simp only at c0 c1 HC2
        go_wp2_with (first
          | (go_at_fn 110; refine HC2.out.mono ?_; rintro e w3 ⟨rfl, hb3⟩; have HB3 := Lib.hid hb3; clear hb3)
          | fail)
        go_ret
        exact ⟨_, rfl, HE.out, HB.out.trans (HB3.out.mono hz)⟩
      | false =>
        rw [hp] at HC2
        have HT2 := Lib.hid (HT.out hp)
        clear hp HT HY
        obtain ⟨xa, xb⟩ := x
        simp only at c0 c1 HC2
        go_wp2_with (first
          | (go_at_fn 110; refine HC2.out.mono ?_; rintro e w3 ⟨rfl, hb3⟩; have HB3 := Lib.hid hb3; clear hb3)
          | fail)
        go_roundw
        case rel => exact ⟨k + 1, by omega, by go_num, HT2, Lib.hid (HB.out.trans (HB3.out.mono hz))⟩
        case measure => simp [RowKit.intOf]; omega
    · have hk1 : ¬ (k : Int) < (l.length : Int) := by omega
      have Hno : Hid (AtF l s (-1)) := Lib.hid (.inl ⟨rfl, fun x hx => HK.out x (by rw [List.take_of_length_le (by omega)]; exact hx)⟩)
      go_wp2
      go_ret
      exact ⟨_, rfl, Hno.out, HB.out⟩
set_option maxHeartbeats 1000000 in
theorem placeF_any (B c : Nat) (A : Option Addr) (l : List Fp) (s : ByteArray) (w : World) (hN : Fps w B A l) (hB : B ≤ w.heap.size) (hl : l.length ≤ 1000000) :
    Calls Tryz.prog 79 #[.slice A l.length c, .string s] w fun e w' => ∃ r : Int, e = .returned (.int .i64 r) ∧ AtF l s r ∧ Below w.heap.size w w' := by
  have hb : Below w.heap.size w (w.alloc (.cells #[.string s] 9)) := (Below.refl _ _).alloc (Nat.le_refl _) _
  have hz : (w.alloc (.cells #[.string s] 9)).heap.size = w.heap.size + 1 := by simp
  have HX := Lib.hid (indexFd_any w.heap.size B c A l s (w.alloc (.cells #[.string s] 9)) (by simp) (by omega) (hN.kept (hb.mono hB)) (by omega) hl)
  have HB := Lib.hid hb
  have Hz := Lib.hid hz
  clear hb hN hz
  go_enter Tryz.func79, Tryz.ntmps79
  go_wp2_with (first
    | (go_at_call 109; refine HX.out.mono ?_; rintro e w3 ⟨r, rfl, hr, hb3⟩; have HR := Lib.hid hr; have HB3 := Lib.hid (HB.out.trans (hb3.mono (by rw [Hz.out]; omega))); clear hr hb3)
    | fail)
  go_ret
  exact ⟨_, rfl, HR.out, HB3.out⟩
theorem getF_at {l : List Fp} {s : ByteArray} {k : Nat} (h : k < l.length) (h1 : isF s l[k] = true) (h2 : ∀ x ∈ l.take k, isF s x = false) : getF l s = (l[k].2, true) := by
  have e : l = l.take k ++ (l[k] :: l.drop (k + 1)) := by rw [← List.drop_eq_getElem_cons h, List.take_append_drop]
  have hf : l.find? (isF s) = some l[k] := by
    have h3 : (l.take k).find? (isF s) = none := List.find?_eq_none.2 fun x hx => by rw [h2 x hx]; simp
    have h4 : ((l[k] : Fp) :: l.drop (k + 1)).find? (isF s) = some l[k] := by rw [List.find?_cons, h1]
    conv => lhs; rw [e]
    rw [List.find?_append, h3, h4]
    rfl
  unfold getF
  rw [hf]
theorem getF_no {l : List Fp} {s : ByteArray} (h : ∀ x ∈ l, isF s x = false) : getF l s = (⟨#[]⟩, false) := by
  unfold getF
  rw [List.find?_eq_none.2 fun x hx => by rw [h x hx]; simp]
set_option maxHeartbeats 1000000 in
theorem get_any (B c : Nat) (A : Option Addr) (l : List Fp) (s : ByteArray) (w : World) (hN : Fps w B A l) (hB : B ≤ w.heap.size) (hl : l.length ≤ 1000000) :
    Calls Tryz.prog 54 #[.slice A l.length c, .string s] w fun e w' => e = .returned (.tuple #[.string (getF l s).1, .bool (getF l s).2]) ∧ Below w.heap.size w w' := by
  have HN := Lib.hid (hN.more hB)
  refine (show Calls Tryz.prog 54 #[.slice A l.length c, .string s] w fun e w' => e = .returned (.tuple #[.string (getF l s).1, .bool (getF l s).2]) ∧ Below w.heap.size w w' from ?_)
  have HX := Lib.hid (placeF_any B c A l s w hN hB hl)
  clear hN
  go_enter Tryz.func54, Tryz.ntmps54
  go_wp2_with fail
  refine HX.out.mono ?_
  rintro e w2 ⟨r, rfl, hr, hb2⟩
  have HB2 := Lib.hid hb2
  rcases hr with ⟨rfl, hno⟩ | ⟨k, hk, rfl, h1, h2⟩
  · have HE := Lib.hid (getF_no hno)
    clear hno
    go_wp2_with fail
    go_ret2
    exact ⟨by rw [HE.out] <;> rfl, HB2.out⟩
  · have HE := Lib.hid (getF_at hk h1 h2)
    obtain ⟨g, off, rfl, hg, c0, c1⟩ := (HN.out.kept HB2.out).at_ hk
    have b0 : (0 : Int) ≤ (k : Int) := by omega
    have b1 : (k : Int) < (l.length : Int) := by omega
    clear h1 h2 hb2
    go_wp2_with fail
    go_ret2
    exact ⟨by rw [HE.out] <;> rfl, HB2.out⟩
end Go.Proofs.YtbkffdfboloogaaGreatDoor
