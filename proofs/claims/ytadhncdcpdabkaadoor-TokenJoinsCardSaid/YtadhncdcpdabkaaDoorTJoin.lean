/- token.Join: any tokens, joined. -/
import Derived.Test.YtadhncdcpdabkaaDoorTAwake
import Derived.OwnWalk
namespace Go.Proofs.YtadhncdcpdabkaaDoor
open Go.RowKit Go.Lib
set_option linter.unusedVariables false

/-- any token: its kind, its place, its text -/
structure GT where
  k : Int
  p : Int
  x : ByteArray
def gOf (t : Tok) : GT := ⟨(t.kind : Int), (t.place : Int), ⟨t.text.toArray⟩⟩
def quo (x : ByteArray) : ByteArray := ⟨#[34]⟩ ++ x ++ ⟨#[34]⟩
def showG (g : GT) : ByteArray := if g.k = 3 then quo g.x else g.x
def oneOf (g : GT) : Except (Nat × Nat) (List Tok) → Bool
  | .ok [t] => decide ((t.kind : Int) = g.k ∧ (⟨t.text.toArray⟩ : ByteArray) = g.x)
  | _ => false
/-- is a token the one of its text? -/
def rightG (g : GT) : Bool := oneOf g (scan 0 0 (showG g).data.toList)
def sp : List UInt8 := [32]
def joinT (L : List GT) : ByteArray := ⟨(Lib.join ((L.map showG).map (·.data.toList)) sp).toArray⟩
def joinG (L : List GT) : ByteArray := if L.all rightG then joinT L else ⟨#[]⟩
/-- the slice's elements are the tokens L, in blocks below B -/
def Rg (w : World) (B : Nat) (A : Option Addr) (L : List GT) : Prop :=
  0 < L.length → ∃ g off, A = some ⟨g, off, none⟩ ∧ g < B ∧ ∀ i t, L[i]? = some t → w.cell? ⟨g, off + i * 3, none⟩ = some (.int .i64 t.k) ∧ w.cell? ⟨g, off + i * 3 + 1, none⟩ = some (.int .i64 t.p) ∧ w.cell? ⟨g, off + i * 3 + 2, none⟩ = some (.string t.x)
section
variable {w w' : World} {B B' : Nat} {A : Option Addr} {L : List GT}
theorem Rg.keep (h : Rg w B A L) (hk : ∀ p : Addr, p.block < B → w'.cell? p = w.cell? p) : Rg w' B A L := fun hl => by
  obtain ⟨g, off, e, hg, hc⟩ := h hl
  exact ⟨g, off, e, hg, fun i x hx => ⟨(hk _ hg).trans (hc i x hx).1, (hk _ hg).trans (hc i x hx).2.1, (hk _ hg).trans (hc i x hx).2.2⟩⟩
theorem Rg.more (h : Rg w B A L) (hB : B ≤ B') : Rg w B' A L := fun hl => by
  obtain ⟨g, off, e, hg, hc⟩ := h hl
  exact ⟨g, off, e, by omega, hc⟩
theorem Rg.below (h : Rg w B A L) (hb : Below B w w') : Rg w' B A L := h.keep fun _ hp => hb.cell hp
theorem Rg.at_ (h : Rg w B A L) {k : Nat} (hk : k < L.length) : ∃ g off, A = some ⟨g, off, none⟩ ∧ g < B ∧ w.cell? ⟨g, off + k * 3, none⟩ = some (.int .i64 L[k].k) ∧ w.cell? ⟨g, off + k * 3 + 1, none⟩ = some (.int .i64 L[k].p) ∧ w.cell? ⟨g, off + k * 3 + 2, none⟩ = some (.string L[k].x) := by
  obtain ⟨g, off, e, hg, hc⟩ := h (by omega)
  have := hc k _ (List.getElem?_eq_getElem hk)
  exact ⟨g, off, e, hg, this.1, this.2.1, this.2.2⟩
theorem Rt.g {T : List Tok} (h : Rt w B A T) : Rg w B A (T.map gOf) := fun hl => by
  obtain ⟨g, off, e, hg, hc⟩ := h (by simpa using hl)
  refine ⟨g, off, e, hg, fun i x hx => ?_⟩
  rw [List.getElem?_map] at hx
  obtain ⟨t, ht, rfl⟩ := Option.map_eq_some_iff.1 hx
  exact hc i t ht
end

set_option maxHeartbeats 400000 in
theorem written_any (g : GT) (w : World) (hx : g.x.size ≤ 1000000) : Calls Tryd.prog 29 #[.agg #[.int .i64 g.k, .int .i64 g.p, .string g.x]] w fun e w' => e = .returned (.string (showG g)) ∧ Below w.heap.size w w' := by
  obtain ⟨k, p, x⟩ := g
  simp only at hx ⊢
  by_cases h3 : k = 3
  · have e3 : (k == 3) = true := by simpa using h3
    have HS := Lib.hid (show showG ⟨k, p, x⟩ = quo x by unfold showG; rw [if_pos h3])
    clear h3
    go_enter Tryd.func29, Tryd.ntmps29
    go_wp2_with fail
    go_ret
    exact ⟨by rw [HS.out]; rfl, (Below.refl _ _).alloc (Nat.le_refl _) _⟩
  · have e3 : (k == 3) = false := by simpa using h3
    have HS := Lib.hid (show showG ⟨k, p, x⟩ = x by unfold showG; rw [if_neg h3])
    clear h3
    go_enter Tryd.func29, Tryd.ntmps29
    go_wp2_with fail
    go_ret
    exact ⟨by rw [HS.out]; rfl, (Below.refl _ _).alloc (Nat.le_refl _) _⟩

theorem showG_size (g : GT) : (showG g).size ≤ g.x.size + 2 := by
  unfold showG quo
  split
  · rw [ByteArray.size_append, ByteArray.size_append]
    show 1 + g.x.size + 1 ≤ _
    omega
  · omega
theorem str_info : (Tryd.prog.info? 9).map (fun i => (i.zero, i.size, i.bytes)) = some (some (.string ByteArray.empty), 1, 16) := by kernel_rfl

theorem grown_of_below {w w' : World} (hb : Below w.heap.size w w') (row : Option Nat) : w.grownBy w' row := ⟨hb.os, hb.tape, hb.output, hb.size, fun k hk _ => hb.block k hk⟩
theorem below_drewN {B : Nat} {a w : World} (h : Below B a w) (n : Nat) : Below B a (w.drewN n) := ⟨h.os, h.tape, h.output, h.size, h.block⟩
theorem rightG_bad {g : GT} {a e : Nat} (h : scan 0 0 (showG g).data.toList = .error (a, e)) : rightG g = false := by unfold rightG; rw [h]; rfl
theorem rightG_many {g : GT} {T : List Tok} (h : scan 0 0 (showG g).data.toList = .ok T) (hn : T.length ≠ 1) : rightG g = false := by
  unfold rightG
  rw [h]
  match T, hn with
  | [], _ => rfl
  | [t], hn => exact absurd rfl hn
  | t :: u :: T, _ => rfl
theorem rightG_one {g : GT} {t : Tok} (h : scan 0 0 (showG g).data.toList = .ok [t]) : rightG g = decide ((t.kind : Int) = g.k ∧ (⟨t.text.toArray⟩ : ByteArray) = g.x) := by unfold rightG; rw [h]; rfl
theorem joinG_no {L : List GT} {g : GT} (hg : g ∈ L) (h : rightG g = false) : joinG L = ⟨#[]⟩ := by
  unfold joinG
  rw [if_neg]
  intro ha
  have := List.all_eq_true.1 ha g hg
  rw [h] at this
  cases this
theorem lens_le (n : Nat) : ∀ r : List (List UInt8), (∀ x ∈ r, x.length ≤ n) → lens r ≤ n * r.length
  | [], _ => by simp [lens]
  | x :: r, h => by
    have := lens_le n r (fun y hy => h y (by simp [hy]))
    have := h x (by simp)
    simp [lens, Nat.mul_add] at *
    omega
theorem joinT_len (L : List GT) (hl : L.length ≤ 4096) (hx : ∀ t ∈ L, t.x.size ≤ 1000000) : (Lib.join ((L.map showG).map (·.data.toList)) sp).length ≤ 5000000000 := by
  cases hL : (L.map showG).map (·.data.toList) with
  | nil => simp [join_nil]
  | cons x r =>
    have hn : (x :: r).length = L.length := by rw [← hL]; simp
    have hb : ∀ y ∈ x :: r, y.length ≤ 1000002 := by
      intro y hy
      rw [← hL] at hy
      simp only [List.mem_map] at hy
      obtain ⟨z, ⟨t, ht, rfl⟩, rfl⟩ := hy
      have := showG_size t
      have := hx t ht
      have e : (showG t).data.toList.length = (showG t).size := by simp
      omega
    have h1 := lens_le 1000002 _ hb
    rw [join_length]
    have : sp.length = 1 := rfl
    rw [this]
    simp only [List.length_cons] at hn h1
    omega

set_option maxHeartbeats 4000000 in
set_option maxRecDepth 100000 in
theorem join_any (L : List GT) (A : Option Addr) (c : Nat) (w : World) (hW : Wd w) (hR : Rg w w.heap.size A L) (hl : L.length ≤ 4096) (hx : ∀ t ∈ L, t.x.size ≤ 1000000) :
    Calls Tryd.prog 18 #[.slice A L.length c] w fun e w' => e = .returned (.string (joinG L)) ∧ Below w.heap.size w w' := by
  obtain ⟨i0, hi0, hz0, hz1, hz2⟩ := info_parts str_info
  have hw0 := hW.lt
  have Hx := Lib.hid hx
  clear hx
  go_enter Tryd.func18, Tryd.ntmps18
  go_wp2_with (at_make; refine wpList_make_own _ rfl _ _ 33 rfl w.heap.size 9 i0 (.string ByteArray.empty) 1 Tryd.underlying33 hi0 hz0 hz1 .i64 .i64 _ L.length rfl rfl rfl (by rw [hz2]; omega) (by unfold maxLen; omega) (Nat.le_refl _) ?_; intro w0 hown0 hg0)
  have Hb0 := Lib.hid ((Below.refl w.heap.size w).grown hg0 (Nat.le_refl _) (fun k hk => by cases hk))
  clear hg0
  go_wp2_with fail
  go_loopw [3, 18] (fun v i wr => ∃ k g3 c3 : Nat, k ≤ L.length ∧ i = .int .i64 k ∧ v = .slice (some ⟨g3, 0, none⟩) k c3 ∧ wr.ownsRow w.heap.size 9 1 (.slice (some ⟨g3, 0, none⟩) k c3) k (((L.take k).map showG).map Value.string) ∧ Hid ((L.take k).all rightG = true) ∧ Hid (Below w.heap.size w wr)) (fun _ i _ => L.length - (intOf i).toNat)
  case atStart => exact ⟨0, w.heap.size, L.length, Nat.zero_le _, rfl, rfl, hown0, Lib.hid rfl, Hb0⟩
  case round =>
    clear hown0 Hb0
    obtain ⟨k, g3, c3, hk, rfl, rfl, hown, HA, Hb⟩ := hrel
    have hzr : w.heap.size ≤ wr.heap.size := Hb.out.size
    by_cases hlt : k < L.length
    · obtain ⟨g, off, rfl, hg, d0, d1, d2⟩ := (hR.below Hb.out).at_ hlt
      have hm : L[k] ∈ L := List.getElem_mem hlt
      have hxs := Hx.out _ hm
      have hss := showG_size L[k]
      have Hno := Lib.hid (fun h => joinG_no hm h)
      have HT := Lib.hid (show L.take (k + 1) = L.take k ++ [L[k]] from List.take_succ_eq_append_getElem hlt)
      have hk0 : (0 : Int) ≤ (k : Int) := by omega
      have hk1 : (k : Int) < (L.length : Int) := by omega
      generalize L[k] = t at *
      go_wp2_with fail
      refine (written_any t _ hxs).mono ?_
      rintro e w1 ⟨rfl, hb1⟩
      have hT1 := (Tb.new wr t.k t.p t.x).below hb1 (by simp)
      have hown1 := (hown.alloc (.cells #[.int .i64 t.k, .int .i64 t.p, .string t.x] 31)).kept (grown_of_below hb1 none) (.inr (by simp [Value.ownBlock]))
      have hw' : w.heap.size ≤ w.heap.size := Nat.le_refl _
      have Hb1 := Lib.hid (below_trans' hw' (Hb.out.alloc hzr _) hb1)
      have hz1' : wr.heap.size < w1.heap.size := hT1.lt
      clear hb1 hown d0 d1 d2
      generalize wr.heap.size = bx at *
      go_wp2_with fail
      refine (scan_any (showG t) _ (hW.below Hb1.out hw0) (by omega)).mono ?_
      rintro e w2 ⟨hb2, hp⟩
      rcases hp with ⟨T, A1, c1, hS, rfl, hR1⟩ | ⟨a, er, hE, rfl⟩
      · by_cases h1 : T.length = 1
        · obtain ⟨u, rfl⟩ : ∃ u, T = [u] := List.length_eq_one_iff.1 h1
          obtain ⟨g1, off1, rfl, hg1, hc1⟩ := hR1 (by simp)
          obtain ⟨b0, b1, b2⟩ := hc1 0 _ rfl
          simp only [Nat.zero_mul, Nat.add_zero] at b0 b1 b2
          have HR := Lib.hid (rightG_one hS)
          clear hR1 hc1 hS h1 b1
          have hT2 := hT1.below hb2 hT1.lt
          have hown2 := hown1.kept (grown_of_below hb2 none) (.inr (by simp [Value.ownBlock]))
          have Hb2 := Lib.hid (below_trans' hw' Hb1.out hb2)
          have t0 := hT2.c0
          have t2 := hT2.c2
          clear hb2 hT1 hown1 Hb1
          generalize (⟨u.text.toArray⟩ : ByteArray) = ux at *
          by_cases hkk : (u.kind : Int) = t.k
          · by_cases htx : ux = t.x
            · have HRt := Lib.hid (show rightG t = true by rw [HR.out]; exact decide_eq_true ⟨hkk, htx⟩)
              have n1 : ((u.kind : Int) != t.k) = false := by simpa using hkk
              have n2 : (ux.toList != t.x.toList) = false := by rw [htx]; simp
              have n3 : (ux.toList == t.x.toList) = true := by rw [htx]; simp
              clear hkk htx HR Hno
              go_wp2_with fail
              go_quiet (fail)
              have hown3 := (show (w2.drewN nq).ownsRow w.heap.size 9 1 _ k _ from hown2)
              have Hb3 := Lib.hid (below_drewN Hb2.out nq)
              clear hown2 Hb2 t0 t2 hT2 b0 b2
              generalize w2.drewN nq = w3 at *
              have hz3 : w.heap.size ≤ w3.heap.size := Hb3.out.size
              go_wp2_with (first
                | (at_builtin; refine wpList_append_own _ rfl _ _ 33 rfl w.heap.size 9 i0 _ 1 16 Tryd.underlying33 hi0 hz0 hz1 hz2 rfl (by decide) _ _ _ rfl (hown3.alloc _) ⟨w3.heap.size, 0, none⟩ 1 1 [.string (showG t)] rfl rfl (World.news_of_block (cs := #[.string (showG t)]) (t := 9) (fr := (0, 0)) (heap_alloc_new w3 _)) (by simp [Value.oneCell']) (by unfold maxLen; omega) (by omega) (by simp; omega) ?_; intro v4 w4 hown4 hg4 hnil4))
              obtain ⟨g4, c4, rfl⟩ : ∃ g4 c4, v4 = .slice (some ⟨g4, 0, none⟩) (k + 1) c4 := by
                rcases hown4.2 with ⟨h0, hn⟩ | ⟨g, cap, cur, he, _⟩
                · omega
                · exact ⟨_, _, he⟩
              go_roundw
              case rel =>
                refine ⟨k + 1, g4, c4, by omega, by go_num, rfl, ?_, Lib.hid ?_, Lib.hid ((Hb3.out.alloc hz3 _).grown hg4 (by simp; omega) (fun q hq => by have := (hown3.lt q hq).1; omega))⟩
                · rw [HT.out, List.map_append, List.map_append]; exact hown4
                · rw [HT.out, List.all_append, HA.out]; simp [HRt.out]
              case measure => simp [intOf]; omega
            · have HJ := Lib.hid (Hno.out (by rw [HR.out]; exact decide_eq_false (fun h => htx h.2)))
              have n1 : ((u.kind : Int) != t.k) = false := by simpa using hkk
              have n2 : (ux.toList != t.x.toList) = true := by
                have := (eqB_false ux t.x).2 htx
                unfold eqB at this
                simp only [bne, this, Bool.not_false]
              have n3 := (eqB_false ux t.x).2 htx
              unfold eqB at n3
              clear hkk htx HR Hno
              go_wp2_with fail
              go_quiet (fail)
              go_wp2_with fail
              go_ret
              exact ⟨by rw [HJ.out]; rfl, below_drewN Hb2.out _⟩
          · have HJ := Lib.hid (Hno.out (by rw [HR.out]; exact decide_eq_false (fun h => hkk h.1)))
            have n1 : ((u.kind : Int) != t.k) = true := by simpa using hkk
            clear hkk HR Hno
            go_wp2_with fail
            go_quiet (fail)
            go_wp2_with fail
            go_ret
            exact ⟨by rw [HJ.out]; rfl, below_drewN Hb2.out _⟩
        · have HJ := Lib.hid (Hno.out (rightG_many hS h1))
          have n1 : ((T.length : Int) != 1) = true := by simp; omega
          clear hS h1 Hno
          have hT2 := hT1.below hb2 hT1.lt
          have hown2 := hown1.kept (grown_of_below hb2 none) (.inr (by simp [Value.ownBlock]))
          have Hb2 := Lib.hid (below_trans' hw' Hb1.out hb2)
          have t0 := hT2.c0
          have t2 := hT2.c2
          clear hb2 hT1 hown1 Hb1
          go_wp2_with fail
          go_quiet (fail)
          go_wp2_with fail
          go_ret
          exact ⟨by rw [HJ.out]; rfl, below_drewN Hb2.out _⟩
      · have HJ := Lib.hid (Hno.out (rightG_bad hE))
        have hn := scan_error hE
        have n1 : ((er : Int) != 0) = true := by simp; omega
        clear hE Hno
        have hT2 := hT1.below hb2 hT1.lt
        have hown2 := hown1.kept (grown_of_below hb2 none) (.inr (by simp [Value.ownBlock]))
        have Hb2 := Lib.hid (below_trans' hw' Hb1.out hb2)
        have t0 := hT2.c0
        have t2 := hT2.c2
        clear hb2 hT1 hown1 Hb1
        go_wp2_with fail
        go_quiet (fail)
        go_wp2_with fail
        go_ret
        exact ⟨by rw [HJ.out]; rfl, below_drewN Hb2.out _⟩
    · have ht : L.take k = L := List.take_of_length_le (by omega)
      obtain rfl : k = L.length := by omega
      have HJ := Lib.hid (show joinG L = joinT L by unfold joinG; rw [if_pos (by have := HA.out; rwa [ht] at this)])
      rw [ht] at hown
      clear ht HA
      have hcell := hown.cells (g := g3) rfl
      have hgl := (hown.lt g3 rfl).2
      have hcap : L.length ≤ c3 := by
        rcases hown.2 with ⟨h0, _⟩ | ⟨g, cap, cur, he, _, _, hc, _⟩
        · cases h0
        · injection he with _ _ e3; omega
      have Hc := Lib.hid (show ∀ (j : Nat) x, (L.map showG)[j]? = some x → wr.cell? ⟨g3, 0 + j, none⟩ = some (.string x) from fun j x hj => by
        have h := hcell j (.string x) (by rw [List.getElem?_map, hj]; rfl)
        have ha : (⟨g3, 0, none⟩ : Addr).add j = ⟨g3, 0 + j, none⟩ := by
          by_cases e : j = 0
          · subst e; simp [Addr.add]
          · simp [Addr.add, e]
        rwa [ha] at h)
      have Hln := Lib.hid (joinT_len L hl Hx.out)
      clear hcell hown
      have hmm : (L.map showG).length = L.length := by simp
      have hC : Calls Tryd.prog 30 #[.slice (some ⟨g3, 0, none⟩) (L.map showG).length c3, .string ⟨#[32]⟩] wr fun e w' => e = .returned (.string (joinT L)) ∧ Below wr.heap.size wr w' := Tryd.strings_Join g3 0 c3 (L.map showG) ⟨#[32]⟩ wr Hc.out hgl (by rw [hmm]; omega) (by rw [hmm]; omega) (Nat.le_trans Hln.out (by omega))
      rw [hmm] at hC
      have HC := Lib.hid hC
      clear hC hmm
      go_wp2_with fail
      refine HC.out.mono ?_
      rintro e w1 ⟨rfl, hb1⟩
      go_wp2_with fail
      go_ret
      exact ⟨by rw [HJ.out]; rfl, below_trans' (Nat.le_refl _) Hb.out hb1⟩
end Go.Proofs.YtadhncdcpdabkaaDoor
