/- The document's Join, Right, show, Few; the kinds' names. -/
import Derived.Test.YtadhncdcpdabkaaDoorTRefScan
namespace Go.Proofs.YtadhncdcpdabkaaDoor
open Go.RowKit Go.Lib
set_option linter.unusedVariables false

set_option maxHeartbeats 400000 in
theorem refShow_any (g : GT) (w : World) (hx : g.x.size ≤ 1000000) : Calls Tryd.prog 32 #[.agg #[.int .i64 g.k, .int .i64 g.p, .string g.x]] w fun e w' => e = .returned (.string (showG g)) ∧ Below w.heap.size w w' := by
  obtain ⟨k, p, x⟩ := g
  simp only at hx ⊢
  by_cases h3 : k = 3
  · have e3 : (k == 3) = true := by simpa using h3
    have HS := Lib.hid (show showG ⟨k, p, x⟩ = quo x by unfold showG; rw [if_pos h3])
    clear h3
    go_enter Tryd.func32, Tryd.ntmps32
    go_wp2_with fail
    go_ret
    exact ⟨by rw [HS.out]; rfl, (Below.refl _ _).alloc (Nat.le_refl _) _⟩
  · have e3 : (k == 3) = false := by simpa using h3
    have HS := Lib.hid (show showG ⟨k, p, x⟩ = x by unfold showG; rw [if_neg h3])
    clear h3
    go_enter Tryd.func32, Tryd.ntmps32
    go_wp2_with fail
    go_ret
    exact ⟨by rw [HS.out]; rfl, (Below.refl _ _).alloc (Nat.le_refl _) _⟩

theorem shown_showG {g : GT} {t : Tok} (hk : (t.kind : Int) = g.k) (ht : (⟨t.text.toArray⟩ : ByteArray) = g.x) : (showG g).data.toList = shown t := by
  obtain ⟨k, p, x⟩ := g
  obtain ⟨k', p', x'⟩ := t
  simp only at hk ht
  subst hk ht
  unfold showG shown quo
  by_cases h : k' = 3
  · rw [if_pos (by simp [h]), if_pos h]; simp [ByteArray.data_append]
  · rw [if_neg (by simp; omega), if_neg h]
theorem place_zero {g : GT} {t : Tok} (h : scan 0 0 (showG g).data.toList = .ok [t]) (hk : (t.kind : Int) = g.k) (ht : (⟨t.text.toArray⟩ : ByteArray) = g.x) : t.place = 0 := by
  have hl := shown_showG hk ht
  have hS := scan_scanned h
  generalize (showG g).data.toList = L at *
  cases hS with
  | tok _ _ kd b x r tx p _ hb hn hp hs hr =>
    have hx := piece_shown hp (0 + b.length)
    have := congrArg List.length hl
    rw [← hx] at this
    simp at this
    simp only
    omega

set_option maxHeartbeats 1000000 in
set_option maxRecDepth 100000 in
theorem right_any (g : GT) (w : World) (hx : g.x.size ≤ 1000000) : Calls Tryd.prog 31 #[.agg #[.int .i64 g.k, .int .i64 g.p, .string g.x]] w fun e w' => e = .returned (.bool (rightG g)) ∧ Below w.heap.size w w' := by
  have hss := showG_size g
  go_enter Tryd.func31, Tryd.ntmps31
  go_wp2_with fail
  refine (refShow_any g _ hx).mono ?_
  rintro e w1 ⟨rfl, hb1⟩
  have hT1 := (Tb.new w g.k g.p g.x).below hb1 (by simp)
  have H1 := Lib.hid (below_trans' (Nat.le_refl _) ((Below.refl w.heap.size w).alloc (Nat.le_refl _) _) hb1)
  clear hb1
  go_wp2_with fail
  refine (refScan_any (showG g) _ (by omega)).mono ?_
  rintro e w2 ⟨hb2, hp⟩
  have hT2 := hT1.below hb2 hT1.lt
  have H2 := Lib.hid (below_trans' (Nat.le_refl _) H1.out hb2)
  have t0 := hT2.c0
  have t2 := hT2.c2
  clear hb2 hT1 H1
  rcases hp with ⟨T, A1, c1, hS, rfl, hR1⟩ | ⟨a, er, hE, rfl⟩
  · by_cases h1 : T.length = 1
    · obtain ⟨u, rfl⟩ : ∃ u, T = [u] := List.length_eq_one_iff.1 h1
      obtain ⟨g1, off1, rfl, hg1, hc1⟩ := hR1 (by simp)
      obtain ⟨b0, b1, b2⟩ := hc1 0 _ rfl
      simp only [Nat.zero_mul, Nat.add_zero] at b0 b1 b2
      have HR := Lib.hid (rightG_one hS)
      have HP := Lib.hid (fun a b => place_zero hS a b)
      clear hR1 hc1 hS h1
      generalize (⟨u.text.toArray⟩ : ByteArray) = ux at *
      by_cases hkk : (u.kind : Int) = g.k
      · by_cases htx : ux = g.x
        · have HJ := Lib.hid (show rightG g = true by rw [HR.out]; exact decide_eq_true ⟨hkk, htx⟩)
          have z0 : ((u.place : Int) == 0) = true := by have := HP.out hkk htx; simp; omega
          have n1 : ((u.kind : Int) == g.k) = true := by simpa using hkk
          have n2 : (ux.toList == g.x.toList) = true := by rw [htx]; simp
          clear hkk htx HR HP
          go_wp2_with fail
          go_quiet (fail)
          go_wp2_with fail
          go_ret
          exact ⟨by rw [HJ.out]; rfl, below_drewN H2.out _⟩
        · have HJ := Lib.hid (show rightG g = false by rw [HR.out]; exact decide_eq_false (fun h => htx h.2))
          have n1 : ((u.kind : Int) == g.k) = true := by simpa using hkk
          have n2 := (eqB_false ux g.x).2 htx
          unfold eqB at n2
          clear hkk htx HR HP
          go_wp2_with fail
          go_quiet (fail)
          go_wp2_with fail
          go_ret
          exact ⟨by rw [HJ.out]; rfl, below_drewN H2.out _⟩
      · have HJ := Lib.hid (show rightG g = false by rw [HR.out]; exact decide_eq_false (fun h => hkk h.1))
        have n1 : ((u.kind : Int) == g.k) = false := by simpa using hkk
        clear hkk HR HP
        go_wp2_with fail
        go_quiet (fail)
        go_wp2_with fail
        go_ret
        exact ⟨by rw [HJ.out]; rfl, below_drewN H2.out _⟩
    · have HJ := Lib.hid (rightG_many hS h1)
      have n1 : ((T.length : Int) == 1) = false := by simp; omega
      clear hS h1
      go_wp2_with fail
      go_quiet (fail)
      go_wp2_with fail
      go_ret
      exact ⟨by rw [HJ.out]; rfl, below_drewN H2.out _⟩
  · have HJ := Lib.hid (rightG_bad hE)
    have hn := scan_error hE
    have n1 : ((er : Int) == 0) = false := by simp; omega
    clear hE
    go_wp2_with fail
    go_quiet (fail)
    go_wp2_with fail
    go_ret
    exact ⟨by rw [HJ.out]; rfl, below_drewN H2.out _⟩

theorem join_snoc : ∀ (xs : List Bs) (x : Bs), Lib.join (xs ++ [x]) sp = if xs = [] then x else Lib.join xs sp ++ (32 :: x)
  | [], x => by simp [join_one]
  | y :: r, x => by
    rw [if_neg (by simp), List.cons_append, join_cons, join_cons]
    simp [joinTail, sp]
theorem joinT_snoc (L : List GT) (g : GT) : joinT (L ++ [g]) = if L = [] then showG g else joinT L ++ ⟨#[32]⟩ ++ showG g := by
  rw [ba_eq]
  unfold joinT
  rw [List.map_append, List.map_append, List.map_singleton, List.map_singleton, join_snoc]
  by_cases h : L = []
  · subst h; simp
  · rw [if_neg (by simpa using h), if_neg h]
    simp [ByteArray.data_append]
theorem joinT_nil : joinT [] = ⟨#[]⟩ := rfl

set_option maxHeartbeats 2000000 in
set_option maxRecDepth 100000 in
theorem refJoin_any (L : List GT) (A : Option Addr) (c : Nat) (w : World) (hR : Rg w w.heap.size A L) (hl : L.length ≤ 4096) (hx : ∀ t ∈ L, t.x.size ≤ 1000000) :
    Calls Tryd.prog 20 #[.slice A L.length c] w fun e w' => e = .returned (.string (joinG L)) ∧ Below w.heap.size w w' := by
  have Hx := Lib.hid hx
  have HLn := Lib.hid (fun k => joinT_len (L.take k) (by simp; omega) (fun t ht => hx t (List.mem_of_mem_take ht)))
  clear hx
  go_enter Tryd.func20, Tryd.ntmps20
  go_wp2_with fail
  go_loopw [3, 4] (fun v i wr => ∃ k : Nat, k ≤ L.length ∧ i = .int .i64 k ∧ v = .string (joinT (L.take k)) ∧ Hid ((L.take k).all rightG = true) ∧ Hid (Below w.heap.size w wr)) (fun _ i _ => L.length - (intOf i).toNat)
  case atStart => exact ⟨0, Nat.zero_le _, rfl, rfl, Lib.hid rfl, Lib.hid (Below.refl _ _)⟩
  case round =>
    obtain ⟨k, hk, rfl, rfl, HA, Hb⟩ := hrel
    have hjz : (joinT (L.take k)).size ≤ 5000000000 := by have := HLn.out k; simpa [joinT, ByteArray.size] using this
    by_cases hlt : k < L.length
    · obtain ⟨g, off, rfl, hg, d0, d1, d2⟩ := (hR.below Hb.out).at_ hlt
      have hm : L[k] ∈ L := List.getElem_mem hlt
      have hxs := Hx.out _ hm
      have hss := showG_size L[k]
      have Hno := Lib.hid (fun h => joinG_no hm h)
      have HT := Lib.hid (show L.take (k + 1) = L.take k ++ [L[k]] from List.take_succ_eq_append_getElem hlt)
      have HJs := Lib.hid (joinT_snoc (L.take k) L[k])
      have hk0 : (0 : Int) ≤ (k : Int) := by omega
      have hk1 : (k : Int) < (L.length : Int) := by omega
      have hgw : g < wr.heap.size := by have := Hb.out.size; omega
      generalize L[k] = t at *
      have Hnil := Lib.hid (show L.take k = [] ↔ k = 0 by
        constructor
        · intro h; have := congrArg List.length h; rw [List.length_take, List.length_nil] at this; omega
        · intro h; subst h; rfl)
      have HAc := Lib.hid (show k = 0 → joinT (L.take k) = ⟨#[]⟩ from fun h => by subst h; rfl)
      generalize joinT (L.take k) = acc at *
      go_wp2_with fail
      refine (right_any t _ hxs).mono ?_
      rintro e w1 ⟨rfl, hb1⟩
      have f0 : w1.cell? ⟨g, off + k * 3, none⟩ = some (.int .i64 t.k) := (hb1.cell (p := ⟨g, off + k * 3, none⟩) hgw).trans d0
      have f1 : w1.cell? ⟨g, off + k * 3 + 1, none⟩ = some (.int .i64 t.p) := (hb1.cell (p := ⟨g, off + k * 3 + 1, none⟩) hgw).trans d1
      have f2 : w1.cell? ⟨g, off + k * 3 + 2, none⟩ = some (.string t.x) := (hb1.cell (p := ⟨g, off + k * 3 + 2, none⟩) hgw).trans d2
      have H1 := Lib.hid (below_trans' (Nat.le_refl _) Hb.out hb1)
      clear hb1 d0 d1 d2 Hb
      cases hr : rightG t
      · have HJ := Lib.hid (Hno.out hr)
        clear hr Hno
        go_wp2_with fail
        go_ret
        exact ⟨by rw [HJ.out]; rfl, H1.out⟩
      · have HRt := Lib.hid hr
        clear hr Hno
        rcases Nat.eq_zero_or_pos k with h0 | h0
        · have j4 : decide ((0 : Int) < (k : Int)) = false := by simp; omega
          have j5 : decide (0 < k) = false := by simp; omega
          have HS := Lib.hid (show joinT (L.take (k + 1)) = acc ++ showG t by
            rw [HT.out, HJs.out, if_pos (Hnil.out.2 h0)]
            have : acc = ⟨#[]⟩ := HAc.out h0
            rw [this, ba_eq]
            simp [ByteArray.data_append])
          clear h0
          go_wp2_with fail
          refine (refShow_any t _ hxs).mono ?_
          rintro e w2 ⟨rfl, hb2⟩
          go_wp2_with fail
          go_roundw
          case rel => exact ⟨k + 1, by omega, by go_num, by rw [HS.out], Lib.hid (by rw [HT.out, List.all_append, HA.out]; simp [HRt.out]), Lib.hid (below_trans' (Nat.le_refl _) H1.out hb2)⟩
          case measure => simp [intOf]; omega
        · have j4 : decide ((0 : Int) < (k : Int)) = true := by simp; omega
          have HS := Lib.hid (show joinT (L.take (k + 1)) = acc ++ ⟨#[32]⟩ ++ showG t by
            rw [HT.out, HJs.out, if_neg (fun h => by have := Hnil.out.1 h; omega)])
          go_wp2_with fail
          refine (refShow_any t _ hxs).mono ?_
          rintro e w2 ⟨rfl, hb2⟩
          go_wp2_with fail
          go_roundw
          case rel => exact ⟨k + 1, by omega, by go_num, by rw [HS.out], Lib.hid (by rw [HT.out, List.all_append, HA.out]; simp [HRt.out]), Lib.hid (below_trans' (Nat.le_refl _) H1.out hb2)⟩
          case measure => simp [intOf]; omega
    · have ht : L.take k = L := List.take_of_length_le (by omega)
      have HJ := Lib.hid (show joinG L = joinT (L.take k) by unfold joinG; rw [if_pos (by have := HA.out; rwa [ht] at this), ht])
      clear ht
      go_wp2_with fail
      go_ret
      exact ⟨by rw [HJ.out]; rfl, Hb.out⟩
end Go.Proofs.YtadhncdcpdabkaaDoor
