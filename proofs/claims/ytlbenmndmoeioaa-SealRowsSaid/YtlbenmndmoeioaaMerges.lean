/- SealMerges: the walk. -/
import Derived.Test.YtlbenmndmoeioaaMergeB
namespace Go.Proofs.Ytlbenmndmoeioaa
open Go.RowKit Go.Maps
set_option linter.unusedVariables false

theorem merge_self (w : World) (p : Nat) : Calls Try.prog 21 #[.pointer (some ⟨p, 0, none⟩), .pointer (some ⟨p, 0, none⟩)] w fun e w' => e = .returned (.bool true) ∧ w = w' := by
  obtain ⟨j, hj, hs⟩ := Option.map_eq_some_iff.1 infoNotary
  have heq := fun W => run_eql_ptr_same (P := Try.prog) W ⟨p, 0, none⟩ Try.underlying29 hj
  clear hj hs
  go_enter Try.func21, Try.ntmps21
  go_wp2
  go_ret
  exact ⟨rfl, rfl⟩

theorem new_at (w : World) (s : Nat) (hs : w.heap.size = s) :
    Calls Try.prog 13 #[] w fun e w' => e = .returned (.pointer (some ⟨s + 1, 0, none⟩)) ∧ Ny w' (s + 1) s [] ∧ Below w.heap.size w w' ∧ Hid (w'.heap.size = s + 2) := by
  subst hs
  exact (new_any w).mono fun e w' ⟨h1, h2, h3, h4⟩ => ⟨h1, h2, h3, Lib.hid h4⟩

theorem putN_mem (L : List Nt) (x y : Nt) : y ∈ putN L x ↔ y ∈ L ∨ (okN x = true ∧ y = x) := by
  unfold putN
  cases h : okN x
  · simp
  · cases hh : hasN L x
    · simp
    · have := (hasN_iff L x).1 hh
      simp only [if_true]
      constructor
      · exact fun h => .inl h
      · rintro (h | ⟨_, rfl⟩)
        · exact h
        · exact this
theorem putN_nodup (L : List Nt) (x : Nt) (h : L.Nodup) : (putN L x).Nodup := by
  unfold putN
  cases hk : okN x
  · simpa using h
  · cases hh : hasN L x
    · simp only [if_true, Bool.false_eq_true, if_false]
      rw [List.nodup_append]
      refine ⟨h, by simp, ?_⟩
      intro a ha c hc e
      simp at hc
      subst hc e
      exact (hasN_false _ _).1 hh ha
    · simpa using h
theorem foldl_mem (l : List Nt) : ∀ (L : List Nt) (y : Nt), y ∈ l.foldl putN L ↔ y ∈ L ∨ (okN y = true ∧ y ∈ l) := by
  induction l with
  | nil => intro L y; simp
  | cons x r ih =>
    intro L y
    rw [List.foldl_cons, ih, putN_mem]
    constructor
    · rintro ((h | ⟨h1, rfl⟩) | ⟨h1, h2⟩)
      · exact .inl h
      · exact .inr ⟨h1, by simp⟩
      · exact .inr ⟨h1, by simp [h2]⟩
    · rintro (h | ⟨h1, h2⟩)
      · exact .inl (.inl h)
      · rcases List.mem_cons.1 h2 with rfl | h2
        · exact .inl (.inr ⟨h1, rfl⟩)
        · exact .inr ⟨h1, h2⟩
theorem foldl_nodup (l : List Nt) : ∀ L : List Nt, L.Nodup → (l.foldl putN L).Nodup := by
  induction l with
  | nil => intro L h; exact h
  | cons x r ih => intro L h; rw [List.foldl_cons]; exact ih _ (putN_nodup L x h)
theorem putAll_mem (l : List Nt) (y : Nt) : y ∈ putAll l ↔ okN y = true ∧ y ∈ l := by unfold putAll; rw [foldl_mem]; simp
theorem putAll_nodup (l : List Nt) : (putAll l).Nodup := foldl_nodup l [] (by simp)
theorem fresh_mem (L M : List Nt) (y : Nt) : y ∈ L ++ freshOf L M ↔ y ∈ L ∨ y ∈ M := by
  rw [List.mem_append]
  unfold freshOf
  rw [List.mem_filter, Bool.not_eq_true', hasN_false]
  constructor
  · rintro (h | ⟨h, _⟩)
    · exact .inl h
    · exact .inr h
  · rintro (h | h)
    · exact .inl h
    · by_cases hy : y ∈ L
      · exact .inl hy
      · exact .inr ⟨h, hy⟩
theorem fresh_nodup {L M : List Nt} (hL : L.Nodup) (hM : M.Nodup) : (L ++ freshOf L M).Nodup := by
  rw [List.nodup_append]
  refine ⟨hL, hM.filter _, ?_⟩
  rintro a ha c hc rfl
  unfold freshOf at hc
  rw [List.mem_filter, Bool.not_eq_true', hasN_false] at hc
  exact hc.2 ha
theorem merged_perm {l1 l2 l : List Nt} {P : List Nt} (hP : P.Perm (putAll l1 ++ freshOf (putAll l1) (putAll l2))) (h : ∀ y, y ∈ l ↔ y ∈ l1 ∨ y ∈ l2) : P.Perm (putAll l) := by
  refine hP.trans ((List.perm_ext_iff_of_nodup (fresh_nodup (putAll_nodup _) (putAll_nodup _)) (putAll_nodup _)).2 fun y => ?_)
  rw [fresh_mem, putAll_mem, putAll_mem, putAll_mem, h y]
  constructor
  · rintro (⟨h1, h2⟩ | ⟨h1, h2⟩)
    · exact ⟨h1, .inl h2⟩
    · exact ⟨h1, .inr h2⟩
  · rintro ⟨h1, h2 | h2⟩
    · exact .inl ⟨h1, h2⟩
    · exact .inr ⟨h1, h2⟩

set_option maxHeartbeats 4000000 in
set_option maxRecDepth 100000 in
theorem merges_main (a t : ByteArray) (j : Nat) (w : World) (A : Option Addr) (c : Nat) (l : List Nt) (hR : Rn w w.heap.size A l) (hS : ∀ x ∈ l, Small x) (hv1 : hv l 20 = false) (hx : Small (a, t)) (hv2 : big (a, t) = false) (hj : j ≤ l.length) :
    Calls Try.prog 7 #[.slice A l.length c, .int .i64 j, .agg #[.string a, .string t]] w fun e w' => e = .returned (.bool true) ∧ Below w.heap.size w w' := by
  obtain ⟨hl, hsm⟩ := hv_false hv1
  obtain ⟨ha, ht⟩ := small_big hv2
  simp only at ha ht
  have hb0 := (Below.refl w.heap.size w).alloc (Nat.le_refl _) (.cells #[.string a, .string t] 27)
  have H0 := Lib.hid hb0
  have Hh := Lib.hid hv1
  have Hh2 := Lib.hid hv2
  clear hb0 hv1 hv2
  go_enter Try.func7, Try.ntmps7
  go_wp2_with fail
  refine (awake_any _).mono ?_
  rintro e w1 ⟨rfl, hb1⟩
  have H1 := Lib.hid (below_trans' (Nat.le_refl _) H0.out hb1)
  have c0 : w1.cell? ⟨w.heap.size, 0, none⟩ = some (.string a) := by
    rw [hb1.cell (p := ⟨w.heap.size, 0, none⟩) (by simp)]; simp
  have c1 : w1.cell? ⟨w.heap.size, 1, none⟩ = some (.string t) := by
    rw [hb1.cell (p := ⟨w.heap.size, 1, none⟩) (by simp)]; simp
  have z1 : w.heap.size < w1.heap.size := by have := hb1.size; simp at this; omega
  clear hb1
  go_wp2_with fail
  refine (heavy_any 20 _ w.heap.size A c l (hR.below H1.out) hS (by unfold maxLen; omega) (by omega)).mono ?_
  rintro e w' ⟨rfl, rfl⟩
  rw [Hh.out]
  go_wp2_with fail
  refine (heavy_one a t _ (w1.heap.size + 1) _ 1 (Rn.one w1 a t) hx _ Hh2.out).mono ?_
  rintro e w' ⟨rfl, rfl⟩
  obtain ⟨s, hs⟩ : ∃ s, s = w1.heap.size + 1 := ⟨_, rfl⟩
  have Hs := Lib.hid hs
  clear hs
  go_wp2_with fail
  refine (new_at _ s (by rw [Hs.out]; simp)).mono ?_
  rintro e x1 ⟨rfl, na1, hb1, Hz1⟩
  go_wp2_with fail
  refine (new_at _ (s + 2) Hz1.out).mono ?_
  rintro e x2 ⟨rfl, nb2, hb2, Hz2⟩
  have na2 := na1.below hb2 na1.plt na1.blt
  go_wp2_with fail
  refine (new_at _ (s + 2 + 2) Hz2.out).mono ?_
  rintro e x3 ⟨rfl, nc3, hb3, Hz3⟩
  have na3 := na2.below hb3 na2.plt na2.blt
  have nb3 := nb2.below hb3 nb2.plt nb2.blt
  go_wp2_with fail
  refine (new_at _ (s + 2 + 2 + 2) Hz3.out).mono ?_
  rintro e x4 ⟨rfl, nd4, hb4, Hz4⟩
  have na4 := na3.below hb4 na3.plt na3.blt
  have nb4 := nb3.below hb4 nb3.plt nb3.blt
  have nc4 := nc3.below hb4 nc3.plt nc3.blt
  have hbx := below_trans' (by omega) (below_trans' (by omega) (below_trans' (Nat.le_refl _) hb1 (hb2.mono (Nat.le_refl _))) hb3) hb4
  have Hb4 := Lib.hid (below_trans' (Nat.le_refl _) (H1.out.alloc H1.out.size (.cells #[.string a, .string t] 27)) hbx)
  have c2 : x4.cell? ⟨w.heap.size, 0, none⟩ = some (.string a) := by
    rw [hbx.cell (p := ⟨w.heap.size, 0, none⟩) (by simp; omega), World.cell?_alloc_lt _ _ _ (by simpa using z1)]; exact c0
  have c3 : x4.cell? ⟨w.heap.size, 1, none⟩ = some (.string t) := by
    rw [hbx.cell (p := ⟨w.heap.size, 1, none⟩) (by simp; omega), World.cell?_alloc_lt _ _ _ (by simpa using z1)]; exact c1
  have hsw : w.heap.size < s := by rw [Hs.out]; omega
  have hz4 : s + 8 ≤ x4.heap.size := by rw [Hz4.out]; omega
  clear hbx hb1 hb2 hb3 hb4 na1 na2 na3 nb2 nb3 nc3 Hz1 Hz2 Hz3 Hz4 c0 c1 Hs z1
  have hord : s < s + 1 ∧ s + 1 < s + 2 ∧ s + 2 < s + 2 + 1 ∧ s + 2 + 1 < s + 2 + 2 ∧ s + 2 + 2 < s + 2 + 2 + 1 ∧ s + 2 + 2 + 1 < s + 2 + 2 + 2 ∧ s + 2 + 2 + 2 < s + 2 + 2 + 2 + 1 := by omega
  have hzz : s + 2 + 2 + 2 + 1 < x4.heap.size := nd4.plt
  clear hz4
  generalize s + 2 + 2 + 2 + 1 = pD at *
  generalize s + 2 + 2 + 2 = bD at *
  generalize s + 2 + 2 + 1 = pC at *
  generalize s + 2 + 2 = bC at *
  generalize s + 2 + 1 = pB at *
  generalize s + 2 = bB at *
  generalize s + 1 = pA at *
  obtain ⟨q1, q2, q3, q4, q5, q6, q7⟩ := hord
  go_wp2_with fail
  go_loopw [11, 12, 13] (fun m sec i wr => ∃ (k g1 o1 k1 g2 o2 k2 : Nat), k ≤ l.length ∧ i = .int .i64 k ∧ m = .slice (some ⟨g1, o1, none⟩) (putAll (l.take k)).length k1 ∧ sec = .slice (some ⟨g2, o2, none⟩) (putAll ((l.take k).drop j)).length k2 ∧ Rn wr wr.heap.size (some ⟨g1, o1, none⟩) (putAll (l.take k)) ∧ Rn wr wr.heap.size (some ⟨g2, o2, none⟩) (putAll ((l.take k).drop j)) ∧
      Ny wr pA s (putAll (l.take (min k j))) ∧ Ny wr pB bB (putAll ((l.take k).drop j)) ∧ Ny wr pC bC (putAll ((l.take k).drop j)) ∧ Ny wr pD bD (putAll (l.take (min k j))) ∧ Hid (Below w.heap.size w wr) ∧ wr.cell? ⟨w.heap.size, 0, none⟩ = some (.string a) ∧ wr.cell? ⟨w.heap.size, 1, none⟩ = some (.string t)) (fun _ _ i _ => l.length - (intOf i).toNat)
  case atStart =>
    have hb8 := ((Below.refl x4.heap.size x4).alloc (Nat.le_refl _) (.cells #[] 27)).alloc (by simp) (.cells #[] 27)
    have e0 : putAll (l.take 0) = [] := rfl
    have e1 : putAll ((l.take 0).drop j) = [] := by simp [putAll]
    have e2 : putAll (l.take (min 0 j)) = [] := by simp [putAll]
    refine ⟨0, x4.heap.size, 0, 0, x4.heap.size + 1, 0, 0, Nat.zero_le _, rfl, rfl, by rw [e1]; rfl, fun h => absurd h (by rw [e0]; simp), fun h => absurd h (by rw [e1]; simp), ?_, ?_, ?_, ?_, Lib.hid (below_trans' (Nat.le_refl _) Hb4.out hb8), ?_, ?_⟩
    · rw [e2]; exact na4.below hb8 na4.plt na4.blt
    · rw [e1]; exact nb4.below hb8 nb4.plt nb4.blt
    · rw [e1]; exact nc4.below hb8 nc4.plt nc4.blt
    · rw [e2]; exact nd4.below hb8 nd4.plt nd4.blt
    · rw [hb8.cell (p := ⟨w.heap.size, 0, none⟩) (by show w.heap.size < x4.heap.size; omega)]; exact c2
    · rw [hb8.cell (p := ⟨w.heap.size, 1, none⟩) (by show w.heap.size < x4.heap.size; omega)]; exact c3
  case round =>
    clear c2 c3 na4 nb4 nc4 nd4 Hb4 H1 H0 hzz
    obtain ⟨k, g1, o1, k1, g2, o2, k2, hk, rfl, rfl, rfl, hMwr, hSwr, nawr, nbwr, ncwr, ndwr, Hbwr, d0wr, d1wr⟩ := hrel
    have hle := putAll_le (l.take k)
    have hlk : (l.take k).length ≤ k := by simp; omega
    have hleA := putAll_le (l.take (min k j))
    have hlkA : (l.take (min k j)).length ≤ k := by simp; omega
    have hleB := putAll_le ((l.take k).drop j)
    have hlkB : ((l.take k).drop j).length ≤ k := by simp; omega
    have hzpd : pD < wr.heap.size := ndwr.plt
    by_cases hlt : k < l.length
    · obtain ⟨gl, ol, rfl, hgl, e0, e1⟩ := (hR.below Hbwr.out).at_ hlt
      have hxs := hsm l[k] (List.getElem_mem hlt)
      have HP := Lib.hid (putAll_snoc l k hlt)
      have HPA := Lib.hid (show k < j → putAll (l.take (min (k + 1) j)) = putN (putAll (l.take (min k j))) l[k] from fun h => by
        rw [show min (k + 1) j = k + 1 by omega, show min k j = k by omega]; exact putAll_snoc l k hlt)
      have HPB := Lib.hid (show ¬ k < j → putAll ((l.take (k + 1)).drop j) = putN (putAll ((l.take k).drop j)) l[k] from fun h => by
        rw [List.take_succ_eq_append_getElem hlt, List.drop_append_of_le_length (by simp; omega)]; unfold putAll; rw [List.foldl_append]; rfl)
      have HPC := Lib.hid (show k < j → putAll ((l.take (k + 1)).drop j) = putAll ((l.take k).drop j) from fun h => by
        rw [List.drop_eq_nil_of_le (by simp; omega), List.drop_eq_nil_of_le (by simp; omega)])
      have HPD := Lib.hid (show ¬ k < j → putAll (l.take (min (k + 1) j)) = putAll (l.take (min k j)) from fun h => by
        rw [show min (k + 1) j = j by omega, show min k j = j by omega])
      generalize l[k] = x at *
      obtain ⟨xa, xt⟩ := x
      simp only at hxs e0 e1
      have hk0 : (0 : Int) ≤ (k : Int) := Int.natCast_nonneg _
      have hk1 : (k : Int) < (l.length : Int) := by omega
      generalize hM : putAll (l.take k) = M at *
      generalize hLA : putAll (l.take (min k j)) = LA at *
      generalize hLB : putAll ((l.take k).drop j) = LB at *
      clear hM hLA hLB
      have hMn := putN_le M (xa, xt)
      go_wp2_with fail
      refine (put_any (xa, xt) _ wr.heap.size g1 o1 k1 M hMwr (Nat.le_refl _) (by omega) hxs.1 hxs.2).mono ?_
      rintro e w4 ⟨g', o', k', rfl, hMw4, hb4⟩
      have naw4 := nawr.below hb4 nawr.plt nawr.blt
      have nbw4 := nbwr.below hb4 nbwr.plt nbwr.blt
      have ncw4 := ncwr.below hb4 ncwr.plt ncwr.blt
      have ndw4 := ndwr.below hb4 ndwr.plt ndwr.blt
      have zw4 : wr.heap.size ≤ w4.heap.size := hb4.size
      have hSw4 := (hSwr.below hb4).more zw4
      have Hbw4 := Lib.hid (below_trans' (Nat.le_refl _) Hbwr.out hb4)
      have e2 : w4.cell? ⟨gl, ol + k * 2, none⟩ = some (.string xa) := (hb4.cell (p := ⟨gl, ol + k * 2, none⟩) (by show gl < wr.heap.size; omega)).trans e0
      have e3 : w4.cell? ⟨gl, ol + k * 2 + 1, none⟩ = some (.string xt) := (hb4.cell (p := ⟨gl, ol + k * 2 + 1, none⟩) (by show gl < wr.heap.size; omega)).trans e1
      have d0w4 : w4.cell? ⟨w.heap.size, 0, none⟩ = some (.string a) := (hb4.cell (p := ⟨w.heap.size, 0, none⟩) (by show w.heap.size < wr.heap.size; omega)).trans d0wr
      have d1w4 : w4.cell? ⟨w.heap.size, 1, none⟩ = some (.string t) := (hb4.cell (p := ⟨w.heap.size, 1, none⟩) (by show w.heap.size < wr.heap.size; omega)).trans d1wr
      clear hb4 e0 e1 d0wr d1wr hMwr hSwr nawr nbwr ncwr ndwr
      by_cases hkj : k < j
      · have HPA2 := Lib.hid (HPA.out hkj)
        have HPC2 := Lib.hid (HPC.out hkj)
        clear HPA HPB HPC HPD
        go_wp2_with fail
        go_region_held3 (fun w' => w'.cell? ⟨gl, ol + k * 2, none⟩ = some (.string xa) ∧ w'.cell? ⟨gl, ol + k * 2 + 1, none⟩ = some (.string xt))
          (first | go_keep)
          (first
            | (go_at_call 15; refine (notarySign_any (xa, xt) _ (pA) (s) LA naw4.drew hxs.1 hxs.2 (by omega)).mono ?_; rintro e w5 ⟨rfl, naw5, hgw5⟩; have e4 : w5.cell? ⟨gl, ol + k * 2, none⟩ = some (.string xa) := (keepX hgw5 (by show gl < w4.heap.size; omega) (by omega)).trans e2; have e5 : w5.cell? ⟨gl, ol + k * 2 + 1, none⟩ = some (.string xt) := (keepX hgw5 (by show gl < w4.heap.size; omega) (by omega)).trans e3))
        have nbw5 := nbw4.drew.kept hgw5 (by simp; omega) (by simp; omega)
        have ncw5 := ncw4.drew.kept hgw5 (by simp; omega) (by simp; omega)
        have ndw5 := ndw4.drew.kept hgw5 (by simp; omega) (by simp; omega)
        have zw5 : w4.heap.size ≤ w5.heap.size := hgw5.size
        have d0w5 : w5.cell? ⟨w.heap.size, 0, none⟩ = some (.string a) := (keepX hgw5 (by show w.heap.size < w4.heap.size; omega) (by omega)).trans d0w4
        have d1w5 : w5.cell? ⟨w.heap.size, 1, none⟩ = some (.string t) := (keepX hgw5 (by show w.heap.size < w4.heap.size; omega) (by omega)).trans d1w4
        have hMw5 := (show Rn w4.drew w4.heap.size _ _ from hMw4).turned naw4.drew (Nat.le_refl _) hgw5 |>.more zw5
        have hSw5 := (show Rn w4.drew w4.heap.size _ _ from hSw4).turned naw4.drew (Nat.le_refl _) hgw5 |>.more zw5
        have Hbw5 := Lib.hid (show Below w.heap.size w w5 from (Hbw4.out.drew).grown hgw5 (by show w.heap.size ≤ w4.heap.size; omega) (fun j hj => by cases hj; omega))
        clear e2 e3 d0w4 d1w4 hgw5 hMw4 hSw4 naw4 nbw4 ncw4 ndw4
        go_wp2_with fail
        go_region_held3 (fun w' => w'.cell? ⟨gl, ol + k * 2, none⟩ = some (.string xa) ∧ w'.cell? ⟨gl, ol + k * 2 + 1, none⟩ = some (.string xt))
          (first | go_keep)
          (first
            | (go_at_call 15; refine (notarySign_any (xa, xt) _ (pD) (bD) LA ndw5.drew hxs.1 hxs.2 (by omega)).mono ?_; rintro e w6 ⟨rfl, ndw6, hgw6⟩; have e6 : w6.cell? ⟨gl, ol + k * 2, none⟩ = some (.string xa) := (keepX hgw6 (by show gl < w5.heap.size; omega) (by omega)).trans e4; have e7 : w6.cell? ⟨gl, ol + k * 2 + 1, none⟩ = some (.string xt) := (keepX hgw6 (by show gl < w5.heap.size; omega) (by omega)).trans e5))
        have naw6 := naw5.drew.kept hgw6 (by simp; omega) (by simp; omega)
        have nbw6 := nbw5.drew.kept hgw6 (by simp; omega) (by simp; omega)
        have ncw6 := ncw5.drew.kept hgw6 (by simp; omega) (by simp; omega)
        have zw6 : w5.heap.size ≤ w6.heap.size := hgw6.size
        have d0w6 : w6.cell? ⟨w.heap.size, 0, none⟩ = some (.string a) := (keepX hgw6 (by show w.heap.size < w5.heap.size; omega) (by omega)).trans d0w5
        have d1w6 : w6.cell? ⟨w.heap.size, 1, none⟩ = some (.string t) := (keepX hgw6 (by show w.heap.size < w5.heap.size; omega) (by omega)).trans d1w5
        have hMw6 := (show Rn w5.drew w5.heap.size _ _ from hMw5).turned ndw5.drew (Nat.le_refl _) hgw6 |>.more zw6
        have hSw6 := (show Rn w5.drew w5.heap.size _ _ from hSw5).turned ndw5.drew (Nat.le_refl _) hgw6 |>.more zw6
        have Hbw6 := Lib.hid (show Below w.heap.size w w6 from (Hbw5.out.drew).grown hgw6 (by show w.heap.size ≤ w5.heap.size; omega) (fun j hj => by cases hj; omega))
        clear e4 e5 d0w5 d1w5 hgw6 hMw5 hSw5 ndw5 naw5 nbw5 ncw5
        go_wp2_with fail
        go_roundw
        case rel =>
          refine ⟨k + 1, g', o', k', g2, o2, k2, by omega, by go_num, by rw [HP.out], by rw [HPC2.out], ?_, ?_, ?_, ?_, ?_, ?_, Hbw6, d0w6, d1w6⟩
          · rw [HP.out]; exact hMw6
          · rw [HPC2.out]; exact hSw6
          · rw [HPA2.out]; exact naw6
          · rw [HPC2.out]; exact nbw6
          · rw [HPC2.out]; exact ncw6
          · rw [HPA2.out]; exact ndw6
        case measure => simp [intOf]; omega
      · have HPB2 := Lib.hid (HPB.out hkj)
        have HPD2 := Lib.hid (HPD.out hkj)
        clear HPA HPB HPC HPD
        go_wp2_with fail
        go_region_held3 (fun w' => w'.cell? ⟨gl, ol + k * 2, none⟩ = some (.string xa) ∧ w'.cell? ⟨gl, ol + k * 2 + 1, none⟩ = some (.string xt))
          (first | go_keep)
          (first
            | (go_at_call 15; refine (notarySign_any (xa, xt) _ (pB) (bB) LB nbw4.drew hxs.1 hxs.2 (by omega)).mono ?_; rintro e w5 ⟨rfl, nbw5, hgw5⟩; have e4 : w5.cell? ⟨gl, ol + k * 2, none⟩ = some (.string xa) := (keepX hgw5 (by show gl < w4.heap.size; omega) (by omega)).trans e2; have e5 : w5.cell? ⟨gl, ol + k * 2 + 1, none⟩ = some (.string xt) := (keepX hgw5 (by show gl < w4.heap.size; omega) (by omega)).trans e3))
        have naw5 := naw4.drew.kept hgw5 (by simp; omega) (by simp; omega)
        have ncw5 := ncw4.drew.kept hgw5 (by simp; omega) (by simp; omega)
        have ndw5 := ndw4.drew.kept hgw5 (by simp; omega) (by simp; omega)
        have zw5 : w4.heap.size ≤ w5.heap.size := hgw5.size
        have d0w5 : w5.cell? ⟨w.heap.size, 0, none⟩ = some (.string a) := (keepX hgw5 (by show w.heap.size < w4.heap.size; omega) (by omega)).trans d0w4
        have d1w5 : w5.cell? ⟨w.heap.size, 1, none⟩ = some (.string t) := (keepX hgw5 (by show w.heap.size < w4.heap.size; omega) (by omega)).trans d1w4
        have hMw5 := (show Rn w4.drew w4.heap.size _ _ from hMw4).turned nbw4.drew (Nat.le_refl _) hgw5 |>.more zw5
        have hSw5 := (show Rn w4.drew w4.heap.size _ _ from hSw4).turned nbw4.drew (Nat.le_refl _) hgw5 |>.more zw5
        have Hbw5 := Lib.hid (show Below w.heap.size w w5 from (Hbw4.out.drew).grown hgw5 (by show w.heap.size ≤ w4.heap.size; omega) (fun j hj => by cases hj; omega))
        clear e2 e3 d0w4 d1w4 hgw5 hMw4 hSw4 nbw4 naw4 ncw4 ndw4
        go_wp2_with fail
        go_region_held3 (fun w' => w'.cell? ⟨gl, ol + k * 2, none⟩ = some (.string xa) ∧ w'.cell? ⟨gl, ol + k * 2 + 1, none⟩ = some (.string xt))
          (first | go_keep)
          (first
            | (go_at_call 15; refine (notarySign_any (xa, xt) _ (pC) (bC) LB ncw5.drew hxs.1 hxs.2 (by omega)).mono ?_; rintro e w6 ⟨rfl, ncw6, hgw6⟩; have e6 : w6.cell? ⟨gl, ol + k * 2, none⟩ = some (.string xa) := (keepX hgw6 (by show gl < w5.heap.size; omega) (by omega)).trans e4; have e7 : w6.cell? ⟨gl, ol + k * 2 + 1, none⟩ = some (.string xt) := (keepX hgw6 (by show gl < w5.heap.size; omega) (by omega)).trans e5))
        have naw6 := naw5.drew.kept hgw6 (by simp; omega) (by simp; omega)
        have nbw6 := nbw5.drew.kept hgw6 (by simp; omega) (by simp; omega)
        have ndw6 := ndw5.drew.kept hgw6 (by simp; omega) (by simp; omega)
        have zw6 : w5.heap.size ≤ w6.heap.size := hgw6.size
        have d0w6 : w6.cell? ⟨w.heap.size, 0, none⟩ = some (.string a) := (keepX hgw6 (by show w.heap.size < w5.heap.size; omega) (by omega)).trans d0w5
        have d1w6 : w6.cell? ⟨w.heap.size, 1, none⟩ = some (.string t) := (keepX hgw6 (by show w.heap.size < w5.heap.size; omega) (by omega)).trans d1w5
        have hMw6 := (show Rn w5.drew w5.heap.size _ _ from hMw5).turned ncw5.drew (Nat.le_refl _) hgw6 |>.more zw6
        have hSw6 := (show Rn w5.drew w5.heap.size _ _ from hSw5).turned ncw5.drew (Nat.le_refl _) hgw6 |>.more zw6
        have Hbw6 := Lib.hid (show Below w.heap.size w w6 from (Hbw5.out.drew).grown hgw6 (by show w.heap.size ≤ w5.heap.size; omega) (fun j hj => by cases hj; omega))
        clear e4 e5 d0w5 d1w5 hgw6 hMw5 hSw5 ncw5 naw5 nbw5 ndw5
        go_wp2_with fail
        refine (put_any (xa, xt) _ w6.heap.size g2 o2 k2 LB hSw6 (Nat.le_refl _) (by omega) hxs.1 hxs.2).mono ?_
        rintro e w7 ⟨g3, o3, k3, rfl, hSw7, hb7⟩
        have naw7 := naw6.below hb7 naw6.plt naw6.blt
        have nbw7 := nbw6.below hb7 nbw6.plt nbw6.blt
        have ncw7 := ncw6.below hb7 ncw6.plt ncw6.blt
        have ndw7 := ndw6.below hb7 ndw6.plt ndw6.blt
        have hMw7 := (hMw6.below hb7).more hb7.size
        have Hbw7 := Lib.hid (below_trans' (Nat.le_refl _) Hbw6.out hb7)
        have d0w7 := (hb7.cell (p := ⟨w.heap.size, 0, none⟩) (by show w.heap.size < w6.heap.size; omega)).trans d0w6
        have d1w7 := (hb7.cell (p := ⟨w.heap.size, 1, none⟩) (by show w.heap.size < w6.heap.size; omega)).trans d1w6
        clear hb7
        go_wp2_with fail
        go_roundw
        case rel =>
          refine ⟨k + 1, g', o', k', g3, o3, k3, by omega, by go_num, by rw [HP.out], by rw [HPB2.out], ?_, ?_, ?_, ?_, ?_, ?_, Hbw7, d0w7, d1w7⟩
          · rw [HP.out]; exact hMw7
          · rw [HPB2.out]; exact hSw7
          · rw [HPD2.out]; exact naw7
          · rw [HPB2.out]; exact nbw7
          · rw [HPB2.out]; exact ncw7
          · rw [HPD2.out]; exact ndw7
        case measure => simp [intOf]; omega
    · have ht1 : l.take k = l := List.take_of_length_le (by omega)
      have ht2 : min k j = j := by omega
      rw [ht1] at hMwr hSwr nbwr ncwr hle hleB hlkB hlk ⊢
      rw [ht2] at nawr ndwr hleA hlkA
      clear ht1 ht2
      have hperm1 : ∀ P : List Nt, P.Perm (putAll (l.take j) ++ freshOf (putAll (l.take j)) (putAll (l.drop j))) → P.Perm (putAll l) := fun P hP => merged_perm hP fun y => by
        rw [← List.mem_append, List.take_append_drop]
      have hperm2 : ∀ P : List Nt, P.Perm (putAll (l.drop j) ++ freshOf (putAll (l.drop j)) (putAll (l.take j))) → P.Perm (putAll l) := fun P hP => merged_perm hP fun y => by
        rw [Or.comm, ← List.mem_append, List.take_append_drop]
      have Hp1 := Lib.hid hperm1
      have Hp2 := Lib.hid hperm2
      clear hperm1 hperm2
      generalize putAll (l.take j) = LA at *
      generalize putAll (l.drop j) = LB at *
      generalize putAll l = M at *
      go_wp2_with fail
      refine (merge_other _ pA s pB bB LA LB nawr nbwr (by omega) (by omega) (by omega)).mono ?_
      rintro e w4 ⟨P1, rfl, na4, hP1, hg4⟩
      have nb4 := nbwr.kept hg4 (by simp; omega) (by simp; omega)
      have nc4 := ncwr.kept hg4 (by simp; omega) (by simp; omega)
      have nd4 := ndwr.kept hg4 (by simp; omega) (by simp; omega)
      have hM4 := hMwr.turned nawr (Nat.le_refl _) hg4
      have hS4 := hSwr.turned nawr (Nat.le_refl _) hg4
      have z4 : wr.heap.size ≤ w4.heap.size := hg4.size
      have Hb4 := Lib.hid (show Below w.heap.size w w4 from Hbwr.out.grown hg4 Hbwr.out.size (fun j hj => by cases hj; omega))
      have d04 : w4.cell? ⟨w.heap.size, 0, none⟩ = some (.string a) := (keepX hg4 (by omega) (by omega)).trans d0wr
      have d14 : w4.cell? ⟨w.heap.size, 1, none⟩ = some (.string t) := (keepX hg4 (by omega) (by omega)).trans d1wr
      have HP1 := Lib.hid (Hp1.out P1 hP1)
      clear hg4 nawr nbwr ncwr ndwr hMwr hSwr d0wr d1wr hP1
      go_wp2_with fail
      refine (merge_other _ pC bC pD bD LB LA nc4 nd4 (by omega) (by omega) (by omega)).mono ?_
      rintro e w5 ⟨P2, rfl, nc5, hP2, hg5⟩
      have na5 := na4.kept hg5 (by simp; omega) (by simp; omega)
      have nb5 := nb4.kept hg5 (by simp; omega) (by simp; omega)
      have hM5 := hM4.turned nc4 (by omega) hg5
      have hS5 := hS4.turned nc4 (by omega) hg5
      have z5 : w4.heap.size ≤ w5.heap.size := hg5.size
      have Hb5 := Lib.hid (show Below w.heap.size w w5 from Hb4.out.grown hg5 Hb4.out.size (fun j hj => by cases hj; omega))
      have d05 : w5.cell? ⟨w.heap.size, 0, none⟩ = some (.string a) := (keepX hg5 (by omega) (by omega)).trans d04
      have d15 : w5.cell? ⟨w.heap.size, 1, none⟩ = some (.string t) := (keepX hg5 (by omega) (by omega)).trans d14
      have HP2 := Lib.hid (Hp2.out P2 hP2)
      clear hg5 na4 nb4 nc4 nd4 hM4 hS4 d04 d14 hP2
      go_wp2_with fail
      refine (merge_nil _ _).mono ?_
      rintro e w' ⟨rfl, rfl⟩
      go_wp2_with fail
      refine (merge_self _ _).mono ?_
      rintro e w' ⟨rfl, rfl⟩
      go_wp2_with fail
      refine (refSign_any a t _ (by omega) (by omega)).mono ?_
      rintro e w6 ⟨rfl, hb6⟩
      have na6 := na5.below hb6 na5.plt na5.blt
      have nb6 := nb5.below hb6 nb5.plt nb5.blt
      have nc6 := nc5.below hb6 nc5.plt nc5.blt
      have z6 : w5.heap.size ≤ w6.heap.size := hb6.size
      have hM6 := hM5.below (hb6.mono (by omega))
      have hS6 := hS5.below (hb6.mono (by omega))
      have Hb6 := Lib.hid (below_trans' (Nat.le_refl _) Hb5.out hb6)
      have d06 : w6.cell? ⟨w.heap.size, 0, none⟩ = some (.string a) := (hb6.cell (p := ⟨w.heap.size, 0, none⟩) (by show w.heap.size < w5.heap.size; omega)).trans d05
      have d16 : w6.cell? ⟨w.heap.size, 1, none⟩ = some (.string t) := (hb6.cell (p := ⟨w.heap.size, 1, none⟩) (by show w.heap.size < w5.heap.size; omega)).trans d15
      clear hb6 na5 nb5 nc5 hM5 hS5 d05 d15
      go_wp2_with fail
      refine (even_any a t _ _ pA s wr.heap.size _ k1 P1 M na6 hM6 (by omega) HP1.out (by omega) (by omega) (by omega)).mono ?_
      rintro e w7 ⟨rfl, hb7⟩
      have nb7 := nb6.below hb7 nb6.plt nb6.blt
      have nc7 := nc6.below hb7 nc6.plt nc6.blt
      have z7 : w6.heap.size ≤ w7.heap.size := hb7.size
      have hM7 := hM6.below (hb7.mono (by omega))
      have hS7 := hS6.below (hb7.mono (by omega))
      have Hb7 := Lib.hid (below_trans' (Nat.le_refl _) Hb6.out hb7)
      have d07 : w7.cell? ⟨w.heap.size, 0, none⟩ = some (.string a) := (hb7.cell (p := ⟨w.heap.size, 0, none⟩) (by show w.heap.size < w6.heap.size; omega)).trans d06
      have d17 : w7.cell? ⟨w.heap.size, 1, none⟩ = some (.string t) := (hb7.cell (p := ⟨w.heap.size, 1, none⟩) (by show w.heap.size < w6.heap.size; omega)).trans d16
      clear hb7 na6 nb6 nc6 hM6 hS6 d06 d16
      go_wp2_with fail
      refine (even_any a t _ _ pC bC wr.heap.size _ k1 P2 M nc7 hM7 (by omega) HP2.out (by omega) (by omega) (by omega)).mono ?_
      rintro e w8 ⟨rfl, hb8⟩
      have nb8 := nb7.below hb8 nb7.plt nb7.blt
      have hS8 := hS7.below (hb8.mono (by omega))
      have z8 : w7.heap.size ≤ w8.heap.size := hb8.size
      have Hb8 := Lib.hid (below_trans' (Nat.le_refl _) Hb7.out hb8)
      have d08 : w8.cell? ⟨w.heap.size, 0, none⟩ = some (.string a) := (hb8.cell (p := ⟨w.heap.size, 0, none⟩) (by show w.heap.size < w7.heap.size; omega)).trans d07
      have d18 : w8.cell? ⟨w.heap.size, 1, none⟩ = some (.string t) := (hb8.cell (p := ⟨w.heap.size, 1, none⟩) (by show w.heap.size < w7.heap.size; omega)).trans d17
      clear hb8 nb7 nc7 hM7 hS7 d07 d17
      go_wp2_with fail
      refine (even_any a t _ _ pB bB wr.heap.size _ k2 LB LB nb8 hS8 (by omega) (List.Perm.refl _) (by omega) (by omega) (by omega)).mono ?_
      rintro e w9 ⟨rfl, hb9⟩
      go_wp2
      go_ret
      exact ⟨rfl, below_trans' (Nat.le_refl _) Hb8.out hb9⟩

set_option maxHeartbeats 2000000 in
set_option maxRecDepth 100000 in
theorem merges_heavy (a t : ByteArray) (i : Int) (w : World) (A : Option Addr) (c : Nat) (l : List Nt) (hR : Rn w w.heap.size A l) (hS : ∀ x ∈ l, Small x) (hl : l.length ≤ maxLen) (hx : Small (a, t))
    (h : hv l 20 = true ∨ (hv l 20 = false ∧ big (a, t) = true) ∨ (hv l 20 = false ∧ big (a, t) = false ∧ i < 0) ∨ (hv l 20 = false ∧ big (a, t) = false ∧ 0 ≤ i ∧ (l.length : Int) < i)) :
    Calls Try.prog 7 #[.slice A l.length c, .int .i64 i, .agg #[.string a, .string t]] w fun e w' => e = .returned (.bool true) ∧ Below w.heap.size w w' := by
  have hl' := hl
  simp only [maxLen] at hl'
  have hb0 := (Below.refl w.heap.size w).alloc (Nat.le_refl _) (.cells #[.string a, .string t] 27)
  have H0 := Lib.hid hb0
  clear hb0
  rcases h with h | ⟨h, h2⟩ | ⟨h, h2, h3⟩ | ⟨h, h2, h3, h4⟩
  · have Hh := Lib.hid h
    clear h
    go_enter Try.func7, Try.ntmps7
    go_wp2_with fail
    refine (awake_any _).mono ?_
    rintro e w1 ⟨rfl, hb1⟩
    have H1 := Lib.hid (below_trans' (Nat.le_refl _) H0.out hb1)
    clear hb1
    go_wp2_with fail
    refine (heavy_any 20 _ w.heap.size A c l (hR.below H1.out) hS hl (by omega)).mono ?_
    rintro e w' ⟨rfl, rfl⟩
    rw [Hh.out]
    go_wp2
    go_ret
    exact ⟨rfl, H1.out⟩
  all_goals
    have Hh := Lib.hid h
    have Hh2 := Lib.hid h2
    clear h h2
    go_enter Try.func7, Try.ntmps7
    go_wp2_with fail
    refine (awake_any _).mono ?_
    rintro e w1 ⟨rfl, hb1⟩
    have H1 := Lib.hid (below_trans' (Nat.le_refl _) H0.out hb1)
    have c0 : w1.cell? ⟨w.heap.size, 0, none⟩ = some (.string a) := by
      rw [hb1.cell (p := ⟨w.heap.size, 0, none⟩) (by simp)]; simp
    have c1 : w1.cell? ⟨w.heap.size, 1, none⟩ = some (.string t) := by
      rw [hb1.cell (p := ⟨w.heap.size, 1, none⟩) (by simp)]; simp
    clear hb1
    go_wp2_with fail
    refine (heavy_any 20 _ w.heap.size A c l (hR.below H1.out) hS hl (by omega)).mono ?_
    rintro e w' ⟨rfl, rfl⟩
    rw [Hh.out]
    go_wp2_with fail
    refine (heavy_one a t _ (w1.heap.size + 1) _ 1 (Rn.one w1 a t) hx _ Hh2.out).mono ?_
    rintro e w' ⟨rfl, rfl⟩
    go_wp2
    go_ret
    exact ⟨rfl, H1.out.alloc H1.out.size _⟩

theorem merges_any (a t : ByteArray) (i : Int) (w : World) (A : Option Addr) (c : Nat) (l : List Nt) (hR : Rn w w.heap.size A l) (hS : ∀ x ∈ l, Small x) (hl : l.length ≤ maxLen) (hx : Small (a, t)) :
    Calls Try.prog 7 #[.slice A l.length c, .int .i64 i, .agg #[.string a, .string t]] w fun e w' => e = .returned (.bool true) ∧ Below w.heap.size w w' := by
  cases h1 : hv l 20
  · cases h2 : big (a, t)
    · by_cases h3 : i < 0
      · exact merges_heavy a t i w A c l hR hS hl hx (.inr (.inr (.inl ⟨h1, h2, h3⟩)))
      · by_cases h4 : (l.length : Int) < i
        · exact merges_heavy a t i w A c l hR hS hl hx (.inr (.inr (.inr ⟨h1, h2, by omega, h4⟩)))
        · obtain ⟨j, rfl⟩ := Int.eq_ofNat_of_zero_le (by omega : 0 ≤ i)
          exact merges_main a t j w A c l hR hS h1 hx h2 (by omega)
    · exact merges_heavy a t i w A c l hR hS hl hx (.inr (.inl ⟨h1, h2⟩))
  · exact merges_heavy a t i w A c l hR hS hl hx (.inl h1)
end Go.Proofs.Ytlbenmndmoeioaa
