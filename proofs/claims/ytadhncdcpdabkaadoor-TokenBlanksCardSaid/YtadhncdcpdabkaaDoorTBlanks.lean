/- TokenBlanks: plain, and the walk. -/
import Derived.Test.YtadhncdcpdabkaaDoorTSame
import Derived.Lib.ConvBytes
import Derived.IntWalk
namespace Go.Proofs.YtadhncdcpdabkaaDoor
open Go.RowKit Go.Lib
set_option linter.unusedVariables false

theorem Scanned.anew {n at_ : Nat} {l : Bs} {T : List Tok} (h : Scanned n at_ l T) : ∀ n' at', n' + T.length ≤ 4096 → ∃ U, Scanned n' at' l U ∧ U.length = T.length := by
  induction h with
  | done n at_ l hb => exact fun n' at' _ => ⟨[], .done _ _ _ hb, rfl⟩
  | tok n at_ k b x r t p T hb hn hp hs _ ih =>
    intro n' at' hl
    simp at hl
    obtain ⟨U, hU, hUl⟩ := ih (n' + 1) (at' + b.length + x.length) (by omega)
    exact ⟨_, .tok n' at' k b x r t p U hb (by omega) hp hs hU, by simp [hUl]⟩
theorem Scanned.nil_blank {n at_ : Nat} {l : Bs} (h : Scanned n at_ l []) : ∀ c ∈ l, blank c = true := by
  cases h with
  | done _ _ _ hb => exact hb
/-- a text that goes wrong, with something behind it -/
theorem blanks_err {S R : Bs} {a e : Nat} (h : scan 0 0 S = .error (a, e)) : scan 0 0 (S ++ R) ≠ .ok [] := by
  intro hc
  have hb := (scan_scanned hc).nil_blank
  have : Scanned 0 0 S [] := .done _ _ _ (fun c hc => hb c (by simp [hc]))
  rw [scanned_scan this] at h
  cases h
theorem blanks_second {S G M : Bs} {T V : List Tok} {a e : Nat} (hg : ∀ c ∈ G, blank c = true) (hne : G ≠ []) (h : scan 0 0 S = .ok T) (hm : scan 0 0 M = .error (a, e)) : scan 0 0 (S ++ (G ++ M)) ≠ .ok V := by
  intro hc
  obtain ⟨U, rfl, hU⟩ := (scan_scanned hc).part rfl hg (scan_scanned h) (.inl hne)
  have hl := hU.count.2
  have hcl := (scan_scanned hc).count.2 (by omega)
  obtain ⟨U', hU', _⟩ := hU.anew 0 0 (by simp at hcl; omega)
  rw [scanned_scan hU'] at hm
  cases hm
theorem blanks_both {S G M : Bs} {T U : List Tok} (hg : ∀ c ∈ G, blank c = true) (hne : G ≠ []) (h : scan 0 0 S = .ok T) (hm : scan 0 0 M = .ok U) (hl : T.length + U.length ≤ 4096) : scan 0 0 (S ++ (G ++ M)) = .ok (T ++ moved (S.length + G.length) U) := by
  refine scanned_scan ((scan_scanned h).join hg (.inl hne) ?_)
  have := (scan_scanned hm).move T.length (S.length + G.length) (by omega)
  simpa [Nat.add_assoc] using this
theorem moved_alike (d : Nat) (U : List Tok) : alike (moved d U) U := by
  unfold alike moved
  rw [List.map_map]
  rfl
theorem moved_len (d : Nat) (U : List Tok) : (moved d U).length = U.length := by simp [moved]
theorem Rt.left {w : World} {B : Nat} {A : Option Addr} {T U : List Tok} (h : Rt w B A (T ++ U)) : Rt w B A T := fun hl => by
  obtain ⟨g, off, e, hg, hc⟩ := h (by simp; omega)
  exact ⟨g, off, e, hg, fun i t ht => hc i t (by rw [List.getElem?_append_left (List.getElem?_eq_some_iff.1 ht).1]; exact ht)⟩
theorem Rt.right {w : World} {B g off : Nat} {T U : List Tok} (h : Rt w B (some ⟨g, off, none⟩) (T ++ U)) : Rt w B (some ⟨g, off + T.length * 3, none⟩) U := fun hl => by
  obtain ⟨g', off', e, hg, hc⟩ := h (by simp; omega)
  injection e with e
  injection e with e1 e2
  subst e1 e2
  refine ⟨g, off + T.length * 3, rfl, hg, fun i t ht => ?_⟩
  have := hc (T.length + i) t (by rw [List.getElem?_append_right (by omega), Nat.add_sub_cancel_left]; exact ht)
  rw [Nat.add_mul, ← Nat.add_assoc] at this
  exact this

theorem alike_n (T U : List Tok) (A A' : Option Addr) (c c' B B' n n' : Nat) (w : World) (hn : T.length = n) (hn' : U.length = n') (hT : Rt w B A T) (hU : Rt w B' A' U) (hl : T.length ≤ 1000000) (ha : alike T U) :
    Calls Tryd.prog 14 #[.slice A n c, .slice A' n' c'] w fun e w' => e = .returned (.bool true) ∧ Below w.heap.size w w' := by
  subst hn hn'
  exact alike_any T U A A' c c' B B' w hT hU hl ha
theorem Scanned.places {n at_ : Nat} {l : Bs} {T : List Tok} (h : Scanned n at_ l T) : ∀ u ∈ T, u.place < at_ + l.length := by
  induction h with
  | done => intro t ht; simp at ht
  | tok n at_ k b x r t p T hb hn hp hs _ ih =>
    have := (piece_kind hp).2
    intro u hu
    rcases List.mem_cons.1 hu with rfl | hu
    · simp; omega
    · have := ih u hu
      simp
      omega
theorem moved_at (T U : List Tok) (d q : Nat) (h : q < U.length) {hv : T.length + q < (T ++ moved d U).length} : (T ++ moved d U)[T.length + q].place = U[q].place + d := by
  simp [moved]
/-- the gap so far -/
structure Gap (G : ByteArray) (k : Nat) : Prop where
  ge : 1 ≤ G.size
  le : G.size ≤ k + 1
  bl : ∀ c ∈ G.data.toList, blank c = true
theorem Gap.start : Gap ⟨#[32]⟩ 0 := ⟨by decide, by decide, by intro c hc; simp at hc; subst hc; rfl⟩
theorem Gap.next {G : ByteArray} {k : Nat} (h : Gap G k) {x : UInt8} (hx : blank x = true) : Gap (G ++ ⟨#[x]⟩) (k + 1) := by
  have hs : (G ++ ⟨#[x]⟩ : ByteArray).size = G.size + 1 := by rw [ByteArray.size_append]; rfl
  refine ⟨by rw [hs]; omega, by rw [hs]; have := h.le; omega, fun c hc => ?_⟩
  rw [ByteArray.data_append, Array.toList_append] at hc
  rcases List.mem_append.1 hc with hc | hc
  · exact h.bl c hc
  · simp at hc; subst hc; exact hx
theorem cat_list (s G t : ByteArray) : (s ++ G ++ t).data.toList = s.data.toList ++ (G.data.toList ++ t.data.toList) := by simp [ByteArray.data_append]
theorem conv_byte32 (w : World) : (convert 29 9 (.slice (some ⟨w.heap.size, 0, none⟩) 1 1)).run Tryd.prog (w.alloc (.cells #[.int .u8 32] 5)) = .ok (.string ⟨#[32]⟩) (w.alloc (.cells #[.int .u8 32] 5)) := by
  exact run_convert_bytes_back (P := Tryd.prog) _ _ _ 5 ⟨w.heap.size, 0, none⟩ 1 [32] Tryd.underlying29 Tryd.underlying5 Tryd.underlying9 (fun j hj => by
    have hj0 : j = 0 := by simpa using hj
    subst hj0
    simp [Addr.add])

theorem scan_shape (s : ByteArray) (w : World) (hW : Wd w) (hs : s.size ≤ 1000000000) :
    Calls Tryd.prog 11 #[.string s] w fun e w' => ∃ (A : Option Addr) (n c : Nat) (a er : Int), e = .returned (.tuple #[.slice A n c, .int .i64 a, .int .i64 er]) ∧ Below w.heap.size w w' :=
  (scan_any s w hW hs).mono fun e w' ⟨hb, hp⟩ => by
    rcases hp with ⟨T, A, c, h1, h2, h3⟩ | ⟨a, er, h1, h2⟩
    · exact ⟨_, _, _, _, _, h2, hb⟩
    · exact ⟨_, _, _, _, _, h2, hb⟩
theorem scan_ok_cap (s : ByteArray) (T : List Tok) (w : World) (hW : Wd w) (hs : s.size ≤ 1000000000) (h : scan 0 0 s.data.toList = .ok T) :
    Calls Tryd.prog 11 #[.string s] w fun e w' => ∃ A c, e = .returned (.tuple #[.slice A T.length c, .int .i64 (s.size : Int), .int .i64 0]) ∧ Rt w' w'.heap.size A T ∧ T.length ≤ c ∧ ((A = none ∧ c = 0) ∨ ∃ g, A = some ⟨g, 0, none⟩) ∧ Below w.heap.size w w' := by
  refine (scan_capped s w hW hs).mono fun e w' ⟨hb, hp⟩ => ?_
  rcases hp with ⟨T', A, c, h', he, hr, h1, h2⟩ | ⟨a, er, h', _⟩
  · rw [h] at h'
    injection h' with h'
    subst h'
    exact ⟨A, c, he, hr, h1, h2, hb⟩
  · rw [h] at h'
    cases h'
theorem scan_bad_any (s : ByteArray) (w : World) (hW : Wd w) (hs : s.size ≤ 1000000000) (h : ∀ T, scan 0 0 s.data.toList ≠ .ok T) :
    Calls Tryd.prog 11 #[.string s] w fun e w' => ∃ (a er : Int), er ≠ 0 ∧ e = .returned (.tuple #[.slice none 0 0, .int .i64 a, .int .i64 er]) ∧ Below w.heap.size w w' := by
  refine (scan_capped s w hW hs).mono fun e w' ⟨hb, hp⟩ => ?_
  rcases hp with ⟨T', A, c, h', he, hr, h1, h2⟩ | ⟨a, er, h', he⟩
  · exact absurd h' (h T')
  · have := scan_error h'
    exact ⟨a, er, by omega, he, hb⟩
set_option maxHeartbeats 4000000 in
set_option maxRecDepth 100000 in
theorem blanks_main (s t : ByteArray) (b f : Int) (w : World) (hW : Wd w) (hs : s.size ≤ 1000) (ht : t.size ≤ 1000) (hb0 : 0 ≤ b) (hb1 : b ≤ 255) (hf0 : 0 ≤ f) (hf1 : f ≤ 255) :
    Calls Tryd.prog 4 #[.string s, .string t, .int .u8 b, .int .u8 f] w fun e w' => e = .returned (.bool true) ∧ Below w.heap.size w w' := by
  go_enter Tryd.func4, Tryd.ntmps4
  go_wp2_with fail
  refine (awake_any _ hW).mono ?_
  rintro e w1 ⟨rfl, hb1⟩
  have H1 := Lib.hid (hb1.alloc hb1.size (.cells #[.int .u8 32] 5))
  have hW1 := (hW.all hb1).alloc (.cells #[.int .u8 32] 5)
  have hcv := conv_byte32 w1
  clear hb1
  go_wp2_with fail
  clear hcv
  generalize (w1.alloc (.cells #[.int .u8 32] 5)) = w2 at *
  go_loop [9, 10] (fun g i => ∃ (k : Nat) (G : ByteArray), (k : Int) ≤ b % 9 ∧ i = .int .i64 k ∧ g = .string G ∧ Gap G k) (fun _ i => 9 - (intOf i).toNat)
  case atStart => exact ⟨0, _, by omega, rfl, rfl, Gap.start⟩
  case round =>
    obtain ⟨k, G, hk, rfl, rfl, hG⟩ := hrel
    have hG1 := hG.le
    by_cases hlt : (k : Int) < b % 9
    · have HN := Lib.hid (hG.next (x := 32) rfl)
      clear hG
      go_wp2_with fail
      go_round
      case rel => exact ⟨k + 1, _, by omega, by go_num, rfl, HN.out⟩
      case measure => simp [intOf]; omega
    · have hk9 : k ≤ 8 := by omega
      go_wp2_with fail
      go_loop [9, 11] (fun g i => ∃ (m : Nat) (G : ByteArray), (m : Int) ≤ f % 9 ∧ i = .int .i64 m ∧ g = .string G ∧ Gap G (k + m)) (fun _ i => 9 - (intOf i).toNat)
      case atStart => exact ⟨0, _, by omega, rfl, rfl, hG⟩
      case round =>
        clear hG hG1
        obtain ⟨m, G, hm, rfl, rfl, hG⟩ := hrel
        have hG1 := hG.le
        by_cases hlt2 : (m : Int) < f % 9
        · have HN := Lib.hid (hG.next (x := 10) rfl)
          clear hG
          go_wp2_with fail
          go_round
          case rel => exact ⟨m + 1, _, by omega, by go_num, rfl, HN.out⟩
          case measure => simp [intOf]; omega
        · have hm9 : m ≤ 8 := by omega
          have hg17 : G.size ≤ 17 := by omega
          have Hbl := Lib.hid hG.bl
          have hg1 := hG.ge
          have Hne := Lib.hid (show G.data.toList ≠ [] from fun h => by
            have : G.size = 0 := by have := congrArg List.length h; simpa using this
            omega)
          clear hG hG1 hk9 hm9
          go_wp2_with fail
          have hcz : (s ++ G ++ t).size ≤ 1000000000 := by rw [ByteArray.size_append, ByteArray.size_append]; omega
          refine (scan_capped s _ hW1 (by omega)).mono ?_
          rintro e w3 ⟨hb3, hp1⟩
          have hW3 := hW1.all hb3
          have H3 := Lib.hid (below_trans' (Nat.le_refl _) H1.out hb3)
          clear hW1 H1 hb3
          rcases hp1 with ⟨T, A1, c1, hT, rfl, hR1, _, _⟩ | ⟨a1, e1, hE1, rfl⟩
          · cases hM : scan 0 0 t.data.toList with
            | error z =>
              obtain ⟨a2, e2⟩ := z
              have HC := Lib.hid (show ∀ V, scan 0 0 (s ++ G ++ t).data.toList ≠ .ok V from fun V => by rw [cat_list]; exact blanks_second Hbl.out Hne.out hT hM)
              have HM := Lib.hid (show ∀ T, scan 0 0 t.data.toList ≠ .ok T from fun T h => by rw [hM] at h; cases h)
              clear hM hT
              go_wp2_with fail
              refine (scan_bad_any t _ hW3 (by omega) HM.out).mono ?_
              rintro e w4 ⟨a4, e4, he4, rfl, hb4⟩
              have hW4 := hW3.all hb4
              have H4 := Lib.hid (below_trans' (Nat.le_refl _) H3.out hb4)
              have n4 : (e4 != 0) = true := by simpa using he4
              clear hb4 hW3 H3
              go_wp2_with fail
              refine (scan_bad_any (s ++ G ++ t) _ hW4 hcz HC.out).mono ?_
              rintro e w5 ⟨a5, e5, he5, rfl, hb5⟩
              have n5 : (e5 != 0) = true := by simpa using he5
              have H5 := Lib.hid (below_trans' (Nat.le_refl _) H4.out hb5)
              go_wp2_with fail
              go_ret
              exact ⟨rfl, H5.out⟩
            | ok U =>
              have hTl := (scan_scanned hT).count.1
              have hUl := (scan_scanned hM).count.1
              have hsl : s.data.toList.length = s.size := by simp
              have htl : t.data.toList.length = t.size := by simp
              have hgl : G.data.toList.length = G.size := by simp
              rw [hsl] at hTl
              rw [htl] at hUl
              have hC := blanks_both Hbl.out Hne.out hT hM (by omega)
              rw [← cat_list, hsl, hgl] at hC
              have HC := Lib.hid hC
              have HM := Lib.hid hM
              clear hC hM hT hsl htl hgl
              go_wp2_with fail
              refine (scan_ok_cap t U _ hW3 (by omega) HM.out).mono ?_
              rintro e w4 ⟨A2, c2, rfl, hR2, _, _, hb4⟩
              have hW4 := hW3.all hb4
              have hR1' := hR1.all hb4
              have H4 := Lib.hid (below_trans' (Nat.le_refl _) H3.out hb4)
              clear hb4 hW3 H3 hR1
              go_wp2_with fail
              refine (scan_ok_cap (s ++ G ++ t) _ _ hW4 hcz HC.out).mono ?_
              rintro e w5 ⟨A3, c3, rfl, hR3, hc3, hA3, hb5⟩
              have hR1 := hR1'.all hb5
              have hR2' := hR2.all hb5
              have H5 := Lib.hid (below_trans' (Nat.le_refl _) H4.out hb5)
              clear hb5 hW4 H4 hR1' hR2
              have hVl : (T ++ moved (s.size + G.size) U).length = T.length + U.length := by rw [List.length_append, moved_len]
              have HVl := Lib.hid hVl
              rw [hVl] at hc3
              have HR3 := Lib.hid hR3
              clear hVl hR3 HC
              generalize (T ++ moved (s.size + G.size) U).length = vl at *
              have n1 : ((vl : Int) != (T.length : Int) + (U.length : Int)) = false := by have := HVl.out; simp; omega
              have q1 : T.length ≤ vl := by have := HVl.out; omega
              have q2 : vl ≤ c3 := by have := HVl.out; omega
              have q3 : vl ≤ 2000 := by have := HVl.out; omega
              have PL := Lib.hid (show ∀ u ∈ U, u.place < 1000 from fun u hu => by have := (scan_scanned HM.out).places u hu; have e : t.data.toList.length = t.size := by simp
                                                                                   omega)
              clear HM
              rcases hA3 with ⟨rfl, rfl⟩ | ⟨g, rfl⟩
              · obtain rfl : T = [] := List.length_eq_zero_iff.1 (by omega)
                obtain rfl : U = [] := List.length_eq_zero_iff.1 (by have := HVl.out; omega)
                obtain rfl : vl = 0 := by omega
                clear n1 q1 q2 q3 HVl
                go_wp2_with fail
                refine (same_any [] none A1 0 c1 _ _ _ HR3.out.left hR1 (by simp)).mono ?_
                rintro e w6 ⟨rfl, hb6⟩
                have hR2a := hR2'.all hb6
                have H6 := Lib.hid (below_trans' (Nat.le_refl _) H5.out hb6)
                clear hb6 hR1 hR2' HR3 H5
                go_wp2_with fail
                refine (alike_any [] [] none A2 0 c2 0 _ _ (fun h => absurd h (by simp)) hR2a (by simp) rfl).mono ?_
                rintro e w7 ⟨rfl, hb7⟩
                have H7 := Lib.hid (below_trans' (Nat.le_refl _) H6.out hb7)
                go_wp2_with fail
                refine wp_loop_rounds 1 ?_
                rw [rounds_succ]
                go_wp2_with fail
                go_ret
                exact ⟨rfl, H7.out⟩
              · by_cases hc : c3 = T.length
                · obtain rfl : U = [] := List.length_eq_zero_iff.1 (by have := HVl.out; omega)
                  obtain rfl : vl = T.length := by have := HVl.out; simp at this; omega
                  subst hc
                  go_wp2_with fail
                  refine (same_any T (some ⟨g, 0, none⟩) A1 T.length c1 _ _ _ HR3.out.left hR1 (by omega)).mono ?_
                  rintro e w6 ⟨rfl, hb6⟩
                  have hR2a := hR2'.all hb6
                  have H6 := Lib.hid (below_trans' (Nat.le_refl _) H5.out hb6)
                  clear hb6 hR1 hR2' HR3 H5
                  go_wp2_with fail
                  refine (alike_any [] [] _ A2 _ c2 0 _ _ (fun h => absurd h (by simp)) hR2a (by simp) rfl).mono ?_
                  rintro e w7 ⟨rfl, hb7⟩
                  have H7 := Lib.hid (below_trans' (Nat.le_refl _) H6.out hb7)
                  go_wp2_with fail
                  refine wp_loop_rounds 1 ?_
                  rw [rounds_succ]
                  go_wp2_with fail
                  go_ret
                  exact ⟨rfl, H7.out⟩
                · have hc' : ¬ T.length = c3 := fun h => hc h.symm
                  go_wp2_with fail
                  refine (same_any T (some ⟨g, 0, none⟩) A1 c3 c1 _ _ _ HR3.out.left hR1 (by omega)).mono ?_
                  rintro e w6 ⟨rfl, hb6⟩
                  have hR2a := hR2'.all hb6
                  have HR3a := Lib.hid (HR3.out.all hb6)
                  have H6 := Lib.hid (below_trans' (Nat.le_refl _) H5.out hb6)
                  clear hb6 hR1 hR2' HR3 H5
                  go_wp2_with fail
                  have hRR := HR3a.out.right
                  rw [Nat.zero_add] at hRR
                  have hnn : (moved (s.size + G.size) U).length = vl - T.length := by have := HVl.out; rw [moved_len]; omega
                  have Hnn := Lib.hid hnn
                  clear hnn
                  refine (alike_n (moved (s.size + G.size) U) U (some ⟨g, T.length * 3, none⟩) A2 (c3 - T.length) c2 _ _ (vl - T.length) U.length _ Hnn.out rfl hRR hR2a (by rw [moved_len]; omega) (moved_alike _ _)).mono ?_
                  rintro e w7 ⟨rfl, hb7⟩
                  have hR2b := hR2a.all hb7
                  have HR3b := Lib.hid (HR3a.out.all hb7)
                  have H7 := Lib.hid (below_trans' (Nat.le_refl _) H6.out hb7)
                  clear hb7 hR2a HR3a H6
                  go_wp2_with fail
                  go_loopw [21] (fun i wr => ∃ q : Nat, q ≤ U.length ∧ i = .int .i64 q ∧ Rt wr w7.heap.size A2 U ∧ Hid (Rt wr w7.heap.size (some ⟨g, 0, none⟩) (T ++ moved (s.size + G.size) U)) ∧ Hid (Below w.heap.size w wr)) (fun i _ => U.length - (intOf i).toNat)
                  case atStart => exact ⟨0, Nat.zero_le _, rfl, hR2b, HR3b, H7⟩
                  case round =>
                    clear hR2b HR3b H7
                    obtain ⟨q, hq, rfl, hR2c, HR3c, Hb⟩ := hrel
                    by_cases hql : q < U.length
                    · obtain ⟨g2, o2, rfl, hg2, x0, x1, x2⟩ := hR2c.at_ hql
                      have hVq : T.length + q < (T ++ moved (s.size + G.size) U).length := by rw [List.length_append, moved_len]; omega
                      obtain ⟨g3, o3, hA3e, hg3, y0, y1, y2⟩ := HR3c.out.at_ hVq
                      rw [moved_at T U _ q hql] at y1
                      have hpl := PL.out _ (List.getElem_mem hql)
                      clear x0 x2 y0 y2 hVq
                      generalize U[q].place = pl at *
                      injection hA3e with hA3e; injection hA3e with hg3e ho3e; subst hg3e ho3e; rw [Nat.zero_add] at y1
                      have k0 : (0 : Int) ≤ (q : Int) := by omega
                      have k1 : (q : Int) < (U.length : Int) := by omega
                      have k2 : (T.length : Int) + (q : Int) < (vl : Int) := by have := HVl.out; omega
                      have k3 : (0 : Int) ≤ (T.length : Int) + (q : Int) := by omega
                      have k4 : ((T.length : Int) + (q : Int)).toNat = T.length + q := by omega
                      have m1 : IntKind.i64.wrap ((T.length : Int) + (q : Int)) = (T.length : Int) + (q : Int) := IntWalk.i64_in _ (by omega)
                      have m2 : IntKind.i64.wrap ((pl : Int) + (s.size : Int)) = (pl : Int) + (s.size : Int) := IntWalk.i64_in _ (by omega)
                      have m3 : IntKind.i64.wrap ((pl : Int) + (s.size : Int) + (G.size : Int)) = (pl : Int) + (s.size : Int) + (G.size : Int) := IntWalk.i64_in _ (by omega)
                      have m4 : (((pl + (s.size + G.size) : Nat) : Int) != (pl : Int) + (s.size : Int) + (G.size : Int)) = false := by simp; omega
                      have m5 : ((pl : Int) + ((s.size : Int) + (G.size : Int)) != (pl : Int) + (s.size : Int) + (G.size : Int)) = false := by simp; omega
                      go_wp2_with fail
                      go_quiet (fail)
                      clear m1 m2 m3 m4 m5 k4
                      go_wp2_with fail
                      go_roundw
                      case rel => exact ⟨q + 1, by omega, by go_num, hR2c.keep (fun _ _ => rfl), Lib.hid (HR3c.out.keep (fun _ _ => rfl)), Lib.hid (below_drewN Hb.out _)⟩
                      case measure => simp [intOf]; omega
                    · go_wp2_with fail
                      go_ret
                      exact ⟨rfl, Hb.out⟩
          · have HC := Lib.hid (show scan 0 0 (s ++ G ++ t).data.toList ≠ .ok [] by rw [cat_list]; exact blanks_err hE1)
            have hn1 := scan_error hE1
            have n1 : ((e1 : Int) != 0) = true := by simp; omega
            clear hE1
            go_wp2_with fail
            refine (scan_shape t _ hW3 (by omega)).mono ?_
            rintro e w4 ⟨A4, k4, c4, a4, e4, rfl, hb4⟩
            have hW4 := hW3.all hb4
            have H4 := Lib.hid (below_trans' (Nat.le_refl _) H3.out hb4)
            clear hb4 hW3 H3
            go_wp2_with fail
            refine (scan_any (s ++ G ++ t) _ hW4 hcz).mono ?_
            rintro e w5 ⟨hb5, hp5⟩
            have H5 := Lib.hid (below_trans' (Nat.le_refl _) H4.out hb5)
            clear hb5 hW4 H4
            rcases hp5 with ⟨V, A5, c5, hV, rfl, hR5⟩ | ⟨a5, e5, hE5, rfl⟩
            · have hVl : 0 < V.length := by
                rcases Nat.eq_zero_or_pos V.length with h | h
                · rw [List.length_eq_zero_iff.1 h] at hV; exact absurd hV HC.out
                · exact h
              have v1 : (0 : Int) < (V.length : Int) := by omega
              clear hV
              go_wp2_with fail
              go_ret
              exact ⟨rfl, H5.out⟩
            · have hn5 := scan_error hE5
              have n5 : ((e5 : Int) != 0) = true := by simp; omega
              clear hE5
              go_wp2_with fail
              go_ret
              exact ⟨rfl, H5.out⟩

set_option maxHeartbeats 400000 in
theorem blanks_heavy (s t : ByteArray) (b f : Int) (w : World) (hW : Wd w) (hl : s.size ≤ maxLen) (hl2 : t.size ≤ maxLen) (h : 1000 < s.size ∨ (s.size ≤ 1000 ∧ 1000 < t.size)) :
    Calls Tryd.prog 4 #[.string s, .string t, .int .u8 b, .int .u8 f] w fun e w' => e = .returned (.bool true) ∧ Below w.heap.size w w' := by
  simp only [maxLen] at hl hl2
  rcases h with h | ⟨h1, h2⟩
  · have h3 : decide ((1000 : Int) < (s.size : Int)) = true := by simp; omega
    go_enter Tryd.func4, Tryd.ntmps4
    go_wp2_with fail
    refine (awake_any _ hW).mono ?_
    rintro e w1 ⟨rfl, hb1⟩
    go_wp2_with fail
    go_ret
    exact ⟨rfl, hb1⟩
  · have h3 : decide ((1000 : Int) < (s.size : Int)) = false := by simp; omega
    have h4 : decide ((1000 : Int) < (t.size : Int)) = true := by simp; omega
    go_enter Tryd.func4, Tryd.ntmps4
    go_wp2_with fail
    refine (awake_any _ hW).mono ?_
    rintro e w1 ⟨rfl, hb1⟩
    go_wp2_with fail
    go_ret
    exact ⟨rfl, hb1⟩
theorem blanks_any (s t : ByteArray) (b f : Int) (w : World) (hW : Wd w) (hl : s.size ≤ maxLen) (hl2 : t.size ≤ maxLen) (hb : 0 ≤ b ∧ b ≤ 255) (hf : 0 ≤ f ∧ f ≤ 255) :
    Calls Tryd.prog 4 #[.string s, .string t, .int .u8 b, .int .u8 f] w fun e w' => e = .returned (.bool true) ∧ Below w.heap.size w w' := by
  by_cases h1 : s.size ≤ 1000
  · by_cases h2 : t.size ≤ 1000
    · exact blanks_main s t b f w hW h1 h2 hb.1 hb.2 hf.1 hf.2
    · exact blanks_heavy s t b f w hW hl hl2 (.inr ⟨h1, by omega⟩)
  · exact blanks_heavy s t b f w hW hl hl2 (.inl (by omega))
end Go.Proofs.YtadhncdcpdabkaaDoor
