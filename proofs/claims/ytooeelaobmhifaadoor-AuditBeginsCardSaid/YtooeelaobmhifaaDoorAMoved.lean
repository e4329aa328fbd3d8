/- ref56.Moved: what was sent, or got, by posts. -/
import Derived.Test.YtooeelaobmhifaaDoorASums
namespace Go.Proofs.YtooeelaobmhifaaDoor
open Go.RowKit Go.Maps Go.Lib
set_option linter.unusedVariables false
set_option maxRecDepth 100000

set_option maxHeartbeats 4000000 in
theorem moved_any {base : Nat} (pl : Value) (L' : List Pl) (acc : ByteArray) (s : Int) (w : World) (h : Pw w base w.heap.size pl L') (hlen : L'.length ≤ 4096) (hs : s = 1 ∨ s = -1) (hF : ∀ x ∈ L', ∀ e ∈ x.pt.ents, e.Fine) :
    Calls Tryd.prog 19 #[pl, .string acc, .int .i64 s] w fun e w' => ∃ v', e = .returned v' ∧ w'.ownsRow w.heap.size 53 2 v' (moves acc s (L'.map Pl.pt)).length (cellsM (moves acc s (L'.map Pl.pt))) ∧ Below w.heap.size w w' := by
  obtain ⟨i0, hi0, hy0, hy1, hy2⟩ := info_parts money_info
  have HP := Lib.hid h
  have HF' := Lib.hid hF
  obtain ⟨Ap, cp, rfl⟩ := h.form
  clear h hF
  go_enter Tryd.func19, Tryd.ntmps19
  go_wp2_with fail
  have HS0 := Lib.hid (show Su w (w.alloc (.cells #[] 53)) (.slice (some ⟨w.heap.size, 0, none⟩) 0 0) [] from ⟨World.ownsRow_made w #[] 0 (Nat.le_refl _) (Nat.zero_le _) rfl, (Below.refl _ _).alloc (Nat.le_refl _) _⟩)
  go_loopw [7, 8] (fun v i wr => ∃ k : Nat, k ≤ L'.length ∧ i = .int .i64 k ∧ Hid (Su w wr v (moves acc s ((L'.map Pl.pt).take k)))) (fun _ i _ => L'.length - (intOf i).toNat)
  case atStart => exact ⟨0, Nat.zero_le _, rfl, HS0⟩
  case round =>
    obtain ⟨k, hk, rfl, HS⟩ := hrel
    by_cases hlt : k < L'.length
    · obtain ⟨g, cap, he, hg, c0, c1, c2⟩ := (HP.out.below HS.out.bel).at_ hlt
      injection he with e1 _ e2
      subst e1 e2
      obtain ⟨⟨⟨num, text, ents⟩, A, c⟩, hx⟩ : ∃ x : Pl, L'[k] = x := ⟨_, rfl⟩
      rw [hx] at c0 c1 c2
      simp only at c0 c1 c2
      have hxm : (⟨⟨num, text, ents⟩, A, c⟩ : Pl) ∈ L' := hx ▸ List.getElem_mem hlt
      obtain ⟨hR, h0, h64⟩ := HP.out.ents _ hxm
      have HFx := Lib.hid (HF'.out _ hxm)
      have HR := Lib.hid hR
      simp only at h0 h64
      have Hst := Lib.hid (moves_step acc s (L'.map Pl.pt) k (by simpa using hlt))
      have hpk : (L'.map Pl.pt)[k]'(by simpa using hlt) = ⟨num, text, ents⟩ := by simp [hx]
      rw [hpk] at Hst
      have Hle := Lib.hid (show (moves acc s ((L'.map Pl.pt).take k)).length ≤ 262144 from by
        have := moves_le acc s ((L'.map Pl.pt).take k) (by
          intro q hq
          obtain ⟨y, hy, rfl⟩ := List.mem_map.1 (List.mem_of_mem_take hq)
          exact (HP.out.ents y hy).2.2)
        simp only [List.length_take, List.length_map] at this
        omega)
      have Hx := Lib.hid hx
      clear hR hx hxm hpk c0 c1 c2
      clear HS0
      generalize moves acc s ((L'.map Pl.pt).take k) = T at *
      go_wp2_with fail
      go_loopw [7, 9] (fun v i wr => ∃ j : Nat, j ≤ ents.length ∧ i = .int .i64 j ∧ Hid (Su w wr v (T ++ movesE acc s (ents.take j)))) (fun _ i _ => ents.length - (intOf i).toNat)
      case atStart => exact ⟨0, Nat.zero_le _, rfl, Lib.hid (by simpa [movesE] using HS.out)⟩
      case round =>
        clear HS
        obtain ⟨j, hj, rfl, HS⟩ := hrel
        obtain ⟨g', cap', he', hg', c0, c1, c2⟩ := (HP.out.below HS.out.bel).at_ hlt
        injection he' with e1' _ e2'
        injection e1' with e1'
        injection e1' with e1'
        subst e1' e2'
        rw [Hx.out] at c0 c1 c2
        simp only at c0 c1 c2
        by_cases hjl : j < ents.length
        · obtain ⟨g2, o2, rfl, hg2, d0, d1, d2⟩ := (HR.out.below HS.out.bel).at_ hjl
          have hfe := HFx.out ents[j] (List.getElem_mem hjl)
          have Hstep := Lib.hid (movesE_step acc s ents j hjl)
          have Hle2 := Lib.hid (movesE_le acc s (ents.take j))
          obtain ⟨⟨a, cu, m⟩, he⟩ : ∃ e : Ent, ents[j] = e := ⟨_, rfl⟩
          rw [he] at d0 d1 d2 Hstep hfe
          simp only at d0 d1 d2
          have l1 := hfe.lo
          have l2 := hfe.hi
          simp only at l1 l2
          have q1 : IntKind.i64.wrap (m * s) = s * m := by rw [Int.mul_comm m s]; rcases hs with rfl | rfl <;> exact IntWalk.i64_in _ (by omega)
          have Hs2 : Hid (T ++ movesE acc s (ents.take (j + 1)) = (T ++ movesE acc s (ents.take j)) ++ if counts acc s ⟨a, cu, m⟩ then [⟨cu, s * m⟩] else []) := Lib.hid (by rw [Hstep.out, List.append_assoc])
          have hT2 : (T ++ movesE acc s (ents.take j)).length ≤ 262208 := by have := Hle.out; have := Hle2.out; simp only [List.length_append, List.length_take] at *; omega
          have HSV := Lib.hid (HS.out.alloc (.cells #[.string a, .string cu, .int .i64 m] 47))
          clear HS he hfe Hstep Hle2
          generalize T ++ movesE acc s (ents.take j) = T2 at *
          by_cases hca : (a.toList == acc.toList) = true
          · by_cases hcm : 0 < s * m
            · have hcc : counts acc s ⟨a, cu, m⟩ = true := by simp [counts, hca, hcm]
              rw [hcc] at Hs2
              have q2 : decide (0 < s * m) = true := by simpa using hcm
              have HS2 := Lib.hid (HSV.out.alloc (.cells #[.string cu, .int .i64 (s * m)] 53))
              have hrow := HS2.out.row
              have hsz := HSV.out.bel.size
              rw [show (wr.alloc (.cells #[.string a, .string cu, .int .i64 m] 47)).heap.size = wr.heap.size + 1 from by simp] at hsz
              go_wp2_with (first
                | (at_builtin; refine wpList_append_own _ rfl _ _ 48 rfl w.heap.size 53 i0 _ 2 24 Tryd.underlying48 hi0 hy0 hy1 hy2 rfl (by decide) _ _ _ rfl hrow ⟨wr.heap.size + 1, 0, none⟩ 1 1 [.string cu, .int .i64 (s * m)] rfl ?qc1 ?qc2 ?qc3 ?qc4 ?qc5 ?qc6 ?_)
                | go_in)
              case qc3 => exact ⟨rfl, rfl⟩
              case qc4 => unfold maxLen; omega
              case qc5 => omega
              case qc6 => omega
              intro v' w2 hown hgr _
              have HS3 := Lib.hid (HS2.out.step (m := ⟨cu, s * m⟩) hown hgr)
              clear hown hgr hrow HS2 HSV
              go_wp2_with fail
              go_roundw
              case rel => exact ⟨j + 1, by omega, by go_num, Lib.hid (by rw [Hs2.out]; exact HS3.out)⟩
              case measure => simp [intOf]; omega
            · have hcc : counts acc s ⟨a, cu, m⟩ = false := by simp [counts]; intro _; omega
              rw [hcc] at Hs2
              have q2 : decide (0 < s * m) = false := by simpa using hcm
              go_wp2_with fail
              go_roundw
              case rel => exact ⟨j + 1, by omega, by go_num, Lib.hid (by rw [Hs2.out]; simpa using HSV.out)⟩
              case measure => simp [intOf]; omega
          · have hca' : (a.toList == acc.toList) = false := by simpa using hca
            have hcc : counts acc s ⟨a, cu, m⟩ = false := by simp [counts, hca']
            rw [hcc] at Hs2
            go_wp2_with fail
            go_roundw
            case rel => exact ⟨j + 1, by omega, by go_num, Lib.hid (by rw [Hs2.out]; simpa using HSV.out)⟩
            case measure => simp [intOf]; omega
        · have hje : j = ents.length := by omega
          subst hje
          rw [List.take_length, ← Hst.out] at HS
          go_wp2_with fail
          go_roundw
          case rel => exact ⟨k + 1, by omega, by go_num, HS⟩
          case measure => simp [intOf]; omega
    · have hke : k = L'.length := by omega
      subst hke
      have HS' := HS
      rw [List.take_of_length_le (by simp)] at HS'
      clear HS
      go_wp2
      go_ret
      exact ⟨_, rfl, HS'.out.row, HS'.out.bel⟩
end Go.Proofs.YtooeelaobmhifaaDoor
