/-
  'supercargo/supercargolaw06.SealApart' returns true for all texts and numbers, and its arguments read afterwards as they read before. No condition.
-/
import Derived.Test.YtlbenmndmoeioaaApartB
import Derived.ProofKit
import Derived.OpenShut
import Derived.ShutString
import Derived.ChangeOld
namespace Go.Proofs.Ytlbenmndmoeioaa
open Go.ChangeShapes Go.WideShapes Go.ChangeAt Go.RowKit
open Go.ChangeMaps (open_string shut_string)

theorem ownA : ownKnob Try.prog.godebug = none := by kernel_rfl

theorem sealApart_any (a t o v : ByteArray) (i : Int) (w : World) (ha : a.size ≤ maxLen) (ht : t.size ≤ maxLen) (ho : o.size ≤ maxLen) (hv : v.size ≤ maxLen) :
    Calls Try.prog 6 #[.string a, .string t, .string o, .string v, .int .i64 i] w fun e w' => e = .returned (.bool true) ∧ Below w.heap.size w w' := by
  by_cases h : 100 < a.size ∨ 100 < o.size ∨ 5000 < t.size ∨ 5000 < v.size ∨ i < 0 ∨ 15 < i
  · exact apart_heavy a t o v i w ha ht ho hv h
  · simp only [not_or, Nat.not_lt, Int.not_lt] at h
    obtain ⟨h1, h2, h3, h4, h5, h6⟩ := h
    cases hok : okN (a, t)
    · exact apart_no a t o v i w h1 h3 h2 h4 h5 h6 hok
    · simp only [okN, Bool.and_eq_true, decide_eq_true_eq] at hok
      obtain ⟨k, rfl⟩ := Int.eq_ofNat_of_zero_le h5
      by_cases hc : ((signB a t).data.toList.getD k 0).toNat = 48
      · exact apart_yes a t o v k w h1 hok.2 h2 h4 (by omega) hok.1 49 (.inl ⟨hc, rfl⟩) _ rfl _ rfl
      · exact apart_yes a t o v k w h1 hok.2 h2 h4 (by omega) hok.1 48 (.inr ⟨hc, rfl⟩) _ rfl _ rfl

set_option maxRecDepth 100000 in
theorem sealApart_lifted (os : Os) (started : os.Started) (H : Type) (enc : TypeId × Value → H) :
    ReturnsInHanded {} Try.checked os 6 .any (Rows.sealApartSpec.pre6 enc Try.prog Try.f6 Rows.sealApartRow.domain false) (Rows.sealApartSpec.post enc Try.prog Try.f6 false true false false) := by
  refine returnsInHanded_of_change (C := Try.checked) ownA started (by kernel_rfl) Try.func6
    (ChangeSpec.witness6 (enc := enc) (C := Try.checked) false ⟨#[], #[.string ByteArray.empty, .string ByteArray.empty, .string ByteArray.empty, .string ByteArray.empty, .int .i64 0], []⟩ 8 (by kernel_rfl) (by kernel_rfl) (by kernel_rfl) (by kernel_rfl)) ?_
  intro W base args ds gs before hval0 hW _ _
  have hval : ∀ (j : Nat) t v, Try.f6.params[j]? = some t → args[j]? = some v → Value.okWide Try.prog W .any base t v := hval0
  have hW' := hW
  obtain ⟨p, q, hA0, hV, rfl, hfz, hnd⟩ := hW
  have hA : DataW.TrodAll enc Try.prog W 0 (fun _ => true) true Try.f6.params.toList args.toList ds p := hA0
  rw [Try.params6] at hA hval
  obtain ⟨v0, vs0, d0, ds0, p0, q0, hargs, rfl, rfl, h0, r0⟩ := trodAll_cons hA
  obtain ⟨v1, vs1, d1, ds1, p1, q1, rfl, rfl, rfl, h1, r1⟩ := trodAll_cons r0
  obtain ⟨v2, vs2, d2, ds2, p2, q2, rfl, rfl, rfl, h2, r2⟩ := trodAll_cons r1
  obtain ⟨v3, vs3, d3, ds3, p3, q3, rfl, rfl, rfl, h3, r3⟩ := trodAll_cons r2
  obtain ⟨v4, vs4, d4, ds4, p4, q4, rfl, rfl, rfl, h4, r4⟩ := trodAll_cons r3
  obtain ⟨rfl, rfl, rfl⟩ := trodAll_nil r4
  obtain rfl : args = #[v0, v1, v2, v3, v4] := by cases args; simp_all
  obtain ⟨rfl, rfl⟩ := trodVars_none hV
  obtain ⟨a0, rfl, rfl, rfl, w0⟩ := open_string Try.underlying9 (hval 0 9 v0 rfl rfl) h0
  obtain ⟨a1, rfl, rfl, rfl, w1⟩ := open_string Try.underlying9 (hval 1 9 v1 rfl rfl) h1
  obtain ⟨a2, rfl, rfl, rfl, w2⟩ := open_string Try.underlying9 (hval 2 9 v2 rfl rfl) h2
  obtain ⟨a3, rfl, rfl, rfl, w3⟩ := open_string Try.underlying9 (hval 3 9 v3 rfl rfl) h3
  obtain ⟨a4, rfl, rfl, rfl, w4⟩ := open_int Try.underlying3 (hval 4 3 v4 rfl rfl) h4
  clear hA0 hval0
  refine (sealApart_any a0 a1 a2 a3 a4 W w0 w1 w2 w3).mono fun e W' ⟨he, bel⟩ => ?_
  subst he
  exact ⟨_, rfl, _, _, _, [], _, [], hW', trodAll_mk1 (shut_bool Try.underlying4 _),
    (trodAll_cons_mk (shut_string Try.underlying9 w0) (trodAll_cons_mk (shut_string Try.underlying9 w1) (trodAll_cons_mk (shut_string Try.underlying9 w2) (trodAll_cons_mk (shut_string Try.underlying9 w3) (trodAll_cons_mk (shut_int Try.underlying3 w4) trodAll_mk0))))),
    rfl, bel.frame _, fun h => by cases h⟩

theorem sealApart_holds : Rows.SealApartSaid :=
  OpenClaim.holds_of_wide 6 Try.f6 rfl rfl rfl rfl rfl rfl rfl ⟨rfl, rfl, rfl, rfl, rfl⟩ rfl rfl rfl rfl rfl (by kernel_rfl) Try.func6 (by kernel_rfl)
    (of_decide_eq_true (by kernel_rfl)) (by unfold Func.isWrapper; first | (rw [if_pos (by decide +kernel)]; kernel_rfl) | (rw [if_neg (by decide +kernel)]; exact ⟨rfl, rfl⟩))
    (fun os started H enc _ => sealApart_lifted os started H enc)
#print axioms sealApart_holds
end Go.Proofs.Ytlbenmndmoeioaa
