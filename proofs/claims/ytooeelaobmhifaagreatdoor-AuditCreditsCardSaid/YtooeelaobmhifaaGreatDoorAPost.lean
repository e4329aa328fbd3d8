/- Ledger.Post, of entries that are in order. -/
import Derived.Test.YtooeelaobmhifaaGreatDoorAEnter
namespace Go.Proofs.YtooeelaobmhifaaGreatDoor
open Go.RowKit Go.Maps Go.Lib
set_option linter.unusedVariables false
set_option maxRecDepth 100000

/-- entries that a ledger takes -/
structure Fits (G : Nt → Option Ac) (es : List Ent) : Prop where
  one : 0 < es.length
  few : es.length ≤ 64
  fine : ∀ e ∈ es, e.Fine
  there : ∀ e ∈ es, ∃ a, G e.key = some a
  even : ∀ cu v, sumG es cu = some v → v = 0
  bears : ∀ x v, eachG es x = some v → ∃ a, G x = some a ∧ Bears a v

set_option maxHeartbeats 2000000 in
theorem post_ok (txt : ByteArray) (A : Option Addr) (c : Nat) (es : List Ent) (w : World) (base p b n : Nat) (G : Nt → Option Ac) (pv hv : Value) (L : List Pl) (hD : Led w base p b n G pv hv L) (hR : Re w w.heap.size A es) (hFits : Fits G es) (hn : n + 64 < 4000000) (hLn : L.length < 4096) (ht : txt.size ≤ 4096) :
    Calls Tryz.prog 34 #[.pointer (some ⟨p, 0, none⟩), .string txt, .slice A es.length c] w fun e w' => e = .returned (.tuple #[.int .i64 ((L.length : Int) + 1), .int .i64 0]) ∧
      ∃ pv' A' c' n', n' ≤ n + es.length ∧ Led w' base p b n' (bump G (eachG es)) pv' hv (L ++ [⟨⟨(L.length : Int) + 1, txt, es⟩, A', c'⟩]) ∧ Kp (own3 p b pv) w w' := by
  have HD := Lib.hid hD
  have HR := Lib.hid hR
  have HF := Lib.hid hFits
  have h0 := hFits.one
  have h64 := hFits.few
  have c1 := hD.lg.c1
  obtain ⟨Ap, cp, hpv⟩ := hD.form
  have hpv' := hpv
  subst hpv'
  clear hpv hD hR hFits
  have q1 : decide ((4096 : Int) < (txt.size : Int)) = false := by simp; omega
  have q2 : ((es.length : Int) == 0) = false := by simp; intro e; rw [e] at h0; exact absurd h0 (by decide)
  have q3 : decide ((64 : Int) < (es.length : Int)) = false := by simp; omega
  have q4 : decide ((4096 : Int) ≤ (L.length : Int)) = false := by simp; omega
  have q5 : decide ((es.length : Int) = 0) = false := by simp; intro e; rw [e] at h0; exact absurd h0 (by decide)
  have q6 : ¬ ((es.length : Int) = 0) := by omega
  have q7 : ¬ (es.length = 0) := by omega
  have q8 : ¬ (es = []) := by rintro rfl; exact absurd h0 (by decide)
  go_enter Tryz.func34, Tryz.ntmps34
  go_wp2_with fail
  refine (refused_ok A c es w p b n G _ hv HD.out.lg HR.out h64 HF.out.fine HF.out.there HF.out.even HF.out.bears).mono ?_
  rintro e w1 ⟨rfl, hb1⟩
  have HK1 := Lib.hid (Kp.of_below (fun _ => False) hb1)
  have HD1 := Lib.hid (HD.out.kp HK1.out (fun _ _ _ e => e))
  have HR1 := Lib.hid (HR.out.kp HK1.out (fun _ _ e => e))
  clear hb1 HD HR
  go_wp2_with fail
  refine (enter_ok txt A c es w1 base p b n G _ hv L HD1.out HR1.out h0 h64 HF.out.fine hn (by omega) HF.out.bears).mono ?_
  rintro e w2 ⟨rfl, pv', A', c', n', hn', hD2, hk2⟩
  have HD2 := Lib.hid hD2
  have HK2 := Lib.hid hk2
  clear hD2 hk2
  go_wp2
  go_ret2
  exact ⟨rfl, pv', A', c', n', hn', HD2.out, (HK1.out.mono (fun _ _ e => e.elim)).trans HK2.out⟩
end Go.Proofs.YtooeelaobmhifaaGreatDoor
