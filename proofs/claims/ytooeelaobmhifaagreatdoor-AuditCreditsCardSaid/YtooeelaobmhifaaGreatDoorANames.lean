/- Names and currencies that the laws use; two entries in memory; blocks that are none of a ledger's. -/
import Derived.Test.YtooeelaobmhifaaGreatDoorATwo
namespace Go.Proofs.YtooeelaobmhifaaGreatDoor
open Go.RowKit Go.Maps Go.Lib
set_option linter.unusedVariables false
set_option maxRecDepth 100000

def eurT : ByteArray := ⟨#[69, 85, 82]⟩
def usdT : ByteArray := ⟨#[85, 83, 68]⟩
def xT : ByteArray := ⟨#[120]⟩
theorem goodName_of (l : List UInt8) (h1 : 1 ≤ l.length) (h2 : l.length ≤ 32) (h : l.all (fun c => decide (goodC c)) = true) : GoodName ⟨l.toArray⟩ := by
  refine ⟨h1, h2, fun k hk => ?_⟩
  have hk' : k < l.length := hk
  have := List.all_eq_true.1 h l[k] (List.getElem_mem hk')
  exact of_decide_eq_true this
theorem goodCur_of (l : List UInt8) (h1 : l.length = 3) (h : l.all (fun c => decide (65 ≤ c.toNat ∧ c.toNat ≤ 90)) = true) : GoodCur ⟨l.toArray⟩ := by
  refine ⟨h1, fun k hk => ?_⟩
  have hk' : k < l.length := hk
  have := List.all_eq_true.1 h l[k] (List.getElem_mem hk')
  exact of_decide_eq_true this
theorem eur_good : GoodCur eurT := goodCur_of [69, 85, 82] rfl (by decide)
theorem usd_good : GoodCur usdT := goodCur_of [85, 83, 68] rfl (by decide)
theorem x_good : GoodName xT := goodName_of [120] (by decide) (by decide) (by decide)
theorem re_two {V : World} {a1 a2 c : ByteArray} {n m : Int} : Re (V.alloc (.cells #[.string a1, .string c, .int .i64 n, .string a2, .string c, .int .i64 m] 61)) (V.alloc (.cells #[.string a1, .string c, .int .i64 n, .string a2, .string c, .int .i64 m] 61)).heap.size (some ⟨V.heap.size, 0, none⟩) (two a1 a2 c n m) := fun _ => by
  refine ⟨V.heap.size, 0, rfl, by simp, fun i e he => ?_⟩
  rcases i with _ | _ | i
  · simp [two] at he; subst he; simp
  · simp [two] at he; subst he; simp
  · simp [two] at he

theorem Led.not_own {w : World} {base p b n : Nat} {G : Nt → Option Ac} {pv hv : Value} {L : List Pl} (h : Led w base p b n G pv hv L) {k : Nat} (hk : k < base ∨ w.heap.size ≤ k) : ¬ own3 p b pv k := by
  intro ho
  have hp := h.lg.plt
  have hb := h.lg.blt
  have := h.own_base k ho
  rcases ho with rfl | rfl | ho
  · omega
  · omega
  · have := (h.row.lt k ho.symm).2; omega
end Go.Proofs.YtooeelaobmhifaaGreatDoor
