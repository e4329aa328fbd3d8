/- A ledger with its posts and its holds, as the law's acts leave it. -/
import Derived.Test.YtooeelaobmhifaaGreatDoorCLessen
import Derived.Test.YtooeelaobmhifaaGreatDoorANames
namespace Go.Proofs.YtooeelaobmhifaaGreatDoor
open Go.RowKit Go.Maps Go.Lib
set_option linter.unusedVariables false
set_option maxRecDepth 100000

structure Cr (w : World) (base p b h n m : Nat) (G : Nt → Option Ac) (pv : Value) (L : List Pl) (F : ByteArray → Option Hd) : Prop where
  led : Led w base p b n G pv (.map (some h)) L
  hs : Mp curC hdE w h m F
  ne : b ≠ h
  hb : base ≤ h
section
variable {w w' : World} {base p b h n m n' m' : Nat} {G G' : Nt → Option Ac} {pv pv' : Value} {L L' : List Pl} {F F' : ByteArray → Option Hd}
theorem Cr.lh (x : Cr w base p b h n m G pv L F) : Lh w p b h n m G pv F := ⟨x.led.lg, x.hs, x.ne⟩
theorem Cr.below (x : Cr w base p b h n m G pv L F) (hb : Below w.heap.size w w') : Cr w' base p b h n m G pv L F :=
  ⟨x.led.kp (Kp.of_below (fun _ => False) hb) (fun _ _ _ e => e), x.hs.below hb x.hs.lt, x.ne, x.hb⟩
theorem Cr.row_h (x : Cr w base p b h n m G pv L F) : pv.ownBlock ≠ some h := by
  obtain ⟨es, cl, hm⟩ := x.hs.blk
  rcases x.led.row.2 with ⟨h0, _⟩ | ⟨g, cap, cur, he, _, hb, _⟩
  · rw [h0]; simp [Value.ownBlock]
  · rw [he]
    intro e
    simp [Value.ownBlock] at e
    subst e
    rw [hm] at hb
    simp at hb
theorem Cr.ents_h (x : Cr w base p b h n m G pv L F) {y : Pl} (hy : y ∈ L) {ad : Addr} (ha : y.A = some ad) : ad.block ≠ h := by
  obtain ⟨es, cl, hm⟩ := x.hs.blk
  have hR := (x.led.ents y hy).1
  have h0 := (x.led.ents y hy).2.1
  obtain ⟨g, off, e, _, _⟩ := hR h0
  rw [e] at ha
  injection ha with ha
  subst ha
  rw [e] at hR
  exact hR.ne_map h0 hm
/-- the two maps have turned -/
theorem Cr.turn (x : Cr w base p b h n m G pv L F) (y : Lh w' p b h n' m' G' pv F') (hk : Kp (fun k => k = b ∨ k = h) w w') : Cr w' base p b h n' m' G' pv L F' := by
  refine ⟨⟨y.lg, ownsRow_kp x.led.row hk ?_, fun z hz => ⟨(x.led.ents z hz).1.kp hk ?_, (x.led.ents z hz).2⟩, x.led.out, x.led.pb, x.led.bb⟩, y.hs, x.ne, x.hb⟩
  · rintro k hk2 (e | e)
    · exact x.led.row_b (by rw [← hk2, e])
    · exact x.row_h (by rw [← hk2, e])
  · rintro ad ha (e | e)
    · exact (x.led.out z hz ad ha).2.1 e
    · exact x.ents_h hz ha e
/-- a post has been laid -/
theorem Cr.post (x : Cr w base p b h n m G pv L F) (hk : Kp (own3 p b pv) w w') (y : Led w' base p b n' G' pv' (.map (some h)) L') : Cr w' base p b h n' m G' pv' L' F := by
  refine ⟨y, x.hs.of_block (hk.block h x.hs.lt ?_), x.ne, x.hb⟩
  rintro (e | e | e)
  · exact x.lh.ph e.symm
  · exact x.ne e.symm
  · exact x.row_h e.symm
theorem Cr.kp_base (x : Cr w base p b h n m G pv L F) {S : Nat → Prop} (hk : Kp S w w') (hS : ∀ k, S k → base ≤ k) : Below base w w' := hk.below (by have := x.led.pb; have := x.led.lg.plt; omega) hS
end
def aaT : ByteArray := ⟨#[97]⟩
def bbT : ByteArray := ⟨#[98]⟩
theorem aa_bb : aaT ≠ bbT := fun e => by injection e with e; revert e; decide
/-- the holds, out of their sums -/
def holdsF (f : ByteArray → Option Int) : ByteArray → Option Hd := fun i => (f i).map fun a => ⟨i, aaT, eurT, a⟩
theorem holdsF_put (f : ByteArray → Option Int) (i : ByteArray) (a : Int) : putG (holdsF f) i ⟨i, aaT, eurT, a⟩ = holdsF (putG f i a) := by
  funext y
  by_cases e : y = i
  · subst e; rw [putG_same]; simp [holdsF, putG_same]
  · rw [putG_other _ _ e]; simp [holdsF, putG_other _ _ e]
theorem holdsF_del (f : ByteArray → Option Int) (i : ByteArray) : delG (holdsF f) i = holdsF (delG f i) := by
  funext y
  unfold delG holdsF
  by_cases e : y = i <;> simp [e]
/-- the law's ledger: f: what is held, by id; txt: the posts' texts; k: how many acts there were -/
structure Cs (w : World) (base p : Nat) (f : ByteArray → Option Int) (txt : List ByteArray) (k : Nat) : Prop where
  cr : ∃ b h n m G pv L, Cr w base p b h n m G pv L (holdsF f) ∧ L.map (fun x => x.pt.text) = txt ∧ n ≤ 10 + 3 * k ∧ m ≤ 10 + k ∧
    (∃ T H : Int, G (aaT, eurT) = some ⟨-1099511627776, T, H⟩ ∧ -(65535 * (k : Int)) ≤ T ∧ T ≤ 65535 * (k : Int) ∧ -(65535 * (k : Int)) ≤ H ∧ H ≤ 65535 * (k : Int)) ∧
    (∃ T : Int, G (bbT, eurT) = some ⟨0, T, 0⟩ ∧ 0 ≤ T ∧ T ≤ 65535 * (k : Int))
  amt : ∀ i a, f i = some a → 1 ≤ a ∧ a ≤ 65535
  len : txt.length ≤ k
end Go.Proofs.YtooeelaobmhifaaGreatDoor
