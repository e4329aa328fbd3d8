/- Posts: their rows in memory. -/
import Derived.Test.YtooeelaobmhifaaGreatDoorAClone
namespace Go.Proofs.YtooeelaobmhifaaGreatDoor
open Go.RowKit Go.Maps Go.Lib
set_option linter.unusedVariables false
set_option maxRecDepth 100000

structure Pt where
  num : Int
  text : ByteArray
  ents : List Ent
/-- a post, and where its entries lie -/
structure Pl where
  pt : Pt
  A : Option Addr
  c : Nat
def Pl.cells (x : Pl) : List Value := [.int .i64 x.pt.num, .string x.pt.text, .slice x.A x.pt.ents.length x.c]
def cellsP (L : List Pl) : List Value := L.flatMap Pl.cells
theorem cellsP_len (T : List Pl) : (cellsP T).length = T.length * 3 := by
  induction T with
  | nil => rfl
  | cons e T ih => simp [cellsP, Pl.cells] at ih ⊢; omega
theorem cellsP_snoc (T : List Pl) (t : Pl) : cellsP (T ++ [t]) = cellsP T ++ t.cells := by simp [cellsP]
theorem cellsP_at : ∀ (T : List Pl) (i : Nat) (t : Pl), T[i]? = some t → (cellsP T)[i * 3]? = some (.int .i64 t.pt.num) ∧ (cellsP T)[i * 3 + 1]? = some (.string t.pt.text) ∧ (cellsP T)[i * 3 + 2]? = some (.slice t.A t.pt.ents.length t.c)
  | [], i, t, h => by simp at h
  | u :: T, 0, t, h => by simp at h; subst h; exact ⟨rfl, rfl, rfl⟩
  | u :: T, i + 1, t, h => by
    have := cellsP_at T i t (by simpa using h)
    have e : cellsP (u :: T) = .int .i64 u.pt.num :: .string u.pt.text :: .slice u.A u.pt.ents.length u.c :: cellsP T := rfl
    rw [e]
    have e0 : (i + 1) * 3 = i * 3 + 1 + 1 + 1 := by omega
    have e1 : (i + 1) * 3 + 1 = i * 3 + 1 + 1 + 1 + 1 := by omega
    have e2 : (i + 1) * 3 + 2 = i * 3 + 2 + 1 + 1 + 1 := by omega
    rw [e1, e2, e0]
    exact this
theorem cellsP_one (T : List Pl) : ∀ u ∈ cellsP T, u.oneCell' = true := by
  intro u hu
  obtain ⟨e, _, h⟩ := List.mem_flatMap.1 hu
  simp [Pl.cells] at h
  rcases h with rfl | rfl | rfl <;> rfl
theorem post_info : (Tryz.prog.info? 67).map (fun i => (i.zero, i.size, i.bytes)) = some (some (.agg #[.int .i64 0, .string ⟨#[]⟩, .slice none 0 0]), 3, 48) := by kernel_rfl

/-- the slice v's elements are the posts L, whose entries lie below B; the row is among the blocks from base on -/
structure Pw (w : World) (base B : Nat) (v : Value) (L : List Pl) : Prop where
  row : w.ownsRow base 67 3 v L.length (cellsP L)
  ents : ∀ x ∈ L, Re w B x.A x.pt.ents ∧ 0 < x.pt.ents.length ∧ x.pt.ents.length ≤ 64
section
variable {w w' : World} {base B : Nat} {v : Value} {L : List Pl}
theorem Pw.nil (w : World) (base B : Nat) : Pw w base B (.slice none 0 0) [] := ⟨World.ownsRow_nil _ _ _ _, by simp⟩
theorem Pw.form (h : Pw w base B v L) : ∃ A c, v = .slice A L.length c := by
  rcases h.row.2 with ⟨h0, hn⟩ | ⟨g, cap, cur, he, _⟩
  · exact ⟨none, 0, by rw [h0, hn]⟩
  · exact ⟨_, _, he⟩
theorem Pw.more (h : Pw w base B v L) {B' : Nat} (hB : B ≤ B') : Pw w base B' v L := ⟨h.row, fun x hx => ⟨(h.ents x hx).1.more hB, (h.ents x hx).2⟩⟩
end
end Go.Proofs.YtooeelaobmhifaaGreatDoor
