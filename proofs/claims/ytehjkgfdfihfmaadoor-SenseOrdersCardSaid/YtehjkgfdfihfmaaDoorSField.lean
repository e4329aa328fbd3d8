/- The fields of the papers' kinds: sense.Fields and supercargoref29.Fields. -/
import Derived.Test.YtehjkgfdfihfmaaDoorSBase
namespace Go.Proofs.YtehjkgfdfihfmaaDoor
open Go.RowKit Go.Maps Go.Lib
set_option linter.unusedVariables false
set_option maxRecDepth 100000

def fl0 : List ByteArray := [⟨#[115, 101, 108, 108, 101, 114]⟩, ⟨#[98, 117, 121, 101, 114]⟩, ⟨#[99, 117, 114, 114, 101, 110, 99, 121]⟩, ⟨#[115, 117, 109]⟩, ⟨#[102, 114, 111, 109]⟩, ⟨#[116, 111]⟩, ⟨#[98, 111, 120, 101, 115]⟩, ⟨#[116, 101, 114, 109]⟩]
def fl1 : List ByteArray := [⟨#[115, 101, 108, 108, 101, 114]⟩, ⟨#[102, 114, 111, 109]⟩, ⟨#[116, 111]⟩, ⟨#[98, 111, 120, 101, 115]⟩, ⟨#[109, 97, 114, 107, 115]⟩, ⟨#[99, 111, 110, 116, 101, 110, 116]⟩]
def fl2 : List ByteArray := [⟨#[99, 97, 114, 114, 105, 101, 114]⟩, ⟨#[115, 104, 105, 112, 112, 101, 114]⟩, ⟨#[102, 114, 111, 109]⟩, ⟨#[116, 111]⟩, ⟨#[98, 111, 120, 101, 115]⟩, ⟨#[109, 97, 114, 107, 115]⟩, ⟨#[105, 115, 115, 117, 101, 100]⟩, ⟨#[99, 108, 101, 97, 110]⟩, ⟨#[112, 97, 114, 101, 110, 116, 115]⟩]
def fl3 : List ByteArray := [⟨#[115, 101, 108, 108, 101, 114]⟩, ⟨#[102, 114, 111, 109]⟩, ⟨#[116, 111]⟩, ⟨#[99, 117, 114, 114, 101, 110, 99, 121]⟩, ⟨#[115, 117, 109]⟩]
def fl4 : List ByteArray := [⟨#[115, 101, 108, 108, 101, 114]⟩, ⟨#[99, 111, 117, 110, 116, 114, 121]⟩, ⟨#[98, 111, 120, 101, 115]⟩]
def fl5 : List ByteArray := [⟨#[100, 114, 97, 119, 101, 114]⟩, ⟨#[100, 114, 97, 119, 101, 101]⟩, ⟨#[112, 97, 121, 101, 101]⟩, ⟨#[99, 117, 114, 114, 101, 110, 99, 121]⟩, ⟨#[115, 117, 109]⟩]
def fieldsL (k : Int) : List ByteArray := if k = 0 then fl0 else if k = 1 then fl1 else if k = 2 then fl2 else if k = 3 then fl3 else if k = 4 then fl4 else if k = 5 then fl5 else []
theorem fieldsL_0 : fieldsL 0 = fl0 := by rfl
theorem fieldsL_1 : fieldsL 1 = fl1 := by rfl
theorem fieldsL_2 : fieldsL 2 = fl2 := by rfl
theorem fieldsL_3 : fieldsL 3 = fl3 := by rfl
theorem fieldsL_4 : fieldsL 4 = fl4 := by rfl
theorem fieldsL_5 : fieldsL 5 = fl5 := by rfl
theorem rs_new (W : World) (L : List ByteArray) (t : TypeId) : Rs (W.alloc (.cells (L.map Value.string).toArray t)) (W.heap.size + 1) (some ⟨W.heap.size, 0, none⟩) L := fun _ =>
  ⟨W.heap.size, 0, rfl, by omega, fun i x hx => by
    have h := (MapKept.heap_alloc W (.cells (L.map Value.string).toArray t)).1
    unfold World.cell?
    rw [h]
    simp [hx]⟩
def FieldsSaid (f : FuncId) : Prop := ∀ (k : Int) (w : World), Calls Tryd.prog f #[.int .i64 k] w fun e w' => ∃ A c, e = .returned (.slice A (fieldsL k).length c) ∧ Rs w' w'.heap.size A (fieldsL k) ∧ Below w.heap.size w w'
theorem fields_done {w : World} {k : Int} {L : List ByteArray} (n : Nat) (hn : L.length = n) (hk : fieldsL k = L) : ∃ A c, (Ending.returned (.slice (some ⟨w.heap.size, 0, none⟩) n n) : Ending) = .returned (.slice A (fieldsL k).length c) ∧ Rs (w.alloc (.cells (L.map Value.string).toArray 9)) (w.alloc (.cells (L.map Value.string).toArray 9)).heap.size A (fieldsL k) ∧ Below w.heap.size w (w.alloc (.cells (L.map Value.string).toArray 9)) :=
  ⟨_, n, by rw [hk, hn], by rw [hk]; simpa using rs_new w L 9, (Below.refl _ w).alloc (Nat.le_refl _) _⟩

set_option maxHeartbeats 1000000 in
theorem fields_any : FieldsSaid 13 := by
  intro k w
  by_cases h0 : k = 0
  · subst h0
    go_enter Tryd.func13, Tryd.ntmps13
    go_wp2
    go_ret
    exact fields_done 8 rfl fieldsL_0
  have b0 : (k == 0) = false := by rw [beq_eq_false_iff_ne]; exact h0
  by_cases h1 : k = 1
  · subst h1
    go_enter Tryd.func13, Tryd.ntmps13
    go_wp2
    go_ret
    exact fields_done 6 rfl fieldsL_1
  have b1 : (k == 1) = false := by rw [beq_eq_false_iff_ne]; exact h1
  by_cases h2 : k = 2
  · subst h2
    go_enter Tryd.func13, Tryd.ntmps13
    go_wp2
    go_ret
    exact fields_done 9 rfl fieldsL_2
  have b2 : (k == 2) = false := by rw [beq_eq_false_iff_ne]; exact h2
  by_cases h3 : k = 3
  · subst h3
    go_enter Tryd.func13, Tryd.ntmps13
    go_wp2
    go_ret
    exact fields_done 5 rfl fieldsL_3
  have b3 : (k == 3) = false := by rw [beq_eq_false_iff_ne]; exact h3
  by_cases h4 : k = 4
  · subst h4
    go_enter Tryd.func13, Tryd.ntmps13
    go_wp2
    go_ret
    exact fields_done 3 rfl fieldsL_4
  have b4 : (k == 4) = false := by rw [beq_eq_false_iff_ne]; exact h4
  by_cases h5 : k = 5
  · subst h5
    go_enter Tryd.func13, Tryd.ntmps13
    go_wp2
    go_ret
    exact fields_done 5 rfl fieldsL_5
  have b5 : (k == 5) = false := by rw [beq_eq_false_iff_ne]; exact h5
  have hk : fieldsL k = [] := by simp [fieldsL, h0, h1, h2, h3, h4, h5]
  go_enter Tryd.func13, Tryd.ntmps13
  go_wp2
  go_ret
  exact ⟨none, 0, by rw [hk]; rfl, by rw [hk]; intro h; simp at h, Below.refl _ _⟩
set_option maxHeartbeats 1000000 in
theorem refFields_any : FieldsSaid 14 := by
  intro k w
  by_cases h0 : k = 0
  · subst h0
    go_enter Tryd.func14, Tryd.ntmps14
    go_wp2
    go_ret
    exact fields_done 8 rfl fieldsL_0
  have b0 : (k == 0) = false := by rw [beq_eq_false_iff_ne]; exact h0
  by_cases h1 : k = 1
  · subst h1
    go_enter Tryd.func14, Tryd.ntmps14
    go_wp2
    go_ret
    exact fields_done 6 rfl fieldsL_1
  have b1 : (k == 1) = false := by rw [beq_eq_false_iff_ne]; exact h1
  by_cases h2 : k = 2
  · subst h2
    go_enter Tryd.func14, Tryd.ntmps14
    go_wp2
    go_ret
    exact fields_done 9 rfl fieldsL_2
  have b2 : (k == 2) = false := by rw [beq_eq_false_iff_ne]; exact h2
  by_cases h3 : k = 3
  · subst h3
    go_enter Tryd.func14, Tryd.ntmps14
    go_wp2
    go_ret
    exact fields_done 5 rfl fieldsL_3
  have b3 : (k == 3) = false := by rw [beq_eq_false_iff_ne]; exact h3
  by_cases h4 : k = 4
  · subst h4
    go_enter Tryd.func14, Tryd.ntmps14
    go_wp2
    go_ret
    exact fields_done 3 rfl fieldsL_4
  have b4 : (k == 4) = false := by rw [beq_eq_false_iff_ne]; exact h4
  by_cases h5 : k = 5
  · subst h5
    go_enter Tryd.func14, Tryd.ntmps14
    go_wp2
    go_ret
    exact fields_done 5 rfl fieldsL_5
  have b5 : (k == 5) = false := by rw [beq_eq_false_iff_ne]; exact h5
  have hk : fieldsL k = [] := by simp [fieldsL, h0, h1, h2, h3, h4, h5]
  go_enter Tryd.func14, Tryd.ntmps14
  go_wp2
  go_ret
  exact ⟨none, 0, by rw [hk]; rfl, by rw [hk]; intro h; simp at h, Below.refl _ _⟩
end Go.Proofs.YtehjkgfdfihfmaaDoor
