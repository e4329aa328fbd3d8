/- ref56.Put: a text at its place, once. -/
import Derived.Test.YtdinloecgaapaaaGreatDoorMASame
import Derived.Test.YtdinloecgaapaaaGreatDoorMRShelf
import Derived.Maps.AppendAt
import Derived.Deep.RegionHeld3
namespace Go.Proofs.YtdinloecgaapaaaGreatDoor
open Go.RowKit Go.Maps Go.Lib
set_option linter.unusedVariables false
set_option maxRecDepth 100000

theorem step_append_at {P : Program} (w : World) {ops : Array Oper} {o : Oper} {a : Act} {K : Act → World → Prop} {Q : Exit → Act → World → Prop} {E : Prop} (hgd : o.guard = none) (s x : Operand) (t : TypeId)
    (ho : o.op = .call { callee := .builtin .append, args := #[s, x], argTypes := #[t, t] })
    (base : Nat) (e : TypeId) (i : TypeInfo) (z : Value) (size bytes : Nat) (ht : P.underlying t = some (.slice e)) (hi : P.info? e = some i) (hz : i.zero = some z)
    (hsize : i.size = size) (hby : i.bytes = bytes) (hzs : z.cells.size = size) (hsz : 0 < size)
    (g0 n c0 : Nat) (xs : List Value) (hs : a.eval s = .slice (some ⟨g0, 0, none⟩) n c0) (hown : w.ownsRow base e size (.slice (some ⟨g0, 0, none⟩) n c0) n xs)
    (ad : Addr) (m c : Nat) (news : List Value) (hx : a.eval x = .slice (some ad) m c) (hl : news.length = m * size) (hnews : ∀ j u, news[j]? = some u → w.cell? (ad.add j) = some u) (h1 : ∀ u ∈ news, u.oneCell' = true)
    (h63 : n + m ≤ maxLen) (hbytes : (n + m) * bytes ≤ 140737488355328) (hbase : base ≤ w.heap.size)
    (h : ∀ g cap w', w'.ownsRow base e size (.slice (some ⟨g, 0, none⟩) (n + m) cap) (n + m) (xs ++ news) → w.grownBy w' (some g0) → (g = g0 ∨ g = w.heap.size) → K (a.put o.dst (.slice (some ⟨g, 0, none⟩) (n + m) cap)) w') :
    if Region.wanted o (yielded ops a.tmps) = true then Oper.wp P o a w K Q else E := by
  have hw : Region.wanted o (yielded ops a.tmps) = true := by simp [Region.wanted, hgd]
  rw [if_pos hw]
  obtain ⟨v', w', hrun, h2, h3, h4, h5⟩ := run_append_own_at (P := P) w base t o.type e i z size bytes ht hi hz hsize hby hzs hsz _ n xs hown ad m c news hl hnews h1 h63 hbytes hbase
  unfold Oper.wp execOp
  simp only [ho, resolve, invoke, builtin, Sem.run_bind, Sem.run_pure, Result.andThen_ok, List.map_toArray, List.map_cons, List.map_nil, hs, hx, hrun]
  rcases h2.2 with ⟨rfl, hn⟩ | ⟨g, cap, cur, rfl, h6⟩
  · have := (h4.1 rfl).1
    simp at this
  · refine h g cap w' h2 h3 ?_
    simpa [Value.ownBlock] using h5

/-- the slice at block g is the texts L, a row of the function's own -/
abbrev Rw (w : World) (base g cap : Nat) (L : List ByteArray) : Prop := w.ownsRow base 9 1 (.slice (some ⟨g, 0, none⟩) L.length cap) L.length (L.map Value.string)

def ltS (x s : ByteArray) : Bool := Op.bytesLess x.toList s.toList
/-- a text, at its place -/
def putL (s : ByteArray) : List ByteArray → List ByteArray
  | [] => [s]
  | x :: l => if ltS x s then x :: putL s l else s :: x :: l
theorem putL_step (s : ByteArray) (L : List ByteArray) (k : Nat) (h : k < L.length) (e : ltS L[k] s = true) : L.take k ++ putL s (L.drop k) = L.take (k + 1) ++ putL s (L.drop (k + 1)) := by
  rw [List.drop_eq_getElem_cons h, putL, if_pos e, List.take_succ_eq_append_getElem h]
  simp only [List.append_assoc, List.cons_append, List.nil_append]
theorem putL_stop (s : ByteArray) (L : List ByteArray) (k : Nat) (h : k < L.length) (e : ltS L[k] s = false) : putL s (L.drop k) = s :: L.drop k := by
  rw [List.drop_eq_getElem_cons h, putL, e]
  rfl
theorem putL_end (s : ByteArray) (L : List ByteArray) (k : Nat) (h : L.length ≤ k) : putL s (L.drop k) = s :: L.drop k := by
  rw [List.drop_of_length_le h]
  rfl
theorem Rw.below {w w' : World} {base g cap : Nat} {L : List ByteArray} (h : Rw w base g cap L) (hb : Below w.heap.size w w') : Rw w' base g cap L := ownsRow_kp h (Kp.of_below (fun _ => False) hb) (fun _ _ e => e)
theorem Rw.news {w X : World} {base g cap : Nat} {L : List ByteArray} (h : Rw w base g cap L) (hb : Below w.heap.size w X) (a : Nat) (M : List ByteArray) (hM : ∀ (j : Nat) x, M[j]? = some x → L[a + j]? = some x) : ∀ (j : Nat) u, (M.map Value.string)[j]? = some u → X.cell? ((⟨g, a, none⟩ : Addr).add j) = some u := by
  intro j u hu
  rw [List.getElem?_map] at hu
  obtain ⟨x, hx, rfl⟩ := Option.map_eq_some_iff.1 hu
  have hL := hM j x hx
  have hlt := (List.getElem?_eq_some_iff.1 hL).1
  rw [Lib.add_plain, (h.below hb).cellAt (a + j) (by omega), List.getElem?_map, hL]
  rfl
theorem str_one (M : List ByteArray) : ∀ u ∈ M.map Value.string, u.oneCell' = true := by
  intro u hu
  obtain ⟨x, _, rfl⟩ := List.mem_map.1 hu
  rfl
theorem keepBlk {w w' : World} {b r : Nat} {o : Obj} (h : w.heap[b]? = some o) (hg : w.grownBy w' (some r)) (hne : b ≠ r) : w'.heap[b]? = some o := (hg.block b (Array.getElem?_eq_some_iff.1 h).1 (fun e => hne (by injection e))).trans h

set_option maxHeartbeats 8000000 in
theorem put_new (L : List ByteArray) (s : ByteArray) (g cap base : Nat) (w : World) (hR : Rw w base g cap L) (hl : L.length ≤ 1000000) (hin : inS L s = false) :
    Calls Tryz.prog 32 #[.slice (some ⟨g, 0, none⟩) L.length cap, .string s] w fun e w' => ∃ g' c', e = .returned (.slice (some ⟨g', 0, none⟩) (putL s L).length c') ∧ Rw w' w.heap.size g' c' (putL s L) ∧ Below w.heap.size w w' := by
  obtain ⟨i0, hi0, hy0, hy1, hy2⟩ := info_parts str_info
  have HR := Lib.hid hR
  have hcap : L.length ≤ cap := by
    rcases hR.2 with ⟨h0, _⟩ | ⟨g', cap', cur, he, _, _, hn, _⟩
    · cases h0
    · injection he with _ _ he; omega
  have HI := Lib.hid (in_any L s (some ⟨g, 0, none⟩) cap w (Rs.of_row hR) (by omega))
  rw [hin] at HI
  clear hin hR
  go_enter Tryz.func32, Tryz.ntmps32
  go_wp2_with fail
  refine HI.out.mono ?_
  rintro e w1 ⟨rfl, hb1⟩
  have HB1 := Lib.hid hb1
  have HR1 := Lib.hid (HR.out.below hb1)
  clear hb1 HI HR
  go_wp2_with fail
  go_loopw [5] (fun i wr => ∃ k : Nat, k ≤ L.length ∧ i = .int .i64 k ∧ wr = w1 ∧ Hid (putL s L = L.take k ++ putL s (L.drop k))) (fun i _ => L.length - (RowKit.intOf i).toNat)
  case atStart => exact ⟨0, Nat.zero_le _, rfl, rfl, Lib.hid (by simp)⟩
  case round =>
    obtain ⟨k, hk, rfl, rfl, Hp⟩ := hrel
    by_cases hlt : k < L.length
    · have hc : wr.cell? ⟨g, k, none⟩ = some (.string L[k]) := by
        rw [HR1.out.cellAt k (by omega)]
        simp [hlt]
      by_cases hle : ltS L[k] s = true
      · have Hp2 := Lib.hid (Hp.out.trans (putL_step s L k hlt hle))
        have q1 : Op.bytesLess L[k].toList s.toList = true := hle
        generalize L[k] = x at *
        clear hle
        go_wp2_with fail
        go_roundw
        case rel => exact ⟨k + 1, by omega, by go_num, trivial, Hp2⟩
        case measure => simp [RowKit.intOf]; omega
      · have hle' : ltS L[k] s = false := by simpa using hle
        have Hp2 := Lib.hid (Hp.out.trans (congrArg _ (putL_stop s L k hlt hle')))
        have q1 : Op.bytesLess L[k].toList s.toList = false := hle'
        generalize L[k] = x at *
        clear hle hle'
        go_wp2_with fail
        clear hc q1
        have hck : (0 : Int) ≤ (k : Int) := by omega
        have hkc : k ≤ cap := by omega
        have HbE := Lib.hid ((((Below.refl wr.heap.size wr).alloc (Nat.le_refl _) (.cells #[] 9)).drew))
        have oA : (wr.alloc (.cells #[] 9)).drew.ownsRow wr.heap.size 9 1 (.slice (some ⟨wr.heap.size, 0, none⟩) 0 0) 0 [] := World.ownsRow_made wr #[] 0 (Nat.le_refl _) (Nat.zero_le _) rfl
        have oB : ((wr.alloc (.cells #[] 9)).alloc (.cells #[.string s] 9)).drew.ownsRow wr.heap.size 9 1 (.slice (some ⟨wr.heap.size, 0, none⟩) 0 0) 0 [] := (World.ownsRow_made wr #[] 0 (Nat.le_refl _) (Nat.zero_le _) rfl).alloc _
        have oC : ((wr.alloc (.cells #[.string s] 9)).alloc (.cells #[] 9)).drew.ownsRow wr.heap.size 9 1 (.slice (some ⟨wr.heap.size + 1, 0, none⟩) 0 0) 0 [] := by
          have := World.ownsRow_made (wr.alloc (.cells #[.string s] 9)) (base := wr.heap.size) (e := 9) (size := 1) #[] 0 (by simp) (Nat.zero_le _) rfl
          rw [show (wr.alloc (.cells #[.string s] 9)).heap.size = wr.heap.size + 1 from by simp] at this
          exact this
        have bA : Below wr.heap.size wr (wr.alloc (.cells #[] 9)).drew := ((Below.refl _ _).alloc (Nat.le_refl _) _).drew
        have bB : Below wr.heap.size wr ((wr.alloc (.cells #[] 9)).alloc (.cells #[.string s] 9)).drew := (((Below.refl _ _).alloc (Nat.le_refl _) _).alloc (by simp) _).drew
        have bC : Below wr.heap.size wr ((wr.alloc (.cells #[.string s] 9)).alloc (.cells #[] 9)).drew := (((Below.refl _ _).alloc (Nat.le_refl _) _).alloc (by simp) _).drew
        have hM1 : ∀ (j : Nat) x, (L.take k)[j]? = some x → L[0 + j]? = some x := fun j x hx => by
          rw [List.getElem?_take] at hx
          split at hx
          · rw [Nat.zero_add]; exact hx
          · cases hx
        have nA := HR1.out.news bA 0 (L.take k) hM1
        have nB := HR1.out.news bB 0 (L.take k) hM1
        have nC := HR1.out.news bC 0 (L.take k) hM1
        have hk1 : ((L.take k).map Value.string).length = k * 1 := by simp; omega
        have dB : ((wr.alloc (.cells #[] 9)).alloc (.cells #[.string s] 9)).drew.heap[wr.heap.size + 1]? = some (.cells #[.string s] 9) := by
          have := heap_alloc_new (wr.alloc (.cells #[] 9)) (.cells #[.string s] 9)
          rw [show (wr.alloc (.cells #[] 9)).heap.size = wr.heap.size + 1 from by simp] at this
          exact this
        have dC : ((wr.alloc (.cells #[.string s] 9)).alloc (.cells #[] 9)).drew.heap[wr.heap.size]? = some (.cells #[.string s] 9) := (Below.heap_alloc (wr.alloc (.cells #[.string s] 9)) _ wr.heap.size (by simp)).trans (heap_alloc_new wr _)
        by_cases hcq : cap = k
        · omega
        · have hM2 : ∀ (j : Nat) x, (L.drop k)[j]? = some x → L[k + j]? = some x := fun j x hx => by rw [List.getElem?_drop] at hx; exact hx
          have tokA : True := trivial
          go_region_held3 (fun _ => True) (exact trivial)
            (first
              | (have _t := tokA; refine step_append_at _ rfl (.tmp 24) (.tmp 27) 22 rfl wr.heap.size 9 i0 _ 1 16 Tryz.underlying22 hi0 hy0 hy1 hy2 rfl (by omega) wr.heap.size 0 0 [] rfl (by first | with_reducible exact oA | with_reducible exact oB | with_reducible exact oC) ⟨g, 0, none⟩ k cap ((L.take k).map Value.string) rfl hk1 (by first | with_reducible exact nA | with_reducible exact nB | with_reducible exact nC) (str_one _) (by unfold maxLen; omega) (by omega) (by first | with_reducible exact bA.size | with_reducible exact bB.size | with_reducible exact bC.size) ?_; intro gA cA wA hownA hgA hlocA; simp only [Nat.zero_add, List.nil_append] at hownA ⊢; have hbA : Below wr.heap.size wr wA := (by first | exact bA.grown hgA bA.size (fun j hj => by cases hj; omega) | exact bB.grown hgA bB.size (fun j hj => by cases hj; omega) | exact bC.grown hgA bC.size (fun j hj => by cases hj; omega)); have hgl := hownA.lt gA rfl; (try (have hD2 := keepBlk dB hgA (by omega))); (try (have hD3 := keepBlk dC hgA (by omega))); have tokB : True := trivial; clear tokA _t)
              | (have _t := tokA; refine step_append_at _ rfl (.tmp 24) (.tmp 27) 22 rfl wr.heap.size 9 i0 _ 1 16 Tryz.underlying22 hi0 hy0 hy1 hy2 rfl (by omega) (wr.heap.size + 1) 0 0 [] rfl (by first | with_reducible exact oA | with_reducible exact oB | with_reducible exact oC) ⟨g, 0, none⟩ k cap ((L.take k).map Value.string) rfl hk1 (by first | with_reducible exact nA | with_reducible exact nB | with_reducible exact nC) (str_one _) (by unfold maxLen; omega) (by omega) (by first | with_reducible exact bA.size | with_reducible exact bB.size | with_reducible exact bC.size) ?_; intro gA cA wA hownA hgA hlocA; simp only [Nat.zero_add, List.nil_append] at hownA ⊢; have hbA : Below wr.heap.size wr wA := (by first | exact bA.grown hgA bA.size (fun j hj => by cases hj; omega) | exact bB.grown hgA bB.size (fun j hj => by cases hj; omega) | exact bC.grown hgA bC.size (fun j hj => by cases hj; omega)); have hgl := hownA.lt gA rfl; (try (have hD2 := keepBlk dB hgA (by omega))); (try (have hD3 := keepBlk dC hgA (by omega))); have tokB : True := trivial; clear tokA _t)
              | (have _t := tokB; refine step_append_at _ rfl (.tmp 28) (.tmp 30) 22 rfl wr.heap.size 9 i0 _ 1 16 Tryz.underlying22 hi0 hy0 hy1 hy2 rfl (by omega) gA k cA ((L.take k).map Value.string) rfl (hownA.alloc _) ⟨wA.heap.size, 0, none⟩ 1 1 [.string s] rfl rfl (World.news_of_block (cs := #[.string s]) (t := 9) (fr := (0, 0)) (heap_alloc_new wA _)) (by simp [Value.oneCell']) (by unfold maxLen; omega) (by omega) (by have := hbA.size; (try simp); omega) ?_; intro gB cB wB hownB hgB hlocB; have hbB : Below wr.heap.size wr wB := (by first | exact hbA.grown hgB hbA.size (fun j hj => by cases hj; exact hgl.1) | exact (hbA.alloc hbA.size _).grown hgB (hbA.alloc hbA.size _).size (fun j hj => by cases hj; exact hgl.1)); have hglB := hownB.lt gB rfl; have nD := HR1.out.news hbB k (L.drop k) hM2; have tokC : True := trivial; clear tokB _t)
              | (have _t := tokB; refine step_append_at _ rfl (.tmp 28) (.tmp 30) 22 rfl wr.heap.size 9 i0 _ 1 16 Tryz.underlying22 hi0 hy0 hy1 hy2 rfl (by omega) gA k cA ((L.take k).map Value.string) rfl hownA ⟨wr.heap.size + 1, 0, none⟩ 1 1 [.string s] rfl rfl (World.news_of_block (cs := #[.string s]) (t := 9) (fr := (0, 0)) hD2) (by simp [Value.oneCell']) (by unfold maxLen; omega) (by omega) (by have := hbA.size; (try simp); omega) ?_; intro gB cB wB hownB hgB hlocB; have hbB : Below wr.heap.size wr wB := (by first | exact hbA.grown hgB hbA.size (fun j hj => by cases hj; exact hgl.1) | exact (hbA.alloc hbA.size _).grown hgB (hbA.alloc hbA.size _).size (fun j hj => by cases hj; exact hgl.1)); have hglB := hownB.lt gB rfl; have nD := HR1.out.news hbB k (L.drop k) hM2; have tokC : True := trivial; clear tokB _t)
              | (have _t := tokB; refine step_append_at _ rfl (.tmp 28) (.tmp 30) 22 rfl wr.heap.size 9 i0 _ 1 16 Tryz.underlying22 hi0 hy0 hy1 hy2 rfl (by omega) gA k cA ((L.take k).map Value.string) rfl hownA ⟨wr.heap.size, 0, none⟩ 1 1 [.string s] rfl rfl (World.news_of_block (cs := #[.string s]) (t := 9) (fr := (0, 0)) hD3) (by simp [Value.oneCell']) (by unfold maxLen; omega) (by omega) (by have := hbA.size; (try simp); omega) ?_; intro gB cB wB hownB hgB hlocB; have hbB : Below wr.heap.size wr wB := (by first | exact hbA.grown hgB hbA.size (fun j hj => by cases hj; exact hgl.1) | exact (hbA.alloc hbA.size _).grown hgB (hbA.alloc hbA.size _).size (fun j hj => by cases hj; exact hgl.1)); have hglB := hownB.lt gB rfl; have nD := HR1.out.news hbB k (L.drop k) hM2; have tokC : True := trivial; clear tokB _t)
              | (have _t := tokC; refine step_append_at _ rfl (.tmp 31) (.tmp 34) 22 rfl wr.heap.size 9 i0 _ 1 16 Tryz.underlying22 hi0 hy0 hy1 hy2 rfl (by omega) gB (k + 1) cB ((L.take k).map Value.string ++ [.string s]) rfl hownB ⟨g, k, none⟩ (L.length - k) (cap - k) ((L.drop k).map Value.string) rfl (by simp) nD (str_one _) (by unfold maxLen; omega) (by omega) hbB.size ?_; intro gC cC wC hownC hgC hlocC; have hbC : Below wr.heap.size wr wC := hbB.grown hgC hbB.size (fun j hj => by cases hj; exact hglB.1); clear tokC _t))
          all_goals
            have Hown := Lib.hid hownC
            have HbC := Lib.hid hbC
            clear hownC hbC hgC hlocC hownB hgB hlocB hownA hgA hlocA oA oB oC nA nB nC nD
            go_wp2
            go_ret
            have he : (putL s L).length = k + 1 + (L.length - k) := by rw [Hp2.out]; simp; omega
            refine ⟨gC, cC, by rw [he]; rfl, ?_, HB1.out.trans (HbC.out.mono HB1.out.size)⟩
            have hm : (putL s L).map Value.string = (L.take k).map Value.string ++ [.string s] ++ (L.drop k).map Value.string := by rw [Hp2.out]; simp
            unfold Rw
            rw [he, hm]
            exact ownsRow_base HB1.out.size Hown.out
    · have Hp2 := Lib.hid (Hp.out.trans (congrArg _ (putL_end s L k (by omega))))
      go_wp2_with fail
      have hck : (0 : Int) ≤ (k : Int) := by omega
      have hkc : k ≤ cap := by omega
      have HbE := Lib.hid ((((Below.refl wr.heap.size wr).alloc (Nat.le_refl _) (.cells #[] 9)).drew))
      have oA : (wr.alloc (.cells #[] 9)).drew.ownsRow wr.heap.size 9 1 (.slice (some ⟨wr.heap.size, 0, none⟩) 0 0) 0 [] := World.ownsRow_made wr #[] 0 (Nat.le_refl _) (Nat.zero_le _) rfl
      have oB : ((wr.alloc (.cells #[] 9)).alloc (.cells #[.string s] 9)).drew.ownsRow wr.heap.size 9 1 (.slice (some ⟨wr.heap.size, 0, none⟩) 0 0) 0 [] := (World.ownsRow_made wr #[] 0 (Nat.le_refl _) (Nat.zero_le _) rfl).alloc _
      have oC : ((wr.alloc (.cells #[.string s] 9)).alloc (.cells #[] 9)).drew.ownsRow wr.heap.size 9 1 (.slice (some ⟨wr.heap.size + 1, 0, none⟩) 0 0) 0 [] := by
        have := World.ownsRow_made (wr.alloc (.cells #[.string s] 9)) (base := wr.heap.size) (e := 9) (size := 1) #[] 0 (by simp) (Nat.zero_le _) rfl
        rw [show (wr.alloc (.cells #[.string s] 9)).heap.size = wr.heap.size + 1 from by simp] at this
        exact this
      have bA : Below wr.heap.size wr (wr.alloc (.cells #[] 9)).drew := ((Below.refl _ _).alloc (Nat.le_refl _) _).drew
      have bB : Below wr.heap.size wr ((wr.alloc (.cells #[] 9)).alloc (.cells #[.string s] 9)).drew := (((Below.refl _ _).alloc (Nat.le_refl _) _).alloc (by simp) _).drew
      have bC : Below wr.heap.size wr ((wr.alloc (.cells #[.string s] 9)).alloc (.cells #[] 9)).drew := (((Below.refl _ _).alloc (Nat.le_refl _) _).alloc (by simp) _).drew
      have hM1 : ∀ (j : Nat) x, (L.take k)[j]? = some x → L[0 + j]? = some x := fun j x hx => by
        rw [List.getElem?_take] at hx
        split at hx
        · rw [Nat.zero_add]; exact hx
        · cases hx
      have nA := HR1.out.news bA 0 (L.take k) hM1
      have nB := HR1.out.news bB 0 (L.take k) hM1
      have nC := HR1.out.news bC 0 (L.take k) hM1
      have hk1 : ((L.take k).map Value.string).length = k * 1 := by simp; omega
      have dB : ((wr.alloc (.cells #[] 9)).alloc (.cells #[.string s] 9)).drew.heap[wr.heap.size + 1]? = some (.cells #[.string s] 9) := by
        have := heap_alloc_new (wr.alloc (.cells #[] 9)) (.cells #[.string s] 9)
        rw [show (wr.alloc (.cells #[] 9)).heap.size = wr.heap.size + 1 from by simp] at this
        exact this
      have dC : ((wr.alloc (.cells #[.string s] 9)).alloc (.cells #[] 9)).drew.heap[wr.heap.size]? = some (.cells #[.string s] 9) := (Below.heap_alloc (wr.alloc (.cells #[.string s] 9)) _ wr.heap.size (by simp)).trans (heap_alloc_new wr _)
      by_cases hcq : cap = k
      · subst hcq
        have hM2 : ∀ (j : Nat) x, (L.drop cap)[j]? = some x → L[0 + j]? = some x := fun j x hx => by rw [List.drop_of_length_le (by omega)] at hx; simp at hx
        have tokA : True := trivial
        go_region_held3 (fun _ => True) (exact trivial)
          (first
            | (have _t := tokA; refine step_append_at _ rfl (.tmp 24) (.tmp 27) 22 rfl wr.heap.size 9 i0 _ 1 16 Tryz.underlying22 hi0 hy0 hy1 hy2 rfl (by omega) wr.heap.size 0 0 [] rfl (by first | with_reducible exact oA | with_reducible exact oB | with_reducible exact oC) ⟨g, 0, none⟩ cap cap ((L.take cap).map Value.string) rfl hk1 (by first | with_reducible exact nA | with_reducible exact nB | with_reducible exact nC) (str_one _) (by unfold maxLen; omega) (by omega) (by first | with_reducible exact bA.size | with_reducible exact bB.size | with_reducible exact bC.size) ?_; intro gA cA wA hownA hgA hlocA; simp only [Nat.zero_add, List.nil_append] at hownA ⊢; have hbA : Below wr.heap.size wr wA := (by first | exact bA.grown hgA bA.size (fun j hj => by cases hj; omega) | exact bB.grown hgA bB.size (fun j hj => by cases hj; omega) | exact bC.grown hgA bC.size (fun j hj => by cases hj; omega)); have hgl := hownA.lt gA rfl; (try (have hD2 := keepBlk dB hgA (by omega))); (try (have hD3 := keepBlk dC hgA (by omega))); have tokB : True := trivial; clear tokA _t)
            | (have _t := tokA; refine step_append_at _ rfl (.tmp 24) (.tmp 27) 22 rfl wr.heap.size 9 i0 _ 1 16 Tryz.underlying22 hi0 hy0 hy1 hy2 rfl (by omega) (wr.heap.size + 1) 0 0 [] rfl (by first | with_reducible exact oA | with_reducible exact oB | with_reducible exact oC) ⟨g, 0, none⟩ cap cap ((L.take cap).map Value.string) rfl hk1 (by first | with_reducible exact nA | with_reducible exact nB | with_reducible exact nC) (str_one _) (by unfold maxLen; omega) (by omega) (by first | with_reducible exact bA.size | with_reducible exact bB.size | with_reducible exact bC.size) ?_; intro gA cA wA hownA hgA hlocA; simp only [Nat.zero_add, List.nil_append] at hownA ⊢; have hbA : Below wr.heap.size wr wA := (by first | exact bA.grown hgA bA.size (fun j hj => by cases hj; omega) | exact bB.grown hgA bB.size (fun j hj => by cases hj; omega) | exact bC.grown hgA bC.size (fun j hj => by cases hj; omega)); have hgl := hownA.lt gA rfl; (try (have hD2 := keepBlk dB hgA (by omega))); (try (have hD3 := keepBlk dC hgA (by omega))); have tokB : True := trivial; clear tokA _t)
            | (have _t := tokB; refine step_append_at _ rfl (.tmp 28) (.tmp 30) 22 rfl wr.heap.size 9 i0 _ 1 16 Tryz.underlying22 hi0 hy0 hy1 hy2 rfl (by omega) gA cap cA ((L.take cap).map Value.string) rfl (hownA.alloc _) ⟨wA.heap.size, 0, none⟩ 1 1 [.string s] rfl rfl (World.news_of_block (cs := #[.string s]) (t := 9) (fr := (0, 0)) (heap_alloc_new wA _)) (by simp [Value.oneCell']) (by unfold maxLen; omega) (by omega) (by have := hbA.size; (try simp); omega) ?_; intro gB cB wB hownB hgB hlocB; have hbB : Below wr.heap.size wr wB := (by first | exact hbA.grown hgB hbA.size (fun j hj => by cases hj; exact hgl.1) | exact (hbA.alloc hbA.size _).grown hgB (hbA.alloc hbA.size _).size (fun j hj => by cases hj; exact hgl.1)); have hglB := hownB.lt gB rfl; have nD := HR1.out.news hbB 0 (L.drop cap) hM2; have tokC : True := trivial; clear tokB _t)
            | (have _t := tokB; refine step_append_at _ rfl (.tmp 28) (.tmp 30) 22 rfl wr.heap.size 9 i0 _ 1 16 Tryz.underlying22 hi0 hy0 hy1 hy2 rfl (by omega) gA cap cA ((L.take cap).map Value.string) rfl hownA ⟨wr.heap.size + 1, 0, none⟩ 1 1 [.string s] rfl rfl (World.news_of_block (cs := #[.string s]) (t := 9) (fr := (0, 0)) hD2) (by simp [Value.oneCell']) (by unfold maxLen; omega) (by omega) (by have := hbA.size; (try simp); omega) ?_; intro gB cB wB hownB hgB hlocB; have hbB : Below wr.heap.size wr wB := (by first | exact hbA.grown hgB hbA.size (fun j hj => by cases hj; exact hgl.1) | exact (hbA.alloc hbA.size _).grown hgB (hbA.alloc hbA.size _).size (fun j hj => by cases hj; exact hgl.1)); have hglB := hownB.lt gB rfl; have nD := HR1.out.news hbB 0 (L.drop cap) hM2; have tokC : True := trivial; clear tokB _t)
            | (have _t := tokB; refine step_append_at _ rfl (.tmp 28) (.tmp 30) 22 rfl wr.heap.size 9 i0 _ 1 16 Tryz.underlying22 hi0 hy0 hy1 hy2 rfl (by omega) gA cap cA ((L.take cap).map Value.string) rfl hownA ⟨wr.heap.size, 0, none⟩ 1 1 [.string s] rfl rfl (World.news_of_block (cs := #[.string s]) (t := 9) (fr := (0, 0)) hD3) (by simp [Value.oneCell']) (by unfold maxLen; omega) (by omega) (by have := hbA.size; (try simp); omega) ?_; intro gB cB wB hownB hgB hlocB; have hbB : Below wr.heap.size wr wB := (by first | exact hbA.grown hgB hbA.size (fun j hj => by cases hj; exact hgl.1) | exact (hbA.alloc hbA.size _).grown hgB (hbA.alloc hbA.size _).size (fun j hj => by cases hj; exact hgl.1)); have hglB := hownB.lt gB rfl; have nD := HR1.out.news hbB 0 (L.drop cap) hM2; have tokC : True := trivial; clear tokB _t)
            | (have _t := tokC; refine step_append_at _ rfl (.tmp 31) (.tmp 34) 22 rfl wr.heap.size 9 i0 _ 1 16 Tryz.underlying22 hi0 hy0 hy1 hy2 rfl (by omega) gB (cap + 1) cB ((L.take cap).map Value.string ++ [.string s]) rfl hownB ⟨g, 0, none⟩ 0 0 [] rfl rfl (by intro j u hu; simp at hu) (by simp) (by unfold maxLen; omega) (by omega) hbB.size ?_; intro gC cC wC hownC hgC hlocC; have hbC : Below wr.heap.size wr wC := hbB.grown hgC hbB.size (fun j hj => by cases hj; exact hglB.1); clear tokC _t))
        all_goals
          have Hown := Lib.hid hownC
          have HbC := Lib.hid hbC
          clear hownC hbC hgC hlocC hownB hgB hlocB hownA hgA hlocA oA oB oC nA nB nC nD
          go_wp2
          go_ret
          have he : (putL s L).length = cap + 1 + 0 := by rw [Hp2.out]; simp; omega
          refine ⟨gC, cC, by rw [he]; rfl, ?_, HB1.out.trans (HbC.out.mono HB1.out.size)⟩
          have hm : (putL s L).map Value.string = (L.take cap).map Value.string ++ [.string s] ++ [] := by rw [Hp2.out, List.drop_of_length_le (by omega)]; simp
          unfold Rw
          rw [he, hm]
          exact ownsRow_base HB1.out.size Hown.out
      · have hM2 : ∀ (j : Nat) x, (L.drop k)[j]? = some x → L[k + j]? = some x := fun j x hx => by rw [List.getElem?_drop] at hx; exact hx
        have tokA : True := trivial
        go_region_held3 (fun _ => True) (exact trivial)
          (first
            | (have _t := tokA; refine step_append_at _ rfl (.tmp 24) (.tmp 27) 22 rfl wr.heap.size 9 i0 _ 1 16 Tryz.underlying22 hi0 hy0 hy1 hy2 rfl (by omega) wr.heap.size 0 0 [] rfl (by first | with_reducible exact oA | with_reducible exact oB | with_reducible exact oC) ⟨g, 0, none⟩ k cap ((L.take k).map Value.string) rfl hk1 (by first | with_reducible exact nA | with_reducible exact nB | with_reducible exact nC) (str_one _) (by unfold maxLen; omega) (by omega) (by first | with_reducible exact bA.size | with_reducible exact bB.size | with_reducible exact bC.size) ?_; intro gA cA wA hownA hgA hlocA; simp only [Nat.zero_add, List.nil_append] at hownA ⊢; have hbA : Below wr.heap.size wr wA := (by first | exact bA.grown hgA bA.size (fun j hj => by cases hj; omega) | exact bB.grown hgA bB.size (fun j hj => by cases hj; omega) | exact bC.grown hgA bC.size (fun j hj => by cases hj; omega)); have hgl := hownA.lt gA rfl; (try (have hD2 := keepBlk dB hgA (by omega))); (try (have hD3 := keepBlk dC hgA (by omega))); have tokB : True := trivial; clear tokA _t)
            | (have _t := tokA; refine step_append_at _ rfl (.tmp 24) (.tmp 27) 22 rfl wr.heap.size 9 i0 _ 1 16 Tryz.underlying22 hi0 hy0 hy1 hy2 rfl (by omega) (wr.heap.size + 1) 0 0 [] rfl (by first | with_reducible exact oA | with_reducible exact oB | with_reducible exact oC) ⟨g, 0, none⟩ k cap ((L.take k).map Value.string) rfl hk1 (by first | with_reducible exact nA | with_reducible exact nB | with_reducible exact nC) (str_one _) (by unfold maxLen; omega) (by omega) (by first | with_reducible exact bA.size | with_reducible exact bB.size | with_reducible exact bC.size) ?_; intro gA cA wA hownA hgA hlocA; simp only [Nat.zero_add, List.nil_append] at hownA ⊢; have hbA : Below wr.heap.size wr wA := (by first | exact bA.grown hgA bA.size (fun j hj => by cases hj; omega) | exact bB.grown hgA bB.size (fun j hj => by cases hj; omega) | exact bC.grown hgA bC.size (fun j hj => by cases hj; omega)); have hgl := hownA.lt gA rfl; (try (have hD2 := keepBlk dB hgA (by omega))); (try (have hD3 := keepBlk dC hgA (by omega))); have tokB : True := trivial; clear tokA _t)
            | (have _t := tokB; refine step_append_at _ rfl (.tmp 28) (.tmp 30) 22 rfl wr.heap.size 9 i0 _ 1 16 Tryz.underlying22 hi0 hy0 hy1 hy2 rfl (by omega) gA k cA ((L.take k).map Value.string) rfl (hownA.alloc _) ⟨wA.heap.size, 0, none⟩ 1 1 [.string s] rfl rfl (World.news_of_block (cs := #[.string s]) (t := 9) (fr := (0, 0)) (heap_alloc_new wA _)) (by simp [Value.oneCell']) (by unfold maxLen; omega) (by omega) (by have := hbA.size; (try simp); omega) ?_; intro gB cB wB hownB hgB hlocB; have hbB : Below wr.heap.size wr wB := (by first | exact hbA.grown hgB hbA.size (fun j hj => by cases hj; exact hgl.1) | exact (hbA.alloc hbA.size _).grown hgB (hbA.alloc hbA.size _).size (fun j hj => by cases hj; exact hgl.1)); have hglB := hownB.lt gB rfl; have nD := HR1.out.news hbB k (L.drop k) hM2; have tokC : True := trivial; clear tokB _t)
            | (have _t := tokB; refine step_append_at _ rfl (.tmp 28) (.tmp 30) 22 rfl wr.heap.size 9 i0 _ 1 16 Tryz.underlying22 hi0 hy0 hy1 hy2 rfl (by omega) gA k cA ((L.take k).map Value.string) rfl hownA ⟨wr.heap.size + 1, 0, none⟩ 1 1 [.string s] rfl rfl (World.news_of_block (cs := #[.string s]) (t := 9) (fr := (0, 0)) hD2) (by simp [Value.oneCell']) (by unfold maxLen; omega) (by omega) (by have := hbA.size; (try simp); omega) ?_; intro gB cB wB hownB hgB hlocB; have hbB : Below wr.heap.size wr wB := (by first | exact hbA.grown hgB hbA.size (fun j hj => by cases hj; exact hgl.1) | exact (hbA.alloc hbA.size _).grown hgB (hbA.alloc hbA.size _).size (fun j hj => by cases hj; exact hgl.1)); have hglB := hownB.lt gB rfl; have nD := HR1.out.news hbB k (L.drop k) hM2; have tokC : True := trivial; clear tokB _t)
            | (have _t := tokB; refine step_append_at _ rfl (.tmp 28) (.tmp 30) 22 rfl wr.heap.size 9 i0 _ 1 16 Tryz.underlying22 hi0 hy0 hy1 hy2 rfl (by omega) gA k cA ((L.take k).map Value.string) rfl hownA ⟨wr.heap.size, 0, none⟩ 1 1 [.string s] rfl rfl (World.news_of_block (cs := #[.string s]) (t := 9) (fr := (0, 0)) hD3) (by simp [Value.oneCell']) (by unfold maxLen; omega) (by omega) (by have := hbA.size; (try simp); omega) ?_; intro gB cB wB hownB hgB hlocB; have hbB : Below wr.heap.size wr wB := (by first | exact hbA.grown hgB hbA.size (fun j hj => by cases hj; exact hgl.1) | exact (hbA.alloc hbA.size _).grown hgB (hbA.alloc hbA.size _).size (fun j hj => by cases hj; exact hgl.1)); have hglB := hownB.lt gB rfl; have nD := HR1.out.news hbB k (L.drop k) hM2; have tokC : True := trivial; clear tokB _t)
            | (have _t := tokC; refine step_append_at _ rfl (.tmp 31) (.tmp 34) 22 rfl wr.heap.size 9 i0 _ 1 16 Tryz.underlying22 hi0 hy0 hy1 hy2 rfl (by omega) gB (k + 1) cB ((L.take k).map Value.string ++ [.string s]) rfl hownB ⟨g, k, none⟩ (L.length - k) (cap - k) ((L.drop k).map Value.string) rfl (by simp) nD (str_one _) (by unfold maxLen; omega) (by omega) hbB.size ?_; intro gC cC wC hownC hgC hlocC; have hbC : Below wr.heap.size wr wC := hbB.grown hgC hbB.size (fun j hj => by cases hj; exact hglB.1); clear tokC _t))
        all_goals
          have Hown := Lib.hid hownC
          have HbC := Lib.hid hbC
          clear hownC hbC hgC hlocC hownB hgB hlocB hownA hgA hlocA oA oB oC nA nB nC nD
          go_wp2
          go_ret
          have he : (putL s L).length = k + 1 + (L.length - k) := by rw [Hp2.out]; simp; omega
          refine ⟨gC, cC, by rw [he]; rfl, ?_, HB1.out.trans (HbC.out.mono HB1.out.size)⟩
          have hm : (putL s L).map Value.string = (L.take k).map Value.string ++ [.string s] ++ (L.drop k).map Value.string := by rw [Hp2.out]; simp
          unfold Rw
          rw [he, hm]
          exact ownsRow_base HB1.out.size Hown.out

set_option maxHeartbeats 1000000 in
theorem put_old (L : List ByteArray) (s : ByteArray) (g cap base : Nat) (w : World) (hR : Rw w base g cap L) (hl : L.length ≤ 1000000) (hin : inS L s = true) :
    Calls Tryz.prog 32 #[.slice (some ⟨g, 0, none⟩) L.length cap, .string s] w fun e w' => e = .returned (.slice (some ⟨g, 0, none⟩) L.length cap) ∧ Below w.heap.size w w' := by
  have HI := Lib.hid (in_any L s (some ⟨g, 0, none⟩) cap w (Rs.of_row hR) (by omega))
  rw [hin] at HI
  clear hin hR
  go_enter Tryz.func32, Tryz.ntmps32
  go_wp2_with fail
  refine HI.out.mono ?_
  rintro e w1 ⟨rfl, hb1⟩
  have HB1 := Lib.hid hb1
  clear hb1 HI
  go_wp2
  go_ret
  exact ⟨rfl, HB1.out⟩
/-- a text, at its place, once -/
def putS (L : List ByteArray) (s : ByteArray) : List ByteArray := if inS L s then L else putL s L
theorem put_any (L : List ByteArray) (s : ByteArray) (g cap base : Nat) (w : World) (hR : Rw w base g cap L) (hl : L.length ≤ 1000000) :
    Calls Tryz.prog 32 #[.slice (some ⟨g, 0, none⟩) L.length cap, .string s] w fun e w' => ∃ g' c', e = .returned (.slice (some ⟨g', 0, none⟩) (putS L s).length c') ∧ Rw w' 0 g' c' (putS L s) ∧ Below w.heap.size w w' := by
  unfold putS
  cases hin : inS L s with
  | true =>
    refine (put_old L s g cap base w hR hl hin).mono ?_
    rintro e w' ⟨he, hb⟩
    exact ⟨g, cap, he, ownsRow_base (Nat.zero_le _) (Rw.below hR hb), hb⟩
  | false =>
    refine (put_new L s g cap base w hR hl hin).mono ?_
    rintro e w' ⟨g', c', he, hr, hb⟩
    exact ⟨g', c', he, ownsRow_base (Nat.zero_le _) hr, hb⟩
theorem putL_len (s : ByteArray) : ∀ L : List ByteArray, (putL s L).length = L.length + 1
  | [] => rfl
  | x :: l => by
    unfold putL
    split
    · simp [putL_len s l]
    · simp
theorem putS_len (L : List ByteArray) (s : ByteArray) : (putS L s).length ≤ L.length + 1 := by
  unfold putS
  split
  · omega
  · rw [putL_len]; exact Nat.le_refl _
end Go.Proofs.YtdinloecgaapaaaGreatDoor
