/-
  Names: list, with.
-/
import Derived.Test.YtnjgddckejpddaaGreatDoorText
import Derived.Deep.RegionHeld3
import Derived.Deep.RegionLaw
namespace Go.Proofs.YtnjgddckejpddaaGreatDoor
open Go.RowKit Go.Proofs.YtnjgddckejpddaaGreatDoor.Sep

/-- May a text stand ahead of another one? -/
def leB (a b : ByteArray) : Prop := ¬ (b.data.toList < a.data.toList)

/-- slices.Sort -/
def SortSpec : Prop := ∀ (s : Out) (W : World) (R : Hp) (v : Value) (l : List ByteArray), Sat s W (Row 9 1 v l.length (strs l) * R) → l.length ≤ 1048576 →
  Calls Tryz.prog 83 #[v] W fun e w' => ∃ l', e = .returned (.tuple #[]) ∧ l'.Perm l ∧ l'.Pairwise leB ∧ Sat s w' (Row 9 1 v l'.length (strs l') * R)

/-- Without what is like the one ahead. -/
def compactB : List ByteArray → List ByteArray
  | [] => []
  | [x] => [x]
  | x :: y :: l => if x = y then compactB (y :: l) else x :: compactB (y :: l)

/-- slices.Compact -/
def CompactSpec : Prop := ∀ (s : Out) (W : World) (R : Hp) (v : Value) (l : List ByteArray), Sat s W (Row 9 1 v l.length (strs l) * R) → l.length ≤ 1048576 →
  Calls Tryz.prog 95 #[v] W fun e w' => ∃ v', e = .returned v' ∧ Sat s w' (Row 9 1 v' (compactB l).length (strs (compactB l)) * R)

/-- Names with one more. -/
def WithOk (l : List ByteArray) (x : ByteArray) (l' : List ByteArray) : Prop := ∃ m, m.Perm (l ++ [x]) ∧ m.Pairwise leB ∧ l' = compactB m

theorem withOk_nil {x : ByteArray} {l' : List ByteArray} (h : WithOk [] x l') : l' = [x] := by
  obtain ⟨m, hp, _, rfl⟩ := h
  have : m = [x] := List.perm_singleton.1 hp
  subst this; rfl

set_option maxRecDepth 100000 in
set_option maxHeartbeats 400000 in
theorem list_calls (key : ByteArray) (l : List ByteArray) (v : Value) (w : World) (hv : View 1 w v l.length (strs l)) (hl : l.length ≤ 1099511627776) (hsz : (join l).size ≤ 1048576) :
    Calls Tryz.prog 74 #[.string key, v] w fun e w' => e = .returned (.agg #[.string key, .string (join l), .bool false]) ∧ Below w.heap.size w w' := by
  have hb : Below w.heap.size w (w.alloc (.cells #[.string ⟨#[]⟩, .string ⟨#[]⟩, .bool false] 73)) := (Below.refl _ _).alloc (Nat.le_refl _) _
  have HJ := hid (Join_calls l v _ (hv.below hb) hl hsz)
  clear hv hl hsz hb
  generalize join l = j at *
  go_enter Tryz.func74, Tryz.ntmps74
  go_wp2_with (go_at_call 22; ((with_reducible refine HJ.out.mono ?_); rintro e w' ⟨rfl, rfl⟩))
  exact bodyPost_ret (v := .agg #[.string key, .string j, .bool false]) (by simp [results, Tryz.results74, go_sem]) rfl ⟨rfl, (Below.refl _ _).alloc (Nat.le_refl _) _⟩

set_option maxRecDepth 100000 in
set_option maxHeartbeats 400000 in
theorem with_calls (HSo : SortSpec) (HCo : CompactSpec) (l : List ByteArray) (x : ByteArray) (v : Value) (w : World) (hv : View 1 w v l.length (strs l)) (hl : l.length ≤ 1000000) :
    Calls Tryz.prog 75 #[v, .string x] w fun e w' => ∃ v' l', e = .returned v' ∧ WithOk l x l' ∧ Fresh w w' (Row 9 1 v' l'.length (strs l')) := by
  have HC := hid (clone_string v l.length _ w hv (one_strs l) (by omega))
  have HA : Hid (∀ w1 v1, Fresh w w1 (Row 9 1 v1 l.length (strs l)) → ∃ v2 w2, (Builtin.append_ #[33, 33] 33 #[v1, .slice (some ⟨w1.heap.size, 0, none⟩) 1 1]).run Tryz.prog (w1.alloc (.cells #[.string x] 9)) = .ok v2 w2 ∧
      Fresh w w2 (Row 9 1 v2 (l ++ [x]).length (strs (l ++ [x])))) := by
    intro w1 v1 hf
    obtain ⟨i, z, E, hby⟩ := elem_string
    have h6 := Sat.alloc hf (.cells #[.string x] 9)
    rw [show pts w1.heap.size (.cells #[.string x] 9) * (Row 9 1 v1 l.length (strs l) * Old w) = Row 9 1 v1 l.length (strs l) * (pts w1.heap.size (.cells #[.string x] 9) * Old w) by ac_rfl] at h6
    have hsrc : Src Tryz.prog 1 33 (.slice (some ⟨w1.heap.size, 0, none⟩) 1 1) 1 [.string x] (w1.alloc (.cells #[.string x] 9)) := by
      refine Src.ofSlice _ (e' := 9) Tryz.underlying33 _ 1 1 _ rfl (fun j u hu => ?_) (fun u hu => ?_)
      · rw [add_none, Nat.zero_add]
        exact h6.right.cell (by simpa using hu)
      · simp only [List.mem_cons, List.not_mem_nil, or_false] at hu
        rcases hu with rfl; rfl
    obtain ⟨v2, w2, hrun, _, hsat⟩ := Row.append E h6 33 hsrc (by unfold maxLen; omega) (by rw [hby]; omega)
    refine ⟨v2, w2, hrun, ?_⟩
    rw [show Row 9 1 v2 (l.length + 1) (strs l ++ [.string x]) * (pts w1.heap.size (.cells #[.string x] 9) * Old w) = pts w1.heap.size (.cells #[.string x] 9) * (Row 9 1 v2 (l.length + 1) (strs l ++ [.string x]) * Old w) by ac_rfl] at hsat
    have h8 := hsat.right
    rw [List.length_append, List.length_singleton]
    simpa [strs, Fresh] using h8
  have HSo' : Hid (∀ w2 v2, Fresh w w2 (Row 9 1 v2 (l ++ [x]).length (strs (l ++ [x]))) → Calls Tryz.prog 83 #[v2] w2 fun e w' => ∃ l', e = .returned (.tuple #[]) ∧ l'.Perm (l ++ [x]) ∧ l'.Pairwise leB ∧ Fresh w w' (Row 9 1 v2 l'.length (strs l'))) :=
    fun w2 v2 h => HSo _ _ _ _ _ h (by simp; omega)
  have HCo' : Hid (∀ w2 v2 (l' : List ByteArray), l'.length ≤ 1048576 → Fresh w w2 (Row 9 1 v2 l'.length (strs l')) → Calls Tryz.prog 95 #[v2] w2 fun e w' => ∃ v', e = .returned v' ∧ Fresh w w' (Row 9 1 v' (compactB l').length (strs (compactB l')))) :=
    fun w2 v2 l' hl h => HCo _ _ _ _ _ h hl
  have HL := hid hl
  clear HSo HCo hv hl
  go_enter Tryz.func75, Tryz.ntmps75
  go_wp2_with (first
    | (go_at_call 30; ((with_reducible refine HC.out.mono ?_); rintro e w' ⟨v1, rfl, hf⟩; obtain ⟨v2, w2, hrun, hf2⟩ := HA.out _ _ hf; clear hf))
    | (go_at_call 83; ((with_reducible refine (HSo'.out _ _ hf2).mono ?_); rintro e w' ⟨l', rfl, hp, hso, hf3⟩))
    | (go_at_call 95; ((with_reducible refine (HCo'.out _ _ l' (by have := hp.length_eq; have := HL.out; simp at *; omega) hf3).mono ?_); rintro e w' ⟨v4, rfl, hf4⟩))
    | (at_builtin; refine wpList_append_run rfl rfl rfl rfl hrun ?_))
  go_ret
  exact ⟨_, _, rfl, ⟨l', hp, hso, rfl⟩, hf4⟩

end Go.Proofs.YtnjgddckejpddaaGreatDoor
