/-
  Plain laws on names: a joined list's parts; a list with one name more.
-/
import Derived.Test.YtnjgddckejpddaaGreatDoorTxnS
import Derived.Lib.SplitLaws
namespace Go.Proofs.YtnjgddckejpddaaGreatDoor
open Go.RowKit Go.Proofs.YtnjgddckejpddaaGreatDoor.Sep

/-- How long names are, joined. -/
def jsz (l : List ByteArray) : Nat := (l.map fun x => x.size + 1).sum
theorem join_size : ∀ l : List ByteArray, (join l).size = jsz l
  | [] => rfl
  | x :: l => by
    have ih := join_size l
    have h1 : (⟨#[10]⟩ : ByteArray).size = 1 := rfl
    simp only [join, ByteArray.size_append, ih, jsz, List.map_cons, List.sum_cons, h1]

theorem jsz_perm {l m : List ByteArray} (h : l.Perm m) : jsz l = jsz m := (h.map _).sum_nat
theorem jsz_append (l m : List ByteArray) : jsz (l ++ m) = jsz l + jsz m := by simp [jsz]
theorem jsz_compact : ∀ l : List ByteArray, jsz (compactB l) ≤ jsz l
  | [] => Nat.le_refl _
  | [_] => Nat.le_refl _
  | x :: y :: l => by
    have ih := jsz_compact (y :: l)
    unfold compactB
    simp only [jsz, List.map_cons, List.sum_cons] at ih ⊢
    split
    · omega
    · simp only [List.map_cons, List.sum_cons]; omega
theorem compactB_len : ∀ l : List ByteArray, (compactB l).length ≤ l.length
  | [] => Nat.le_refl _
  | [_] => Nat.le_refl _
  | x :: y :: l => by
    have ih := compactB_len (y :: l)
    unfold compactB
    simp only [List.length_cons] at ih ⊢
    split
    · omega
    · simp only [List.length_cons]; omega

theorem withOk_size {l l' : List ByteArray} {x : ByteArray} (h : WithOk l x l') : l'.length ≤ l.length + 1 ∧ jsz l' ≤ jsz l + (x.size + 1) := by
  obtain ⟨m, hp, _, rfl⟩ := h
  have h1 := hp.length_eq
  have h2 := jsz_perm hp
  rw [jsz_append] at h2
  have h3 := compactB_len m
  have h4 := jsz_compact m
  have h5 : jsz [x] = x.size + 1 := by simp [jsz]
  simp only [List.length_append, List.length_singleton] at h1
  omega

theorem splitB_sizes : ∀ (k : Nat) (s : ByteArray), Lib.countB s ⟨#[10]⟩ = k → ((Lib.splitB ⟨#[10]⟩ 0 k s).map ByteArray.size).sum + k = s.size
  | 0, s, _ => by simp [Lib.splitB]
  | k + 1, s, h => by
    rcases Lib.indexB_cases s ⟨#[10]⟩ with hi | ⟨i, hi, hr⟩
    · rw [Lib.countB_miss s _ hi] at h; omega
    · have h1 : (⟨#[10]⟩ : ByteArray).size = 1 := rfl
      have hc := Lib.countB_hit s ⟨#[10]⟩ i (by rw [h1]; exact Nat.le_refl _) hi
      have ih := splitB_sizes k (s.extract (i + (⟨#[10]⟩ : ByteArray).size) s.size) (by omega)
      rw [Lib.splitB_hit _ 0 k s i hi, List.map_cons, List.sum_cons]
      rw [ByteArray.size_extract] at ih ⊢
      rw [h1] at hr ih ⊢
      omega

theorem pieces_sizes (s : ByteArray) : ((pieces s).map ByteArray.size).sum + Lib.countB s ⟨#[10]⟩ = s.size := splitB_sizes _ s rfl

theorem jsz_dropLast : ∀ l : List ByteArray, jsz l.dropLast + 1 ≤ (l.map ByteArray.size).sum + l.length ∨ l = []
  | [] => .inr rfl
  | [x] => .inl (by simp [jsz])
  | x :: y :: l => .inl (by
    rcases jsz_dropLast (y :: l) with ih | ih
    · simp only [List.dropLast_cons_cons, jsz, List.map_cons, List.sum_cons, List.length_cons] at ih ⊢
      omega
    · cases ih)

theorem parts_jsz (s : ByteArray) : jsz (parts s) ≤ s.size := by
  have h1 := pieces_sizes s
  have h2 := pieces_length s
  unfold parts
  rcases jsz_dropLast (pieces s) with h | h
  · omega
  · rw [h]; simp [jsz]

theorem parts_len (s : ByteArray) : (parts s).length ≤ s.size := by
  have h := parts_jsz s
  have : (parts s).length ≤ jsz (parts s) := by
    generalize parts s = l
    induction l with
    | nil => simp
    | cons x l ih => simp only [jsz, List.map_cons, List.sum_cons, List.length_cons] at ih ⊢; omega
  omega

/-- The bound that 'set' asks. -/
theorem with_bound {d x : ByteArray} (hd : d.size ≤ 900000) (hx : x.size ≤ 100000) : ∀ l', WithOk (parts d) x l' → l'.length ≤ 1048576 ∧ (join l').size ≤ 1048576 := by
  intro l' h
  have h1 := withOk_size h
  have h2 := parts_jsz d
  have h3 := parts_len d
  rw [join_size]
  omega

/-- No newline in it. -/
def NoNL (x : ByteArray) : Prop := ∀ b ∈ x.data.toList, b ≠ 10

theorem indexByte_skip (c : UInt8) : ∀ (l r : List UInt8), (∀ b ∈ l, b ≠ c) → Lib.indexByte (l ++ c :: r) c = l.length
  | [], r, _ => by simp [Lib.indexByte]
  | b :: l, r, h => by
    have ih := indexByte_skip c l r fun y hy => h y (List.mem_cons_of_mem _ hy)
    have hb : ¬ (b == c) = true := by simpa using h b (by simp)
    simp only [List.cons_append, Lib.indexByte, hb, ih, List.length_cons]
    have : ¬ (((l.length : Nat) : Int) == -1) = true := by simp
    simp [this]

theorem pieces_cons {x t : ByteArray} (h : NoNL x) : pieces (x ++ ⟨#[10]⟩ ++ t) = x :: pieces t := by
  have h1 : (⟨#[10]⟩ : ByteArray).size = 1 := rfl
  have hd : (x ++ ⟨#[10]⟩ ++ t).data.toList = x.data.toList ++ 10 :: t.data.toList := by simp
  have hi : Lib.indexB (x ++ ⟨#[10]⟩ ++ t) ⟨#[10]⟩ = (x.size : Nat) := by
    show Lib.index (x ++ ⟨#[10]⟩ ++ t).data.toList [10] = _
    rw [Lib.index_one, hd, indexByte_skip 10 _ _ h]; rfl
  have he : (x ++ ⟨#[10]⟩ ++ t).extract (x.size + (⟨#[10]⟩ : ByteArray).size) (x ++ ⟨#[10]⟩ ++ t).size = t := by
    apply ByteArray.ext
    apply Array.toList_inj.1
    rw [Lib.extract_to_end, hd, h1]
    have : x.data.toList.length = x.size := rfl
    rw [show x.data.toList ++ 10 :: t.data.toList = (x.data.toList ++ [10]) ++ t.data.toList by simp]
    exact List.drop_left' (by rw [List.length_append, this]; rfl)
  have hx : (x ++ ⟨#[10]⟩ ++ t).extract 0 (x.size + 0) = x := by
    apply ByteArray.ext
    apply Array.toList_inj.1
    rw [Lib.extract_from_zero, hd]
    exact List.take_left' rfl
  unfold pieces
  rw [Lib.countB_hit _ ⟨#[10]⟩ x.size (by rw [h1]; exact Nat.le_refl _) hi, he, Nat.add_comm 1, Lib.splitB_hit _ 0 _ _ x.size hi, he, hx]

theorem pieces_ne (s : ByteArray) : pieces s ≠ [] := by
  intro h
  have := pieces_length s
  rw [h] at this; simp at this

theorem parts_join : ∀ l : List ByteArray, (∀ x ∈ l, NoNL x) → parts (join l) = l
  | [], _ => by decide
  | x :: l, h => by
    have ih := parts_join l fun y hy => h y (List.mem_cons_of_mem _ hy)
    unfold parts at ih ⊢
    rw [join, pieces_cons (h x (by simp)), List.dropLast_cons_of_ne_nil (pieces_ne _), ih]

end Go.Proofs.YtnjgddckejpddaaGreatDoor
