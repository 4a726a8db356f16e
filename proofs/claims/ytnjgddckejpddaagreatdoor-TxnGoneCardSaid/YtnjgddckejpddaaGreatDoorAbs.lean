/-
  The store, told by all that was ever written: each key's versions, cleaned at a stamp; which stamps are pinned.
-/
import Derived.Test.YtnjgddckejpddaaGreatDoorTxnR
namespace Go.Proofs.YtnjgddckejpddaaGreatDoor
open Go.RowKit Go.Proofs.YtnjgddckejpddaaGreatDoor.Sep

/-- Rising by stamps. -/
def Rising (l : List Ver) : Prop := l.Pairwise fun a b => a.stamp ≤ b.stamp
/-- The newest of some versions, if it is not gone. -/
def base (p : List Ver) : List Ver := p.getLast?.toList.filter fun x => !x.gone
/-- What is left of a key's versions, cleaned at a stamp. -/
def cl (m : Nat) (l : List Ver) : List Ver := l.drop (goneN l m)

theorem split_at (t : Nat) : ∀ l : List Ver, Rising l → ∃ p q, l = p ++ q ∧ (∀ x ∈ p, x.stamp ≤ t) ∧ (∀ x ∈ q, t < x.stamp)
  | [], _ => ⟨[], [], rfl, by simp, by simp⟩
  | x :: l, h => by
    rw [Rising, List.pairwise_cons] at h
    by_cases hx : x.stamp ≤ t
    · obtain ⟨p, q, rfl, hp, hq⟩ := split_at t l h.2
      exact ⟨x :: p, q, rfl, by simpa using ⟨hx, hp⟩, hq⟩
    · refine ⟨[], x :: l, rfl, by simp, ?_⟩
      intro y hy
      rcases List.mem_cons.1 hy with rfl | hy
      · omega
      · have := h.1 y hy; omega

theorem leadN_split {t : Nat} {p q : List Ver} (hp : ∀ x ∈ p, x.stamp ≤ t) (hq : ∀ x ∈ q, t < x.stamp) : leadN (p ++ q) t = p.length := by
  unfold leadN
  have h1 : (p ++ q).takeWhile (fun x => decide (x.stamp ≤ t)) = p := by
    rw [List.takeWhile_append_of_pos (by simpa using hp)]
    cases q with
    | nil => simp
    | cons y q =>
      have := hq y (by simp)
      rw [List.takeWhile_cons_of_neg (by simp; omega), List.append_nil]
  rw [h1]

theorem stampAt_lt {l : List Ver} {i : Nat} (h : i < l.length) : stampAt l i = l[i].stamp := by simp [stampAt, h]

theorem newest_split {t : Nat} {p q : List Ver} (hp : ∀ x ∈ p, x.stamp ≤ t) (hq : ∀ x ∈ q, t < x.stamp) : newestI (p ++ q) t = (p.length : Int) - 1 := by
  have key : ∀ n, n ≤ q.length → nwst (stampAt (p ++ q)) t (p.length + n) = (p.length : Int) - 1 := by
    intro n
    induction n with
    | zero =>
      intro _
      rcases hn : p.length with _ | k
      · simp [nwst]
      · show nwst _ t (k + 1) = _
        unfold nwst
        have hk : k < (p ++ q).length := by simp; omega
        have : stampAt (p ++ q) k ≤ t := by
          rw [stampAt_lt hk, List.getElem_append_left (by omega)]
          exact hp _ (List.getElem_mem _)
        rw [if_neg (by omega)]; omega
    | succ n ih =>
      intro hn
      show nwst _ t (p.length + n + 1) = _
      unfold nwst
      have hk : p.length + n < (p ++ q).length := by simp; omega
      have : t < stampAt (p ++ q) (p.length + n) := by
        rw [stampAt_lt hk, List.getElem_append_right (by omega)]
        exact hq _ (List.getElem_mem _)
      rw [if_pos this]; exact ih (by omega)
  have := key q.length (Nat.le_refl _)
  unfold newestI
  rw [List.length_append]; exact this

theorem readV_split {t : Nat} {p q : List Ver} (hp : ∀ x ∈ p, x.stamp ≤ t) (hq : ∀ x ∈ q, t < x.stamp) : readV (p ++ q) t = (base p).head?.map (·.val) := by
  unfold readV
  rw [newest_split hp hq]
  rcases List.eq_nil_or_concat p with rfl | ⟨p', x, rfl⟩
  · simp [base]
  · rw [if_neg (by simp)]
    have h1 : (((p' ++ [x]).length : Int) - 1).toNat = p'.length := by simp
    simp only [List.concat_eq_append] at *
    rw [h1]
    have h2 : (p' ++ [x] ++ q)[p'.length]? = some x := by simp
    rw [h2]
    simp only [Option.bind_some, base, List.getLast?_append, List.getLast?_singleton, Option.some_or, Option.toList_some]
    cases hg : x.gone <;> simp [hg]

theorem changed_split {t : Nat} {p q : List Ver} (hp : ∀ x ∈ p, x.stamp ≤ t) (hq : ∀ x ∈ q, t < x.stamp) : changedS (p ++ q) t = !q.isEmpty := by
  unfold changedS
  rcases List.eq_nil_or_concat q with rfl | ⟨q', x, rfl⟩
  · rw [List.append_nil]
    rcases List.eq_nil_or_concat p with rfl | ⟨p', y, rfl⟩
    · simp
    · simp only [List.concat_eq_append] at *
      have h1 : stampAt (p' ++ [y]) ((p' ++ [y]).length - 1) ≤ t := by
        rw [stampAt_lt (by simp)]
        have : (p' ++ [y])[(p' ++ [y]).length - 1]'(by simp) = y := by simp
        rw [this]; exact hp y (by simp)
      simp only [List.isEmpty_nil, Bool.not_true, Bool.and_eq_false_iff, decide_eq_false_iff_not]
      right; omega
  · simp only [List.concat_eq_append] at *
    have hx : t < x.stamp := hq x (by simp)
    have h1 : stampAt (p ++ (q' ++ [x])) ((p ++ (q' ++ [x])).length - 1) = x.stamp := by
      have e : p ++ (q' ++ [x]) = (p ++ q') ++ [x] := by simp
      rw [e]
      have h2 : ((p ++ q' ++ [x]).length - 1) = (p ++ q').length := by simp
      rw [h2, stampAt_lt (by simp)]
      simp
    have h3 : (q' ++ [x]).isEmpty = false := by cases q' <;> rfl
    rw [h1, h3]
    simp [hx]
    omega

theorem cl_split {m : Nat} {p q : List Ver} (hp : ∀ x ∈ p, x.stamp ≤ m) (hq : ∀ x ∈ q, m < x.stamp) : cl m (p ++ q) = base p ++ q := by
  unfold cl goneN
  rw [leadN_split hp hq]
  rcases List.eq_nil_or_concat p with rfl | ⟨p', x, rfl⟩
  · simp [base]
  · simp only [List.concat_eq_append]
    have h1 : (p' ++ [x]).length - 1 = p'.length := by simp
    have h2 : (p' ++ [x] ++ q)[p'.length]? = some x := by simp
    rw [h1, h2]
    simp only [Option.map_some, Option.getD_some, base, List.getLast?_append, List.getLast?_singleton, Option.some_or, Option.toList_some]
    have h3 : (p' ++ [x] ++ q).drop (p' ++ [x]).length = q := by simp
    have h4 : (p' ++ [x] ++ q).drop p'.length = x :: q := by simp
    by_cases hg : x.gone = true
    · rw [if_neg (by simp [hg]), h3]; simp [hg]
    · have hg : x.gone = false := by simpa using hg
      rw [if_pos ⟨by simp, hg⟩, h4]; simp [hg]

theorem base_base_append (p q : List Ver) : base (base p ++ q) = base (p ++ q) := by
  rcases List.eq_nil_or_concat q with rfl | ⟨q', x, rfl⟩
  · simp only [List.append_nil]
    unfold base
    rcases hp : p.getLast? with _ | x
    · simp
    · cases hg : x.gone <;> simp [hg]
  · simp only [base, List.concat_eq_append]
    rw [← List.append_assoc, ← List.append_assoc]
    simp [List.getLast?_append]

theorem base_le {p : List Ver} {x : Ver} (h : x ∈ base p) : x ∈ p := by
  unfold base at h
  rw [List.mem_filter] at h
  have := h.1
  simp at this
  exact List.mem_of_getLast? this

theorem Rising.append {p q : List Ver} : Rising (p ++ q) ↔ Rising p ∧ Rising q ∧ ∀ a ∈ p, ∀ b ∈ q, a.stamp ≤ b.stamp := List.pairwise_append

theorem split2 {m t : Nat} {l : List Ver} (h : Rising l) : ∃ p q1 q2, l = p ++ (q1 ++ q2) ∧ (∀ x ∈ p, x.stamp ≤ m) ∧ (∀ x ∈ q1, m < x.stamp ∧ x.stamp ≤ t) ∧ (∀ x ∈ q2, t < x.stamp) := by
  obtain ⟨p, q, rfl, hp, hq⟩ := split_at m l h
  obtain ⟨q1, q2, rfl, h1, h2⟩ := split_at t q (Rising.append.1 h).2.1
  exact ⟨p, q1, q2, rfl, hp, fun x hx => ⟨hq x (by simp [hx]), h1 x hx⟩, h2⟩

theorem cl_cl {m t : Nat} (hmt : m ≤ t) {l : List Ver} (h : Rising l) : cl t (cl m l) = cl t l := by
  obtain ⟨p, q1, q2, rfl, hp, h1, h2⟩ := split2 (t := t) h
  rw [cl_split hp (by intro x hx; rcases List.mem_append.1 hx with hx | hx; exact (h1 x hx).1; exact Nat.lt_of_le_of_lt hmt (h2 x hx))]
  rw [← List.append_assoc, ← List.append_assoc, cl_split (p := base p ++ q1), cl_split (p := p ++ q1), base_base_append]
  · intro x hx; rcases List.mem_append.1 hx with hx | hx
    · exact Nat.le_trans (hp x hx) hmt
    · exact (h1 x hx).2
  · exact h2
  · intro x hx; rcases List.mem_append.1 hx with hx | hx
    · exact Nat.le_trans (hp x (base_le hx)) hmt
    · exact (h1 x hx).2
  · exact h2

theorem readV_cl {m t : Nat} (hmt : m ≤ t) {l : List Ver} (h : Rising l) : readV (cl m l) t = readV l t := by
  obtain ⟨p, q1, q2, rfl, hp, h1, h2⟩ := split2 (t := t) h
  rw [cl_split hp (by intro x hx; rcases List.mem_append.1 hx with hx | hx; exact (h1 x hx).1; exact Nat.lt_of_le_of_lt hmt (h2 x hx))]
  rw [← List.append_assoc, ← List.append_assoc, readV_split (p := base p ++ q1), readV_split (p := p ++ q1), base_base_append]
  · intro x hx; rcases List.mem_append.1 hx with hx | hx
    · exact Nat.le_trans (hp x hx) hmt
    · exact (h1 x hx).2
  · exact h2
  · intro x hx; rcases List.mem_append.1 hx with hx | hx
    · exact Nat.le_trans (hp x (base_le hx)) hmt
    · exact (h1 x hx).2
  · exact h2

theorem changed_cl {m t : Nat} (hmt : m ≤ t) {l : List Ver} (h : Rising l) : changedS (cl m l) t = changedS l t := by
  obtain ⟨p, q1, q2, rfl, hp, h1, h2⟩ := split2 (t := t) h
  rw [cl_split hp (by intro x hx; rcases List.mem_append.1 hx with hx | hx; exact (h1 x hx).1; exact Nat.lt_of_le_of_lt hmt (h2 x hx))]
  rw [← List.append_assoc, ← List.append_assoc, changed_split (p := base p ++ q1), changed_split (p := p ++ q1)]
  · intro x hx; rcases List.mem_append.1 hx with hx | hx
    · exact Nat.le_trans (hp x hx) hmt
    · exact (h1 x hx).2
  · exact h2
  · intro x hx; rcases List.mem_append.1 hx with hx | hx
    · exact Nat.le_trans (hp x (base_le hx)) hmt
    · exact (h1 x hx).2
  · exact h2

theorem cl_append {m : Nat} {l r : List Ver} (h : Rising l) (hr : ∀ x ∈ r, m < x.stamp) : cl m (l ++ r) = cl m l ++ r := by
  obtain ⟨p, q, rfl, hp, hq⟩ := split_at m l h
  rw [List.append_assoc, cl_split hp, cl_split hp hq, List.append_assoc]
  intro x hx; rcases List.mem_append.1 hx with hx | hx
  · exact hq x hx
  · exact hr x hx

theorem cl_sub {m : Nat} {l : List Ver} {x : Ver} (h : x ∈ cl m l) : x ∈ l := List.mem_of_mem_drop h
theorem cl_len (m : Nat) (l : List Ver) : (cl m l).length ≤ l.length := by simp [cl]
theorem cl_nil (m : Nat) : cl m [] = [] := by simp [cl]
theorem cl_zero {l : List Ver} (h : ∀ x ∈ l, 0 < x.stamp) : cl 0 l = l := by
  have := cl_split (m := 0) (p := []) (q := l) (by simp) h
  simpa [base] using this

namespace Sep
section
variable {K V : Type} [DecidableEq K]
theorem aget_aset_self (k : K) (v : V) : ∀ l : List (K × V), aget k (aset k v l) = some v
  | [] => by simp [aset, aget]
  | (j, u) :: l => by
    unfold aset
    by_cases h : k = j
    · simp [h, aget]
    · simp only [h, if_false, aget, aget_aset_self k v l]
theorem aget_aset_ne {k j : K} (h : k ≠ j) (v : V) : ∀ l : List (K × V), aget k (aset j v l) = aget k l
  | [] => by simp [aset, aget, h]
  | (i, u) :: l => by
    unfold aset
    by_cases hj : j = i
    · subst hj; simp [aget, h]
    · simp only [hj, if_false, aget, aget_aset_ne h v l]
theorem aget_none (k : K) : ∀ l : List (K × V), aget k l = none ↔ k ∉ l.map Prod.fst
  | [] => by simp [aget]
  | (j, u) :: l => by
    unfold aget
    by_cases h : k = j
    · simp [h]
    · simp [h, aget_none k l]
theorem aget_adel_ne {k j : K} (h : k ≠ j) : ∀ l : List (K × V), aget k (adel j l) = aget k l
  | [] => by simp [adel]
  | (i, u) :: l => by
    unfold adel
    by_cases hj : j = i
    · subst hj; simp [aget, h]
    · simp only [hj, if_false, aget, aget_adel_ne h l]
theorem fst_adel (k : K) : ∀ l : List (K × V), (adel k l).map Prod.fst = (l.map Prod.fst).erase k
  | [] => by simp [adel]
  | (j, u) :: l => by
    unfold adel
    by_cases h : k = j
    · subst h; simp
    · have h2 : ¬ (j = k) := fun e => h e.symm
      simp only [h, if_false, List.map_cons, fst_adel k l]
      rw [List.erase_cons_tail (by simpa using h2)]
theorem fst_aset (k : K) (v : V) : ∀ l : List (K × V), (aset k v l).map Prod.fst = if k ∈ l.map Prod.fst then l.map Prod.fst else l.map Prod.fst ++ [k]
  | [] => by simp [aset]
  | (j, u) :: l => by
    unfold aset
    by_cases h : k = j
    · subst h; simp
    · simp only [h, if_false, List.map_cons, fst_aset k v l, List.mem_cons, false_or]
      split <;> simp
theorem nodup_aset {k : K} {v : V} {l : List (K × V)} (h : (l.map Prod.fst).Nodup) : ((aset k v l).map Prod.fst).Nodup := by
  rw [fst_aset]
  split
  · exact h
  · rename_i hk
    rw [List.nodup_append]
    refine ⟨h, by simp, ?_⟩
    intro a ha b hb
    simp at hb; subst hb
    rintro rfl; exact hk ha
theorem nodup_adel {k : K} {l : List (K × V)} (h : (l.map Prod.fst).Nodup) : ((adel k l).map Prod.fst).Nodup := by
  rw [fst_adel]; exact h.erase k
theorem aget_adel_self {k : K} {l : List (K × V)} (h : (l.map Prod.fst).Nodup) : aget k (adel k l) = none := by
  rw [aget_none, fst_adel, h.mem_erase_iff]; simp
theorem aget_some_mem {k : K} {v : V} : ∀ {l : List (K × V)}, aget k l = some v → (k, v) ∈ l
  | [], h => by simp [aget] at h
  | (j, u) :: l, h => by
    unfold aget at h
    by_cases hk : k = j
    · subst hk; simp at h; subst h; simp
    · simp only [hk, if_false] at h
      exact List.mem_cons_of_mem _ (aget_some_mem h)
theorem mem_aget {k : K} {v : V} : ∀ {l : List (K × V)}, (l.map Prod.fst).Nodup → (k, v) ∈ l → aget k l = some v
  | (j, u) :: l, hn, h => by
    simp only [List.map_cons, List.nodup_cons] at hn
    unfold aget
    rcases List.mem_cons.1 h with h' | h'
    · injection h' with h1 h2; subst h1; subst h2; simp
    · have : k ≠ j := fun e => hn.1 (List.mem_map.2 ⟨(k, v), h', e⟩)
      simp only [this, if_false]; exact mem_aget hn.2 h'
theorem alen_aset (k : K) (v : V) (l : List (K × V)) : (aset k v l).length ≤ l.length + 1 := by
  have := congrArg List.length (fst_aset k v l)
  simp only [List.length_map] at this
  rw [this]; split <;> simp
theorem alen_adel (k : K) (l : List (K × V)) : (adel k l).length ≤ l.length := by
  have := congrArg List.length (fst_adel k l)
  simp only [List.length_map] at this
  rw [this]
  exact Nat.le_trans (List.length_erase_le) (by simp)
end
end Sep

/-- Pinned stamps, each as often as it is pinned. -/
structure PinsAre (pins : List (Int × Int)) (P : List Nat) : Prop where
  nodup : (pins.map Prod.fst).Nodup
  get : ∀ t : Int, (aget t pins).getD 0 = ((P.map Int.ofNat).count t : Int)
  pos : ∀ t : Int, t ∈ pins.map Prod.fst → t ∈ P.map Int.ofNat

theorem PinsAre.nil : PinsAre [] [] := ⟨by simp, fun t => by simp [aget], by simp⟩

theorem PinsAre.pin {pins : List (Int × Int)} {P : List Nat} (h : PinsAre pins P) (n : Nat) : PinsAre (aset (n : Int) ((aget (n : Int) pins).getD 0 + 1) pins) (n :: P) := by
  refine ⟨nodup_aset h.nodup, fun t => ?_, fun t ht => ?_⟩
  · by_cases e : t = n
    · subst e
      rw [aget_aset_self, h.get]
      simp
    · rw [aget_aset_ne e, h.get, List.map_cons, List.count_cons_of_ne (by simpa using fun x => e x.symm)]
  · rw [fst_aset] at ht
    split at ht
    · exact List.mem_cons_of_mem _ (h.pos t ht)
    · rcases List.mem_append.1 ht with ht | ht
      · exact List.mem_cons_of_mem _ (h.pos t ht)
      · simp at ht; subst ht; simp

theorem map_erase_ofNat (n : Nat) : ∀ P : List Nat, (P.erase n).map Int.ofNat = (P.map Int.ofNat).erase (n : Int)
  | [] => by simp
  | p :: P => by
    by_cases h : p = n
    · subst h; simp
    · have h2 : ¬ (Int.ofNat p = (n : Int)) := fun e => h (Int.ofNat.inj e)
      rw [List.erase_cons_tail (by simpa using h), List.map_cons, List.map_cons, List.erase_cons_tail (by simpa using h2), map_erase_ofNat n P]

theorem PinsAre.unpin {pins : List (Int × Int)} {P : List Nat} (h : PinsAre pins P) {n : Nat} (hn : n ∈ P) :
    PinsAre (if (aget (n : Int) pins).getD 0 ≤ 1 then adel (n : Int) (aset (n : Int) ((aget (n : Int) pins).getD 0 - 1) pins) else aset (n : Int) ((aget (n : Int) pins).getD 0 - 1) pins) (P.erase n) := by
  have hc : 0 < (P.map Int.ofNat).count (n : Int) := List.count_pos_iff.2 (List.mem_map.2 ⟨n, hn, rfl⟩)
  have hg := h.get n
  split
  · rename_i h1
    have h2 : (P.map Int.ofNat).count (n : Int) = 1 := by omega
    refine ⟨nodup_adel (nodup_aset h.nodup), fun t => ?_, fun t ht => ?_⟩
    · rw [map_erase_ofNat]
      by_cases e : t = n
      · subst e
        rw [aget_adel_self (nodup_aset h.nodup), List.count_erase_self, h2]; rfl
      · rw [aget_adel_ne e, aget_aset_ne e, h.get, List.count_erase_of_ne (by simpa using e)]
    · rw [fst_adel, (nodup_aset h.nodup).mem_erase_iff, fst_aset] at ht
      have h3 : t ∈ pins.map Prod.fst := by
        rcases ht with ⟨hne, ht⟩
        split at ht
        · exact ht
        · simp at ht; rcases ht with ht | ht
          · simpa using ht
          · exact absurd ht hne
      rw [map_erase_ofNat]
      exact (List.mem_erase_of_ne ht.1).2 (h.pos t h3)
  · rename_i h1
    refine ⟨nodup_aset h.nodup, fun t => ?_, fun t ht => ?_⟩
    · rw [map_erase_ofNat]
      by_cases e : t = n
      · subst e
        rw [aget_aset_self, List.count_erase_self]
        simp only [Option.getD_some]; omega
      · rw [aget_aset_ne e, h.get, List.count_erase_of_ne (by simpa using e)]
    · have h4 : 1 < (P.map Int.ofNat).count (n : Int) := by omega
      rw [map_erase_ofNat]
      by_cases e : t = n
      · subst e
        apply List.count_pos_iff.1
        rw [List.count_erase_self]; omega
      · rw [fst_aset] at ht
        refine (List.mem_erase_of_ne e).2 (h.pos t ?_)
        split at ht
        · exact ht
        · simp at ht; rcases ht with ht | ht
          · simpa using ht
          · exact absurd ht e

/-- The least of some numbers. -/
def minP (n : Nat) (P : List Nat) : Nat := P.foldl min n
theorem minP_le : ∀ (P : List Nat) (n : Nat), minP n P ≤ n ∧ ∀ p ∈ P, minP n P ≤ p
  | [], n => by simp [minP]
  | p :: P, n => by
    have h := minP_le P (min n p)
    show minP (min n p) P ≤ n ∧ _
    refine ⟨by omega, fun q hq => ?_⟩
    show minP (min n p) P ≤ q
    rcases List.mem_cons.1 hq with rfl | hq
    · omega
    · exact h.2 q hq
theorem minP_at : ∀ (P : List Nat) (n : Nat), minP n P = n ∨ minP n P ∈ P
  | [], n => by simp [minP]
  | p :: P, n => by
    show minP (min n p) P = n ∨ minP (min n p) P ∈ p :: P
    rcases minP_at P (min n p) with h | h
    · rw [h]
      rcases Nat.le_total n p with h1 | h1
      · left; omega
      · right; rw [Nat.min_eq_right h1]; simp
    · right; exact List.mem_cons_of_mem _ h

theorem fold_min_le : ∀ (l : List (Int × Int)) (n : Int), l.foldl (fun m p => min m p.1) n ≤ n ∧ ∀ p ∈ l, l.foldl (fun m p => min m p.1) n ≤ p.1
  | [], n => by simp
  | p :: l, n => by
    have h := fold_min_le l (min n p.1)
    refine ⟨by simp only [List.foldl_cons]; omega, fun q hq => ?_⟩
    simp only [List.foldl_cons]
    rcases List.mem_cons.1 hq with rfl | hq
    · omega
    · exact h.2 q hq
theorem fold_min_at : ∀ (l : List (Int × Int)) (n : Int), l.foldl (fun m p => min m p.1) n = n ∨ l.foldl (fun m p => min m p.1) n ∈ l.map Prod.fst
  | [], n => by simp
  | p :: l, n => by
    simp only [List.foldl_cons, List.map_cons]
    rcases fold_min_at l (min n p.1) with h | h
    · rw [h]
      rcases Int.le_total n p.1 with h1 | h1
      · left; omega
      · right; rw [Int.min_eq_right h1]; simp
    · right; exact List.mem_cons_of_mem _ h

theorem PinsAre.least {σ : StoreS} {P : List Nat} (h : PinsAre σ.pins P) : σ.least = (minP σ.now P : Int) := by
  unfold StoreS.least
  have a := fold_min_le σ.pins σ.now
  have b := fold_min_at σ.pins σ.now
  have c := minP_le P σ.now
  have d := minP_at P σ.now
  apply Int.le_antisymm
  · rcases d with d | d
    · rw [d]; exact a.1
    · have h1 : 0 < (P.map Int.ofNat).count (minP σ.now P : Int) := List.count_pos_iff.2 (List.mem_map.2 ⟨_, d, rfl⟩)
      have h2 := h.get (minP σ.now P)
      rcases hg : aget (minP σ.now P : Int) σ.pins with _ | v
      · rw [hg] at h2; simp only [Option.getD_none] at h2; omega
      · exact a.2 _ (aget_some_mem hg)
  · rcases b with b | b
    · rw [b]; exact_mod_cast c.1
    · have h1 := h.pos _ b
      obtain ⟨q, hq, e⟩ := List.mem_map.1 h1
      rw [← e]
      exact Int.ofNat_le.2 (c.2 q hq)

theorem beq_dec' (a b : ByteArray) : (a == b) = decide (a = b) := by
  show (a.data == b.data) = _
  by_cases h : a = b
  · subst h; simp
  · rw [decide_eq_false h, beq_eq_false_iff_ne]
    intro e; apply h; cases a; cases b; simp_all
instance : LawfulBEq ByteArray where
  eq_of_beq h := by rw [beq_dec'] at h; simpa using h
  rfl := by intro a; rw [beq_dec']; simp
/-- What a store is, told by all that was ever written: each key's versions, the stamps that are pinned, at which stamp it was cleaned last, a bound. -/
structure Abs where
  limit : Int
  now : Nat
  F : ByteArray → List Ver
  P : List Nat
  m : Nat
  c : Nat

structure Rep (σ : StoreS) (A : Abs) : Prop where
  lim : σ.limit = A.limit
  now : σ.now = A.now
  nodup : (σ.keys.map Prod.fst).Nodup
  vers : ∀ k, (aget k σ.keys).getD [] = cl A.m (A.F k)
  ris : ∀ k, Rising (A.F k)
  stm : ∀ k, ∀ x ∈ A.F k, 0 < x.stamp ∧ x.stamp ≤ A.now
  pins : PinsAre σ.pins A.P
  mP : ∀ p ∈ A.P, A.m ≤ p ∧ p ≤ A.now
  mN : A.m ≤ A.now
  cnt : σ.count ≤ A.c
  kln : σ.keys.length ≤ A.c
  ne : ∀ k, aget k σ.keys ≠ some []
  ksz : ∀ k ∈ σ.keys.map (·.1), k.size ≤ maxLen

/-- One write. -/
def wr1 (n : Nat) (F : ByteArray → List Ver) (x : Wr) : ByteArray → List Ver := fun k => if k = x.key then F k ++ [⟨x.val, x.gone, n⟩] else F k
def Abs.pin (A : Abs) : Abs := { A with P := A.now :: A.P }
def Abs.drop (A : Abs) (t : Nat) : Abs := { A with P := A.P.erase t }
def Abs.commit (A : Abs) (ws : List Wr) : Abs := { A with now := A.now + 1, F := ws.foldl (wr1 (A.now + 1)) A.F, c := A.c + ws.length }
def Abs.ended (A : Abs) (t : Nat) : Abs := { A with P := A.P.erase t, m := minP A.now (A.P.erase t) }
def Abs.new (limit : Int) : Abs := ⟨limit, 0, fun _ => [], [], 0, 0⟩

theorem Rep.new (limit : Int) : Rep ⟨limit, 0, [], []⟩ (Abs.new limit) where
  lim := rfl
  now := rfl
  nodup := by simp
  vers k := by simp [aget, Abs.new, cl_nil]
  ris k := by simp [Abs.new, Rising]
  stm k x h := by simp [Abs.new] at h
  pins := PinsAre.nil
  mP p h := by simp [Abs.new] at h
  mN := Nat.le_refl _
  cnt := by simp [StoreS.count]
  kln := by simp
  ne k := by simp [aget]
  ksz := by simp

theorem Rep.pin {σ : StoreS} {A : Abs} (h : Rep σ A) : Rep σ.pin A.pin where
  lim := h.lim
  now := h.now
  nodup := h.nodup
  vers := h.vers
  ris := h.ris
  stm := h.stm
  pins := by have := h.pins.pin σ.now; rw [h.now] at this; unfold StoreS.pin Abs.pin; rw [h.now]; exact this
  mP p hp := by
    rcases List.mem_cons.1 hp with rfl | hp
    · exact ⟨h.mN, Nat.le_refl _⟩
    · exact h.mP p hp
  mN := h.mN
  cnt := h.cnt
  kln := h.kln
  ne := h.ne
  ksz := h.ksz

theorem Rep.drop {σ : StoreS} {A : Abs} (h : Rep σ A) {t : Nat} (ht : t ∈ A.P) : Rep (σ.unpin t) (A.drop t) where
  lim := h.lim
  now := h.now
  nodup := h.nodup
  vers := h.vers
  ris := h.ris
  stm := h.stm
  pins := h.pins.unpin ht
  mP p hp := h.mP p (List.mem_of_mem_erase hp)
  mN := h.mN
  cnt := h.cnt
  kln := h.kln
  ne := h.ne
  ksz := h.ksz

theorem sum_aset' {V : Type} (f : V → Nat) (k : ByteArray) (v : V) : ∀ l : List (ByteArray × V), ((aset k v l).map fun p => f p.2).sum + ((aget k l).map f).getD 0 = (l.map fun p => f p.2).sum + f v
  | [] => by simp [aset, aget]
  | (j, u) :: l => by
    have ih := sum_aset' f k v l
    unfold aset aget
    by_cases h : k = j
    · simp [h]; omega
    · simp only [h, if_false, List.map_cons, List.sum_cons] at ih ⊢; omega

theorem count_write1 (σ : StoreS) (x : Wr) : (σ.write x).count = σ.count + 1 := by
  have := sum_aset' (fun l : List Ver => l.length) x.key ((aget x.key σ.keys).getD [] ++ [⟨x.val, x.gone, σ.now⟩]) σ.keys
  unfold StoreS.count StoreS.write
  rcases hg : aget x.key σ.keys with _ | v
  · simp [hg] at this ⊢; omega
  · simp [hg] at this ⊢; omega

/-- The parts of Rep that a write keeps. -/
theorem Rep.write1 {σ : StoreS} {A : Abs} (h : Rep σ A) (hm : A.m < A.now) (x : Wr) (hx : x.key.size ≤ maxLen) : Rep (σ.write x) { A with F := wr1 A.now A.F x, c := A.c + 1 } where
  lim := h.lim
  now := h.now
  nodup := nodup_aset h.nodup
  vers k := by
    show (aget k (aset x.key _ σ.keys)).getD [] = cl A.m (wr1 A.now A.F x k)
    unfold wr1
    by_cases e : k = x.key
    · subst e
      rw [aget_aset_self, h.vers, h.now]
      simp only [if_true, Option.getD_some]
      rw [cl_append (h.ris _)]
      intro y hy; simp at hy; subst hy; exact hm
    · rw [aget_aset_ne e, h.vers]; simp [e]
  ris k := by
    show Rising (wr1 A.now A.F x k)
    unfold wr1
    split
    · refine Rising.append.2 ⟨h.ris k, by simp [Rising], ?_⟩
      intro a ha b hb
      simp at hb; subst hb; exact (h.stm k a ha).2
    · exact h.ris k
  stm k y hy := by
    change y ∈ wr1 A.now A.F x k at hy
    unfold wr1 at hy
    split at hy
    · rcases List.mem_append.1 hy with hy | hy
      · exact h.stm k y hy
      · simp at hy; subst hy; exact ⟨by show 0 < A.now; omega, Nat.le_refl _⟩
    · exact h.stm k y hy
  pins := h.pins
  mP := h.mP
  mN := h.mN
  cnt := by rw [count_write1]; have := h.cnt; show _ ≤ A.c + 1; omega
  kln := by
    have h1 := h.kln
    have h2 := alen_aset x.key ((aget x.key σ.keys).getD [] ++ [⟨x.val, x.gone, σ.now⟩]) σ.keys
    show (aset x.key _ σ.keys).length ≤ A.c + 1
    omega
  ne k := by
    show aget k (aset x.key _ σ.keys) ≠ some []
    by_cases e : k = x.key
    · subst e; rw [aget_aset_self]; simp
    · rw [aget_aset_ne e]; exact h.ne k
  ksz k hk := by
    change k ∈ (aset x.key _ σ.keys).map (·.1) at hk
    have e := fst_aset x.key ((aget x.key σ.keys).getD [] ++ [⟨x.val, x.gone, σ.now⟩]) σ.keys
    rw [e] at hk
    split at hk
    · exact h.ksz k hk
    · rcases List.mem_append.1 hk with hk | hk
      · exact h.ksz k hk
      · simp at hk; subst hk; exact hx

theorem Rep.writes1 : ∀ (ws : List Wr) {σ : StoreS} {A : Abs}, (∀ x ∈ ws, x.key.size ≤ maxLen) → Rep σ A → A.m < A.now → Rep (ws.foldl StoreS.write σ) { A with F := ws.foldl (wr1 A.now) A.F, c := A.c + ws.length }
  | [], _, _, _, h, _ => h
  | x :: ws, σ, A, hz, h, hm => by
    have h2 := Rep.writes1 ws (fun y hy => hz y (List.mem_cons_of_mem _ hy)) (h.write1 hm x (hz x (by simp))) hm
    have e : A.c + 1 + ws.length = A.c + (x :: ws).length := by simp only [List.length_cons]; omega
    simp only [e] at h2
    exact h2

theorem Rep.commit {σ : StoreS} {A : Abs} (h : Rep σ A) (ws : List Wr) (hz : ∀ x ∈ ws, x.key.size ≤ maxLen) : Rep (σ.writes ws) (A.commit ws) := by
  have h0 : Rep { σ with now := σ.now + 1 } { A with now := A.now + 1 } :=
    { lim := h.lim, now := by show σ.now + 1 = A.now + 1; rw [h.now], nodup := h.nodup, vers := h.vers, ris := h.ris, stm := fun k x hx => ⟨(h.stm k x hx).1, Nat.le_succ_of_le (h.stm k x hx).2⟩, pins := h.pins,
      mP := fun p hp => ⟨(h.mP p hp).1, Nat.le_succ_of_le (h.mP p hp).2⟩, mN := Nat.le_succ_of_le h.mN, cnt := h.cnt, kln := h.kln, ne := h.ne, ksz := h.ksz }
  exact Rep.writes1 ws hz h0 (Nat.lt_succ_of_le h.mN)

theorem writes_pins : ∀ (ws : List Wr) (σ : StoreS), (ws.foldl StoreS.write σ).pins = σ.pins
  | [], _ => rfl
  | x :: ws, σ => by rw [List.foldl_cons, writes_pins ws]; rfl

theorem nodup_cleanAt {t : Nat} {k : ByteArray} {keys : List (ByteArray × List Ver)} (h : (keys.map Prod.fst).Nodup) : ((cleanAt t k keys).map Prod.fst).Nodup := by
  simp only [cleanAt]
  split
  · exact nodup_adel (nodup_aset h)
  · exact nodup_aset h

theorem get_cleanAt {t : Nat} {k j : ByteArray} {keys : List (ByteArray × List Ver)} (h : (keys.map Prod.fst).Nodup) :
    (aget j (cleanAt t k keys)).getD [] = if j = k then cl t ((aget k keys).getD []) else (aget j keys).getD [] := by
  simp only [cleanAt]
  split
  · rename_i h0
    by_cases e : j = k
    · subst e
      rw [aget_adel_self (nodup_aset h)]
      simp only [if_true, Option.getD_none]
      exact (List.eq_nil_of_length_eq_zero h0).symm
    · rw [aget_adel_ne e, aget_aset_ne e]; simp [e]
  · by_cases e : j = k
    · subst e
      rw [aget_aset_self]; simp [cl]
    · rw [aget_aset_ne e]; simp [e]

theorem nodup_cleanAll {t : Nat} : ∀ (ks : List ByteArray) {keys : List (ByteArray × List Ver)}, (keys.map Prod.fst).Nodup → ((cleanAll t ks keys).map Prod.fst).Nodup
  | [], _, h => h
  | _ :: ks, _, h => nodup_cleanAll ks (nodup_cleanAt h)

theorem get_cleanAll {t : Nat} : ∀ (ks : List ByteArray) {keys : List (ByteArray × List Ver)}, (keys.map Prod.fst).Nodup → ks.Nodup → ∀ j,
    (aget j (cleanAll t ks keys)).getD [] = if j ∈ ks then cl t ((aget j keys).getD []) else (aget j keys).getD []
  | [], _, _, _, j => by simp [cleanAll]
  | k :: ks, keys, h, hk, j => by
    rw [List.nodup_cons] at hk
    show (aget j (cleanAll t ks (cleanAt t k keys))).getD [] = _
    rw [get_cleanAll ks (nodup_cleanAt h) hk.2, get_cleanAt h]
    by_cases e : j = k
    · subst e; simp [hk.1]
    · simp [e]

theorem alen_cleanAt (t : Nat) (k : ByteArray) (keys : List (ByteArray × List Ver)) (h : k ∈ keys.map Prod.fst) : (cleanAt t k keys).length ≤ keys.length := by
  have e : (aset k (((aget k keys).getD []).drop (goneN ((aget k keys).getD []) t)) keys).length = keys.length := by
    have := congrArg List.length (fst_aset k (((aget k keys).getD []).drop (goneN ((aget k keys).getD []) t)) keys)
    rw [if_pos h] at this; simpa using this
  simp only [cleanAt]
  split
  · exact Nat.le_trans (alen_adel _ _) (Nat.le_of_eq e)
  · exact Nat.le_of_eq e

/-- The versions all together, counted over any keys that hold them all. -/
theorem sum_erase {l : List ByteArray} {k : ByteArray} (f : ByteArray → Nat) (h : k ∈ l) : (l.map f).sum = f k + ((l.erase k).map f).sum := by
  have := (List.perm_cons_erase h).map f
  simpa using this.sum_nat

theorem count_of : ∀ (keys : List (ByteArray × List Ver)) (ks : List ByteArray), (keys.map Prod.fst).Nodup → ks.Nodup → (∀ k ∈ keys.map Prod.fst, k ∈ ks) →
    (keys.map fun p => p.2.length).sum = (ks.map fun k => ((aget k keys).getD []).length).sum
  | [], ks, _, _, _ => by
    have : (ks.map fun k => ((aget k ([] : List (ByteArray × List Ver))).getD []).length).sum = 0 := by
      induction ks with
      | nil => rfl
      | cons a ks ih => simp_all [aget]
    simp [this]
  | (j, v) :: keys, ks, h, hk, hc => by
    rw [List.map_cons, List.nodup_cons] at h
    have hj : j ∈ ks := hc j (by simp)
    rw [sum_erase _ hj, List.map_cons, List.sum_cons]
    have h1 : aget j ((j, v) :: keys) = some v := by simp [aget]
    rw [h1]
    have h2 := count_of keys (ks.erase j) h.2 (hk.erase j) (by
      intro k hk2
      have : k ≠ j := by rintro rfl; exact h.1 hk2
      exact (List.mem_erase_of_ne this).2 (hc k (by simp at hk2 ⊢; right; exact hk2)))
    rw [h2]
    have h3 : ((ks.erase j).map fun k => ((aget k ((j, v) :: keys)).getD []).length) = ((ks.erase j).map fun k => ((aget k keys).getD []).length) := by
      apply List.map_congr_left
      intro k hk2
      have : k ≠ j := (hk.mem_erase_iff.1 hk2).1
      simp [aget, this]
    rw [h3]; rfl

theorem ne_cleanAt {t : Nat} {k : ByteArray} {keys : List (ByteArray × List Ver)} (hn : (keys.map Prod.fst).Nodup) (h : ∀ j, aget j keys ≠ some []) (j : ByteArray) : aget j (cleanAt t k keys) ≠ some [] := by
  simp only [cleanAt]
  split
  · by_cases e : j = k
    · subst e; rw [aget_adel_self (nodup_aset hn)]; simp
    · rw [aget_adel_ne e, aget_aset_ne e]; exact h j
  · rename_i h0
    by_cases e : j = k
    · subst e; rw [aget_aset_self]
      intro h1; injection h1 with h1; rw [h1] at h0; exact h0 rfl
    · rw [aget_aset_ne e]; exact h j

theorem ne_cleanAll {t : Nat} : ∀ (ks : List ByteArray) {keys : List (ByteArray × List Ver)}, (keys.map Prod.fst).Nodup → (∀ j, aget j keys ≠ some []) → ∀ j, aget j (cleanAll t ks keys) ≠ some []
  | [], _, _, h => h
  | _ :: ks, _, hn, h => ne_cleanAll ks (nodup_cleanAt hn) (ne_cleanAt hn h)

theorem aget_adel_le {k j : ByteArray} {keys : List (ByteArray × List Ver)} {v : List Ver} (hn : (keys.map Prod.fst).Nodup) (h : aget j (adel k keys) = some v) : aget j keys = some v := by
  by_cases e : j = k
  · subst e; rw [aget_adel_self hn] at h; cases h
  · rw [aget_adel_ne e] at h; exact h

theorem alen_le_of {keys keys' : List (ByteArray × List Ver)} (hn : (keys'.map Prod.fst).Nodup) (h : ∀ k, aget k keys' ≠ none → aget k keys ≠ none) : keys'.length ≤ keys.length := by
  have key : ∀ (l l' : List ByteArray), l'.Nodup → (∀ k ∈ l', k ∈ l) → l'.length ≤ l.length := by
    intro l l'
    induction l' generalizing l with
    | nil => simp
    | cons a l' ih =>
      intro hn hs
      rw [List.nodup_cons] at hn
      have ha : a ∈ l := hs a (by simp)
      have h1 := ih (l.erase a) hn.2 (fun k hk => (List.mem_erase_of_ne (by rintro rfl; exact hn.1 hk)).2 (hs k (by simp [hk])))
      have h2 : 0 < l.length := List.length_pos_of_mem ha
      rw [List.length_erase_of_mem ha] at h1
      simp only [List.length_cons]; omega
  have := key (keys.map Prod.fst) (keys'.map Prod.fst) hn (by
    intro k hk
    have h1 : aget k keys' ≠ none := fun e => (aget_none k keys').1 e hk
    have h2 := h k h1
    exact Classical.not_not.1 fun e => h2 ((aget_none k keys).2 e))
  simpa using this

theorem Rep.count {σ : StoreS} {A : Abs} (h : Rep σ A) {ks : List ByteArray} (hk : ks.Nodup) (hF : ∀ k, A.F k ≠ [] → k ∈ ks) : σ.count = (ks.map fun k => (cl A.m (A.F k)).length).sum := by
  unfold StoreS.count
  rw [count_of σ.keys ks h.nodup hk]
  · simp only [h.vers]
  · intro k hk2
    apply hF
    intro h0
    have h1 := h.vers k
    rw [h0, cl_nil] at h1
    rcases hg : aget k σ.keys with _ | v
    · exact (aget_none k σ.keys).1 hg hk2
    · rw [hg] at h1; simp at h1; subst h1; exact h.ne k hg

theorem ksum_aset' (k : ByteArray) (v : List Ver) (l : List (ByteArray × List Ver)) (h : v.length ≤ ((aget k l).getD []).length) : ((aset k v l).map fun p => p.2.length).sum ≤ (l.map fun p => p.2.length).sum := by
  have := sum_aset' (fun l : List Ver => l.length) k v l
  rcases hg : aget k l with _ | u
  · simp only [hg, Option.getD_none, List.length_nil, Option.map_none] at h this; omega
  · simp only [hg, Option.getD_some, Option.map_some] at h this; omega
theorem ksum_adel' (k : ByteArray) : ∀ l : List (ByteArray × List Ver), ((adel k l).map fun p => p.2.length).sum ≤ (l.map fun p => p.2.length).sum
  | [] => by simp [adel]
  | (j, u) :: l => by
    have ih := ksum_adel' k l
    unfold adel
    by_cases h : k = j
    · simp [h]
    · simp only [h, if_false, List.map_cons, List.sum_cons]; omega
theorem ksum_cleanAt' (t : Nat) (k : ByteArray) (l : List (ByteArray × List Ver)) : ((cleanAt t k l).map fun p => p.2.length).sum ≤ (l.map fun p => p.2.length).sum := by
  simp only [cleanAt]
  split
  · exact Nat.le_trans (ksum_adel' _ _) (ksum_aset' _ _ _ (by simp))
  · exact ksum_aset' _ _ _ (by simp)
theorem ksum_cleanAll' (t : Nat) : ∀ (ks : List ByteArray) (l : List (ByteArray × List Ver)), ((cleanAll t ks l).map fun p => p.2.length).sum ≤ (l.map fun p => p.2.length).sum
  | [], _ => Nat.le_refl _
  | k :: ks, l => Nat.le_trans (ksum_cleanAll' t ks (cleanAt t k l)) (ksum_cleanAt' t k l)

theorem Rep.ended {σ : StoreS} {A : Abs} (h : Rep σ A) {t : Nat} (ht : t ∈ A.P) {ks : List ByteArray} (hk : ks.Perm (σ.keys.map (·.1))) : Rep (σ.ended t ks) (A.ended t) := by
  have hd := h.drop ht
  have hl : (σ.unpin t).least.toNat = minP A.now (A.P.erase t) := by
    have := PinsAre.least hd.pins
    rw [this, hd.now]; rfl
  have hkn : ks.Nodup := hk.nodup_iff.2 h.nodup
  have hm : A.m ≤ minP A.now (A.P.erase t) := by
    rcases minP_at (A.P.erase t) A.now with e | e
    · rw [e]; exact h.mN
    · exact (hd.mP _ e).1
  have hv : ∀ j, (aget j (cleanAll (minP A.now (A.P.erase t)) ks σ.keys)).getD [] = cl (minP A.now (A.P.erase t)) (A.F j) := by
    intro j
    rw [get_cleanAll ks h.nodup hkn, h.vers, cl_cl hm (h.ris j)]
    split
    · rfl
    · rename_i hj
      have h1 : aget j σ.keys = none := (aget_none j σ.keys).2 fun e => hj (hk.mem_iff.2 e)
      have h2 := h.vers j
      rw [h1] at h2
      have h3 := cl_cl hm (h.ris j)
      rw [← h2] at h3 ⊢
      simpa [cl_nil] using h3
  refine { lim := h.lim, now := h.now, nodup := ?_, vers := ?_, ris := h.ris, stm := h.stm, pins := hd.pins, mP := ?_, mN := (minP_le _ _).1, cnt := ?_, kln := ?_, ne := ?_, ksz := ?_ }
  · show ((cleanAll _ ks σ.keys).map Prod.fst).Nodup
    exact nodup_cleanAll ks h.nodup
  · intro j
    show (aget j (cleanAll (σ.unpin t).least.toNat ks σ.keys)).getD [] = _
    rw [hl]; exact hv j
  · intro p hp
    exact ⟨(minP_le (A.P.erase t) A.now).2 p hp, (hd.mP p hp).2⟩
  · exact Nat.le_trans (ksum_cleanAll' _ ks σ.keys) h.cnt
  · refine Nat.le_trans (alen_le_of (nodup_cleanAll ks h.nodup) ?_) h.kln
    intro k hk1 hk2
    have h1 := h.vers k
    rw [hk2] at h1
    have h2 := hv k
    have h3 := cl_cl hm (h.ris k)
    rw [← h1] at h3
    rw [← h3] at h2
    change aget k (cleanAll (σ.unpin t).least.toNat ks σ.keys) ≠ none at hk1
    rw [hl] at hk1
    rcases hg : aget k (cleanAll (minP A.now (A.P.erase t)) ks σ.keys) with _ | v
    · exact hk1 hg
    · rw [hg] at h2
      simp [cl_nil] at h2
      subst h2
      exact ne_cleanAll ks h.nodup h.ne k hg
  · intro k
    show aget k (cleanAll _ ks σ.keys) ≠ some []
    exact ne_cleanAll ks h.nodup h.ne k
  · intro k hk1
    change k ∈ (cleanAll (σ.unpin t).least.toNat ks σ.keys).map (·.1) at hk1
    apply h.ksz
    refine Classical.not_not.1 fun hk2 => ?_
    have h0 : aget k σ.keys = none := (aget_none k σ.keys).2 hk2
    have h1 := h.vers k
    rw [h0] at h1
    have h2 := hv k
    have h3 := cl_cl hm (h.ris k)
    rw [← h1] at h3
    rw [← h3] at h2
    rw [hl] at hk1
    rcases hg : aget k (cleanAll (minP A.now (A.P.erase t)) ks σ.keys) with _ | v
    · exact (aget_none k _).1 hg hk1
    · rw [hg] at h2
      simp [cl_nil] at h2
      subst h2
      exact ne_cleanAll ks h.nodup h.ne k hg

theorem Rep.least {σ : StoreS} {A : Abs} (h : Rep σ A) {t : Nat} (ht : t ∈ A.P) : 0 ≤ (σ.unpin t).least := by
  rw [PinsAre.least (h.drop ht).pins]; exact Int.natCast_nonneg _

theorem Rep.pinned {σ : StoreS} {A : Abs} (h : Rep σ A) (t : Int) : 0 ≤ (aget t σ.pins).getD 0 ∧ (aget t σ.pins).getD 0 ≤ A.P.length := by
  rw [h.pins.get]
  have := List.count_le_length (a := t) (l := A.P.map Int.ofNat)
  simp only [List.length_map] at this
  omega

/-- What a key was at a stamp, as a value and whether it was there. -/
def Abs.at_ (A : Abs) (k : ByteArray) (t : Nat) : ByteArray × Bool := ((readV (A.F k) t).getD ⟨#[]⟩, (readV (A.F k) t).isSome)
theorem Rep.at_ {σ : StoreS} {A : Abs} (h : Rep σ A) (k : ByteArray) {t : Nat} (ht : A.m ≤ t) : σ.at_ k t = A.at_ k t := by
  unfold StoreS.at_ Abs.at_
  rw [h.vers, readV_cl ht (h.ris k)]
def Abs.changed (A : Abs) (τ : TryS) : Bool := τ.got.any fun p => changedS (A.F p.1) τ.stamp
theorem Rep.changed {σ : StoreS} {A : Abs} (h : Rep σ A) {τ : TryS} (ht : A.m ≤ τ.stamp) : changedT σ τ = A.changed τ := by
  unfold changedT Abs.changed
  congr 1; funext p
  rw [h.vers, changed_cl ht (h.ris _)]

end Go.Proofs.YtnjgddckejpddaaGreatDoor
