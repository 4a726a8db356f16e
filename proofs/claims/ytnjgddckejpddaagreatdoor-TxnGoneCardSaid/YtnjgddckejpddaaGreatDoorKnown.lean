/-
  The chapter's example, and a fragment that is put: known.
-/
import Derived.Test.YtnjgddckejpddaaGreatDoorLaw0
namespace Go.Proofs.YtnjgddckejpddaaGreatDoor
open Go.RowKit Go.Proofs.YtnjgddckejpddaaGreatDoor.Sep

/-- The example's request. -/
def reqX : Req := ⟨1, ⟨#[109]⟩, ⟨#[120]⟩, 0⟩

theorem small_new (n : Int) : Small (Abs.new n) where
  c := Nat.zero_le _
  now := Nat.zero_le _
  P := Nat.zero_le _
  val k x h := by simp [Abs.new] at h

theorem new_at (n : Int) (k : ByteArray) (t : Nat) : (Abs.new n).at_ k t = (⟨#[]⟩, false) := by
  unfold Abs.at_ Abs.new
  have : readV [] t = none := by simp [readV, newestI, nwst]
  rw [this]; rfl

/-- What a first fragment writes. -/
def putWs (x t : ByteArray) : List Wr := [⟨⟨#[102]⟩ ++ x, t, false⟩, ⟨⟨#[100]⟩, x ++ ⟨#[10]⟩, false⟩]
theorem setOk_new {x t : ByteArray} {ws : List Wr} {ec : Int} (h : SetOk [] x ⟨#[100]⟩ ⟨#[102]⟩ t 8 ws ec) : ws = putWs x t ∧ ec = 0 := by
  unfold SetOk at h
  rw [if_neg (by simp [hasB]), if_neg (by simp)] at h
  obtain ⟨l', hw, rfl, rfl⟩ := h
  have := withOk_nil hw
  subst this
  refine ⟨?_, rfl⟩
  unfold putWs join join
  have : x ++ ⟨#[10]⟩ ++ (⟨#[]⟩ : ByteArray) = x ++ ⟨#[10]⟩ := ByteArray.append_empty
  rw [this]

theorem changed_at {A : Abs} {τ : TryS} (hF : ∀ p ∈ τ.got, changedS (A.F p.1) τ.stamp = false) : A.changed τ = false := by
  unfold Abs.changed
  rw [List.any_eq_false]
  intro p hp
  simp [hF p hp]

/-- Only the keys of the writes. -/
theorem foldl_wr_other (n : Nat) (k : ByteArray) : ∀ (ws : List Wr) (F : ByteArray → List Ver), (∀ x ∈ ws, x.key ≠ k) → (ws.foldl (wr1 n) F) k = F k
  | [], _, _ => rfl
  | x :: ws, F, h => by
    rw [List.foldl_cons, foldl_wr_other n k ws _ (fun y hy => h y (List.mem_cons_of_mem _ hy))]
    unfold wr1
    rw [if_neg (fun e => h x (by simp) e.symm)]

/-- The state behind a first fragment's two Steps. -/
def firstA (n : Int) (x t : ByteArray) : Abs := (((Abs.new n).pin).commit (putWs x t)).ended 0
/-- A fragment that is put. -/
abbrev putR (x t : ByteArray) : Req := ⟨1, x, t, 0⟩
def tauD (at_ : Nat) (d : ByteArray × Bool) : TryS := ⟨at_, [], [(⟨#[100]⟩, d)]⟩

theorem firstA_F (n : Int) (x t : ByteArray) (hx : (⟨#[102]⟩ ++ x : ByteArray) ≠ ⟨#[100]⟩) :
    (firstA n x t).F (⟨#[102]⟩ ++ x) = [⟨t, false, 1⟩] ∧ (firstA n x t).F ⟨#[100]⟩ = [⟨x ++ ⟨#[10]⟩, false, 1⟩] ∧ ∀ k, k ≠ ⟨#[102]⟩ ++ x → k ≠ ⟨#[100]⟩ → (firstA n x t).F k = [] := by
  have hF : (firstA n x t).F = (putWs x t).foldl (wr1 1) fun _ => [] := rfl
  rw [hF]
  refine ⟨?_, ?_, fun k h1 h2 => ?_⟩
  · simp only [putWs, List.foldl_cons, List.foldl_nil, wr1]
    simp [hx]
  · simp only [putWs, List.foldl_cons, List.foldl_nil, wr1]
    simp [hx.symm]
  · apply foldl_wr_other
    intro y hy
    simp only [putWs, List.mem_cons, List.not_mem_nil, or_false] at hy
    rcases hy with rfl | rfl
    · exact fun e => h1 e.symm
    · exact fun e => h2 e.symm

theorem f_ne_d (x : ByteArray) : (⟨#[102]⟩ ++ x : ByteArray) ≠ ⟨#[100]⟩ := by
  intro e
  have := congrArg (fun b : ByteArray => b.data.toList.head?) e
  simp at this

theorem firstA_count {n : Int} {x t : ByteArray} {σ : StoreS} (h : Rep σ (firstA n x t)) : σ.count = 2 := by
  obtain ⟨h1, h2, h3⟩ := firstA_F n x t (f_ne_d x)
  have hm : (firstA n x t).m = 1 := rfl
  have := h.count (ks := [⟨#[102]⟩ ++ x, ⟨#[100]⟩]) (by simp [f_ne_d]) (by
    intro k hk
    by_cases e1 : k = ⟨#[102]⟩ ++ x
    · simp [e1]
    · by_cases e2 : k = ⟨#[100]⟩
      · simp [e2]
      · exact absurd (h3 k e1 e2) hk)
  rw [this]
  simp only [List.map_cons, List.map_nil, h1, h2, hm]
  rfl

theorem small_first (n : Int) (x t : ByteArray) (h : t.size ≤ 100000 ∧ x.size ≤ 100000) : Small (firstA n x t) where
  c := by show 0 + (putWs x t).length ≤ _; have : (putWs x t).length = 2 := rfl; omega
  now := by show 0 + 1 ≤ _; omega
  P := Nat.zero_le _
  val k y hy := by
    obtain ⟨h1, h2, h3⟩ := firstA_F n x t (f_ne_d x)
    by_cases e1 : k = ⟨#[102]⟩ ++ x
    · subst e1; rw [h1] at hy; simp at hy; subst hy; show t.size ≤ _; omega
    · by_cases e2 : k = ⟨#[100]⟩
      · subst e2; rw [h2] at hy; simp at hy; subst hy
        have h4 : (⟨#[10]⟩ : ByteArray).size = 1 := rfl
        show (x ++ ⟨#[10]⟩ : ByteArray).size ≤ _
        rw [ByteArray.size_append]; omega
      · rw [h3 k e1 e2] at hy; cases hy

section first
variable {s : Out} {w : World} {tb bs bb : Nat} {x t : ByteArray} {n : Int} {R : Hp}
theorem stepX1 (h : Sat s w (TxnIdle tb bs bb (putR x t) 0 false * (StoreB bs (Abs.new n) * R))) (hr : rightB (putR x t) = true) (hx : x.size ≤ 100000) (ht : t.size ≤ 100000) :
    Calls Tryz.prog 13 #[.pointer (some ⟨tb, 0, none⟩)] w fun e w' => e = .returned (.tuple #[(doneE 0).val, .bool false]) ∧ Sat s w' (TxnTry tb bs bb (putR x t) 1 (tauD 0 (⟨#[]⟩, false)) * (StoreB bs (Abs.new n).pin * R)) := by
  refine (stepA_first libS h (by show (1 : Int) ≠ 7; decide) (small_new n) (by decide) hr (by show x.size ≤ _; omega) (by show t.size ≤ _; omega)).mono ?_
  rintro e w' ⟨rfl, h'⟩
  refine ⟨rfl, ?_⟩
  have hk : firstKey (putR x t) = ⟨#[100]⟩ := rfl
  have hmk : ∀ τ k, moreKeys (putR x t) τ k = [] := fun τ k => by
    unfold moreKeys; rw [if_neg (by rintro ⟨h, _⟩; exact absurd h (by show ¬ ((1 : Int) = 3); decide))]
  rw [hmk, hk, new_at] at h'
  exact h'

theorem stepX2 (h : Sat s w (TxnTry tb bs bb (putR x t) 1 (tauD 0 (⟨#[]⟩, false)) * (StoreB bs (Abs.new n).pin * R))) (hr : rightB (putR x t) = true) (hx : x.size ≤ 100000) (ht : t.size ≤ 100000) (hn : 2 ≤ n) :
    Calls Tryz.prog 13 #[.pointer (some ⟨tb, 0, none⟩)] w fun e w' => e = .returned (.tuple #[({ doneE 0 with stamp := 1, wrote := true } : DoneS).val, .bool true]) ∧ Sat s w' (TxnIdle tb bs bb (putR x t) 1 true * (StoreB bs (firstA n x t) * R)) := by
  have hpd : parts ((tauD 0 (⟨#[]⟩, false)).val ⟨#[100]⟩).1 = [] := by decide
  have hs : ((tauD 0 (⟨#[]⟩, false)).val ⟨#[100]⟩).1.size ≤ 900000 := by decide
  have hw := writesPut_spec libS (tb := tb) (bs := bs) (bb := bb) (r := putR x t) (tries := 1) (τ := tauD 0 (⟨#[]⟩, false)) rfl hs hx
  rw [hpd] at hw
  refine (stepA_ok libS h (.inl rfl) hw rfl { small_new n with P := by show 1 ≤ 100000000; decide } (by show 0 ∈ [0]; simp) hr (by show x.size ≤ _; omega) (by show t.size ≤ _; omega) ?_ ?_ ?_).mono ?_
  · apply changed_at
    intro p hp
    rfl
  · intro σ hσ ws ec hw
    obtain ⟨rfl, rfl⟩ : ws = putWs x t ∧ ec = 0 := setOk_new hw
    have hc : σ.count ≤ 0 := hσ.cnt
    have h2 : (putWs x t).length = 2 := rfl
    have hl : (Abs.new n).pin.limit = n := rfl
    show 0 = (0 : Int) ∧ 1 ≤ (putWs x t).length ∧ (putWs x t).length ≤ 10 ∧ _
    rw [hl, h2]
    refine ⟨rfl, by decide, by decide, by omega⟩
  · intro ws ec hw y hy
    obtain ⟨rfl, rfl⟩ : ws = putWs x t ∧ ec = 0 := setOk_new hw
    change y ∈ putWs x t at hy
    simp only [putWs, List.mem_cons, List.not_mem_nil, or_false] at hy
    have h1 : (⟨#[102]⟩ : ByteArray).size = 1 := rfl
    have h3 : (⟨#[100]⟩ : ByteArray).size = 1 := rfl
    unfold maxLen
    rcases hy with rfl | rfl
    · show (⟨#[102]⟩ ++ x : ByteArray).size ≤ _
      rw [ByteArray.size_append]; omega
    · show (⟨#[100]⟩ : ByteArray).size ≤ _
      omega
  · rintro e w' ⟨ws, hw, rfl, h'⟩
    obtain ⟨rfl, _⟩ : ws = putWs x t ∧ _ := setOk_new hw
    exact ⟨rfl, h'⟩
end first

end Go.Proofs.YtnjgddckejpddaaGreatDoor
