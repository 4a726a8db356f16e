/-
  Two requests that put one fragment, that is there: what their Steps do.
-/
import Derived.Test.YtnjgddckejpddaaGreatDoorFinish
namespace Go.Proofs.YtnjgddckejpddaaGreatDoor
open Go.RowKit Go.Proofs.YtnjgddckejpddaaGreatDoor.Sep

/-- How far a request has come that puts a fragment that is there. -/
inductive TSt where
  | idle
  | run (s : Nat)
  | over

def TSt.hp (tb bs bb : Nat) (r : Req) : TSt → Hp
  | .idle => TxnIdle tb bs bb r 0 false
  | .run s => TxnTry tb bs bb r 1 (tauD s (⟨#[109, 10]⟩, true))
  | .over => TxnIdle tb bs bb r 1 true
def TSt.stamps : TSt → List Nat
  | .run s => [s]
  | _ => []
def TSt.cnt : TSt → Nat
  | .idle => 0
  | .run _ => 1
  | .over => 2

abbrev kM : ByteArray := ⟨#[109]⟩
abbrev kD : ByteArray := ⟨#[100]⟩
abbrev kFM : ByteArray := ⟨#[102, 109]⟩

/-- What the store is while fragment m is there, and its text v. -/
structure BInv (A : Abs) (P : List Nat) (v : ByteArray) : Prop where
  d : A.F kD = [⟨⟨#[109, 10]⟩, false, 1⟩]
  f : ∃ pre st, A.F kFM = pre ++ [⟨v, false, st⟩]
  lim : A.limit = 1000
  c : A.c ≤ 10
  now : 1 ≤ A.now ∧ A.now ≤ 10
  P : A.P.Perm P
  st : ∀ s ∈ A.P, 1 ≤ s
  small : Small A

theorem readV_last {pre : List Ver} {x : Ver} {t : Nat} (hr : Rising (pre ++ [x])) (hx : x.stamp ≤ t) (hg : x.gone = false) : readV (pre ++ [x]) t = some x.val := by
  have hp : ∀ y ∈ pre ++ [x], y.stamp ≤ t := by
    intro y hy
    rcases List.mem_append.1 hy with hy | hy
    · exact Nat.le_trans ((Rising.append.1 hr).2.2 y hy x (by simp)) hx
    · simp at hy; subst hy; exact hx
  have := readV_split (q := []) hp (by simp)
  rw [List.append_nil] at this
  rw [this]
  simp [base, List.getLast?_append, hg]

theorem d_at {A : Abs} (hd : A.F kD = [⟨⟨#[109, 10]⟩, false, 1⟩]) {t : Nat} (ht : 1 ≤ t) : A.at_ kD t = (⟨#[109, 10]⟩, true) := by
  unfold Abs.at_
  rw [hd]
  have := readV_last (pre := []) (x := ⟨⟨#[109, 10]⟩, false, 1⟩) (t := t) (by simp [Rising]) ht rfl
  rw [List.nil_append] at this
  rw [this]; rfl

theorem parts_m : parts ⟨#[109, 10]⟩ = [kM] := by decide

theorem setOk_there {t : ByteArray} {ws : List Wr} {ec : Int} (h : SetOk [kM] kM ⟨#[100]⟩ ⟨#[102]⟩ t 8 ws ec) : ws = [⟨kFM, t, false⟩] ∧ ec = 0 := by
  unfold SetOk at h
  rw [if_pos (by decide)] at h
  exact h

theorem d_changed {A : Abs} (hd : A.F kD = [⟨⟨#[109, 10]⟩, false, 1⟩]) {s : Nat} (hs : 1 ≤ s) (x : ByteArray × Bool) : A.changed (tauD s x) = false := by
  apply changed_at
  intro p hp
  have : p.1 = kD := by
    have : p = (kD, x) := by simpa [tauD] using hp
    rw [this]
  rw [this, hd]
  show (decide (0 < 1) && decide (s < stampAt [⟨⟨#[109, 10]⟩, false, 1⟩] 0)) = false
  have : stampAt [⟨⟨#[109, 10]⟩, false, 1⟩] 0 = 1 := rfl
  rw [this]
  simp; omega

/-- The store behind a text that is put. -/
theorem BInv.put {A : Abs} {P : List Nat} {v t : ByteArray} (h : BInv A P v) (hr : ∀ k, Rising (A.F k)) {s : Nat} (ht : t.size ≤ 900000) (hc : A.c ≤ 9) (hn : A.now ≤ 9) :
    BInv ((A.commit [⟨kFM, t, false⟩]).ended s) (P.erase s) t where
  d := by
    show ([⟨kFM, t, false⟩].foldl (wr1 (A.now + 1)) A.F) kD = _
    rw [foldl_wr_other _ _ _ _ (by intro x hx; simp at hx; subst hx; show kFM ≠ kD; decide)]
    exact h.d
  f := by
    refine ⟨A.F kFM, A.now + 1, ?_⟩
    show wr1 (A.now + 1) A.F ⟨kFM, t, false⟩ kFM = _
    unfold wr1
    rw [if_pos rfl]
  lim := h.lim
  c := by show A.c + 1 ≤ 10; omega
  now := by show 1 ≤ A.now + 1 ∧ A.now + 1 ≤ 10; omega
  P := h.P.erase s
  st x hx := h.st x (List.mem_of_mem_erase hx)
  small :=
    { c := by show A.c + 1 ≤ _; omega
      now := by show A.now + 1 ≤ _; omega
      P := Nat.le_trans List.length_erase_le h.small.P
      val := by
        intro k x hx
        change x ∈ wr1 (A.now + 1) A.F ⟨kFM, t, false⟩ k at hx
        unfold wr1 at hx
        split at hx
        · rcases List.mem_append.1 hx with hx | hx
          · exact h.small.val k x hx
          · simp at hx; subst hx; exact ht
        · exact h.small.val k x hx }

theorem BInv.pin {A : Abs} {P : List Nat} {v : ByteArray} (h : BInv A P v) (hP : P.length ≤ 5) : BInv A.pin (A.now :: P) v where
  d := h.d
  f := h.f
  lim := h.lim
  c := h.c
  now := h.now
  P := h.P.cons _
  st s hs := by
    rcases List.mem_cons.1 hs with rfl | hs
    · exact h.now.1
    · exact h.st s hs
  small := { h.small with P := by have := h.P.length_eq; show (A.now :: A.P).length ≤ _; simp only [List.length_cons]; omega }

section step
variable {s : Out} {w : World} {tb bs bb : Nat} {t : ByteArray} {A : Abs} {P : List Nat} {v : ByteArray} {R : Hp}

theorem rightM (t : ByteArray) (ht : t.size ≤ 600) : rightB (putR kM t) = true := by
  have hw : wordB kM = true := by decide
  unfold rightB
  rw [if_neg (by show ¬ ((1 : Int) < 1 ∨ (7 : Int) < 1); omega), if_neg (by show ¬ ((1 : Int) = 7); omega)]
  show (wordB kM && decide (t.size ≤ 600) && (decide (t.size = 0) || decide ((1 : Int) = 1) || decide ((1 : Int) = 3)) && decide (-1099511627776 ≤ (0 : Int)) && decide ((0 : Int) ≤ 1099511627776) && (decide ((0 : Int) = 0) || decide ((1 : Int) = 5))) = true
  rw [hw]; simp [ht]

theorem stepB_idle (h : Sat s w (TSt.idle.hp tb bs bb (putR kM t) * (StoreB bs A * R))) (hA : BInv A P v) (hP : P.length ≤ 5) (ht : t.size ≤ 600) :
    Calls Tryz.prog 13 #[.pointer (some ⟨tb, 0, none⟩)] w fun e w' => e = .returned (.tuple #[(doneE 0).val, .bool false]) ∧ Sat s w' ((TSt.run A.now).hp tb bs bb (putR kM t) * (StoreB bs A.pin * R)) := by
  refine (stepA_first libS h (by show (1 : Int) ≠ 7; decide) hA.small (by decide) (rightM t ht) (by show (1 : Nat) ≤ _; decide) (by show t.size ≤ _; omega)).mono ?_
  rintro e w' ⟨rfl, h'⟩
  refine ⟨rfl, ?_⟩
  have hk : firstKey (putR kM t) = kD := rfl
  have hmk : ∀ τ k, moreKeys (putR kM t) τ k = [] := fun τ k => by
    unfold moreKeys; rw [if_neg (by rintro ⟨h, _⟩; exact absurd h (by show ¬ ((1 : Int) = 3); decide))]
  rw [hmk, hk, d_at hA.d hA.now.1] at h'
  exact h'

theorem stepB_run {q : Nat} (h : Sat s w ((TSt.run q).hp tb bs bb (putR kM t) * (StoreB bs A * R))) (hA : BInv A P v) (hq : q ∈ P) (ht : t.size ≤ 600) :
    Calls Tryz.prog 13 #[.pointer (some ⟨tb, 0, none⟩)] w fun e w' => e = .returned (.tuple #[({ doneE 0 with stamp := (A.now : Int) + 1, wrote := true } : DoneS).val, .bool true]) ∧
      Sat s w' (TSt.over.hp tb bs bb (putR kM t) * (StoreB bs ((A.commit [⟨kFM, t, false⟩]).ended q) * R)) := by
  have hqA : q ∈ A.P := hA.P.mem_iff.2 hq
  have hpd : parts ((tauD q (⟨#[109, 10]⟩, true)).val kD).1 = [kM] := parts_m
  have hs : ((tauD q (⟨#[109, 10]⟩, true)).val kD).1.size ≤ 900000 := by show (2 : Nat) ≤ _; decide
  have hw := writesPut_spec libS (tb := tb) (bs := bs) (bb := bb) (r := putR kM t) (tries := 1) (τ := tauD q (⟨#[109, 10]⟩, true)) rfl hs (by show (1 : Nat) ≤ _; decide)
  rw [hpd] at hw
  refine (stepA_ok libS h (.inl rfl) hw rfl hA.small hqA (rightM t ht) (by show (1 : Nat) ≤ _; decide) (by show t.size ≤ _; omega) (d_changed hA.d (hA.st q hqA) _) ?_ ?_).mono ?_
  · intro σ hσ ws ec hw
    obtain ⟨rfl, rfl⟩ : ws = [⟨kFM, t, false⟩] ∧ ec = 0 := setOk_there hw
    have hc := hσ.cnt
    have hc2 := hA.c
    rw [hA.lim]
    refine ⟨rfl, by show 1 ≤ 1; decide, by show 1 ≤ 10; decide, ?_⟩
    show (σ.count : Int) + (1 : Nat) ≤ 1000
    omega
  · intro ws ec hw y hy
    obtain ⟨rfl, rfl⟩ : ws = [⟨kFM, t, false⟩] ∧ ec = 0 := setOk_there hw
    simp at hy; subst hy
    show (2 : Nat) ≤ maxLen
    decide
  · rintro e w' ⟨ws, hw, rfl, h'⟩
    obtain ⟨rfl, _⟩ : ws = [⟨kFM, t, false⟩] ∧ _ := setOk_there hw
    exact ⟨rfl, h'⟩

theorem stepB_over (h : Sat s w (TSt.over.hp tb bs bb (putR kM t) * R)) :
    Calls Tryz.prog 13 #[.pointer (some ⟨tb, 0, none⟩)] w fun e w' => e = .returned (.tuple #[(doneE 0).val, .bool false]) ∧ Sat s w' (TSt.over.hp tb bs bb (putR kM t) * R) := Step_over h
end step

/-- The store behind a first fragment m. -/
theorem BInv.first {t : ByteArray} (ht : t.size ≤ 600) : BInv (firstA 1000 kM t) [] t where
  d := (firstA_F 1000 kM t (f_ne_d kM)).2.1
  f := ⟨[], 1, (firstA_F 1000 kM t (f_ne_d kM)).1⟩
  lim := rfl
  c := by show 0 + 2 ≤ 10; decide
  now := by show 1 ≤ 0 + 1 ∧ 0 + 1 ≤ 10; decide
  P := List.Perm.refl _
  st s hs := by cases hs
  small := small_first 1000 kM t ⟨by omega, by show (1 : Nat) ≤ _; decide⟩

def TSt.dn : TSt → Nat
  | .over => 1
  | _ => 0

/-- Two such requests, the store, the text that counts, whose it is. -/
structure BSt where
  A : Abs
  x : TSt
  y : TSt
  v : ByteArray
  lk : Nat

def BSt.hp (bs bb t0 t1 : Nat) (a b : ByteArray) (S : BSt) : Hp := S.x.hp t0 bs bb (putR kM a) * (S.y.hp t1 bs bb (putR kM b) * StoreB bs S.A)

structure BOk (a b : ByteArray) (S : BSt) (n : Nat) : Prop where
  inv : BInv S.A (S.x.stamps ++ S.y.stamps) S.v
  c : S.A.c ≤ 2 + (S.x.dn + S.y.dn)
  now : S.A.now ≤ 1 + (S.x.dn + S.y.dn)
  lk : S.lk = 0 ∨ S.lk = 1
  hv : 1 ≤ S.x.dn + S.y.dn → S.v = if S.lk = 0 then a else b
  px : min 2 ((n - 8 + 1) / 2) ≤ S.x.cnt
  py : min 2 ((n - 8) / 2) ≤ S.y.cnt

theorem s_idle : TSt.idle.stamps = [] := rfl
theorem s_run (q : Nat) : (TSt.run q).stamps = [q] := rfl
theorem s_over : TSt.over.stamps = [] := rfl
theorem n_idle : TSt.idle.dn = 0 := rfl
theorem n_run (q : Nat) : (TSt.run q).dn = 0 := rfl
theorem n_over : TSt.over.dn = 1 := rfl
theorem c_idle : TSt.idle.cnt = 0 := rfl
theorem c_run (q : Nat) : (TSt.run q).cnt = 1 := rfl
theorem c_over : TSt.over.cnt = 2 := rfl
theorem TSt.stamps_len (x : TSt) : x.stamps.length ≤ 1 := by cases x <;> simp [TSt.stamps]
theorem TSt.dn_le (x : TSt) : x.dn ≤ 1 := by cases x <;> simp [TSt.dn]
theorem TSt.cnt_le (x : TSt) : x.cnt ≤ 2 := by cases x <;> simp [TSt.cnt]

/-- A Step of the first one. -/
theorem blind_step0 {s : Out} {w : World} {bs bb t0 t1 : Nat} {a b : ByteArray} {S : BSt} {n : Nat} {R : Hp} (h : Sat s w (S.hp bs bb t0 t1 a b * R)) (hS : BOk a b S n) (hn : n < 8 ∨ n % 2 = 0) (ha : a.size ≤ 600) :
    Calls Tryz.prog 13 #[.pointer (some ⟨t0, 0, none⟩)] w fun e w' => ∃ (S' : BSt) (d : DoneS) (is : Bool), e = .returned (.tuple #[d.val, .bool is]) ∧ BOk a b S' (n + 1) ∧ Sat s w' (S'.hp bs bb t0 t1 a b * R) ∧
      ((is = false ∧ S'.x.dn + S'.y.dn = S.x.dn + S.y.dn ∧ S'.lk = S.lk) ∨ (is = true ∧ S'.x.dn + S'.y.dn = S.x.dn + S.y.dn + 1 ∧ d.e = 0 ∧ d.wrote = true ∧ S'.x = .over ∧ S'.lk = 0)) := by
  obtain ⟨A, x, y, v, lk⟩ := S
  obtain ⟨hi, hc, hnw, hlk, hv, hpx, hpy⟩ := hS
  dsimp only at hi hc hnw hlk hv hpx hpy
  unfold BSt.hp at h
  dsimp only at h
  have hy := y.dn_le
  have hyl := y.stamps_len
  cases x with
  | idle =>
    rw [show TSt.idle.hp t0 bs bb (putR kM a) * (y.hp t1 bs bb (putR kM b) * StoreB bs A) * R = TSt.idle.hp t0 bs bb (putR kM a) * (StoreB bs A * (y.hp t1 bs bb (putR kM b) * R)) by ac_rfl] at h
    refine (stepB_idle h hi (by simp only [s_idle, List.nil_append]; omega) ha).mono ?_
    rintro e w' ⟨rfl, h'⟩
    refine ⟨⟨A.pin, .run A.now, y, v, lk⟩, doneE 0, false, rfl, ?_, ?_, .inl ⟨rfl, rfl, rfl⟩⟩
    · refine ⟨?_, hc, hnw, hlk, hv, ?_, ?_⟩
      · exact hi.pin (by simp only [s_idle, List.nil_append]; omega)
      · simp only [c_idle, c_run, c_over] at hpx ⊢; omega
      · dsimp only; omega
    · unfold BSt.hp
      dsimp only
      rw [show (TSt.run A.now).hp t0 bs bb (putR kM a) * (y.hp t1 bs bb (putR kM b) * StoreB bs A.pin) * R = (TSt.run A.now).hp t0 bs bb (putR kM a) * (StoreB bs A.pin * (y.hp t1 bs bb (putR kM b) * R)) by ac_rfl]
      exact h'
  | run q =>
    rw [show (TSt.run q).hp t0 bs bb (putR kM a) * (y.hp t1 bs bb (putR kM b) * StoreB bs A) * R = (TSt.run q).hp t0 bs bb (putR kM a) * (StoreB bs A * (y.hp t1 bs bb (putR kM b) * R)) by ac_rfl] at h
    obtain ⟨σ, hσ, _⟩ := StoreB.open2 h
    refine (stepB_run h hi (by simp [s_run, s_over]) ha).mono ?_
    rintro e w' ⟨rfl, h'⟩
    have hi2 := hi.put (t := a) (s := q) hσ.ris (by omega) (by simp only [n_idle, n_run, n_over] at hc; omega) (by simp only [n_idle, n_run, n_over] at hnw; omega)
    refine ⟨⟨(A.commit [⟨kFM, a, false⟩]).ended q, .over, y, a, 0⟩, _, true, rfl, ?_, ?_, .inr ⟨rfl, ?_, rfl, rfl, rfl, rfl⟩⟩
    · refine ⟨?_, ?_, ?_, .inl rfl, fun _ => rfl, ?_, ?_⟩
      · have : ((TSt.run q).stamps ++ y.stamps).erase q = TSt.over.stamps ++ y.stamps := by simp [s_run, s_over]
        rw [this] at hi2; exact hi2
      · show A.c + 1 ≤ 2 + (1 + y.dn); simp only [n_idle, n_run, n_over] at hc; omega
      · show A.now + 1 ≤ 1 + (1 + y.dn); simp only [n_idle, n_run, n_over] at hnw; omega
      · simp only [c_idle, c_run, c_over] at hpx ⊢; omega
      · dsimp only; omega
    · unfold BSt.hp
      dsimp only
      rw [show TSt.over.hp t0 bs bb (putR kM a) * (y.hp t1 bs bb (putR kM b) * StoreB bs ((A.commit [⟨kFM, a, false⟩]).ended q)) * R = TSt.over.hp t0 bs bb (putR kM a) * (StoreB bs ((A.commit [⟨kFM, a, false⟩]).ended q) * (y.hp t1 bs bb (putR kM b) * R)) by ac_rfl]
      exact h'
    · simp only [n_idle, n_run, n_over]; omega
  | over =>
    rw [show TSt.over.hp t0 bs bb (putR kM a) * (y.hp t1 bs bb (putR kM b) * StoreB bs A) * R = TSt.over.hp t0 bs bb (putR kM a) * (y.hp t1 bs bb (putR kM b) * StoreB bs A * R) by ac_rfl] at h
    refine (stepB_over h).mono ?_
    rintro e w' ⟨rfl, h'⟩
    refine ⟨⟨A, .over, y, v, lk⟩, doneE 0, false, rfl, ⟨hi, hc, hnw, hlk, hv, ?_, ?_⟩, ?_, .inl ⟨rfl, rfl, rfl⟩⟩
    · simp only [c_idle, c_run, c_over] at hpx ⊢; omega
    · dsimp only; omega
    · unfold BSt.hp
      dsimp only
      rw [show TSt.over.hp t0 bs bb (putR kM a) * (y.hp t1 bs bb (putR kM b) * StoreB bs A) * R = TSt.over.hp t0 bs bb (putR kM a) * (y.hp t1 bs bb (putR kM b) * StoreB bs A * R) by ac_rfl]
      exact h'

/-- A Step of the second one. -/
theorem blind_step1 {s : Out} {w : World} {bs bb t0 t1 : Nat} {a b : ByteArray} {S : BSt} {n : Nat} {R : Hp} (h : Sat s w (S.hp bs bb t0 t1 a b * R)) (hS : BOk a b S n) (hn : n < 8 ∨ n % 2 = 1) (hb : b.size ≤ 600) :
    Calls Tryz.prog 13 #[.pointer (some ⟨t1, 0, none⟩)] w fun e w' => ∃ (S' : BSt) (d : DoneS) (is : Bool), e = .returned (.tuple #[d.val, .bool is]) ∧ BOk a b S' (n + 1) ∧ Sat s w' (S'.hp bs bb t0 t1 a b * R) ∧
      ((is = false ∧ S'.x.dn + S'.y.dn = S.x.dn + S.y.dn ∧ S'.lk = S.lk) ∨ (is = true ∧ S'.x.dn + S'.y.dn = S.x.dn + S.y.dn + 1 ∧ d.e = 0 ∧ d.wrote = true ∧ S'.y = .over ∧ S'.lk = 1)) := by
  obtain ⟨A, x, y, v, lk⟩ := S
  obtain ⟨hi, hc, hnw, hlk, hv, hpx, hpy⟩ := hS
  dsimp only at hi hc hnw hlk hv hpx hpy
  unfold BSt.hp at h
  dsimp only at h
  have hx := x.dn_le
  have hxl := x.stamps_len
  cases y with
  | idle =>
    rw [show x.hp t0 bs bb (putR kM a) * (TSt.idle.hp t1 bs bb (putR kM b) * StoreB bs A) * R = TSt.idle.hp t1 bs bb (putR kM b) * (StoreB bs A * (x.hp t0 bs bb (putR kM a) * R)) by ac_rfl] at h
    have hi' : BInv A x.stamps v := by have := hi; simp only [s_idle, List.append_nil] at this; exact this
    refine (stepB_idle h hi' (by omega) hb).mono ?_
    rintro e w' ⟨rfl, h'⟩
    refine ⟨⟨A.pin, x, .run A.now, v, lk⟩, doneE 0, false, rfl, ?_, ?_, .inl ⟨rfl, rfl, rfl⟩⟩
    · refine ⟨?_, hc, hnw, hlk, hv, ?_, ?_⟩
      · have := hi'.pin (by omega)
        exact { this with P := this.P.trans (List.perm_append_comm (l₁ := [A.now]) (l₂ := x.stamps)) }
      · dsimp only; omega
      · simp only [c_idle, c_run, c_over] at hpy ⊢; omega
    · unfold BSt.hp
      dsimp only
      rw [show x.hp t0 bs bb (putR kM a) * ((TSt.run A.now).hp t1 bs bb (putR kM b) * StoreB bs A.pin) * R = (TSt.run A.now).hp t1 bs bb (putR kM b) * (StoreB bs A.pin * (x.hp t0 bs bb (putR kM a) * R)) by ac_rfl]
      exact h'
  | run q =>
    rw [show x.hp t0 bs bb (putR kM a) * ((TSt.run q).hp t1 bs bb (putR kM b) * StoreB bs A) * R = (TSt.run q).hp t1 bs bb (putR kM b) * (StoreB bs A * (x.hp t0 bs bb (putR kM a) * R)) by ac_rfl] at h
    obtain ⟨σ, hσ, _⟩ := StoreB.open2 h
    have hi' : BInv A (q :: x.stamps) v := { hi with P := hi.P.trans (List.perm_append_comm (l₁ := x.stamps) (l₂ := [q])) }
    refine (stepB_run h hi' (by simp) hb).mono ?_
    rintro e w' ⟨rfl, h'⟩
    have hi2 := hi'.put (t := b) (s := q) hσ.ris (by omega) (by simp only [n_idle, n_run, n_over] at hc; omega) (by simp only [n_idle, n_run, n_over] at hnw; omega)
    refine ⟨⟨(A.commit [⟨kFM, b, false⟩]).ended q, x, .over, b, 1⟩, _, true, rfl, ?_, ?_, .inr ⟨rfl, ?_, rfl, rfl, rfl, rfl⟩⟩
    · refine ⟨?_, ?_, ?_, .inr rfl, fun _ => rfl, ?_, ?_⟩
      · have : (q :: x.stamps).erase q = x.stamps ++ TSt.over.stamps := by simp [s_run, s_over]
        rw [this] at hi2; exact hi2
      · show A.c + 1 ≤ 2 + (x.dn + 1); simp only [n_idle, n_run, n_over] at hc; omega
      · show A.now + 1 ≤ 1 + (x.dn + 1); simp only [n_idle, n_run, n_over] at hnw; omega
      · dsimp only; omega
      · simp only [c_idle, c_run, c_over] at hpy ⊢; omega
    · unfold BSt.hp
      dsimp only
      rw [show x.hp t0 bs bb (putR kM a) * (TSt.over.hp t1 bs bb (putR kM b) * StoreB bs ((A.commit [⟨kFM, b, false⟩]).ended q)) * R = TSt.over.hp t1 bs bb (putR kM b) * (StoreB bs ((A.commit [⟨kFM, b, false⟩]).ended q) * (x.hp t0 bs bb (putR kM a) * R)) by ac_rfl]
      exact h'
    · simp only [n_idle, n_run, n_over]
  | over =>
    rw [show x.hp t0 bs bb (putR kM a) * (TSt.over.hp t1 bs bb (putR kM b) * StoreB bs A) * R = TSt.over.hp t1 bs bb (putR kM b) * (x.hp t0 bs bb (putR kM a) * StoreB bs A * R) by ac_rfl] at h
    refine (stepB_over h).mono ?_
    rintro e w' ⟨rfl, h'⟩
    refine ⟨⟨A, x, .over, v, lk⟩, doneE 0, false, rfl, ⟨hi, hc, hnw, hlk, hv, ?_, ?_⟩, ?_, .inl ⟨rfl, rfl, rfl⟩⟩
    · dsimp only; omega
    · simp only [c_idle, c_run, c_over] at hpy ⊢; omega
    · unfold BSt.hp
      dsimp only
      rw [show x.hp t0 bs bb (putR kM a) * (TSt.over.hp t1 bs bb (putR kM b) * StoreB bs A) * R = TSt.over.hp t1 bs bb (putR kM b) * (x.hp t0 bs bb (putR kM a) * StoreB bs A * R) by ac_rfl]
      exact h'

end Go.Proofs.YtnjgddckejpddaaGreatDoor
