/-
  A fragment goes while another request puts it, or appends to it: what their Steps do.
-/
import Derived.Test.YtnjgddckejpddaaGreatDoorBlind
import Derived.Test.YtnjgddckejpddaaGreatDoorWrites
namespace Go.Proofs.YtnjgddckejpddaaGreatDoor
open Go.RowKit Go.Proofs.YtnjgddckejpddaaGreatDoor.Sep

abbrev tOld : ByteArray := ⟨#[111, 108, 100]⟩
abbrev tNew : ByteArray := ⟨#[110, 101, 119]⟩
abbrev tON : ByteArray := ⟨#[111, 108, 100, 110, 101, 119]⟩
abbrev dM : ByteArray := ⟨#[109, 10]⟩
abbrev e0 : ByteArray := ⟨#[]⟩
abbrev delR : Req := ⟨2, kM, ⟨#[]⟩, 0⟩
abbrev appR : Req := ⟨3, kM, tNew, 0⟩
abbrev othR (app : Bool) : Req := if app then appR else putR kM tNew

/-- What has been written: nothing; the other one's text; gone; gone, and put again. -/
inductive Sh where
  | p0
  | p1 (so : Nat)
  | g (sd : Nat)
  | b (sd : Nat)

def Sh.d : Sh → List Ver
  | .p0 => [⟨dM, false, 1⟩]
  | .p1 _ => [⟨dM, false, 1⟩]
  | .g sd => [⟨dM, false, 1⟩, ⟨e0, false, sd⟩]
  | .b sd => [⟨dM, false, 1⟩, ⟨e0, false, sd⟩, ⟨dM, false, sd + 1⟩]
def Sh.f (l : List Ver) : Sh → Prop
  | .p0 => l = [⟨tOld, false, 1⟩]
  | .p1 so => ∃ t, l = [⟨tOld, false, 1⟩, ⟨t, false, so⟩]
  | .g sd => ∃ pre, l = pre ++ [⟨e0, true, sd⟩]
  | .b sd => ∃ pre, l = pre ++ [⟨tNew, false, sd + 1⟩]

structure GInv (A : Abs) (P : List Nat) (sh : Sh) : Prop where
  d : A.F kD = sh.d
  f : sh.f (A.F kFM)
  lim : A.limit = 1000
  c : A.c ≤ 20
  now : 1 ≤ A.now ∧ A.now ≤ 10
  P : A.P.Perm P
  st : ∀ s ∈ A.P, 1 ≤ s
  small : Small A

theorem changed_last (pre : List Ver) (x : Ver) (s : Nat) : changedS (pre ++ [x]) s = decide (s < x.stamp) := by
  unfold changedS
  have h1 : stampAt (pre ++ [x]) ((pre ++ [x]).length - 1) = x.stamp := by
    have h2 : (pre ++ [x]).length - 1 = pre.length := by simp
    rw [h2, stampAt_lt (by simp)]
    simp
  rw [h1]
  have : 0 < (pre ++ [x]).length := by simp
  simp [this]

theorem at_last {A : Abs} {k : ByteArray} {pre : List Ver} {x : Ver} {t : Nat} (h : A.F k = pre ++ [x]) (hr : Rising (A.F k)) (hx : x.stamp ≤ t) (hg : x.gone = false) : A.at_ k t = (x.val, true) := by
  unfold Abs.at_
  rw [h] at hr ⊢
  rw [readV_last hr hx hg]; rfl

theorem at_gone {A : Abs} {k : ByteArray} {pre : List Ver} {x : Ver} {t : Nat} (h : A.F k = pre ++ [x]) (hr : Rising (A.F k)) (hx : x.stamp ≤ t) (hg : x.gone = true) : A.at_ k t = (⟨#[]⟩, false) := by
  unfold Abs.at_
  rw [h] at hr ⊢
  have hp : ∀ y ∈ pre ++ [x], y.stamp ≤ t := by
    intro y hy
    rcases List.mem_append.1 hy with hy | hy
    · exact Nat.le_trans ((Rising.append.1 hr).2.2 y hy x (by simp)) hx
    · simp at hy; subst hy; exact hx
  have := readV_split (q := []) hp (by simp)
  rw [List.append_nil] at this
  rw [this]
  simp [base, List.getLast?_append, hg]

/-- The state behind a commit and the try's end. -/
theorem GInv.after {A : Abs} {P : List Nat} {sh sh' : Sh} (h : GInv A P sh) {ws : List Wr} {s : Nat} (hd : (ws.foldl (wr1 (A.now + 1)) A.F) kD = sh'.d) (hf : sh'.f ((ws.foldl (wr1 (A.now + 1)) A.F) kFM))
    (hk : ∀ x ∈ ws, x.key = kD ∨ x.key = kFM) (hv : ∀ x ∈ ws, x.val.size ≤ 900) (hl : ws.length ≤ 2) (hc : A.c ≤ 18) (hn : A.now ≤ 9) : GInv ((A.commit ws).ended s) (P.erase s) sh' where
  d := hd
  f := hf
  lim := h.lim
  c := by show A.c + ws.length ≤ 20; omega
  now := by show 1 ≤ A.now + 1 ∧ A.now + 1 ≤ 10; omega
  P := h.P.erase s
  st x hx := h.st x (List.mem_of_mem_erase hx)
  small :=
    { c := by show A.c + ws.length ≤ _; omega
      now := by show A.now + 1 ≤ _; omega
      P := Nat.le_trans List.length_erase_le h.small.P
      val := by
        intro k x hx
        change x ∈ (ws.foldl (wr1 (A.now + 1)) A.F) k at hx
        have key : ∀ (ws : List Wr) (F : ByteArray → List Ver), (∀ y ∈ ws, y.val.size ≤ 900) → (∀ y ∈ F k, y.val.size ≤ 900000) → ∀ y ∈ (ws.foldl (wr1 (A.now + 1)) F) k, y.val.size ≤ 900000 := by
          intro ws
          induction ws with
          | nil => intro F _ h2; exact h2
          | cons a ws ih =>
            intro F h1 h2
            refine ih _ (fun y hy => h1 y (List.mem_cons_of_mem _ hy)) ?_
            intro y hy
            unfold wr1 at hy
            split at hy
            · rcases List.mem_append.1 hy with hy | hy
              · exact h2 y hy
              · simp at hy; subst hy; have := h1 a (by simp); show a.val.size ≤ _; omega
            · exact h2 y hy
        exact key ws A.F hv (h.small.val k) x hx }

theorem GInv.pin {A : Abs} {P : List Nat} {sh : Sh} (h : GInv A P sh) (hP : P.length ≤ 5) : GInv A.pin (A.now :: P) sh where
  d := h.d
  f := h.f
  lim := h.lim
  c := h.c
  now := h.now
  P := h.P.cons _
  st s hs := by
    rcases List.mem_cons.1 hs with rfl | hs
    · exact h.now.1
    · exact h.st s hs
  small := { h.small with P := by have := h.P.length_eq; show (A.now :: A.P).length ≤ _; simp only [List.length_cons]; omega }

theorem GInv.ended {A : Abs} {P : List Nat} {sh : Sh} (h : GInv A P sh) (s : Nat) : GInv (A.ended s) (P.erase s) sh where
  d := h.d
  f := h.f
  lim := h.lim
  c := h.c
  now := h.now
  P := h.P.erase s
  st x hx := h.st x (List.mem_of_mem_erase hx)
  small := { c := h.small.c, now := h.small.now, P := Nat.le_trans List.length_erase_le h.small.P, val := h.small.val }

theorem rightDel : rightB delR = true := by decide
theorem rightOth (app : Bool) : rightB (othR app) = true := by cases app <;> decide

theorem writesDel_spec {tb bs bb : Nat} {tries : Nat} {τ : TryS} (hs : (τ.val ⟨#[100]⟩).1.size ≤ 900000) :
    WritesSpec tb bs bb delR tries τ (GoneOk (parts (τ.val ⟨#[100]⟩).1) kM ⟨#[100]⟩ ⟨#[102]⟩) := fun s W R' h =>
  writes_del libS h rfl hs (by show (1 : Nat) ≤ _; decide)
theorem writesApp_spec {tb bs bb : Nat} {tries : Nat} {τ : TryS} (hs : (τ.val ⟨#[100]⟩).1.size ≤ 900000) (hf : (τ.val (⟨#[102]⟩ ++ kM)).1.size ≤ 900000) :
    WritesSpec tb bs bb appR tries τ (AppOk (parts (τ.val ⟨#[100]⟩).1) kM (τ.val (⟨#[102]⟩ ++ kM)).1 tNew) := fun s W R' h =>
  writes_app libS h rfl hs (by show (1 : Nat) ≤ _; decide) (by show (3 : Nat) ≤ _; decide) hf

/-- What goes. -/
abbrev delWs : List Wr := [⟨kFM, e0, true⟩, ⟨kD, e0, false⟩]
theorem goneOk_there {ws : List Wr} {ec : Int} (h : GoneOk [kM] kM ⟨#[100]⟩ ⟨#[102]⟩ ws ec) : ws = delWs ∧ ec = 0 := by
  unfold GoneOk at h
  rw [if_pos (by decide)] at h
  obtain ⟨rfl, rfl⟩ := h
  have h1 : join (delB [kM] kM) = e0 := by decide
  have h2 : (⟨#[102]⟩ ++ kM : ByteArray) = kFM := by decide
  rw [h1, h2]
  exact ⟨rfl, rfl⟩
theorem appOk_there {ws : List Wr} {ec : Int} (h : AppOk [kM] kM tOld tNew ws ec) : ws = [⟨kFM, tON, false⟩] ∧ ec = 0 := by
  unfold AppOk at h
  rw [if_pos (by decide), if_neg (by decide)] at h
  exact setOk_there h
theorem appOk_gone {ws : List Wr} {ec : Int} {x : ByteArray} (h : AppOk [] kM x tNew ws ec) : ws = [] ∧ ec = 9 := by
  unfold AppOk at h
  rw [if_neg (by decide)] at h
  exact h


/-- The one that lets it go. -/
inductive XS where
  | idle
  | run (s : Nat)
  | over (sd : Nat)
def XS.hp (tb bs bb : Nat) : XS → Hp
  | .idle => TxnIdle tb bs bb delR 0 false
  | .run s => TxnTry tb bs bb delR 1 (tauD s (dM, true))
  | .over _ => TxnIdle tb bs bb delR 1 true
def XS.stamps : XS → List Nat
  | .run s => [s]
  | _ => []
def XS.rank : XS → Nat
  | .idle => 2
  | .run _ => 1
  | .over _ => 0
def XS.dn : XS → Nat
  | .over _ => 1
  | _ => 0

def dval (dm : Bool) : ByteArray × Bool := if dm then (dM, true) else (e0, true)
def tauY (app : Bool) (s : Nat) (dm fr : Bool) : TryS := ⟨s, if app && dm && !fr then [kFM] else [], if fr then [(kD, dval dm), (kFM, (tOld, true))] else [(kD, dval dm)]⟩

/-- The other one. -/
inductive YS where
  | idle (n : Nat)
  | run (n s : Nat) (dm fr : Bool)
  | over (n : Nat) (e : Int) (st : Nat)
def YS.hp (app : Bool) (tb bs bb : Nat) : YS → Hp
  | .idle n => TxnIdle tb bs bb (othR app) n false
  | .run n s dm fr => TxnTry tb bs bb (othR app) n (tauY app s dm fr)
  | .over n _ _ => TxnIdle tb bs bb (othR app) n true
def YS.stamps : YS → List Nat
  | .run _ s _ _ => [s]
  | _ => []
def YS.rank : YS → Nat
  | .idle 0 => 5
  | .idle _ => 2
  | .run _ _ true false => 4
  | .run _ _ true true => 3
  | .run _ _ false _ => 1
  | .over _ _ _ => 0
def YS.dn : YS → Nat
  | .over _ _ _ => 1
  | _ => 0

structure GSt where
  A : Abs
  sh : Sh
  x : XS
  y : YS
def GSt.hp (app : Bool) (bs bb t0 t1 : Nat) (S : GSt) : Hp := S.x.hp t0 bs bb * (S.y.hp app t1 bs bb * StoreB bs S.A)

def shn (A : Abs) : Sh → Prop
  | .p0 => True
  | .p1 so => so = A.now
  | .g sd => sd = A.now ∧ 2 ≤ sd
  | .b sd => sd + 1 = A.now ∧ 2 ≤ sd
def xok (sh : Sh) : XS → Prop
  | .over sd => sh = .g sd ∨ sh = .b sd
  | _ => sh = .p0 ∨ ∃ so, sh = .p1 so
def yok (app : Bool) (A : Abs) (sh : Sh) : YS → Prop
  | .idle n => (n = 0 ∧ (sh = .p0 ∨ ∃ sd, sh = .g sd ∧ A.F kFM = [⟨tOld, false, 1⟩, ⟨e0, true, sd⟩])) ∨ (n = 1 ∧ ∃ sd, sh = .g sd ∧ A.F kFM = [⟨tOld, false, 1⟩, ⟨e0, true, sd⟩])
  | .run n s true fr => n = 1 ∧ 1 ≤ s ∧ (fr = true → app = true) ∧ (sh = .p0 ∨ ∃ sd, sh = .g sd ∧ s < sd ∧ A.F kFM = [⟨tOld, false, 1⟩, ⟨e0, true, sd⟩])
  | .run n s false fr => n ≤ 2 ∧ fr = false ∧ ∃ sd, sh = .g sd ∧ sd ≤ s
  | .over _ e st => (e = 0 ∧ sh = .p1 st) ∨ (∃ sd, e = 0 ∧ sh = .g sd ∧ st < sd) ∨ (∃ sd, e = 0 ∧ app = false ∧ sh = .b sd ∧ st = sd + 1) ∨ (∃ sd, e = 9 ∧ app = true ∧ sh = .g sd)

structure GOk (app : Bool) (S : GSt) (n : Nat) : Prop where
  inv : GInv S.A (S.x.stamps ++ S.y.stamps) S.sh
  c : S.A.c ≤ 2 + 2 * (S.x.dn + S.y.dn)
  now : S.A.now ≤ 1 + (S.x.dn + S.y.dn)
  shn : shn S.A S.sh
  x : xok S.sh S.x
  y : yok app S.A S.sh S.y
  px : S.x.rank ≤ 2 - (n - 10 + 1) / 2
  py : S.y.rank ≤ 5 - (n - 10) / 2

theorem XS.dn_le (x : XS) : x.dn ≤ 1 := by cases x <;> simp [XS.dn]
theorem YS.dn_le (y : YS) : y.dn ≤ 1 := by cases y <;> simp [YS.dn]
theorem XS.st_len (x : XS) : x.stamps.length ≤ 1 := by cases x <;> simp [XS.stamps]
theorem YS.st_len (y : YS) : y.stamps.length ≤ 1 := by cases y <;> simp [YS.stamps]

theorem moreKeys_del (τ : TryS) (k : ByteArray) : moreKeys delR τ k = [] := by
  unfold moreKeys; rw [if_neg (by rintro ⟨h, _⟩; exact absurd h (by show ¬ ((2 : Int) = 3); decide))]

/-- A Step of the one that lets it go. -/
theorem gone_step0 {app : Bool} {s : Out} {w : World} {bs bb t0 t1 : Nat} {S : GSt} {n : Nat} {R : Hp} (h : Sat s w (S.hp app bs bb t0 t1 * R)) (hS : GOk app S n) (hn : n < 10 ∨ n % 2 = 0) :
    Calls Tryz.prog 13 #[.pointer (some ⟨t0, 0, none⟩)] w fun e w' => ∃ (S' : GSt) (d : DoneS) (is : Bool), e = .returned (.tuple #[d.val, .bool is]) ∧ GOk app S' (n + 1) ∧ Sat s w' (S'.hp app bs bb t0 t1 * R) ∧ S'.y = S.y ∧
      ((is = false ∧ S'.x.dn = S.x.dn ∧ ((∃ sd, S.x = .over sd) → S'.x = S.x)) ∨ (is = true ∧ S.x.dn = 0 ∧ ∃ sd : Nat, S'.x = .over sd ∧ d.e = 0 ∧ d.stamp = (sd : Int))) := by
  obtain ⟨A, sh, x, y⟩ := S
  obtain ⟨hi, hc, hnw, hsh, hx, hy, hpx, hpy⟩ := hS
  dsimp only at hi hc hnw hsh hx hy hpx hpy
  unfold GSt.hp at h
  dsimp only at h
  have hyd := y.dn_le
  have hyl := y.st_len
  cases x with
  | idle =>
    rw [show (XS.idle.hp t0 bs bb) * (y.hp app t1 bs bb * StoreB bs A) * R = TxnIdle t0 bs bb delR 0 false * (StoreB bs A * (y.hp app t1 bs bb * R)) from by show TxnIdle t0 bs bb delR 0 false * (y.hp app t1 bs bb * StoreB bs A) * R = _; ac_rfl] at h
    obtain ⟨σ, hσ, _⟩ := StoreB.open2 h
    have hat : A.at_ kD A.now = (dM, true) := by
      have hd : A.F kD = [⟨dM, false, 1⟩] := by
        rcases hx with rfl | ⟨so, rfl⟩ <;> exact hi.d
      exact d_at hd hi.now.1
    refine (stepA_first libS h (by show (2 : Int) ≠ 7; decide) hi.small (by decide) rightDel (by show (1 : Nat) ≤ _; decide) (by show (0 : Nat) ≤ _; decide)).mono ?_
    rintro e w' ⟨rfl, h'⟩
    have hk : firstKey delR = kD := rfl
    rw [moreKeys_del, hk, hat] at h'
    refine ⟨⟨A.pin, sh, .run A.now, y⟩, doneE 0, false, rfl, ?_, ?_, rfl, .inl ⟨rfl, rfl, by rintro ⟨sd, h⟩; cases h⟩⟩
    · refine ⟨hi.pin (by show ([] ++ y.stamps).length ≤ 5; rw [List.nil_append]; omega), hc, hnw, ?_, hx, ?_, ?_, ?_⟩
      · cases sh <;> exact hsh
      · exact hy
      · have h1 : XS.idle.rank = 2 := rfl
        have h2 : (XS.run A.now).rank = 1 := rfl
        dsimp only; omega
      · dsimp only; omega
    · show Sat s w' (TxnTry t0 bs bb delR 1 (tauD A.now (dM, true)) * (y.hp app t1 bs bb * StoreB bs A.pin) * R)
      rw [show TxnTry t0 bs bb delR 1 (tauD A.now (dM, true)) * (y.hp app t1 bs bb * StoreB bs A.pin) * R = TxnTry t0 bs bb delR 1 (tauD A.now (dM, true)) * (StoreB bs A.pin * (y.hp app t1 bs bb * R)) by ac_rfl]
      exact h'
  | run q =>
    rw [show ((XS.run q).hp t0 bs bb) * (y.hp app t1 bs bb * StoreB bs A) * R = TxnTry t0 bs bb delR 1 (tauD q (dM, true)) * (StoreB bs A * (y.hp app t1 bs bb * R)) from by show TxnTry t0 bs bb delR 1 (tauD q (dM, true)) * (y.hp app t1 bs bb * StoreB bs A) * R = _; ac_rfl] at h
    obtain ⟨σ, hσ, _⟩ := StoreB.open2 h
    have hd : A.F kD = [⟨dM, false, 1⟩] := by
      rcases hx with rfl | ⟨so, rfl⟩ <;> exact hi.d
    have hqA : q ∈ A.P := hi.P.mem_iff.2 (by show q ∈ [q] ++ y.stamps; simp)
    have hpd : parts ((tauD q (dM, true)).val kD).1 = [kM] := parts_m
    have hw := writesDel_spec (tb := t0) (bs := bs) (bb := bb) (tries := 1) (τ := tauD q (dM, true)) (by show (2 : Nat) ≤ _; decide)
    rw [hpd] at hw
    have hxd : (XS.run q).dn = 0 := rfl
    rw [hxd] at hc hnw
    refine (stepA_ok libS h (.inr (.inl rfl)) hw rfl hi.small hqA rightDel (by show (1 : Nat) ≤ _; decide) (by show (0 : Nat) ≤ _; decide) (d_changed hd (hi.st q hqA) _) ?_ ?_).mono ?_
    · intro σ hσ ws ec hw
      obtain ⟨rfl, rfl⟩ := goneOk_there hw
      have hc1 := hσ.cnt
      rw [hi.lim]
      refine ⟨rfl, by show 1 ≤ 2; decide, by show 2 ≤ 10; decide, ?_⟩
      show (σ.count : Int) + (2 : Nat) ≤ 1000
      omega
    · intro ws ec hw z hz
      obtain ⟨rfl, rfl⟩ := goneOk_there hw
      simp at hz
      rcases hz with rfl | rfl
      · show (2 : Nat) ≤ maxLen; decide
      · show (1 : Nat) ≤ maxLen; decide
    · rintro e w' ⟨ws, hw, rfl, h'⟩
      obtain ⟨rfl, _⟩ := goneOk_there hw
      have hFD : (delWs.foldl (wr1 (A.now + 1)) A.F) kD = A.F kD ++ [⟨e0, false, A.now + 1⟩] := by
        simp only [delWs, List.foldl_cons, List.foldl_nil, wr1]
        simp only [if_true, if_neg (show ¬ kD = kFM by decide)]
      have hFM : (delWs.foldl (wr1 (A.now + 1)) A.F) kFM = A.F kFM ++ [⟨e0, true, A.now + 1⟩] := by
        simp only [delWs, List.foldl_cons, List.foldl_nil, wr1]
        simp only [if_true, if_neg (show ¬ kFM = kD by decide)]
      have hi2 := hi.after (sh' := .g (A.now + 1)) (ws := delWs) (s := q) (by rw [hFD, hd]; rfl) (by rw [hFM]; exact ⟨_, rfl⟩)
        (by intro z hz; simp at hz; rcases hz with rfl | rfl <;> simp) (by intro z hz; simp at hz; rcases hz with rfl | rfl <;> (show (0 : Nat) ≤ 900; decide)) (by show 2 ≤ 2; decide) (by omega) (by omega)
      have hnn := hi.now
      refine ⟨⟨(A.commit delWs).ended q, .g (A.now + 1), .over (A.now + 1), y⟩, _, true, rfl, ?_, ?_, rfl, .inr ⟨rfl, rfl, A.now + 1, rfl, rfl, by show (A.now : Int) + 1 = _; omega⟩⟩
      · refine ⟨?_, ?_, ?_, ?_, .inl rfl, ?_, ?_, ?_⟩
        · have : ((XS.run q).stamps ++ y.stamps).erase q = y.stamps := by show ([q] ++ y.stamps).erase q = _; simp
          rw [this] at hi2
          exact hi2
        · show A.c + 2 ≤ 2 + 2 * (1 + y.dn); omega
        · show A.now + 1 ≤ 1 + (1 + y.dn); omega
        · exact ⟨rfl, by omega⟩
        · have hFM2 : ∀ l, A.F kFM = l → ((A.commit delWs).ended q).F kFM = l ++ [⟨e0, true, A.now + 1⟩] := fun l hl => by show (delWs.foldl (wr1 (A.now + 1)) A.F) kFM = _; rw [hFM, hl]
          cases y with
          | idle m =>
            rcases hy with ⟨rfl, hy⟩ | ⟨rfl, sd, hy, _⟩
            · rcases hy with hy | ⟨sd, hy, _⟩
              · subst hy
                exact .inl ⟨rfl, .inr ⟨A.now + 1, rfl, hFM2 _ hi.f⟩⟩
              · subst hy; rcases hx with hx | ⟨so, hx⟩ <;> cases hx
            · subst hy; rcases hx with hx | ⟨so, hx⟩ <;> cases hx
          | run m q2 dm fr =>
            have hq2 : q2 ≤ A.now := (hσ.mP q2 (hi.P.mem_iff.2 (by show q2 ∈ [q] ++ [q2]; simp))).2
            cases dm with
            | true =>
              obtain ⟨h1, h2, h3, h4⟩ := hy
              refine ⟨h1, h2, h3, .inr ⟨A.now + 1, rfl, by omega, ?_⟩⟩
              rcases h4 with h4 | ⟨sd, h4, _, _⟩
              · subst h4; exact hFM2 _ hi.f
              · subst h4; rcases hx with hx | ⟨so, hx⟩ <;> cases hx
            | false =>
              obtain ⟨_, _, sd, h4, _⟩ := hy
              subst h4; rcases hx with hx | ⟨so, hx⟩ <;> cases hx
          | over m ee st =>
            rcases hy with ⟨rfl, hy⟩ | ⟨sd, _, hy, _⟩ | ⟨sd, _, _, hy, _⟩ | ⟨sd, _, _, hy⟩
            · subst hy
              have : st = A.now := hsh
              exact .inr (.inl ⟨A.now + 1, rfl, rfl, by omega⟩)
            · subst hy; rcases hx with hx | ⟨so, hx⟩ <;> cases hx
            · subst hy; rcases hx with hx | ⟨so, hx⟩ <;> cases hx
            · subst hy; rcases hx with hx | ⟨so, hx⟩ <;> cases hx
        · show 0 ≤ _; omega
        · dsimp only; omega
      · show Sat s w' (TxnIdle t0 bs bb delR 1 true * (y.hp app t1 bs bb * StoreB bs ((A.commit delWs).ended q)) * R)
        rw [show TxnIdle t0 bs bb delR 1 true * (y.hp app t1 bs bb * StoreB bs ((A.commit delWs).ended q)) * R = TxnIdle t0 bs bb delR 1 true * (StoreB bs ((A.commit delWs).ended q) * (y.hp app t1 bs bb * R)) by ac_rfl]
        exact h'
  | over sd =>
    rw [show ((XS.over sd).hp t0 bs bb) * (y.hp app t1 bs bb * StoreB bs A) * R = TxnIdle t0 bs bb delR 1 true * ((y.hp app t1 bs bb * StoreB bs A) * R) from by show TxnIdle t0 bs bb delR 1 true * (y.hp app t1 bs bb * StoreB bs A) * R = _; ac_rfl] at h
    refine (Step_over h).mono ?_
    rintro e w' ⟨rfl, h'⟩
    refine ⟨⟨A, sh, .over sd, y⟩, doneE 0, false, rfl, ⟨hi, hc, hnw, hsh, hx, hy, ?_, ?_⟩, ?_, rfl, .inl ⟨rfl, rfl, fun _ => rfl⟩⟩
    · have h1 : (XS.over sd).rank = 0 := rfl
      dsimp only; omega
    · dsimp only; omega
    · show Sat s w' (TxnIdle t0 bs bb delR 1 true * (y.hp app t1 bs bb * StoreB bs A) * R)
      rw [show TxnIdle t0 bs bb delR 1 true * (y.hp app t1 bs bb * StoreB bs A) * R = TxnIdle t0 bs bb delR 1 true * ((y.hp app t1 bs bb * StoreB bs A) * R) by ac_rfl]
      exact h'


theorem at_mid {A : Abs} {k : ByteArray} {x y : Ver} {t : Nat} (h : A.F k = [x, y]) (hx : x.stamp ≤ t) (hy : t < y.stamp) (hg : x.gone = false) : A.at_ k t = (x.val, true) := by
  unfold Abs.at_
  rw [h]
  have := readV_split (t := t) (p := [x]) (q := [y]) (by simpa using hx) (by simpa using hy)
  rw [show [x, y] = [x] ++ [y] from rfl, this]
  simp [base, hg]

theorem moreKeys_oth (app dm : Bool) (s : Nat) : moreKeys (othR app) ⟨s, [], [(kD, dval dm)]⟩ kD = if app && dm && !false then [kFM] else [] := by
  cases app with
  | false =>
    unfold moreKeys
    rw [if_neg (by rintro ⟨h, _⟩; exact absurd h (by show ¬ ((1 : Int) = 3); decide))]
    rfl
  | true =>
    unfold moreKeys
    rw [if_pos ⟨rfl, rfl⟩]
    unfold moreApp
    cases dm with
    | false =>
      show (if hasB (parts e0) kM = true then [(⟨#[102]⟩ : ByteArray) ++ kM] else []) = []
      rw [if_neg (show ¬ hasB (parts e0) kM = true by decide)]
    | true =>
      show (if hasB (parts dM) kM = true then [(⟨#[102]⟩ : ByteArray) ++ kM] else []) = [kFM]
      rw [if_pos (show hasB (parts dM) kM = true by decide)]; decide
theorem moreKeys_oth2 (app : Bool) (τ : TryS) : moreKeys (othR app) τ kFM = [] := by
  unfold moreKeys
  rw [if_neg (by rintro ⟨_, h⟩; exact absurd h (by decide))]

theorem othKind (app : Bool) : (othR app).kind = 1 ∨ (othR app).kind = 2 ∨ (othR app).kind = 3 ∨ (othR app).kind = 5 ∨ (othR app).kind = 6 := by
  cases app
  · exact .inl rfl
  · exact .inr (.inr (.inl rfl))
theorem oth7 (app : Bool) : (othR app).kind ≠ 7 := by cases app <;> decide
theorem othName (app : Bool) : (othR app).name.size = 1 := by cases app <;> rfl
theorem othText (app : Bool) : (othR app).text.size = 3 := by cases app <;> rfl

/-- What the other one writes. -/
def ySpec (app dm : Bool) : List Wr → Int → Prop := fun ws ec =>
  if app then AppOk (parts (dval dm).1) kM (if dm then tOld else e0) tNew ws ec else SetOk (parts (dval dm).1) kM ⟨#[100]⟩ ⟨#[102]⟩ tNew 8 ws ec

theorem ySpec_ok {app dm : Bool} {tb bs bb n s : Nat} {fr : Bool} (h : fr = (app && dm)) : WritesSpec tb bs bb (othR app) n (tauY app s dm fr) (ySpec app dm) := by
  subst h
  cases app with
  | false =>
    cases dm with
    | false => exact writesPut_spec libS (r := putR kM tNew) (τ := tauY false s false false) rfl (by show (0 : Nat) ≤ _; decide) (by show (1 : Nat) ≤ _; decide)
    | true => exact writesPut_spec libS (r := putR kM tNew) (τ := tauY false s true false) rfl (by show (2 : Nat) ≤ _; decide) (by show (1 : Nat) ≤ _; decide)
  | true =>
    cases dm with
    | false => exact writesApp_spec (τ := tauY true s false false) (by show (0 : Nat) ≤ _; decide) (by show (0 : Nat) ≤ _; decide)
    | true => exact writesApp_spec (τ := tauY true s true true) (by show (2 : Nat) ≤ _; decide) (by show (3 : Nat) ≤ _; decide)

/-- What the other one writes where the fragment is there. -/
def yW (app : Bool) : List Wr := [⟨kFM, if app then tON else tNew, false⟩]
theorem ySpec_there {app : Bool} {ws : List Wr} {ec : Int} (h : ySpec app true ws ec) : ws = yW app ∧ ec = 0 := by
  unfold ySpec at h
  cases app with
  | false => rw [if_neg (by decide), show parts (dval true).1 = [kM] from parts_m] at h; exact setOk_there h
  | true => rw [if_pos rfl, show parts (dval true).1 = [kM] from parts_m, if_pos rfl] at h; exact appOk_there h
abbrev yN : List Wr := [⟨kFM, tNew, false⟩, ⟨kD, dM, false⟩]
theorem parts_e : parts e0 = [] := by decide
theorem ySpec_gone {ws : List Wr} {ec : Int} (h : ySpec false false ws ec) : ws = yN ∧ ec = 0 := by
  unfold ySpec at h
  rw [if_neg (by decide), show parts (dval false).1 = [] from parts_e] at h
  obtain ⟨rfl, rfl⟩ := setOk_new h
  refine ⟨?_, rfl⟩
  have h2 : (⟨#[102]⟩ ++ kM : ByteArray) = kFM := by decide
  have h3 : (kM ++ ⟨#[10]⟩ : ByteArray) = dM := by decide
  unfold putWs
  rw [h2, h3]
theorem ySpec_err {ws : List Wr} {ec : Int} (h : ySpec true false ws ec) : ws = [] ∧ ec = 9 := by
  unfold ySpec at h
  rw [if_pos rfl, show parts (dval false).1 = [] from parts_e] at h
  exact appOk_gone h

theorem chg_no {A : Abs} {k : ByteArray} {pre : List Ver} {x : Ver} {s : Nat} (h : A.F k = pre ++ [x]) (hs : x.stamp ≤ s) : changedS (A.F k) s = false := by
  rw [h, changed_last]; simp; omega
theorem chg_yes {A : Abs} {k : ByteArray} {pre : List Ver} {x : Ver} {s : Nat} (h : A.F k = pre ++ [x]) (hs : s < x.stamp) : changedS (A.F k) s = true := by
  rw [h, changed_last]; simp [hs]

/-- It ends: it has written. -/
theorem stepY_ok {app dm fr : Bool} {s : Out} {w : World} {tb bs bb n q : Nat} {A : Abs} {P : List Nat} {sh : Sh} {R : Hp} {ws : List Wr} (h : Sat s w (TxnTry tb bs bb (othR app) n (tauY app q dm fr) * (StoreB bs A * R))) (hi : GInv A P sh) (hq : q ∈ P)
    (ht : (tauY app q dm fr).todo = []) (hfr : fr = (app && dm)) (hch : A.changed (tauY app q dm fr) = false) (hws : ∀ ws' ec, ySpec app dm ws' ec → ws' = ws ∧ ec = 0) (hl : 1 ≤ ws.length ∧ ws.length ≤ 2) (hk : ∀ x ∈ ws, x.key.size ≤ 2) :
    Calls Tryz.prog 13 #[.pointer (some ⟨tb, 0, none⟩)] w fun e w' => e = .returned (.tuple #[({ doneE 0 with stamp := (A.now : Int) + 1, wrote := true } : DoneS).val, .bool true]) ∧
      Sat s w' (TxnIdle tb bs bb (othR app) n true * (StoreB bs ((A.commit ws).ended q) * R)) := by
  have hqA : q ∈ A.P := hi.P.mem_iff.2 hq
  have h1 := othName app
  have h2 := othText app
  have hc := hi.c
  refine (stepA_ok libS h (othKind app) (ySpec_ok hfr) ht hi.small hqA (rightOth app) (by rw [h1]; decide) (by rw [h2]; decide) hch ?_ ?_).mono ?_
  · intro σ hσ ws' ec hw
    obtain ⟨rfl, rfl⟩ := hws ws' ec hw
    have hc1 := hσ.cnt
    rw [hi.lim]
    exact ⟨rfl, hl.1, by omega, by omega⟩
  · intro ws' ec hw x hx
    obtain ⟨rfl, rfl⟩ := hws ws' ec hw
    exact Nat.le_trans (hk x hx) (by decide)
  · rintro e w' ⟨ws', hw, rfl, h'⟩
    obtain ⟨rfl, _⟩ := hws ws' 0 hw
    exact ⟨rfl, h'⟩

/-- A Step of the other one. -/
theorem gone_step1 {app : Bool} {s : Out} {w : World} {bs bb t0 t1 : Nat} {S : GSt} {n : Nat} {R : Hp} (h : Sat s w (S.hp app bs bb t0 t1 * R)) (hS : GOk app S n) (hn : n < 10 ∨ n % 2 = 1) :
    Calls Tryz.prog 13 #[.pointer (some ⟨t1, 0, none⟩)] w fun e w' => ∃ (S' : GSt) (d : DoneS) (is : Bool), e = .returned (.tuple #[d.val, .bool is]) ∧ GOk app S' (n + 1) ∧ Sat s w' (S'.hp app bs bb t0 t1 * R) ∧ S'.x = S.x ∧
      ((is = false ∧ S'.y.dn = S.y.dn ∧ ((∃ m e st, S.y = .over m e st) → S'.y = S.y)) ∨ (is = true ∧ S.y.dn = 0 ∧ ∃ (m : Nat) (ee : Int) (st : Nat), S'.y = .over m ee st ∧ d.e = ee ∧ d.stamp = (st : Int))) := by
  obtain ⟨A, sh, x, y⟩ := S
  obtain ⟨hi, hc, hnw, hsh, hx, hy, hpx, hpy⟩ := hS
  dsimp only at hi hc hnw hsh hx hy hpx hpy
  unfold GSt.hp at h
  dsimp only at h
  have hxd := x.dn_le
  have hxl := x.st_len
  have hnn := hi.now
  have z1 := othName app
  have z2 := othText app
  cases y with
  | idle m =>
    rw [show (x.hp t0 bs bb) * ((YS.idle m).hp app t1 bs bb * StoreB bs A) * R = TxnIdle t1 bs bb (othR app) m false * (StoreB bs A * (x.hp t0 bs bb * R)) from by show x.hp t0 bs bb * (TxnIdle t1 bs bb (othR app) m false * StoreB bs A) * R = _; ac_rfl] at h
    obtain ⟨σ, hσ, _⟩ := StoreB.open2 h
    have hm : m ≤ 1 := by rcases hy with ⟨rfl, _⟩ | ⟨rfl, _⟩ <;> omega
    have key : ∃ dm, A.at_ kD A.now = dval dm ∧ yok app A.pin sh (.run (m + 1) A.now dm false) := by
      have hp0 : sh = .p0 → m = 0 → ∃ dm, A.at_ kD A.now = dval dm ∧ yok app A.pin sh (.run (m + 1) A.now dm false) := by
        intro h1 h2
        subst h1; subst h2
        exact ⟨true, d_at hi.d hnn.1, ⟨rfl, hnn.1, (fun h => nomatch h), .inl rfl⟩⟩
      have hg : ∀ sd, sh = .g sd → A.F kFM = [⟨tOld, false, 1⟩, ⟨e0, true, sd⟩] → ∃ dm, A.at_ kD A.now = dval dm ∧ yok app A.pin sh (.run (m + 1) A.now dm false) := by
        intro sd h1 _
        subst h1
        obtain ⟨h2, _⟩ := hsh
        refine ⟨false, at_last (pre := [⟨dM, false, 1⟩]) (x := ⟨e0, false, sd⟩) hi.d (hσ.ris _) (by show sd ≤ A.now; omega) rfl, by omega, rfl, sd, rfl, by omega⟩
      rcases hy with ⟨h1, h2 | ⟨sd, h2, h3⟩⟩ | ⟨h1, sd, h2, h3⟩
      · exact hp0 h2 h1
      · exact hg sd h2 h3
      · exact hg sd h2 h3
    obtain ⟨dm, hat, hyk⟩ := key
    refine (stepA_first libS h (oth7 app) hi.small (by omega) (rightOth app) (by rw [z1]; decide) (by rw [z2]; decide)).mono ?_
    rintro e w' ⟨rfl, h'⟩
    have hk : firstKey (othR app) = kD := by cases app <;> rfl
    rw [hk, hat, moreKeys_oth] at h'
    refine ⟨⟨A.pin, sh, x, .run (m + 1) A.now dm false⟩, doneE 0, false, rfl, ?_, ?_, rfl, .inl ⟨rfl, rfl, by rintro ⟨m, e, sd, h⟩; cases h⟩⟩
    · have hi' : GInv A x.stamps sh := by have := hi; rw [show (YS.idle m).stamps = [] from rfl, List.append_nil] at this; exact this
      have hi2 := hi'.pin (by omega)
      refine ⟨{ hi2 with P := hi2.P.trans (List.perm_append_comm (l₁ := [A.now]) (l₂ := x.stamps)) }, hc, hnw, ?_, hx, hyk, ?_, ?_⟩
      · cases sh <;> exact hsh
      · dsimp only; omega
      · have h2 : (YS.run (m + 1) A.now dm false).rank + 1 ≤ (YS.idle m).rank := by
          cases dm with
          | true =>
            have : m = 0 := by have := hyk.1; omega
            subst this; show 4 + 1 ≤ 5; decide
          | false =>
            rcases m with _ | m
            · show 1 + 1 ≤ 5; decide
            · show 1 + 1 ≤ 2; decide
        dsimp only; omega
    · show Sat s w' (x.hp t0 bs bb * (TxnTry t1 bs bb (othR app) (m + 1) (tauY app A.now dm false) * StoreB bs A.pin) * R)
      rw [show x.hp t0 bs bb * (TxnTry t1 bs bb (othR app) (m + 1) (tauY app A.now dm false) * StoreB bs A.pin) * R = TxnTry t1 bs bb (othR app) (m + 1) (tauY app A.now dm false) * (StoreB bs A.pin * (x.hp t0 bs bb * R)) by ac_rfl]
      exact h'
  | run m q dm fr =>
    rw [show (x.hp t0 bs bb) * ((YS.run m q dm fr).hp app t1 bs bb * StoreB bs A) * R = TxnTry t1 bs bb (othR app) m (tauY app q dm fr) * (StoreB bs A * (x.hp t0 bs bb * R)) from by show x.hp t0 bs bb * (TxnTry t1 bs bb (othR app) m (tauY app q dm fr) * StoreB bs A) * R = _; ac_rfl] at h
    obtain ⟨σ, hσ, _⟩ := StoreB.open2 h
    have hi' : GInv A (q :: x.stamps) sh := { hi with P := hi.P.trans (List.perm_append_comm (l₁ := x.stamps) (l₂ := [q])) }
    have hqP : q ∈ q :: x.stamps := by simp
    have hqA : q ∈ A.P := hi'.P.mem_iff.2 hqP
    have hq1 : 1 ≤ q := hi.st q hqA
    have herase : (q :: x.stamps).erase q = x.stamps ++ [] := by simp
    rw [show (YS.run m q dm fr).dn = 0 from rfl] at hc hnw
    cases dm with
    | true =>
      obtain ⟨rfl, _, hfa, hshy⟩ := hy
      by_cases hrd : fr = (app && true)
      · -- it writes, or tries again
        have htodo : (tauY app q true fr).todo = [] := by subst hrd; cases app <;> rfl
        rcases hshy with rfl | ⟨sd, rfl, hqs, hFf⟩
        · have hd : A.F kD = [⟨dM, false, 1⟩] := hi.d
          have hf : A.F kFM = [⟨tOld, false, 1⟩] := hi.f
          have hch : A.changed (tauY app q true fr) = false := by
            apply changed_at
            intro p hp
            have : p.1 = kD ∨ p.1 = kFM := by
              cases fr with
              | false => simp [tauY] at hp; subst hp; exact .inl rfl
              | true => simp [tauY] at hp; rcases hp with rfl | rfl
                        · exact .inl rfl
                        · exact .inr rfl
            rcases this with h | h
            · rw [h]; exact chg_no (pre := []) hd hq1
            · rw [h]; exact chg_no (pre := []) hf hq1
          refine (stepY_ok (ws := yW app) h hi' hqP htodo hrd hch (fun _ _ => ySpec_there) ⟨by show 1 ≤ 1; decide, by show 1 ≤ 2; decide⟩ (by intro z hz; simp [yW] at hz; subst hz; show (2 : Nat) ≤ 2; decide)).mono ?_
          rintro e w' ⟨rfl, h'⟩
          have hFD : ((yW app).foldl (wr1 (A.now + 1)) A.F) kD = A.F kD := by
            simp only [yW, List.foldl_cons, List.foldl_nil, wr1, if_neg (show ¬ kD = kFM by decide)]
          have hFM : ((yW app).foldl (wr1 (A.now + 1)) A.F) kFM = A.F kFM ++ [⟨if app then tON else tNew, false, A.now + 1⟩] := by
            simp only [yW, List.foldl_cons, List.foldl_nil, wr1, if_true]
          have hi2 := hi'.after (sh' := .p1 (A.now + 1)) (ws := yW app) (s := q) (by rw [hFD, hd]; rfl) (by rw [hFM, hf]; exact ⟨_, rfl⟩)
            (by intro z hz; simp [yW] at hz; subst hz; exact .inr rfl) (by intro z hz; simp [yW] at hz; subst hz; cases app <;> (show (_ : Nat) ≤ 900; decide)) (by show 1 ≤ 2; decide) (by omega) (by omega)
          rw [herase] at hi2
          refine ⟨⟨(A.commit (yW app)).ended q, .p1 (A.now + 1), x, .over 1 0 (A.now + 1)⟩, _, true, rfl, ?_, ?_, rfl, .inr ⟨rfl, rfl, 1, 0, A.now + 1, rfl, rfl, by show (A.now : Int) + 1 = _; omega⟩⟩
          · refine ⟨hi2, ?_, ?_, rfl, ?_, .inl ⟨rfl, rfl⟩, ?_, ?_⟩
            · show A.c + 1 ≤ 2 + 2 * (x.dn + 1); omega
            · show A.now + 1 ≤ 1 + (x.dn + 1); omega
            · cases x with
              | over sd => rcases hx with hx | hx <;> cases hx
              | idle => exact .inr ⟨_, rfl⟩
              | run q2 => exact .inr ⟨_, rfl⟩
            · dsimp only; omega
            · show 0 ≤ _; omega
          · show Sat s w' (x.hp t0 bs bb * (TxnIdle t1 bs bb (othR app) 1 true * StoreB bs ((A.commit (yW app)).ended q)) * R)
            rw [show x.hp t0 bs bb * (TxnIdle t1 bs bb (othR app) 1 true * StoreB bs ((A.commit (yW app)).ended q)) * R = TxnIdle t1 bs bb (othR app) 1 true * (StoreB bs ((A.commit (yW app)).ended q) * (x.hp t0 bs bb * R)) by ac_rfl]
            exact h'
        · have hd : A.F kD = [⟨dM, false, 1⟩] ++ [⟨e0, false, sd⟩] := hi.d
          have hch : A.changed (tauY app q true fr) = true := by
            unfold Abs.changed
            rw [List.any_eq_true]
            refine ⟨(kD, dval true), ?_, chg_yes hd hqs⟩
            cases fr <;> simp [tauY]
          refine (stepA_retry libS h (othKind app) (ySpec_ok hrd) htodo hi.small hqA (rightOth app) (by rw [z1]; decide) (by rw [z2]; decide) hch (by decide) (fun ws ec hw => (ySpec_there hw).2)).mono ?_
          rintro e w' ⟨rfl, h'⟩
          have hi2 := hi'.ended q
          rw [herase] at hi2
          refine ⟨⟨A.ended q, .g sd, x, .idle 1⟩, doneE 0, false, rfl, ?_, ?_, rfl, .inl ⟨rfl, rfl, by rintro ⟨m, e, sd, h⟩; cases h⟩⟩
          · refine ⟨hi2, hc, hnw, hsh, hx, .inr ⟨rfl, sd, rfl, hFf⟩, ?_, ?_⟩
            · dsimp only; omega
            · have h1 : (YS.run 1 q true fr).rank = 4 ∨ (YS.run 1 q true fr).rank = 3 := by cases fr <;> simp [YS.rank]
              have h2 : (YS.idle 1).rank = 2 := rfl
              dsimp only; omega
          · show Sat s w' (x.hp t0 bs bb * (TxnIdle t1 bs bb (othR app) 1 false * StoreB bs (A.ended q)) * R)
            rw [show x.hp t0 bs bb * (TxnIdle t1 bs bb (othR app) 1 false * StoreB bs (A.ended q)) * R = TxnIdle t1 bs bb (othR app) 1 false * (StoreB bs (A.ended q) * (x.hp t0 bs bb * R)) by ac_rfl]
            exact h'
      · -- an append reads the fragment
        have hap : app = true ∧ fr = false := by
          cases app <;> cases fr <;> simp at hrd hfa ⊢
        obtain ⟨rfl, rfl⟩ := hap
        have hatf : A.at_ kFM q = (tOld, true) := by
          rcases hshy with rfl | ⟨sd, rfl, hqs, hFf⟩
          · exact at_last (pre := []) (x := ⟨tOld, false, 1⟩) hi.f (hσ.ris _) hq1 rfl
          · exact at_mid hFf hq1 hqs rfl
        refine (stepA_read libS (k := kFM) (rest := []) rfl (by decide) h (oth7 true) hi.small hqA (rightOth true) (by rw [z1]; decide) (by rw [z2]; decide) (by rw [show (tauY true q true false).stamp = q from rfl, hatf]; show (2 : Nat) ≤ _; decide)).mono ?_
        rintro e w' ⟨rfl, h'⟩
        rw [moreKeys_oth2, show (tauY true q true false).stamp = q from rfl, hatf] at h'
        refine ⟨⟨A, sh, x, .run 1 q true true⟩, doneE 0, false, rfl, ⟨hi, hc, hnw, hsh, hx, ⟨rfl, hq1, fun _ => rfl, hshy⟩, ?_, ?_⟩, ?_, rfl, .inl ⟨rfl, rfl, by rintro ⟨m, e, sd, h⟩; cases h⟩⟩
        · dsimp only; omega
        · have h1 : (YS.run 1 q true false).rank = 4 := rfl
          have h2 : (YS.run 1 q true true).rank = 3 := rfl
          dsimp only; omega
        · show Sat s w' (x.hp t0 bs bb * (TxnTry t1 bs bb (othR true) 1 (tauY true q true true) * StoreB bs A) * R)
          rw [show x.hp t0 bs bb * (TxnTry t1 bs bb (othR true) 1 (tauY true q true true) * StoreB bs A) * R = TxnTry t1 bs bb (othR true) 1 (tauY true q true true) * (StoreB bs A * (x.hp t0 bs bb * R)) by ac_rfl]
          exact h'
    | false =>
      obtain ⟨hm2, rfl, sd, rfl, hsq⟩ := hy
      have hd : A.F kD = [⟨dM, false, 1⟩] ++ [⟨e0, false, sd⟩] := hi.d
      have htodo : (tauY app q false false).todo = [] := by cases app <;> rfl
      have hrd : false = (app && false) := by cases app <;> rfl
      have hch : A.changed (tauY app q false false) = false := by
        apply changed_at
        intro p hp
        simp [tauY] at hp; subst hp
        exact chg_no hd hsq
      obtain ⟨hs1, hs2⟩ := hsh
      cases app with
      | false =>
        refine (stepY_ok (ws := yN) h hi' hqP htodo hrd hch (fun _ _ => ySpec_gone) ⟨by show 1 ≤ 2; decide, by show 2 ≤ 2; decide⟩ (by intro z hz; simp at hz; rcases hz with rfl | rfl <;> decide)).mono ?_
        rintro e w' ⟨rfl, h'⟩
        have hFD : (yN.foldl (wr1 (A.now + 1)) A.F) kD = A.F kD ++ [⟨dM, false, A.now + 1⟩] := by
          simp only [yN, List.foldl_cons, List.foldl_nil, wr1]
          simp only [if_true, if_neg (show ¬ kD = kFM by decide)]
        have hFM : (yN.foldl (wr1 (A.now + 1)) A.F) kFM = A.F kFM ++ [⟨tNew, false, A.now + 1⟩] := by
          simp only [yN, List.foldl_cons, List.foldl_nil, wr1]
          simp only [if_true, if_neg (show ¬ kFM = kD by decide)]
        subst hs1
        have hi2 := hi'.after (sh' := .b A.now) (ws := yN) (s := q) (by rw [hFD, hd]; rfl) (by rw [hFM]; exact ⟨_, rfl⟩)
          (by intro z hz; simp at hz; rcases hz with rfl | rfl <;> simp) (by intro z hz; simp at hz; rcases hz with rfl | rfl <;> decide) (by show 2 ≤ 2; decide) (by omega) (by omega)
        rw [herase] at hi2
        refine ⟨⟨(A.commit yN).ended q, .b A.now, x, .over m 0 (A.now + 1)⟩, _, true, rfl, ?_, ?_, rfl, .inr ⟨rfl, rfl, m, 0, A.now + 1, rfl, rfl, by show (A.now : Int) + 1 = _; omega⟩⟩
        · cases x with
          | idle => rcases hx with hx | ⟨_, hx⟩ <;> cases hx
          | run q2 => rcases hx with hx | ⟨_, hx⟩ <;> cases hx
          | over s2 =>
            have hx2 : A.now = s2 := by rcases hx with hx | hx <;> cases hx; rfl
            refine ⟨hi2, ?_, ?_, ⟨rfl, by omega⟩, .inr (congrArg Sh.b hx2), .inr (.inr (.inl ⟨A.now, rfl, rfl, rfl, rfl⟩)), ?_, ?_⟩
            · show A.c + 2 ≤ 2 + 2 * ((XS.over s2).dn + 1); have : (XS.over s2).dn = 1 := rfl; have : (XS.over s2).dn = 1 := rfl; omega
            · show A.now + 1 ≤ 1 + ((XS.over s2).dn + 1); have : (XS.over s2).dn = 1 := rfl; have : (XS.over s2).dn = 1 := rfl; omega
            · show 0 ≤ _; omega
            · show 0 ≤ _; omega
        · cases x with
          | idle => rcases hx with hx | ⟨_, hx⟩ <;> cases hx
          | run q2 => rcases hx with hx | ⟨_, hx⟩ <;> cases hx
          | over s2 =>
            show Sat s w' (TxnIdle t0 bs bb delR 1 true * (TxnIdle t1 bs bb (othR false) m true * StoreB bs ((A.commit yN).ended q)) * R)
            rw [show TxnIdle t0 bs bb delR 1 true * (TxnIdle t1 bs bb (othR false) m true * StoreB bs ((A.commit yN).ended q)) * R = TxnIdle t1 bs bb (othR false) m true * (StoreB bs ((A.commit yN).ended q) * (TxnIdle t0 bs bb delR 1 true * R)) by ac_rfl]
            exact h'
      | true =>
        refine (stepA_err libS h (othKind true) (ySpec_ok hrd) htodo hi.small hqA (rightOth true) (by rw [z1]; decide) (by rw [z2]; decide) (fun ws ec hw => by obtain ⟨_, rfl⟩ := ySpec_err hw; rfl)).mono ?_
        rintro e w' ⟨ws, ec, hw, rfl, h'⟩
        obtain ⟨_, rfl⟩ := ySpec_err hw
        have hi2 := hi'.ended q
        rw [herase] at hi2
        refine ⟨⟨A.ended q, .g sd, x, .over m 9 q⟩, _, true, rfl, ?_, ?_, rfl, .inr ⟨rfl, rfl, m, 9, q, rfl, rfl, rfl⟩⟩
        · refine ⟨hi2, ?_, ?_, ⟨hs1, hs2⟩, hx, .inr (.inr (.inr ⟨sd, rfl, rfl, rfl⟩)), ?_, ?_⟩
          · show A.c ≤ 2 + 2 * (x.dn + 1); omega
          · show A.now ≤ 1 + (x.dn + 1); omega
          · dsimp only; omega
          · show 0 ≤ _; omega
        · show Sat s w' (x.hp t0 bs bb * (TxnIdle t1 bs bb (othR true) m true * StoreB bs (A.ended q)) * R)
          rw [show x.hp t0 bs bb * (TxnIdle t1 bs bb (othR true) m true * StoreB bs (A.ended q)) * R = TxnIdle t1 bs bb (othR true) m true * (StoreB bs (A.ended q) * (x.hp t0 bs bb * R)) by ac_rfl]
          exact h'
  | over m ee st =>
    rw [show (x.hp t0 bs bb) * ((YS.over m ee st).hp app t1 bs bb * StoreB bs A) * R = TxnIdle t1 bs bb (othR app) m true * ((x.hp t0 bs bb * StoreB bs A) * R) from by show x.hp t0 bs bb * (TxnIdle t1 bs bb (othR app) m true * StoreB bs A) * R = _; ac_rfl] at h
    refine (Step_over h).mono ?_
    rintro e w' ⟨rfl, h'⟩
    refine ⟨⟨A, sh, x, .over m ee st⟩, doneE 0, false, rfl, ⟨hi, hc, hnw, hsh, hx, hy, ?_, ?_⟩, ?_, rfl, .inl ⟨rfl, rfl, fun _ => rfl⟩⟩
    · dsimp only; omega
    · have h1 : (YS.over m ee st).rank = 0 := rfl
      dsimp only; omega
    · show Sat s w' (x.hp t0 bs bb * (TxnIdle t1 bs bb (othR app) m true * StoreB bs A) * R)
      rw [show x.hp t0 bs bb * (TxnIdle t1 bs bb (othR app) m true * StoreB bs A) * R = TxnIdle t1 bs bb (othR app) m true * ((x.hp t0 bs bb * StoreB bs A) * R) by ac_rfl]
      exact h'


def gStart : GSt := ⟨firstA 1000 kM tOld, .p0, .idle, .idle 0⟩
theorem gone_start (app : Bool) : GOk app gStart 0 where
  inv := { d := (firstA_F 1000 kM tOld (f_ne_d kM)).2.1
           f := (firstA_F 1000 kM tOld (f_ne_d kM)).1
           lim := rfl
           c := by show 0 + 2 ≤ 20; decide
           now := by show 1 ≤ 0 + 1 ∧ 0 + 1 ≤ 10; decide
           P := List.Perm.refl _
           st := fun s hs => by cases hs
           small := small_first 1000 kM tOld ⟨by decide, by decide⟩ }
  c := by show 0 + 2 ≤ 2 + 2 * (0 + 0); decide
  now := by show 0 + 1 ≤ 1 + (0 + 0); decide
  shn := trivial
  x := .inl rfl
  y := .inl ⟨rfl, .inl rfl⟩
  px := by show 2 ≤ _; decide
  py := by show 5 ≤ _; decide

theorem gone_end {app : Bool} {S : GSt} {n : Nat} (h : GOk app S n) (hx : n = 40 ∨ S.x.dn + S.y.dn = 2) : (∃ sd, S.x = .over sd) ∧ ∃ m e st, S.y = .over m e st := by
  obtain ⟨A, sh, x, y⟩ := S
  have h1 := h.px
  have h2 := h.py
  dsimp only at h1 h2 hx ⊢
  refine ⟨?_, ?_⟩
  · cases x with
    | over sd => exact ⟨sd, rfl⟩
    | idle => exfalso; have := y.dn_le; simp only [XS.rank, XS.dn] at h1 hx; omega
    | run q => exfalso; have := y.dn_le; simp only [XS.rank, XS.dn] at h1 hx; omega
  · cases y with
    | over m e st => exact ⟨m, e, st, rfl⟩
    | idle m =>
      exfalso
      have h3 : 2 ≤ (YS.idle m).rank := by rcases m with _ | m <;> simp [YS.rank]
      have h4 : (YS.idle m).dn = 0 := rfl
      have := x.dn_le; omega
    | run m q dm fr =>
      exfalso
      have h3 : 1 ≤ (YS.run m q dm fr).rank := by cases dm <;> cases fr <;> simp [YS.rank]
      have h4 : (YS.run m q dm fr).dn = 0 := rfl
      have := x.dn_le; omega

/-- What the two slots hold of each one's end. -/
def dnX : XS → DoneS → Prop
  | .over sd, d => d.e = 0 ∧ d.stamp = (sd : Int)
  | _, _ => True
def dnY : YS → DoneS → Prop
  | .over _ e st, d => d.e = e ∧ d.stamp = (st : Int)
  | _, _ => True
theorem dnX_keep {x x' : XS} {d : DoneS} (h : dnX x d) (hd : x'.dn = x.dn) (hk : (∃ sd, x = .over sd) → x' = x) : dnX x' d := by
  cases x with
  | over sd => rw [hk ⟨sd, rfl⟩]; exact h
  | idle => cases x' with
    | over sd => exact absurd hd (by show ¬ (1 : Nat) = 0; decide)
    | idle => trivial
    | run q => trivial
  | run q2 => cases x' with
    | over sd => exact absurd hd (by show ¬ (1 : Nat) = 0; decide)
    | idle => trivial
    | run q => trivial
theorem dnY_keep {y y' : YS} {d : DoneS} (h : dnY y d) (hd : y'.dn = y.dn) (hk : (∃ m e st, y = .over m e st) → y' = y) : dnY y' d := by
  cases y with
  | over m e st => rw [hk ⟨m, e, st, rfl⟩]; exact h
  | idle m => cases y' with
    | over m e st => exact absurd hd (by show ¬ (1 : Nat) = 0; decide)
    | idle m => trivial
    | run m q a b => trivial
  | run m q a b => cases y' with
    | over m e st => exact absurd hd (by show ¬ (1 : Nat) = 0; decide)
    | idle m => trivial
    | run m q a b => trivial

/-- What is read at the end. -/
theorem gone_fin {app : Bool} {A : Abs} {sh : Sh} {sd m st n : Nat} {ee : Int} {σ : StoreS} (h : GOk app ⟨A, sh, .over sd, .over m ee st⟩ n) (hσ : Rep σ A) :
    (A.at_ kFM A.now = (e0, false) ∧ A.at_ kD A.now = (e0, true) ∧ ((ee = 0 ∧ st < sd) ∨ (ee = 9 ∧ app = true))) ∨
    (app = false ∧ A.at_ kFM A.now = (tNew, true) ∧ A.at_ kD A.now = (dM, true) ∧ ee = 0 ∧ st = sd + 1) := by
  obtain ⟨hi, _, _, hsh, hx, hy, _, _⟩ := h
  dsimp only at hi hsh hx hy
  have hx : sh = .g sd ∨ sh = .b sd := hx
  have hg : sh = .g sd → A.at_ kFM A.now = (e0, false) ∧ A.at_ kD A.now = (e0, true) := by
    intro h1; subst h1
    obtain ⟨h2, _⟩ := hsh
    obtain ⟨pre, hf⟩ := hi.f
    exact ⟨at_gone hf (hσ.ris _) (by show sd ≤ A.now; omega) rfl, at_last (pre := [⟨dM, false, 1⟩]) (x := ⟨e0, false, sd⟩) hi.d (hσ.ris _) (by show sd ≤ A.now; omega) rfl⟩
  rcases hy with ⟨rfl, hy⟩ | ⟨s2, rfl, hy, hlt⟩ | ⟨s2, rfl, ha, hy, rfl⟩ | ⟨s2, rfl, ha, hy⟩
  · subst hy; rcases hx with hx | hx <;> cases hx
  · subst hy
    rcases hx with hx | hx
    · cases hx
      obtain ⟨h1, h2⟩ := hg rfl
      exact .inl ⟨h1, h2, .inl ⟨rfl, hlt⟩⟩
    · cases hx
  · subst hy
    rcases hx with hx | hx
    · cases hx
    · cases hx
      obtain ⟨h2, _⟩ := hsh
      obtain ⟨pre, hf⟩ := hi.f
      exact .inr ⟨ha, at_last hf (hσ.ris _) (by show sd + 1 ≤ A.now; omega) rfl, at_last (pre := [⟨dM, false, 1⟩, ⟨e0, false, sd⟩]) (x := ⟨dM, false, sd + 1⟩) hi.d (hσ.ris _) (by show sd + 1 ≤ A.now; omega) rfl, rfl, rfl⟩
  · subst hy
    rcases hx with hx | hx
    · cases hx
      obtain ⟨h1, h2⟩ := hg rfl
      exact .inl ⟨h1, h2, .inr ⟨rfl, ha⟩⟩
    · cases hx

end Go.Proofs.YtnjgddckejpddaaGreatDoor
