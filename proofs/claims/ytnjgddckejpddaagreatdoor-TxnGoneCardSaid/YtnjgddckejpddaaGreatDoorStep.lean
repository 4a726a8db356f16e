/-
  Steps of a request, told by all that was ever written.
-/
import Derived.Test.YtnjgddckejpddaaGreatDoorAbs
import Derived.Test.YtnjgddckejpddaaGreatDoorTxnY
import Derived.Test.YtnjgddckejpddaaGreatDoorLastE
import Derived.Test.YtnjgddckejpddaaGreatDoorLastF
namespace Go.Proofs.YtnjgddckejpddaaGreatDoor
open Go.RowKit Go.Proofs.YtnjgddckejpddaaGreatDoor.Sep

/-- What Go's library tells. -/
structure LibS : Prop where
  sp : SplitSpec
  so : SortSpec
  co : CompactSpec
  ct : ContainsSpec
  sk : SortedKeysSpec

/-- The store's memory, told by all that was ever written. -/
def StoreB (bs : Nat) (A : Abs) : Hp := fun h => ∃ σ, Rep σ A ∧ StoreAt bs σ h

theorem StoreB.open_ {s : Out} {w : World} {bs : Nat} {A : Abs} {R : Hp} (h : Sat s w (StoreB bs A * R)) : ∃ σ, Rep σ A ∧ Sat s w (StoreAt bs σ * R) := by
  obtain ⟨hs, _, ⟨a, b, ⟨σ, hr, ha⟩, hb, hd, rfl⟩, hh⟩ := h
  exact ⟨σ, hr, hs, _, ⟨a, b, ha, hb, hd, rfl⟩, hh⟩

theorem StoreB.shut {s : Out} {w : World} {bs : Nat} {σ : StoreS} {A : Abs} {R : Hp} (hr : Rep σ A) (h : Sat s w (StoreAt bs σ * R)) : Sat s w (StoreB bs A * R) := by
  obtain ⟨hs, _, ⟨a, b, ha, hb, hd, rfl⟩, hh⟩ := h
  exact ⟨hs, _, ⟨a, b, ⟨σ, hr, ha⟩, hb, hd, rfl⟩, hh⟩

/-- Behind something else. -/
theorem StoreB.open2 {s : Out} {w : World} {bs : Nat} {A : Abs} {T R : Hp} (h : Sat s w (T * (StoreB bs A * R))) : ∃ σ, Rep σ A ∧ Sat s w (T * (StoreAt bs σ * R)) := by
  rw [show T * (StoreB bs A * R) = StoreB bs A * (T * R) by ac_rfl] at h
  obtain ⟨σ, hr, h⟩ := StoreB.open_ h
  exact ⟨σ, hr, by rw [show T * (StoreAt bs σ * R) = StoreAt bs σ * (T * R) by ac_rfl]; exact h⟩
theorem StoreB.shut2 {s : Out} {w : World} {bs : Nat} {σ : StoreS} {A : Abs} {T R : Hp} (hr : Rep σ A) (h : Sat s w (T * (StoreAt bs σ * R))) : Sat s w (T * (StoreB bs A * R)) := by
  rw [show T * (StoreAt bs σ * R) = StoreAt bs σ * (T * R) by ac_rfl] at h
  rw [show T * (StoreB bs A * R) = StoreB bs A * (T * R) by ac_rfl]
  exact StoreB.shut hr h

/-- No number is too great. -/
structure Small (A : Abs) : Prop where
  c : A.c ≤ 100000000000
  now : A.now ≤ 100000000000
  P : A.P.length ≤ 100000000
  val : ∀ k, ∀ x ∈ A.F k, x.val.size ≤ 900000

theorem base_mem {p : List Ver} {x : Ver} (h : x ∈ base p) : x ∈ p := base_le h

theorem readV_mem {l : List Ver} {t : Nat} {v : ByteArray} (hl : Rising l) (h : readV l t = some v) : ∃ x ∈ l, x.val = v := by
  obtain ⟨p, q, rfl, hp, hq⟩ := split_at t l hl
  rw [readV_split hp hq] at h
  rcases hb : base p with _ | ⟨x, r⟩
  · rw [hb] at h; simp at h
  · rw [hb] at h
    simp at h
    exact ⟨x, List.mem_append_left _ (base_le (by rw [hb]; simp)), h⟩

theorem Small.at_ {A : Abs} (h : Small A) (hr : ∀ k, Rising (A.F k)) (k : ByteArray) (t : Nat) : (A.at_ k t).1.size ≤ 900000 := by
  unfold Abs.at_
  rcases hv : readV (A.F k) t with _ | v
  · show (0 : Nat) ≤ 900000
    decide
  · obtain ⟨x, hx, rfl⟩ := readV_mem (hr k) hv
    exact h.val k x hx

/-- The key that is read first (of what is not RBuild). -/
def firstKey (r : Req) : ByteArray := if r.kind = 4 then ⟨#[102]⟩ ++ r.name else if r.kind = 5 ∨ r.kind = 6 then ⟨#[101]⟩ else ⟨#[100]⟩
theorem firstKeys_one {r : Req} (h7 : r.kind ≠ 7) : firstKeys r = [firstKey r] := by
  unfold firstKeys firstKey
  split
  · rfl
  · split
    · rfl
    · rfl

/-- Keys that are read behind one (of what is not RBuild). -/
def moreKeys (r : Req) (τ : TryS) (k : ByteArray) : List ByteArray := if r.kind = 3 ∧ k = ⟨#[100]⟩ then moreApp τ r.name else []

theorem more_calls (L : LibS) {s : Out} {w : World} {tb bs bb : Nat} {r : Req} {tries : Nat} {τ : TryS} {R : Hp} (key : ByteArray) (h : Sat s w (TxnTry tb bs bb r tries τ * R)) (h7 : r.kind ≠ 7) (hn : r.name.size ≤ 1048576)
    (hs : (τ.val ⟨#[100]⟩).1.size ≤ 900000) :
    Calls Tryz.prog 40 #[.pointer (some ⟨tb, 0, none⟩), .string key] w fun e w' => ∃ v, e = .returned v ∧ Fresh w w' (Row 9 1 v (moreKeys r τ key).length (strs (moreKeys r τ key))) := by
  have fin : ∀ {w' : World}, Below w.heap.size w w' → Fresh w w' (Row 9 1 (.slice none 0 0) ([] : List ByteArray).length (strs [])) := fun hb => Row.shut_none _ _ _ ((Sat.old w).below hb)
  unfold moreKeys
  by_cases h3 : r.kind = 3
  · by_cases hk : key = ⟨#[100]⟩
    · rw [if_pos ⟨h3, hk⟩]; subst hk
      exact more_append L.sp L.ct h h3 hn hs
    · rw [if_neg (fun e => hk e.2)]
      refine (more_append_none key h h3 hk).mono ?_
      rintro e w' ⟨rfl, hb⟩
      exact ⟨_, rfl, fin hb⟩
  · rw [if_neg (fun e => h3 e.1)]
    refine (more_none key h h3 h7).mono ?_
    rintro e w' ⟨rfl, hb⟩
    exact ⟨_, rfl, fin hb⟩

theorem moreKeys_le {r : Req} {τ : TryS} {k : ByteArray} : (moreKeys r τ k).length ≤ 1 := by
  unfold moreKeys moreApp
  split
  · split <;> simp
  · simp

/-- A try's first Step. -/
theorem stepA_first (L : LibS) {s : Out} {w : World} {tb bs bb : Nat} {r : Req} {tries : Nat} {A : Abs} {R : Hp} (h : Sat s w (TxnIdle tb bs bb r tries false * (StoreB bs A * R))) (h7 : r.kind ≠ 7)
    (hs : Small A) (htr : tries ≤ 1099511627776) (hr : rightB r = true) (hn1 : r.name.size ≤ 1048576) (hn2 : r.text.size ≤ 1099511627776) :
    Calls Tryz.prog 13 #[.pointer (some ⟨tb, 0, none⟩)] w fun e w' => e = .returned (.tuple #[(doneE 0).val, .bool false]) ∧
      Sat s w' (TxnTry tb bs bb r (tries + 1) ⟨A.now, moreKeys r ⟨A.now, [], [(firstKey r, A.at_ (firstKey r) A.now)]⟩ (firstKey r), [(firstKey r, A.at_ (firstKey r) A.now)]⟩ * (StoreB bs A.pin * R)) := by
  obtain ⟨σ, hσ, h⟩ := StoreB.open2 h
  have hp := hσ.pinned σ.now
  have hP := hs.P
  have hat : σ.at_ (firstKey r) σ.now = A.at_ (firstKey r) A.now := by rw [hσ.now]; exact hσ.at_ _ hσ.mN
  refine (Step_first (rest := []) (mk := moreKeys r ⟨A.now, [], [(firstKey r, A.at_ (firstKey r) A.now)]⟩ (firstKey r)) (firstKeys_one h7) (by simp) (Nat.le_trans moreKeys_le (by decide)) h htr ⟨by omega, by omega⟩ hr hn1 hn2 ?_).mono ?_
  · intro W R' hW
    rw [hat] at hW
    have hv : ((⟨σ.now, firstKeys r, aset (firstKey r) (A.at_ (firstKey r) A.now) []⟩ : TryS).val ⟨#[100]⟩).1.size ≤ 900000 := by
      unfold TryS.val
      simp only [aset, aget]
      split
      · exact hs.at_ hσ.ris _ _
      · show (0 : Nat) ≤ 900000
        decide
    have := more_calls L (firstKey r) hW h7 hn1 hv
    exact this
  · rintro e w' ⟨rfl, h'⟩
    rw [hat, List.nil_append] at h'
    refine ⟨rfl, StoreB.shut2 hσ.pin ?_⟩
    rw [hσ.now] at h'
    exact h'

/-- A Step that reads. -/
theorem stepA_read (L : LibS) {s : Out} {w : World} {tb bs bb : Nat} {r : Req} {tries : Nat} {τ : TryS} {A : Abs} {R : Hp} {k : ByteArray} {rest : List ByteArray} (ht : τ.todo = k :: rest) (hl : rest.length ≤ 100000)
    (h : Sat s w (TxnTry tb bs bb r tries τ * (StoreB bs A * R))) (h7 : r.kind ≠ 7) (hs : Small A) (hP : τ.stamp ∈ A.P) (hr : rightB r = true) (hn1 : r.name.size ≤ 1048576) (hn2 : r.text.size ≤ 1099511627776)
    (hd : (({ τ with got := aset k (A.at_ k τ.stamp) τ.got } : TryS).val ⟨#[100]⟩).1.size ≤ 900000) :
    Calls Tryz.prog 13 #[.pointer (some ⟨tb, 0, none⟩)] w fun e w' => e = .returned (.tuple #[(doneE 0).val, .bool false]) ∧
      Sat s w' (TxnTry tb bs bb r tries ⟨τ.stamp, rest ++ moreKeys r { τ with got := aset k (A.at_ k τ.stamp) τ.got } k, aset k (A.at_ k τ.stamp) τ.got⟩ * (StoreB bs A * R)) := by
  obtain ⟨σ, hσ, h⟩ := StoreB.open2 h
  have hat : σ.at_ k τ.stamp = A.at_ k τ.stamp := hσ.at_ _ (hσ.mP _ hP).1
  refine (Step_read (mk := moreKeys r { τ with got := aset k (A.at_ k τ.stamp) τ.got } k) ht hl (Nat.le_trans moreKeys_le (by decide)) h hr (Nat.le_trans hn1 (by decide)) hn2 ?_).mono ?_
  · intro W R' hW
    rw [hat] at hW
    exact more_calls L k hW h7 hn1 hd
  · rintro e w' ⟨rfl, h'⟩
    rw [hat] at h'
    exact ⟨rfl, StoreB.shut2 hσ h'⟩

section last
variable (L : LibS) {s : Out} {w : World} {tb bs bb : Nat} {r : Req} {tries : Nat} {τ : TryS} {A : Abs} {R : Hp} {WOk : List Wr → Int → Prop}
  (h : Sat s w (TxnTry tb bs bb r tries τ * (StoreB bs A * R))) (hk : r.kind = 1 ∨ r.kind = 2 ∨ r.kind = 3 ∨ r.kind = 5 ∨ r.kind = 6) (HWr : WritesSpec tb bs bb r tries τ WOk) (ht : τ.todo = [])
  (hs : Small A) (hP : τ.stamp ∈ A.P) (hr : rightB r = true) (hn1 : r.name.size ≤ 1099511627776) (hn2 : r.text.size ≤ 1099511627776)
include L h hk HWr ht hs hP hr hn1 hn2

/-- A try's end: done. -/
theorem stepA_ok (hch : A.changed τ = false) (hroom : ∀ σ, Rep σ A → ∀ ws ec, WOk ws ec → ec = 0 ∧ 1 ≤ ws.length ∧ ws.length ≤ 10 ∧ (σ.count : Int) + ws.length ≤ A.limit) (hwz : ∀ ws ec, WOk ws ec → ∀ x ∈ ws, x.key.size ≤ maxLen) :
    Calls Tryz.prog 13 #[.pointer (some ⟨tb, 0, none⟩)] w fun e w' => ∃ ws, WOk ws 0 ∧ e = .returned (.tuple #[({ doneE 0 with stamp := (A.now : Int) + 1, wrote := true } : DoneS).val, .bool true]) ∧
      Sat s w' (TxnIdle tb bs bb r tries true * (StoreB bs ((A.commit ws).ended τ.stamp) * R)) := by
  obtain ⟨σ, hσ, h⟩ := StoreB.open2 h
  have hm := (hσ.mP _ hP).1
  have hpn := hσ.pinned τ.stamp
  have hcnt := hσ.cnt
  have hkln := hσ.kln
  have hc := hs.c
  have hPl := hs.P
  have hnow := hs.now
  refine (Step_last (fun d b H => ∃ ws ks, WOk ws 0 ∧ ks.Perm ((σ.writes ws).keys.map (·.1)) ∧ d = { doneE 0 with stamp := (σ.now : Int) + 1, wrote := true } ∧ b = true ∧ H = TxnIdle tb bs bb r tries true * StoreAt bs ((σ.writes ws).ended τ.stamp ks)) ht h hr hn1 hn2 ?_).mono ?_
  · intro W R' hW
    refine (last_ok L.sk WOk hW hk HWr (by rw [hσ.changed hm]; exact hch) (by omega) (by rw [hσ.now]; omega) ⟨by omega, by omega⟩ (fun ws ec hw => (hσ.commit ws (hwz ws ec hw)).least hP) (fun ws ec hw hws => ?_) (fun ws ec hw => ?_)).mono ?_
    · have h1 := (hσ.commit ws (hwz ws ec hw)).cnt
      have h2 := (hσ.commit ws (hwz ws ec hw)).kln
      have h3 : (A.commit ws).c = A.c + ws.length := rfl
      exact ⟨by omega, ⟨by omega, (hσ.commit ws (hwz ws ec hw)).ksz, (hσ.commit ws (hwz ws ec hw)).nodup⟩, writes_pins ws _⟩
    · rw [hσ.lim]; exact hroom σ hσ ws ec hw
    · rintro e w' ⟨ws, ec, ks, hw, hp, rfl, hS⟩
      obtain ⟨rfl, _⟩ := hroom σ hσ ws ec hw
      exact ⟨_, _, _, ⟨ws, ks, hw, hp, rfl, rfl, rfl⟩, rfl, by rw [Sep.mul_assoc]; exact hS⟩
  · rintro e w' ⟨d, b, H, ⟨ws, ks, hw, hp, rfl, rfl, rfl⟩, rfl, hS⟩
    rw [Sep.mul_assoc] at hS
    exact ⟨ws, hw, by rw [hσ.now], StoreB.shut2 ((hσ.commit ws (hwz ws _ hw)).ended hP hp) hS⟩

/-- A try's end: refused. -/
theorem stepA_err (hroom : ∀ ws ec, WOk ws ec → (ec == 0) = false) :
    Calls Tryz.prog 13 #[.pointer (some ⟨tb, 0, none⟩)] w fun e w' => ∃ ws ec, WOk ws ec ∧ e = .returned (.tuple #[({ doneE ec with stamp := τ.stamp } : DoneS).val, .bool true]) ∧
      Sat s w' (TxnIdle tb bs bb r tries true * (StoreB bs (A.ended τ.stamp) * R)) := by
  obtain ⟨σ, hσ, h⟩ := StoreB.open2 h
  have hpn := hσ.pinned τ.stamp
  have hcnt := hσ.cnt
  have hkln := hσ.kln
  have hc := hs.c
  have hPl := hs.P
  refine (Step_last (fun d b H => ∃ ws ec ks, WOk ws ec ∧ ks.Perm (σ.keys.map (·.1)) ∧ d = { doneE ec with stamp := τ.stamp } ∧ b = true ∧ H = TxnIdle tb bs bb r tries true * StoreAt bs (σ.ended τ.stamp ks)) ht h hr hn1 hn2 ?_).mono ?_
  · intro W R' hW
    refine (last_err L.sk WOk hW hk HWr ⟨by omega, by omega⟩ (hσ.least hP) ⟨by omega, ⟨by omega, hσ.ksz, hσ.nodup⟩⟩ hroom).mono ?_
    rintro e w' ⟨ws, ec, ks, hw, hp, rfl, hS⟩
    exact ⟨_, _, _, ⟨ws, ec, ks, hw, hp, rfl, rfl, rfl⟩, rfl, by rw [Sep.mul_assoc]; exact hS⟩
  · rintro e w' ⟨d, b, H, ⟨ws, ec, ks, hw, hp, rfl, rfl, rfl⟩, rfl, hS⟩
    rw [Sep.mul_assoc] at hS
    exact ⟨ws, ec, hw, rfl, StoreB.shut2 (hσ.ended hP hp) hS⟩

/-- A try's end: it has failed. -/
theorem stepA_retry (hch : A.changed τ = true) (htr : (tries : Int) < 3) (hroom : ∀ ws ec, WOk ws ec → ec = 0) :
    Calls Tryz.prog 13 #[.pointer (some ⟨tb, 0, none⟩)] w fun e w' => e = .returned (.tuple #[(doneE 0).val, .bool false]) ∧
      Sat s w' (TxnIdle tb bs bb r tries false * (StoreB bs (A.ended τ.stamp) * R)) := by
  obtain ⟨σ, hσ, h⟩ := StoreB.open2 h
  have hm := (hσ.mP _ hP).1
  have hpn := hσ.pinned τ.stamp
  have hcnt := hσ.cnt
  have hkln := hσ.kln
  have hc := hs.c
  have hPl := hs.P
  refine (Step_last (fun d b H => ∃ ks, ks.Perm (σ.keys.map (·.1)) ∧ d = doneE 0 ∧ b = false ∧ H = TxnIdle tb bs bb r tries false * StoreAt bs (σ.ended τ.stamp ks)) ht h hr hn1 hn2 ?_).mono ?_
  · intro W R' hW
    refine (last_retry L.sk WOk hW hk HWr (by rw [hσ.changed hm]; exact hch) htr ⟨by omega, by omega⟩ (hσ.least hP) ⟨by omega, ⟨by omega, hσ.ksz, hσ.nodup⟩⟩ hroom).mono ?_
    rintro e w' ⟨ws, ec, ks, hw, hp, rfl, hS⟩
    exact ⟨_, _, _, ⟨ks, hp, rfl, rfl, rfl⟩, rfl, by rw [Sep.mul_assoc]; exact hS⟩
  · rintro e w' ⟨d, b, H, ⟨ks, hp, rfl, rfl, rfl⟩, rfl, hS⟩
    rw [Sep.mul_assoc] at hS
    exact ⟨rfl, StoreB.shut2 (hσ.ended hP hp) hS⟩

/-- A try's end: busy. -/
theorem stepA_busy (hch : A.changed τ = true) (htr : ¬ (tries : Int) < 3) (hroom : ∀ ws ec, WOk ws ec → ec = 0) :
    Calls Tryz.prog 13 #[.pointer (some ⟨tb, 0, none⟩)] w fun e w' => e = .returned (.tuple #[(doneE 11).val, .bool true]) ∧
      Sat s w' (TxnIdle tb bs bb r tries true * (StoreB bs (A.ended τ.stamp) * R)) := by
  obtain ⟨σ, hσ, h⟩ := StoreB.open2 h
  have hm := (hσ.mP _ hP).1
  have hpn := hσ.pinned τ.stamp
  have hcnt := hσ.cnt
  have hkln := hσ.kln
  have hc := hs.c
  have hPl := hs.P
  refine (Step_last (fun d b H => ∃ ks, ks.Perm (σ.keys.map (·.1)) ∧ d = doneE 11 ∧ b = true ∧ H = TxnIdle tb bs bb r tries true * StoreAt bs (σ.ended τ.stamp ks)) ht h hr hn1 hn2 ?_).mono ?_
  · intro W R' hW
    refine (last_busy L.sk WOk hW hk HWr (by rw [hσ.changed hm]; exact hch) htr ⟨by omega, by omega⟩ (hσ.least hP) ⟨by omega, ⟨by omega, hσ.ksz, hσ.nodup⟩⟩ hroom).mono ?_
    rintro e w' ⟨ws, ec, ks, hw, hp, rfl, hS⟩
    exact ⟨_, _, _, ⟨ks, hp, rfl, rfl, rfl⟩, rfl, by rw [Sep.mul_assoc]; exact hS⟩
  · rintro e w' ⟨d, b, H, ⟨ks, hp, rfl, rfl, rfl⟩, rfl, hS⟩
    rw [Sep.mul_assoc] at hS
    exact ⟨rfl, StoreB.shut2 (hσ.ended hP hp) hS⟩

/-- A try's end: there is no room. -/
theorem stepA_full (hch : A.changed τ = false) (hroom : ∀ σ, Rep σ A → ∀ ws ec, WOk ws ec → ec = 0 ∧ ws.length ≤ 10 ∧ A.limit < (σ.count : Int) + ws.length) :
    Calls Tryz.prog 13 #[.pointer (some ⟨tb, 0, none⟩)] w fun e w' => e = .returned (.tuple #[(doneE 13).val, .bool true]) ∧
      Sat s w' (TxnIdle tb bs bb r tries true * (StoreB bs (A.ended τ.stamp) * R)) := by
  obtain ⟨σ, hσ, h⟩ := StoreB.open2 h
  have hm := (hσ.mP _ hP).1
  have hpn := hσ.pinned τ.stamp
  have hcnt := hσ.cnt
  have hkln := hσ.kln
  have hc := hs.c
  have hPl := hs.P
  refine (Step_last (fun d b H => ∃ ks, ks.Perm (σ.keys.map (·.1)) ∧ d = doneE 13 ∧ b = true ∧ H = TxnIdle tb bs bb r tries true * StoreAt bs (σ.ended τ.stamp ks)) ht h hr hn1 hn2 ?_).mono ?_
  · intro W R' hW
    refine (last_full L.sk WOk hW hk HWr (by rw [hσ.changed hm]; exact hch) (by omega) ⟨by omega, by omega⟩ (hσ.least hP) ⟨by omega, ⟨by omega, hσ.ksz, hσ.nodup⟩⟩ (fun ws ec hw => ?_)).mono ?_
    · rw [hσ.lim]; exact hroom σ hσ ws ec hw
    · rintro e w' ⟨ws, ec, ks, hw, hp, rfl, hS⟩
      exact ⟨_, _, _, ⟨ks, hp, rfl, rfl, rfl⟩, rfl, by rw [Sep.mul_assoc]; exact hS⟩
  · rintro e w' ⟨d, b, H, ⟨ks, hp, rfl, rfl, rfl⟩, rfl, hS⟩
    rw [Sep.mul_assoc] at hS
    exact ⟨rfl, StoreB.shut2 (hσ.ended hP hp) hS⟩
end last

end Go.Proofs.YtnjgddckejpddaaGreatDoor
