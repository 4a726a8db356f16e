/-
  Two sessions put one fragment, that is there, step by step: both are done, in their first try; the last that committed counts: the walk.
-/
import Derived.Test.YtnjgddckejpddaaGreatDoorBlind
import Derived.Test.YtnjgddckejpddaaGreatDoorBadW
namespace Go.Proofs.YtnjgddckejpddaaGreatDoor
open Go.RowKit Go.Proofs.YtnjgddckejpddaaGreatDoor.Sep

/-- A slice of integers that can be read. -/
def Ints (w : World) (v : Value) (zs : List Int) : Prop := ∃ a c, v = .slice a zs.length c ∧ zs.length ≤ maxLen ∧ (∀ j z, zs[j]? = some z → ∃ b off, a = some ⟨b, off, none⟩ ∧ b < w.heap.size ∧ w.cell? ⟨b, off + j, none⟩ = some (.int .i64 z)) ∧ ∀ z ∈ zs, -9223372036854775808 ≤ z ∧ z ≤ 9223372036854775807

/-- The store behind a first fragment that is put to its end. -/
theorem finish_first {s : Out} {w : World} {tb bs bb : Nat} {t : ByteArray} {R : Hp} (h : Sat s w (TxnIdle tb bs bb (putR kM t) 0 false * (StoreB bs (Abs.new 1000) * R))) (ht : t.size ≤ 600) :
    Calls Tryz.prog 10 #[.pointer (some ⟨tb, 0, none⟩)] w fun e w' => e = .returned (.int .i64 2) ∧ Sat s w' (StoreB bs (firstA 1000 kM t) * R) := by
  have hr := rightM t ht
  have hx : kM.size ≤ 100000 := by show (1 : Nat) ≤ _; decide
  rw [show ∀ A B C : Hp, A * (B * C) = A * B * C from fun A B C => (Sep.mul_assoc A B C).symm] at h
  refine (finish_calls tb 2 (fun i => if i = 1 then TxnIdle tb bs bb (putR kM t) 0 false * StoreB bs (Abs.new 1000) else TxnTry tb bs bb (putR kM t) 1 (tauD 0 (⟨#[]⟩, false)) * StoreB bs (Abs.new 1000).pin) (TxnIdle tb bs bb (putR kM t) 1 true * StoreB bs (firstA 1000 kM t)) ({ doneE 0 with stamp := 1, wrote := true } : DoneS) (by decide) (by decide) ?_ ?_ h).mono ?_
  · intro i h1 h2 s W R' hW
    have : i = 1 := by omega
    subst this
    rw [if_pos rfl, Sep.mul_assoc] at hW
    refine (stepX1 hW hr hx (by omega)).mono ?_
    rintro e w' ⟨rfl, h'⟩
    rw [if_neg (by decide), Sep.mul_assoc]
    exact ⟨rfl, h'⟩
  · intro s W R' hW
    rw [if_neg (by decide), Sep.mul_assoc] at hW
    refine (stepX2 hW hr hx (by omega) (by decide)).mono ?_
    rintro e w' ⟨rfl, h'⟩
    rw [Sep.mul_assoc]
    exact ⟨rfl, h'⟩
  · rintro e w' ⟨rfl, h'⟩
    rw [Sep.mul_assoc] at h'
    exact ⟨rfl, h'.right⟩

abbrev arrO (p q : Value) : Obj := .cells #[p, q] 34 (0, 0)
abbrev lO (a b : ByteArray) : Obj := .cells #[.string a, .string b] 9 (0, 0)

/-- How far the array of the two requests is filled. -/
inductive BArr (bs bb : Nat) (a b : ByteArray) : Nat → Value → Value → Hp → Prop
  | none : BArr bs bb a b 0 (.pointer none) (.pointer none) emp
  | one (t0 : Nat) : BArr bs bb a b 1 (.pointer (some ⟨t0, 0, none⟩)) (.pointer none) (TSt.idle.hp t0 bs bb (putR kM a))
  | two (t0 t1 : Nat) : BArr bs bb a b 2 (.pointer (some ⟨t0, 0, none⟩)) (.pointer (some ⟨t1, 0, none⟩)) (TSt.idle.hp t0 bs bb (putR kM a) * TSt.idle.hp t1 bs bb (putR kM b))

theorem blind_tries0 {s : Out} {w : World} {bs bb t0 t1 : Nat} {a b : ByteArray} {S : BSt} {R : Hp} (h : Sat s w (S.hp bs bb t0 t1 a b * R)) (hx : S.x = .over) (o : Obj) :
    Calls Tryz.prog 14 #[.pointer (some ⟨t0, 0, none⟩)] (w.alloc o) fun e w' => e = .returned (.int .i64 1) ∧ w.alloc o = w' := by
  unfold BSt.hp at h
  rw [hx, Sep.mul_assoc] at h
  obtain ⟨st, td, gt, h2⟩ := TxnIdle.open_ h
  have h3 := h2.alloc o
  rw [show ∀ A B C : Hp, A * (B * C) = B * (A * C) from fun A B C => by ac_rfl] at h3
  exact Tries_calls h3
theorem blind_tries1 {s : Out} {w : World} {bs bb t0 t1 : Nat} {a b : ByteArray} {S : BSt} {R : Hp} (h : Sat s w (S.hp bs bb t0 t1 a b * R)) (hx : S.y = .over) (o : Obj) :
    Calls Tryz.prog 14 #[.pointer (some ⟨t1, 0, none⟩)] (w.alloc o) fun e w' => e = .returned (.int .i64 1) ∧ w.alloc o = w' := by
  unfold BSt.hp at h
  rw [hx, show ∀ A B C D : Hp, A * (B * C) * D = B * (A * C * D) from fun A B C D => by ac_rfl] at h
  obtain ⟨st, td, gt, h2⟩ := TxnIdle.open_ h
  have h3 := h2.alloc o
  rw [show ∀ A B C : Hp, A * (B * C) = B * (A * C) from fun A B C => by ac_rfl] at h3
  exact Tries_calls h3
theorem one_ne_zero_nat : (1 : Nat) = 0 ↔ False := by decide

theorem b_end {S : BSt} {a b : ByteArray} {n : Nat} (h : BOk a b S n) (hx : n = 20 ∨ S.x.dn + S.y.dn = 2) : S.x.dn + S.y.dn = 2 := by
  rcases hx with rfl | hx
  · have h1 := h.px
    have h2 := h.py
    have h3 : S.x.cnt = 2 := by have := S.x.cnt_le; omega
    have h4 : S.y.cnt = 2 := by have := S.y.cnt_le; omega
    have e1 : S.x.dn = 1 := by cases hxx : S.x <;> simp_all [TSt.cnt, TSt.dn]
    have e2 : S.y.dn = 1 := by cases hyy : S.y <;> simp_all [TSt.cnt, TSt.dn]
    omega
  · exact hx

set_option maxRecDepth 100000 in
set_option maxHeartbeats 8000000 in
theorem blind_walk (v : Value) (zs : List Int) (a b : ByteArray) (w : World) (hv : Ints w v zs) (ha : a.size ≤ maxLen) (hb : b.size ≤ maxLen) :
    Calls Tryz.prog 3 #[v, .string a, .string b] w fun e w' => e = .returned (.bool true) ∧ Below w.heap.size w w' := by
  obtain ⟨oa, oc, rfl, hol, hoc, hob⟩ := hv
  have ha' : a.size ≤ 9223372036854775807 := ha
  have hb' : b.size ≤ 9223372036854775807 := hb
  have hol' : zs.length ≤ 9223372036854775807 := hol
  have HK := hid (known_calls w)
  have H0 := hid (Sat.old w)
  have HO := hid hoc
  have HOB := hid hob
  clear ha hb hol hoc hob
  by_cases h3 : 300 < a.size
  · go_enter Tryz.func3, Tryz.ntmps3
    go_wp2_with (go_at_call 7; (with_reducible refine HK.out.mono ?_); rintro e w1 ⟨rfl, hb1⟩)
    go_ret
    exact ⟨rfl, hb1⟩
  by_cases h4 : 300 < b.size
  · go_enter Tryz.func3, Tryz.ntmps3
    go_wp2_with (go_at_call 7; (with_reducible refine HK.out.mono ?_); rintro e w1 ⟨rfl, hb1⟩)
    go_ret
    exact ⟨rfl, hb1⟩
  have HA : Hid (a.size ≤ 600) := by unfold Hid; omega
  have HB : Hid (b.size ≤ 600) := by unfold Hid; omega
  go_enter Tryz.func3, Tryz.ntmps3
  go_wp2_with (first
    | (go_at_call 7; (with_reducible refine HK.out.mono ?_); rintro e w1 ⟨rfl, hb1⟩
       have H1 := hid (H0.out.below hb1)
       clear hb1)
    | (go_at_call 8; (with_reducible refine (New_calls 1000 H1.out).mono ?_); rintro e w2 ⟨bs, rfl, h2⟩
       have H2 := hid (StoreB.shut (Rep.new 1000) h2)
       clear h2)
    | (go_at_call 9; (with_reducible refine (incrNew_calls H2.out).mono ?_); rintro e w3 ⟨bb, mb, rfl, h3'⟩
       have H3 := hid h3'.right
       clear h3')
    | (go_at_call 11; (with_reducible refine (Begin_calls bs bb (putR kM ⟨#[111, 108, 100]⟩) H3.out).mono ?_); rintro e w4 ⟨tb, rfl, h4'⟩
       have H4 := hid h4'
       clear h4')
    | (go_at_call 10; (with_reducible refine (finish_first H4.out (by decide)).mono ?_); rintro e w5 ⟨rfl, h5⟩
       have h6 := (h5.alloc (lO a b)).alloc (arrO (.pointer none) (.pointer none))
       have hz : (w5.alloc (lO a b)).heap.size = w5.heap.size + 1 := by show (w5.heap.push _).size = _; simp
       rw [hz] at h6
       have H6 := hid h6
       clear h5 h6 hz))
  clear HK
  go_loopg [11] 2 (fun m i wr => ∃ k : Nat, k ≤ 2 ∧ m = 2 - k ∧ i = .int .i64 k ∧ Hid (∃ p q T, BArr bs bb a b k p q T ∧ Sat (out w) wr (pts (w5.heap.size + 1) (arrO p q) * (pts w5.heap.size (lO a b) * (T * (StoreB bs (firstA 1000 kM ⟨#[111, 108, 100]⟩) * Old w))))))
  case atStart =>
    refine ⟨0, by omega, rfl, rfl, hid ⟨_, _, _, .none, ?_⟩⟩
    have h := H6.out
    rw [emp_mul]
    exact h
  case round =>
    obtain ⟨k, hk, rfl, rfl, HQ⟩ := hrel
    obtain ⟨p, q, T, hT, hS⟩ := HQ.out
    clear HQ
    have l0 : wr.cell? ⟨w5.heap.size, 0, none⟩ = some (.string a) := hS.right.cell rfl
    have l1 : wr.cell? ⟨w5.heap.size, 1, none⟩ = some (.string b) := hS.right.cell rfl
    have HS := hid hS
    clear hS
    cases hT with
    | none =>
      go_wp2_with (first
        | (go_at_call 11; (with_reducible refine (Begin_calls bs bb (putR kM a) HS.out).mono ?_); rintro e w7 ⟨t0, rfl, h7⟩
           rw [emp_mul, show ∀ A B C D E : Hp, A * (B * (C * (D * E))) = B * (C * (A * (D * E))) from fun A B C D E => by ac_rfl] at h7
           have f0 : w7.frozen? ⟨w5.heap.size + 1, 0, none⟩ = false := h7.free
           have h7s := h7.setCell (off := 0) (.pointer (some ⟨t0, 0, none⟩))
           have g0 : w7.cell? ⟨w5.heap.size + 1, 0, none⟩ = some (.pointer none) := h7.cell rfl
           have H7 := hid h7s
           clear h7 h7s))
      go_roundg 1
      case measure => omega
      case rel => exact ⟨1, by omega, rfl, rfl, hid ⟨_, _, _, .one t0, H7.out⟩⟩
    | one t0 =>
      go_wp2_with (first
        | (go_at_call 11; (with_reducible refine (Begin_calls bs bb (putR kM b) HS.out).mono ?_); rintro e w7 ⟨t1, rfl, h7⟩
           rw [show ∀ A B C D E F : Hp, A * (B * (C * (D * (E * F)))) = B * (C * (D * A * (E * F))) from fun A B C D E F => by ac_rfl] at h7
           have f0 : w7.frozen? ⟨w5.heap.size + 1, 1, none⟩ = false := h7.free
           have h7s := h7.setCell (off := 1) (.pointer (some ⟨t1, 0, none⟩))
           have g0 : w7.cell? ⟨w5.heap.size + 1, 1, none⟩ = some (.pointer none) := h7.cell rfl
           have H7 := hid h7s
           clear h7 h7s))
      go_roundg 0
      case measure => omega
      case rel => exact ⟨2, by omega, rfl, rfl, hid ⟨_, _, _, .two t0 t1, H7.out⟩⟩
    | two t0 t1 =>
      have h9 := HS.out
      rw [show ∀ A B C D E F : Hp, A * (B * (C * D * (E * F))) = C * (D * E) * (A * (B * F)) from fun A B C D E F => by ac_rfl] at h9
      have H9 : Hid (Sat (out w) wr (BSt.hp bs bb t0 t1 a b ⟨firstA 1000 kM ⟨#[111, 108, 100]⟩, .idle, .idle, ⟨#[111, 108, 100]⟩, 0⟩ * (pts (w5.heap.size + 1) (arrO (.pointer (some ⟨t0, 0, none⟩)) (.pointer (some ⟨t1, 0, none⟩))) * (pts w5.heap.size (lO a b) * Old w)))) := h9
      clear h9 HS l0 l1
      go_wp2
      go_loopg [12, 13, 14, 15, 16, 17] 20 (fun m last dn i _ _ _ wr => ∃ (n : Nat) (S : BSt), n ≤ 20 ∧ m = 20 - n ∧ last = .int .i64 S.lk ∧ dn = .int .i64 (S.x.dn + S.y.dn : Nat) ∧ i = .int .i64 n ∧
        Hid (BOk a b S n ∧ Sat (out w) wr (S.hp bs bb t0 t1 a b * (pts (w5.heap.size + 1) (arrO (.pointer (some ⟨t0, 0, none⟩)) (.pointer (some ⟨t1, 0, none⟩))) * (pts w5.heap.size (lO a b) * Old w)))))
      case atStart =>
        refine ⟨0, ⟨firstA 1000 kM ⟨#[111, 108, 100]⟩, .idle, .idle, ⟨#[111, 108, 100]⟩, 0⟩, by omega, rfl, rfl, rfl, rfl, hid ⟨?_, H9.out⟩⟩
        exact ⟨BInv.first (by decide), by decide, by decide, .inl rfl, fun h => absurd h (by decide), by decide, by decide⟩
      case round =>
        obtain ⟨n, S, hn20, rfl, rfl, rfl, rfl, HQ⟩ := hrel
        clear H9
        obtain ⟨hok0, hS0⟩ := HQ.out
        clear HQ
        have hdl := S.x.dn_le
        have hdl2 := S.y.dn_le
        have t0c : wr.cell? ⟨w5.heap.size + 1, 0, none⟩ = some (.pointer (some ⟨t0, 0, none⟩)) := hS0.right.cell rfl
        have t1c : wr.cell? ⟨w5.heap.size + 1, 1, none⟩ = some (.pointer (some ⟨t1, 0, none⟩)) := hS0.right.cell rfl
        have l0 : wr.cell? ⟨w5.heap.size, 0, none⟩ = some (.string a) := hS0.right.right.cell rfl
        have l1 : wr.cell? ⟨w5.heap.size, 1, none⟩ = some (.string b) := hS0.right.right.cell rfl
        have hold := hS0.right.right.right.old_only
        have HS := hid hS0
        have HOk := hid hok0
        have hlk := hok0.lk
        clear hS0 hok0
        generalize hdn : S.x.dn + S.y.dn = dn at *
        by_cases hend : n = 20 ∨ dn = 2
        · have h2 := b_end HOk.out (by rw [hdn]; exact hend)
          have hdn2 : dn = 2 := by omega
          subst hdn2
          obtain ⟨HF1, HF2, HF3⟩ : Hid (S.v = if S.lk = 0 then a else b) ∧ Hid (∀ W : World, Sat (out w) W (S.hp bs bb t0 t1 a b * (pts (w5.heap.size + 1) (arrO (.pointer (some ⟨t0, 0, none⟩)) (.pointer (some ⟨t1, 0, none⟩))) * (pts w5.heap.size (lO a b) * Old w))) → Calls Tryz.prog 16 #[.pointer (some ⟨bs, 0, none⟩)] W fun e w' => e = .returned (.int .i64 S.A.now) ∧ W = w') ∧
              Hid (∀ W : World, Sat (out w) W (S.hp bs bb t0 t1 a b * (pts (w5.heap.size + 1) (arrO (.pointer (some ⟨t0, 0, none⟩)) (.pointer (some ⟨t1, 0, none⟩))) * (pts w5.heap.size (lO a b) * Old w))) → Calls Tryz.prog 15 #[.pointer (some ⟨bs, 0, none⟩), .string ⟨#[102, 109]⟩, .int .i64 S.A.now] W fun e w' => e = .returned (.tuple #[.string S.v, .bool true]) ∧ W = w') := by
            refine ⟨HOk.out.hv (by omega), fun W hW => ?_, fun W hW => ?_⟩
            · unfold BSt.hp at hW
              rw [show ∀ X Y Z R : Hp, X * (Y * Z) * R = Z * (X * Y * R) from fun X Y Z R => by ac_rfl] at hW
              exact nowB_calls hW
            · unfold BSt.hp at hW
              rw [show ∀ X Y Z R : Hp, X * (Y * Z) * R = Z * (X * Y * R) from fun X Y Z R => by ac_rfl] at hW
              obtain ⟨σ, hσ, _⟩ := StoreB.open_ hW
              refine (readB_calls hW kFM hσ.mN).mono ?_
              rintro e w' ⟨rfl, rfl⟩
              obtain ⟨pre, st, hf⟩ := HOk.out.inv.f
              have h1 : readV (S.A.F kFM) S.A.now = some S.v := by
                have h3 := hσ.ris kFM
                have h4 := hσ.stm kFM
                rw [hf] at h3 h4 ⊢
                exact readV_last h3 (h4 _ (by simp)).2 rfl
              refine ⟨?_, rfl⟩
              unfold Abs.at_
              rw [h1]; rfl
          have HN := hid (HF2.out _ HS.out)
          have HRd := hid (HF3.out _ HS.out)
          have hn2 : ¬ ((n : Int) < 20 ∧ (2 : Int) < 2) := by omega
          rcases hlk with hlk | hlk
          all_goals
            rw [hlk] at HF1 ⊢
            have hv := HF1.out
            try simp only [one_ne_zero_nat, if_false, if_true] at hv
            rw [hv] at HRd
            have hse : ∀ x : ByteArray, (x.toList == x.toList) = true := fun x => by simp
            clear hv HF1 HF2 HF3 hdn hend h2 hlk
            go_wp2_with (first
              | (go_at_call 16; (with_reducible refine HN.out.mono ?_); rintro e w' ⟨rfl, rfl⟩)
              | (go_at_call 15; (with_reducible refine HRd.out.mono ?_); rintro e w' ⟨rfl, rfl⟩))
            all_goals
              go_ret
              exact ⟨by simp, hold⟩
        have hn19 : n < 20 := by omega
        have hdn1 : dn < 2 := by omega
        have HLK : Hid (∀ q : Nat, q = S.lk → Value.int IntKind.i64 S.lk = Value.int IntKind.i64 q) := fun q h => by rw [h]
        by_cases ho : n < zs.length
        · by_cases h8 : n < 8
          · have hz : zs[n]? = some zs[n] := by simp [ho]
            obtain ⟨ob, off, rfl, hbl, hcz⟩ := HO.out n _ hz
            have hc : wr.cell? ⟨ob, off + n, none⟩ = some (.int .i64 zs[n]) := (hold.cell hbl).trans hcz
            have hzb := HOB.out zs[n] (List.getElem_mem _)
            generalize zs[n] = z at *
            have HW := hid (fun W => within_calls z 2 W (by decide) (by decide) hzb)
            have hwb := within_bd z (n := 2) (by decide)
            generalize within z 2 = wk at *
            have HPar : Hid (n < 8 ∨ n % 2 = 0) := .inl h8
            have HPar1 : Hid (n < 8 ∨ n % 2 = 1) := .inl h8
            clear hz hcz hzb hend HO HOB
            rcases (show wk = 0 ∨ wk = 1 by omega) with rfl | rfl
            · clear hwb HPar1
              go_wp2_with (go_at_call 12; (with_reducible refine (HW.out _).mono ?_); rintro e w' ⟨rfl, rfl⟩)
              go_at_call 13
              (with_reducible refine (blind_step0 HS.out HOk.out HPar.out HA.out).mono ?_)
              rintro e w7 ⟨S', ⟨de, dt, ia, il, ic, da, dl, dc, ds, dw⟩, is, rfl, hok, h7, hcase⟩
              have HOk' := hid hok
              have H7 := hid (h7.alloc (.cells #[.int .i64 de, .string dt, .slice ia il ic, .slice da dl dc, .int .i64 ds, .bool dw] 42 (0, 0))).right
              clear hok
              rcases hcase with ⟨rfl, hdn', hlk'⟩ | ⟨rfl, hdn', hde, hdw, hx', hlk'⟩
              · have HD := hid hdn'
                have HL := hid hlk'
                clear hdn' hlk' h7
                go_wp2
                go_roundg (20 - (n + 1))
                case measure => omega
                case rel =>
                  refine ⟨n + 1, S', by omega, rfl, ?_, ?_, by go_num, hid ⟨HOk'.out, H7.out⟩⟩
                  · rw [HL.out]
                  · rw [HD.out, hdn]
              · try dsimp only at hde hdw
                subst hde; subst hdw
                have HD := hid hdn'
                have HL := hid hlk'
                have tc : w7.cell? ⟨w5.heap.size + 1, 0, none⟩ = some (.pointer (some ⟨t0, 0, none⟩)) := h7.right.cell rfl
                have hlt7 := h7.right.lt
                have HT := hid (blind_tries0 h7 hx' (.cells #[.int .i64 0, .string dt, .slice ia il ic, .slice da dl dc, .int .i64 ds, .bool true] 42 (0, 0)))
                clear hdn' hlk' hx' h7
                go_wp2_with (go_at_call 14; (with_reducible refine HT.out.mono ?_); rintro e w' ⟨rfl, rfl⟩)
                go_roundg (20 - (n + 1))
                case measure => omega
                case rel =>
                  refine ⟨n + 1, S', by omega, rfl, ?_, ?_, by go_num, hid ⟨HOk'.out, H7.out⟩⟩
                  · rw [HL.out]; first | rfl | exact HLK.out
                  · rw [HD.out, hdn]; first | rfl | go_num
            · clear hwb HPar
              have HPar := HPar1
              go_wp2_with (go_at_call 12; (with_reducible refine (HW.out _).mono ?_); rintro e w' ⟨rfl, rfl⟩)
              go_at_call 13
              (with_reducible refine (blind_step1 HS.out HOk.out HPar.out HB.out).mono ?_)
              rintro e w7 ⟨S', ⟨de, dt, ia, il, ic, da, dl, dc, ds, dw⟩, is, rfl, hok, h7, hcase⟩
              have HOk' := hid hok
              have H7 := hid (h7.alloc (.cells #[.int .i64 de, .string dt, .slice ia il ic, .slice da dl dc, .int .i64 ds, .bool dw] 42 (0, 0))).right
              clear hok
              rcases hcase with ⟨rfl, hdn', hlk'⟩ | ⟨rfl, hdn', hde, hdw, hx', hlk'⟩
              · have HD := hid hdn'
                have HL := hid hlk'
                clear hdn' hlk' h7
                go_wp2
                go_roundg (20 - (n + 1))
                case measure => omega
                case rel =>
                  refine ⟨n + 1, S', by omega, rfl, ?_, ?_, by go_num, hid ⟨HOk'.out, H7.out⟩⟩
                  · rw [HL.out]
                  · rw [HD.out, hdn]
              · try dsimp only at hde hdw
                subst hde; subst hdw
                have HD := hid hdn'
                have HL := hid hlk'
                have tc : w7.cell? ⟨w5.heap.size + 1, 1, none⟩ = some (.pointer (some ⟨t1, 0, none⟩)) := h7.right.cell rfl
                have hlt7 := h7.right.lt
                have HT := hid (blind_tries1 h7 hx' (.cells #[.int .i64 0, .string dt, .slice ia il ic, .slice da dl dc, .int .i64 ds, .bool true] 42 (0, 0)))
                clear hdn' hlk' hx' h7
                go_wp2_with (go_at_call 14; (with_reducible refine HT.out.mono ?_); rintro e w' ⟨rfl, rfl⟩)
                go_roundg (20 - (n + 1))
                case measure => omega
                case rel =>
                  refine ⟨n + 1, S', by omega, rfl, ?_, ?_, by go_num, hid ⟨HOk'.out, H7.out⟩⟩
                  · rw [HL.out]; first | rfl | exact HLK.out
                  · rw [HD.out, hdn]; first | rfl | go_num
          · rcases Nat.mod_two_eq_zero_or_one n with hpar | hpar
            · have HPar : Hid (n < 8 ∨ n % 2 = 0) := .inr hpar
              have hmod : (n : Int).tmod 2 = 0 := by rw [Int.tmod_eq_emod_of_nonneg (by omega)]; omega
              clear hend HO HOB hpar
              go_wp2_with (go_at_call 12; (with_reducible refine (HW.out _).mono ?_); rintro e w' ⟨rfl, rfl⟩)
              go_at_call 13
              (with_reducible refine (blind_step0 HS.out HOk.out HPar.out HA.out).mono ?_)
              rintro e w7 ⟨S', ⟨de, dt, ia, il, ic, da, dl, dc, ds, dw⟩, is, rfl, hok, h7, hcase⟩
              have HOk' := hid hok
              have H7 := hid (h7.alloc (.cells #[.int .i64 de, .string dt, .slice ia il ic, .slice da dl dc, .int .i64 ds, .bool dw] 42 (0, 0))).right
              clear hok
              rcases hcase with ⟨rfl, hdn', hlk'⟩ | ⟨rfl, hdn', hde, hdw, hx', hlk'⟩
              · have HD := hid hdn'
                have HL := hid hlk'
                clear hdn' hlk' h7
                go_wp2
                go_roundg (20 - (n + 1))
                case measure => omega
                case rel =>
                  refine ⟨n + 1, S', by omega, rfl, ?_, ?_, by go_num, hid ⟨HOk'.out, H7.out⟩⟩
                  · rw [HL.out]
                  · rw [HD.out, hdn]
              · try dsimp only at hde hdw
                subst hde; subst hdw
                have HD := hid hdn'
                have HL := hid hlk'
                have tc : w7.cell? ⟨w5.heap.size + 1, 0, none⟩ = some (.pointer (some ⟨t0, 0, none⟩)) := h7.right.cell rfl
                have hlt7 := h7.right.lt
                have HT := hid (blind_tries0 h7 hx' (.cells #[.int .i64 0, .string dt, .slice ia il ic, .slice da dl dc, .int .i64 ds, .bool true] 42 (0, 0)))
                clear hdn' hlk' hx' h7
                go_wp2_with (go_at_call 14; (with_reducible refine HT.out.mono ?_); rintro e w' ⟨rfl, rfl⟩)
                go_roundg (20 - (n + 1))
                case measure => omega
                case rel =>
                  refine ⟨n + 1, S', by omega, rfl, ?_, ?_, by go_num, hid ⟨HOk'.out, H7.out⟩⟩
                  · rw [HL.out]; first | rfl | exact HLK.out
                  · rw [HD.out, hdn]; first | rfl | go_num
            · have HPar : Hid (n < 8 ∨ n % 2 = 1) := .inr hpar
              have hmod : (n : Int).tmod 2 = 1 := by rw [Int.tmod_eq_emod_of_nonneg (by omega)]; omega
              clear hend HO HOB hpar
              go_wp2_with (go_at_call 12; (with_reducible refine (HW.out _).mono ?_); rintro e w' ⟨rfl, rfl⟩)
              go_at_call 13
              (with_reducible refine (blind_step1 HS.out HOk.out HPar.out HB.out).mono ?_)
              rintro e w7 ⟨S', ⟨de, dt, ia, il, ic, da, dl, dc, ds, dw⟩, is, rfl, hok, h7, hcase⟩
              have HOk' := hid hok
              have H7 := hid (h7.alloc (.cells #[.int .i64 de, .string dt, .slice ia il ic, .slice da dl dc, .int .i64 ds, .bool dw] 42 (0, 0))).right
              clear hok
              rcases hcase with ⟨rfl, hdn', hlk'⟩ | ⟨rfl, hdn', hde, hdw, hx', hlk'⟩
              · have HD := hid hdn'
                have HL := hid hlk'
                clear hdn' hlk' h7
                go_wp2
                go_roundg (20 - (n + 1))
                case measure => omega
                case rel =>
                  refine ⟨n + 1, S', by omega, rfl, ?_, ?_, by go_num, hid ⟨HOk'.out, H7.out⟩⟩
                  · rw [HL.out]
                  · rw [HD.out, hdn]
              · try dsimp only at hde hdw
                subst hde; subst hdw
                have HD := hid hdn'
                have HL := hid hlk'
                have tc : w7.cell? ⟨w5.heap.size + 1, 1, none⟩ = some (.pointer (some ⟨t1, 0, none⟩)) := h7.right.cell rfl
                have hlt7 := h7.right.lt
                have HT := hid (blind_tries1 h7 hx' (.cells #[.int .i64 0, .string dt, .slice ia il ic, .slice da dl dc, .int .i64 ds, .bool true] 42 (0, 0)))
                clear hdn' hlk' hx' h7
                go_wp2_with (go_at_call 14; (with_reducible refine HT.out.mono ?_); rintro e w' ⟨rfl, rfl⟩)
                go_roundg (20 - (n + 1))
                case measure => omega
                case rel =>
                  refine ⟨n + 1, S', by omega, rfl, ?_, ?_, by go_num, hid ⟨HOk'.out, H7.out⟩⟩
                  · rw [HL.out]; first | rfl | exact HLK.out
                  · rw [HD.out, hdn]; first | rfl | go_num
        · rcases Nat.mod_two_eq_zero_or_one n with hpar | hpar
          · have HPar : Hid (n < 8 ∨ n % 2 = 0) := .inr hpar
            have hmod : (n : Int).tmod 2 = 0 := by rw [Int.tmod_eq_emod_of_nonneg (by omega)]; omega
            clear hend HO HOB hpar
            go_wp2_with (go_at_call 12; (with_reducible refine (HW.out _).mono ?_); rintro e w' ⟨rfl, rfl⟩)
            go_at_call 13
            (with_reducible refine (blind_step0 HS.out HOk.out HPar.out HA.out).mono ?_)
            rintro e w7 ⟨S', ⟨de, dt, ia, il, ic, da, dl, dc, ds, dw⟩, is, rfl, hok, h7, hcase⟩
            have HOk' := hid hok
            have H7 := hid (h7.alloc (.cells #[.int .i64 de, .string dt, .slice ia il ic, .slice da dl dc, .int .i64 ds, .bool dw] 42 (0, 0))).right
            clear hok
            rcases hcase with ⟨rfl, hdn', hlk'⟩ | ⟨rfl, hdn', hde, hdw, hx', hlk'⟩
            · have HD := hid hdn'
              have HL := hid hlk'
              clear hdn' hlk' h7
              go_wp2
              go_roundg (20 - (n + 1))
              case measure => omega
              case rel =>
                refine ⟨n + 1, S', by omega, rfl, ?_, ?_, by go_num, hid ⟨HOk'.out, H7.out⟩⟩
                · rw [HL.out]
                · rw [HD.out, hdn]
            · try dsimp only at hde hdw
              subst hde; subst hdw
              have HD := hid hdn'
              have HL := hid hlk'
              have tc : w7.cell? ⟨w5.heap.size + 1, 0, none⟩ = some (.pointer (some ⟨t0, 0, none⟩)) := h7.right.cell rfl
              have hlt7 := h7.right.lt
              have HT := hid (blind_tries0 h7 hx' (.cells #[.int .i64 0, .string dt, .slice ia il ic, .slice da dl dc, .int .i64 ds, .bool true] 42 (0, 0)))
              clear hdn' hlk' hx' h7
              go_wp2_with (go_at_call 14; (with_reducible refine HT.out.mono ?_); rintro e w' ⟨rfl, rfl⟩)
              go_roundg (20 - (n + 1))
              case measure => omega
              case rel =>
                refine ⟨n + 1, S', by omega, rfl, ?_, ?_, by go_num, hid ⟨HOk'.out, H7.out⟩⟩
                · rw [HL.out]; first | rfl | exact HLK.out
                · rw [HD.out, hdn]; first | rfl | go_num
          · have HPar : Hid (n < 8 ∨ n % 2 = 1) := .inr hpar
            have hmod : (n : Int).tmod 2 = 1 := by rw [Int.tmod_eq_emod_of_nonneg (by omega)]; omega
            clear hend HO HOB hpar
            go_wp2_with (go_at_call 12; (with_reducible refine (HW.out _).mono ?_); rintro e w' ⟨rfl, rfl⟩)
            go_at_call 13
            (with_reducible refine (blind_step1 HS.out HOk.out HPar.out HB.out).mono ?_)
            rintro e w7 ⟨S', ⟨de, dt, ia, il, ic, da, dl, dc, ds, dw⟩, is, rfl, hok, h7, hcase⟩
            have HOk' := hid hok
            have H7 := hid (h7.alloc (.cells #[.int .i64 de, .string dt, .slice ia il ic, .slice da dl dc, .int .i64 ds, .bool dw] 42 (0, 0))).right
            clear hok
            rcases hcase with ⟨rfl, hdn', hlk'⟩ | ⟨rfl, hdn', hde, hdw, hx', hlk'⟩
            · have HD := hid hdn'
              have HL := hid hlk'
              clear hdn' hlk' h7
              go_wp2
              go_roundg (20 - (n + 1))
              case measure => omega
              case rel =>
                refine ⟨n + 1, S', by omega, rfl, ?_, ?_, by go_num, hid ⟨HOk'.out, H7.out⟩⟩
                · rw [HL.out]
                · rw [HD.out, hdn]
            · try dsimp only at hde hdw
              subst hde; subst hdw
              have HD := hid hdn'
              have HL := hid hlk'
              have tc : w7.cell? ⟨w5.heap.size + 1, 1, none⟩ = some (.pointer (some ⟨t1, 0, none⟩)) := h7.right.cell rfl
              have hlt7 := h7.right.lt
              have HT := hid (blind_tries1 h7 hx' (.cells #[.int .i64 0, .string dt, .slice ia il ic, .slice da dl dc, .int .i64 ds, .bool true] 42 (0, 0)))
              clear hdn' hlk' hx' h7
              go_wp2_with (go_at_call 14; (with_reducible refine HT.out.mono ?_); rintro e w' ⟨rfl, rfl⟩)
              go_roundg (20 - (n + 1))
              case measure => omega
              case rel =>
                refine ⟨n + 1, S', by omega, rfl, ?_, ?_, by go_num, hid ⟨HOk'.out, H7.out⟩⟩
                · rw [HL.out]; first | rfl | exact HLK.out
                · rw [HD.out, hdn]; first | rfl | go_num

end Go.Proofs.YtnjgddckejpddaaGreatDoor
