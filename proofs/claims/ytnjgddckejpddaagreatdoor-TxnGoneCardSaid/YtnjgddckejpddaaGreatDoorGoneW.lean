/-
  A fragment that goes while another one is put, or appended to, is gone, or is there: the walk.
-/
import Derived.Test.YtnjgddckejpddaaGreatDoorGoneA
import Derived.Test.YtnjgddckejpddaaGreatDoorBlindW
namespace Go.Proofs.YtnjgddckejpddaaGreatDoor
open Go.RowKit Go.Proofs.YtnjgddckejpddaaGreatDoor.Sep

abbrev reqO (r : Req) : Obj := .cells #[.int .i64 r.kind, .string r.name, .string r.text, .int .i64 r.value] 32 (0, 0)
abbrev tsO (p q : Nat) : Obj := .cells #[.pointer (some ⟨p, 0, none⟩), .pointer (some ⟨q, 0, none⟩)] 29 (0, 0)
abbrev dO (x y : DoneS) : Obj := .cells #[.int .i64 x.e, .string x.text, .slice x.ia x.il x.ic, .slice x.da x.dl x.dc, .int .i64 x.stamp, .bool x.wrote, .int .i64 y.e, .string y.text, .slice y.ia y.il y.ic, .slice y.da y.dl y.dc, .int .i64 y.stamp, .bool y.wrote] 50 (0, 0)
abbrev dZ : DoneS := ⟨0, ⟨#[]⟩, none, 0, 0, none, 0, 0, 0, false⟩

set_option maxRecDepth 100000 in
set_option maxHeartbeats 8000000 in
theorem gone_walk_f (v : Value) (zs : List Int) (w : World) (hv : Ints w v zs) :
    Calls Tryz.prog 4 #[v, .bool false] w fun e w' => e = .returned (.bool true) ∧ Below w.heap.size w w' := by
  obtain ⟨oa, oc, rfl, hol, hoc, hob⟩ := hv
  have hol' : zs.length ≤ 9223372036854775807 := hol
  have HK := hid (known_calls w)
  have H0 := hid (Sat.old w)
  have HO := hid hoc
  have HOB := hid hob
  clear hol hoc hob
  go_enter Tryz.func4, Tryz.ntmps4
  go_wp2_with (first
    | (go_at_call 7; (with_reducible refine HK.out.mono ?_); rintro e w1 ⟨rfl, hb1⟩
       have H1 := hid (H0.out.below hb1)
       clear hb1)
    | (go_at_call 8; (with_reducible refine (New_calls 1000 H1.out).mono ?_); rintro e w2 ⟨bs, rfl, h2⟩
       have H2 := hid (StoreB.shut (Rep.new 1000) h2)
       clear h2)
    | (go_at_call 9; (with_reducible refine (incrNew_calls H2.out).mono ?_); rintro e w3 ⟨bb, mb, rfl, h3'⟩
       have H3 := hid h3'.right
       clear h3')
    | (go_at_call 11; (with_reducible refine (Begin_calls bs bb (putR kM ⟨#[111, 108, 100]⟩) H3.out).mono ?_); rintro e w4 ⟨tb, rfl, h4'⟩
       have H4 := hid h4'
       clear h4')
    | (go_at_call 10; (with_reducible refine (finish_first H4.out (by decide)).mono ?_); rintro e w5 ⟨rfl, h5⟩
       have h6 := h5.alloc (reqO (putR kM tNew))
       have H6 := hid h6
       clear h5 h6))
  have H6d := hid (H6.out.drew)
  have q0 : (w5.alloc (reqO (putR kM tNew))).drew.cell? ⟨w5.heap.size, 0, none⟩ = some (.int .i64 (putR kM tNew).kind) ∧ (w5.alloc (reqO (putR kM tNew))).drew.cell? ⟨w5.heap.size, 1, none⟩ = some (.string (putR kM tNew).name) ∧ (w5.alloc (reqO (putR kM tNew))).drew.cell? ⟨w5.heap.size, 2, none⟩ = some (.string (putR kM tNew).text) ∧ (w5.alloc (reqO (putR kM tNew))).drew.cell? ⟨w5.heap.size, 3, none⟩ = some (.int .i64 (putR kM tNew).value) := ⟨H6d.out.cell rfl, H6d.out.cell rfl, H6d.out.cell rfl, H6d.out.cell rfl⟩
  go_region_held3 (fun w' => w'.cell? ⟨w5.heap.size, 0, none⟩ = some (.int .i64 (putR kM tNew).kind) ∧ w'.cell? ⟨w5.heap.size, 1, none⟩ = some (.string (putR kM tNew).name) ∧ w'.cell? ⟨w5.heap.size, 2, none⟩ = some (.string (putR kM tNew).text) ∧ w'.cell? ⟨w5.heap.size, 3, none⟩ = some (.int .i64 (putR kM tNew).value)) (with_reducible first | exact q0 | exact q1 | exact q2 | exact q3)
    (first
    | (go_at_call 11; ((with_reducible refine (Begin_calls bs bb delR H6d.out).mono ?_); rintro e w7 ⟨t0, rfl, h7⟩; have H7 := hid h7; have q1 : w7.cell? ⟨w5.heap.size, 0, none⟩ = some (.int .i64 (putR kM tNew).kind) ∧ w7.cell? ⟨w5.heap.size, 1, none⟩ = some (.string (putR kM tNew).name) ∧ w7.cell? ⟨w5.heap.size, 2, none⟩ = some (.string (putR kM tNew).text) ∧ w7.cell? ⟨w5.heap.size, 3, none⟩ = some (.int .i64 (putR kM tNew).value) := ⟨h7.right.cell rfl, h7.right.cell rfl, h7.right.cell rfl, h7.right.cell rfl⟩; clear h7))
    | (go_at_call 11; ((with_reducible refine (Begin_calls bs bb (putR kM tNew) H7.out).mono ?_); rintro e w8 ⟨t1, rfl, h8⟩; have H8 := hid h8; have q2 : w8.cell? ⟨w5.heap.size, 0, none⟩ = some (.int .i64 (putR kM tNew).kind) ∧ w8.cell? ⟨w5.heap.size, 1, none⟩ = some (.string (putR kM tNew).name) ∧ w8.cell? ⟨w5.heap.size, 2, none⟩ = some (.string (putR kM tNew).text) ∧ w8.cell? ⟨w5.heap.size, 3, none⟩ = some (.int .i64 (putR kM tNew).value) := ⟨h8.right.right.cell rfl, h8.right.right.cell rfl, h8.right.right.cell rfl, h8.right.right.cell rfl⟩; have h9 := h8.alloc (tsO t0 t1); have q3 : (w8.alloc (tsO t0 t1)).cell? ⟨w5.heap.size, 0, none⟩ = some (.int .i64 (putR kM tNew).kind) ∧ (w8.alloc (tsO t0 t1)).cell? ⟨w5.heap.size, 1, none⟩ = some (.string (putR kM tNew).name) ∧ (w8.alloc (tsO t0 t1)).cell? ⟨w5.heap.size, 2, none⟩ = some (.string (putR kM tNew).text) ∧ (w8.alloc (tsO t0 t1)).cell? ⟨w5.heap.size, 3, none⟩ = some (.int .i64 (putR kM tNew).value) := ⟨h9.right.right.right.cell rfl, h9.right.right.right.cell rfl, h9.right.right.right.cell rfl, h9.right.right.right.cell rfl⟩; have H9 := hid h9; clear h8 h9)))
  have h10 := H9.out.alloc (dO dZ dZ)
  rw [show (w8.alloc (tsO t0 t1)).heap.size = w8.heap.size + 1 by show (w8.heap.push _).size = _; simp] at h10
  rw [show ∀ A B C D E F G : Hp, A * (B * (C * (D * (E * (F * G))))) = D * (C * F) * (A * (B * (E * G))) from fun A B C D E F G => by ac_rfl] at h10
  have H10 : Hid (Sat (out w) ((w8.alloc (tsO t0 t1)).alloc (dO dZ dZ)) (gStart.hp false bs bb t0 t1 * (pts (w8.heap.size + 1) (dO dZ dZ) * (pts w8.heap.size (tsO t0 t1) * (pts w5.heap.size (reqO (putR kM tNew)) * Old w))))) := h10
  clear h10 H9 q0 q1 q2 q3 H8 H7
  go_wp2
  go_loopg [10, 11, 12, 13, 14] 40 (fun m dn i _ _ _ wr => ∃ (n : Nat) (S : GSt) (X Y : DoneS), n ≤ 40 ∧ m = 40 - n ∧ dn = .int .i64 (S.x.dn + S.y.dn : Nat) ∧ i = .int .i64 n ∧
    Hid (GOk false S n ∧ dnX S.x X ∧ dnY S.y Y ∧ Sat (out w) wr (S.hp false bs bb t0 t1 * (pts (w8.heap.size + 1) (dO X Y) * (pts w8.heap.size (tsO t0 t1) * (pts w5.heap.size (reqO (putR kM tNew)) * Old w))))))
  case atStart =>
    exact ⟨0, gStart, dZ, dZ, by omega, rfl, rfl, rfl, hid ⟨gone_start false, trivial, trivial, H10.out⟩⟩
  case round =>
    obtain ⟨n, S, X, Y, hn40, rfl, rfl, rfl, HQ⟩ := hrel
    clear H10
    obtain ⟨hok0, hX0, hY0, hS0⟩ := HQ.out
    clear HQ
    have hdl := S.x.dn_le
    have hdl2 := S.y.dn_le
    have t0c : wr.cell? ⟨w8.heap.size, 0, none⟩ = some (.pointer (some ⟨t0, 0, none⟩)) := hS0.right.right.cell rfl
    have t1c : wr.cell? ⟨w8.heap.size, 1, none⟩ = some (.pointer (some ⟨t1, 0, none⟩)) := hS0.right.right.cell rfl
    have hold := hS0.right.right.right.right.old_only
    have HS := hid hS0
    have HOk := hid hok0
    have HX := hid hX0
    have HY := hid hY0
    clear hS0 hok0 hX0 hY0
    generalize hdn : S.x.dn + S.y.dn = dn at *
    by_cases hend : n = 40 ∨ dn = 2
    · obtain ⟨⟨sd, hx⟩, mm, ee, st, hy⟩ := gone_end HOk.out (by rw [hdn]; exact hend)
      obtain ⟨A, sh, x, y⟩ := S
      dsimp only at hx hy
      subst hx; subst hy
      have hdn2 : dn = 2 := by rw [← hdn]; rfl
      subst hdn2
      obtain ⟨xe, xt, xa, xl, xc, xda, xdl, xdc, xs, xw⟩ := X
      obtain ⟨ye, yt, ya, yl, yc, yda, ydl, ydc, ys, yw⟩ := Y
      obtain ⟨hX1, hX2⟩ := HX.out
      obtain ⟨hY1, hY2⟩ := HY.out
      dsimp only at hX1 hX2 hY1 hY2
      subst hX1; subst hX2; subst hY1; subst hY2
      have hW := HS.out
      unfold GSt.hp at hW
      dsimp only at hW
      rw [show ∀ X Y Z R : Hp, X * (Y * Z) * R = Z * (X * Y * R) from fun X Y Z R => by ac_rfl] at hW
      obtain ⟨σ, hσ, _⟩ := StoreB.open_ hW
      have HN := hid (nowB_calls hW)
      have hR1 := readB_calls hW kFM hσ.mN
      have hR2 := readB_calls hW kD hσ.mN
      have hcs := gone_fin HOk.out hσ
      have c0 : wr.cell? ⟨w8.heap.size + 1, 0, none⟩ = some (.int .i64 0) := HS.out.right.cell rfl
      have hn2 : ¬ ((n : Int) < 40 ∧ (2 : Int) < 2) := by omega
      clear hend hdn hW t0c t1c HO HOB HOk HX HY
      rcases hcs with ⟨f1, f2, ⟨he, hlt⟩ | ⟨_, ha⟩⟩ | ⟨_, f1, f2, he, hst⟩
      · subst he
        rw [f1] at hR1; rw [f2] at hR2
        have HR1 : Hid (Calls Tryz.prog 15 #[.pointer (some ⟨bs, 0, none⟩), .string ⟨#[102, 109]⟩, .int .i64 A.now] wr fun e w' => e = .returned (.tuple #[.string ⟨#[]⟩, .bool false]) ∧ wr = w') := hR1
        have HR2 : Hid (Calls Tryz.prog 15 #[.pointer (some ⟨bs, 0, none⟩), .string ⟨#[100]⟩, .int .i64 A.now] wr fun e w' => e = .returned (.tuple #[.string ⟨#[]⟩, .bool true]) ∧ wr = w') := hR2
        have HP : Hid (Calls Tryz.prog 17 #[.string ⟨#[]⟩] wr fun e w' => ∃ v, e = .returned v ∧ Fresh wr w' (Row 9 1 v 0 [])) := Parts_calls libS.sp ⟨#[]⟩ wr (by decide)
        clear hR1 hR2 f1 f2 hσ
        go_wp2_with (first
          | (go_at_call 16; (with_reducible refine HN.out.mono ?_); rintro e w' ⟨rfl, rfl⟩)
          | (go_at_call 15; (with_reducible refine HR1.out.mono ?_); rintro e w' ⟨rfl, rfl⟩)
          | (go_at_call 15; (with_reducible refine HR2.out.mono ?_); rintro e w' ⟨rfl, rfl⟩)
          | (go_at_call 17; (with_reducible refine HP.out.mono ?_); rintro e w9 ⟨v, rfl, hf⟩
             obtain ⟨_, _, pa, pc, rfl, _, _⟩ := Row.len hf
             have h9 := HS.out.below hf.below
             have d6 : w9.cell? ⟨w8.heap.size + 1, 6, none⟩ = some (.int .i64 0) := h9.right.cell rfl
             have d10 : w9.cell? ⟨w8.heap.size + 1, 10, none⟩ = some (.int .i64 (st : Nat)) := h9.right.cell rfl
             have d4 : w9.cell? ⟨w8.heap.size + 1, 4, none⟩ = some (.int .i64 (sd : Nat)) := h9.right.cell rfl
             have hb9 := h9.right.right.right.right.old_only
             clear h9 hf))
        all_goals
          go_ret
          exact ⟨by first | rfl | simp, hb9⟩
      · cases ha
      · subst he; subst hst
        rw [f1] at hR1; rw [f2] at hR2
        have HR1 : Hid (Calls Tryz.prog 15 #[.pointer (some ⟨bs, 0, none⟩), .string ⟨#[102, 109]⟩, .int .i64 A.now] wr fun e w' => e = .returned (.tuple #[.string ⟨#[110, 101, 119]⟩, .bool true]) ∧ wr = w') := hR1
        have HR2 : Hid (Calls Tryz.prog 15 #[.pointer (some ⟨bs, 0, none⟩), .string ⟨#[100]⟩, .int .i64 A.now] wr fun e w' => e = .returned (.tuple #[.string ⟨#[109, 10]⟩, .bool true]) ∧ wr = w') := hR2
        have HP : Hid (Calls Tryz.prog 17 #[.string ⟨#[109, 10]⟩] wr fun e w' => ∃ v, e = .returned v ∧ Fresh wr w' (Row 9 1 v 1 (strs [kM]))) := Parts_calls libS.sp ⟨#[109, 10]⟩ wr (by decide)
        clear hR1 hR2 f1 f2 hσ
        go_wp2_with (first
          | (go_at_call 16; (with_reducible refine HN.out.mono ?_); rintro e w' ⟨rfl, rfl⟩)
          | (go_at_call 15; (with_reducible refine HR1.out.mono ?_); rintro e w' ⟨rfl, rfl⟩)
          | (go_at_call 15; (with_reducible refine HR2.out.mono ?_); rintro e w' ⟨rfl, rfl⟩)
          | (go_at_call 17; (with_reducible refine HP.out.mono ?_); rintro e w9 ⟨v, rfl, hf⟩
             obtain ⟨_, _, pa, pc, rfl, _, _⟩ := Row.len hf
             have h9 := HS.out.below hf.below
             have d6 : w9.cell? ⟨w8.heap.size + 1, 6, none⟩ = some (.int .i64 0) := h9.right.cell rfl
             have d10 : w9.cell? ⟨w8.heap.size + 1, 10, none⟩ = some (.int .i64 (sd + 1 : Nat)) := h9.right.cell rfl
             have d4 : w9.cell? ⟨w8.heap.size + 1, 4, none⟩ = some (.int .i64 (sd : Nat)) := h9.right.cell rfl
             have hb9 := h9.right.right.right.right.old_only
             clear h9 hf))
        all_goals
          go_ret
          exact ⟨by first | rfl | simp, hb9⟩
    have hn39 : n < 40 := by omega
    have hdn1 : dn < 2 := by omega
    by_cases ho : n < zs.length
    · by_cases h8 : n < 10
      · have hz : zs[n]? = some zs[n] := by simp [ho]
        obtain ⟨ob, off, rfl, hbl, hcz⟩ := HO.out n _ hz
        have hc : wr.cell? ⟨ob, off + n, none⟩ = some (.int .i64 zs[n]) := (hold.cell hbl).trans hcz
        have hzb := HOB.out zs[n] (List.getElem_mem _)
        generalize zs[n] = z at *
        have HW := hid (fun W => within_calls z 2 W (by decide) (by decide) hzb)
        have hwb := within_bd z (n := 2) (by decide)
        generalize within z 2 = wk at *
        have HPar0 : Hid (n < 10 ∨ n % 2 = 0) := .inl h8
        have HPar1 : Hid (n < 10 ∨ n % 2 = 1) := .inl h8
        clear hz hcz hzb hend HO HOB
        rcases (show wk = 0 ∨ wk = 1 by omega) with rfl | rfl
        · clear hwb HPar1
          have HPar := HPar0
          go_wp2_with (go_at_call 12; (with_reducible refine (HW.out _).mono ?_); rintro e w' ⟨rfl, rfl⟩)
          go_at_call 13
          (with_reducible refine (gone_step0 HS.out HOk.out HPar.out).mono ?_)
          rintro e w7 ⟨S', ⟨de, dt, ia, il, ic, da, dl, dc, ds, dw⟩, is, rfl, hok, h7, hy', hcase⟩
          have HOk' := hid hok
          have H7 := hid (h7.alloc (.cells #[.int .i64 de, .string dt, .slice ia il ic, .slice da dl dc, .int .i64 ds, .bool dw] 42 (0, 0))).right
          clear hok h7
          rcases hcase with ⟨rfl, hdx, hkx⟩ | ⟨rfl, hx0, sd, hx', hde, hds⟩
          · have HD : Hid (S'.x.dn + S'.y.dn = dn) := hid (by rw [hy', hdx]; exact hdn)
            have HNX := hid (dnX_keep HX.out hdx hkx)
            have HNY := hid (show dnY S'.y Y by rw [hy']; exact HY.out)
            clear hdx hkx hy'
            go_wp2
            go_roundg (40 - (n + 1))
            case measure => omega
            case rel =>
              refine ⟨n + 1, S', X, Y, by omega, rfl, ?_, by go_num, hid ⟨HOk'.out, HNX.out, HNY.out, H7.out⟩⟩
              rw [HD.out]
          · have HD : Hid (S'.x.dn + S'.y.dn = dn + 1) := hid (by rw [hy', hx', ← hdn, hx0]; show 1 + S.y.dn = 0 + S.y.dn + 1; omega)
            have HNX := hid (show dnX S'.x (⟨de, dt, ia, il, ic, da, dl, dc, ds, dw⟩ : DoneS) by rw [hx']; exact ⟨hde, hds⟩)
            have HNY := hid (show dnY S'.y Y by rw [hy']; exact HY.out)
            clear hx0 hx' hde hds hy'
            have h8 := H7.out
            rw [show ∀ A B R : Hp, A * (B * R) = B * (A * R) from fun A B R => by ac_rfl] at h8
            have e0 : (w7.alloc (.cells #[.int .i64 de, .string dt, .slice ia il ic, .slice da dl dc, .int .i64 ds, .bool dw] 42 (0, 0))).frozen? ⟨w8.heap.size + 1, 0, none⟩ = false := h8.free
            have e1 : (w7.alloc (.cells #[.int .i64 de, .string dt, .slice ia il ic, .slice da dl dc, .int .i64 ds, .bool dw] 42 (0, 0))).frozen? ⟨w8.heap.size + 1, 1, none⟩ = false := h8.free
            have e2 : (w7.alloc (.cells #[.int .i64 de, .string dt, .slice ia il ic, .slice da dl dc, .int .i64 ds, .bool dw] 42 (0, 0))).frozen? ⟨w8.heap.size + 1, 2, none⟩ = false := h8.free
            have e3 : (w7.alloc (.cells #[.int .i64 de, .string dt, .slice ia il ic, .slice da dl dc, .int .i64 ds, .bool dw] 42 (0, 0))).frozen? ⟨w8.heap.size + 1, 3, none⟩ = false := h8.free
            have e4 : (w7.alloc (.cells #[.int .i64 de, .string dt, .slice ia il ic, .slice da dl dc, .int .i64 ds, .bool dw] 42 (0, 0))).frozen? ⟨w8.heap.size + 1, 4, none⟩ = false := h8.free
            have e5 : (w7.alloc (.cells #[.int .i64 de, .string dt, .slice ia il ic, .slice da dl dc, .int .i64 ds, .bool dw] 42 (0, 0))).frozen? ⟨w8.heap.size + 1, 5, none⟩ = false := h8.free
            have g0 : (w7.alloc (.cells #[.int .i64 de, .string dt, .slice ia il ic, .slice da dl dc, .int .i64 ds, .bool dw] 42 (0, 0))).cell? ⟨w8.heap.size + 1, 0, none⟩ = some (.int .i64 X.e) := h8.cell rfl
            have g1 : (w7.alloc (.cells #[.int .i64 de, .string dt, .slice ia il ic, .slice da dl dc, .int .i64 ds, .bool dw] 42 (0, 0))).cell? ⟨w8.heap.size + 1, 1, none⟩ = some (.string X.text) := h8.cell rfl
            have g2 : (w7.alloc (.cells #[.int .i64 de, .string dt, .slice ia il ic, .slice da dl dc, .int .i64 ds, .bool dw] 42 (0, 0))).cell? ⟨w8.heap.size + 1, 2, none⟩ = some (.slice X.ia X.il X.ic) := h8.cell rfl
            have g3 : (w7.alloc (.cells #[.int .i64 de, .string dt, .slice ia il ic, .slice da dl dc, .int .i64 ds, .bool dw] 42 (0, 0))).cell? ⟨w8.heap.size + 1, 3, none⟩ = some (.slice X.da X.dl X.dc) := h8.cell rfl
            have g4 : (w7.alloc (.cells #[.int .i64 de, .string dt, .slice ia il ic, .slice da dl dc, .int .i64 ds, .bool dw] 42 (0, 0))).cell? ⟨w8.heap.size + 1, 4, none⟩ = some (.int .i64 X.stamp) := h8.cell rfl
            have g5 : (w7.alloc (.cells #[.int .i64 de, .string dt, .slice ia il ic, .slice da dl dc, .int .i64 ds, .bool dw] 42 (0, 0))).cell? ⟨w8.heap.size + 1, 5, none⟩ = some (.bool X.wrote) := h8.cell rfl
            have H8 := hid h8
            clear h8 H7
            go_wp2
            have h9 := (((((H8.out.setCell (off := 0) (.int .i64 de)).setCell (off := 1) (.string dt)).setCell (off := 2) (.slice ia il ic)).setCell (off := 3) (.slice da dl dc)).setCell (off := 4) (.int .i64 ds)).setCell (off := 5) (.bool dw)
            rw [show ∀ A B R : Hp, A * (B * R) = B * (A * R) from fun A B R => by ac_rfl] at h9
            have H9 := hid h9
            clear h9 H8
            go_roundg (40 - (n + 1))
            case measure => omega
            case rel =>
              refine ⟨n + 1, S', _, _, by omega, rfl, ?_, by go_num, hid ⟨HOk'.out, HNX.out, HNY.out, H9.out⟩⟩
              rw [HD.out]; first | rfl | go_num
        · clear hwb HPar0
          have HPar := HPar1
          go_wp2_with (go_at_call 12; (with_reducible refine (HW.out _).mono ?_); rintro e w' ⟨rfl, rfl⟩)
          go_at_call 13
          (with_reducible refine (gone_step1 HS.out HOk.out HPar.out).mono ?_)
          rintro e w7 ⟨S', ⟨de, dt, ia, il, ic, da, dl, dc, ds, dw⟩, is, rfl, hok, h7, hy', hcase⟩
          have HOk' := hid hok
          have H7 := hid (h7.alloc (.cells #[.int .i64 de, .string dt, .slice ia il ic, .slice da dl dc, .int .i64 ds, .bool dw] 42 (0, 0))).right
          clear hok h7
          rcases hcase with ⟨rfl, hdx, hkx⟩ | ⟨rfl, hx0, mm, ee, st, hx', hde, hds⟩
          · have HD : Hid (S'.x.dn + S'.y.dn = dn) := hid (by rw [hy', hdx]; exact hdn)
            have HNX := hid (show dnX S'.x X by rw [hy']; exact HX.out)
            have HNY := hid (dnY_keep HY.out hdx hkx)
            clear hdx hkx hy'
            go_wp2
            go_roundg (40 - (n + 1))
            case measure => omega
            case rel =>
              refine ⟨n + 1, S', X, Y, by omega, rfl, ?_, by go_num, hid ⟨HOk'.out, HNX.out, HNY.out, H7.out⟩⟩
              rw [HD.out]
          · have HD : Hid (S'.x.dn + S'.y.dn = dn + 1) := hid (by rw [hy', hx', ← hdn, hx0]; show S.x.dn + 1 = S.x.dn + 0 + 1; omega)
            have HNY := hid (show dnY S'.y (⟨de, dt, ia, il, ic, da, dl, dc, ds, dw⟩ : DoneS) by rw [hx']; exact ⟨hde, hds⟩)
            have HNX := hid (show dnX S'.x X by rw [hy']; exact HX.out)
            clear hx0 hx' hde hds hy'
            have h8 := H7.out
            rw [show ∀ A B R : Hp, A * (B * R) = B * (A * R) from fun A B R => by ac_rfl] at h8
            have e0 : (w7.alloc (.cells #[.int .i64 de, .string dt, .slice ia il ic, .slice da dl dc, .int .i64 ds, .bool dw] 42 (0, 0))).frozen? ⟨w8.heap.size + 1, 6, none⟩ = false := h8.free
            have e1 : (w7.alloc (.cells #[.int .i64 de, .string dt, .slice ia il ic, .slice da dl dc, .int .i64 ds, .bool dw] 42 (0, 0))).frozen? ⟨w8.heap.size + 1, 7, none⟩ = false := h8.free
            have e2 : (w7.alloc (.cells #[.int .i64 de, .string dt, .slice ia il ic, .slice da dl dc, .int .i64 ds, .bool dw] 42 (0, 0))).frozen? ⟨w8.heap.size + 1, 8, none⟩ = false := h8.free
            have e3 : (w7.alloc (.cells #[.int .i64 de, .string dt, .slice ia il ic, .slice da dl dc, .int .i64 ds, .bool dw] 42 (0, 0))).frozen? ⟨w8.heap.size + 1, 9, none⟩ = false := h8.free
            have e4 : (w7.alloc (.cells #[.int .i64 de, .string dt, .slice ia il ic, .slice da dl dc, .int .i64 ds, .bool dw] 42 (0, 0))).frozen? ⟨w8.heap.size + 1, 10, none⟩ = false := h8.free
            have e5 : (w7.alloc (.cells #[.int .i64 de, .string dt, .slice ia il ic, .slice da dl dc, .int .i64 ds, .bool dw] 42 (0, 0))).frozen? ⟨w8.heap.size + 1, 11, none⟩ = false := h8.free
            have g0 : (w7.alloc (.cells #[.int .i64 de, .string dt, .slice ia il ic, .slice da dl dc, .int .i64 ds, .bool dw] 42 (0, 0))).cell? ⟨w8.heap.size + 1, 6, none⟩ = some (.int .i64 Y.e) := h8.cell rfl
            have g1 : (w7.alloc (.cells #[.int .i64 de, .string dt, .slice ia il ic, .slice da dl dc, .int .i64 ds, .bool dw] 42 (0, 0))).cell? ⟨w8.heap.size + 1, 7, none⟩ = some (.string Y.text) := h8.cell rfl
            have g2 : (w7.alloc (.cells #[.int .i64 de, .string dt, .slice ia il ic, .slice da dl dc, .int .i64 ds, .bool dw] 42 (0, 0))).cell? ⟨w8.heap.size + 1, 8, none⟩ = some (.slice Y.ia Y.il Y.ic) := h8.cell rfl
            have g3 : (w7.alloc (.cells #[.int .i64 de, .string dt, .slice ia il ic, .slice da dl dc, .int .i64 ds, .bool dw] 42 (0, 0))).cell? ⟨w8.heap.size + 1, 9, none⟩ = some (.slice Y.da Y.dl Y.dc) := h8.cell rfl
            have g4 : (w7.alloc (.cells #[.int .i64 de, .string dt, .slice ia il ic, .slice da dl dc, .int .i64 ds, .bool dw] 42 (0, 0))).cell? ⟨w8.heap.size + 1, 10, none⟩ = some (.int .i64 Y.stamp) := h8.cell rfl
            have g5 : (w7.alloc (.cells #[.int .i64 de, .string dt, .slice ia il ic, .slice da dl dc, .int .i64 ds, .bool dw] 42 (0, 0))).cell? ⟨w8.heap.size + 1, 11, none⟩ = some (.bool Y.wrote) := h8.cell rfl
            have H8 := hid h8
            clear h8 H7
            go_wp2
            have h9 := (((((H8.out.setCell (off := 6) (.int .i64 de)).setCell (off := 7) (.string dt)).setCell (off := 8) (.slice ia il ic)).setCell (off := 9) (.slice da dl dc)).setCell (off := 10) (.int .i64 ds)).setCell (off := 11) (.bool dw)
            rw [show ∀ A B R : Hp, A * (B * R) = B * (A * R) from fun A B R => by ac_rfl] at h9
            have H9 := hid h9
            clear h9 H8
            go_roundg (40 - (n + 1))
            case measure => omega
            case rel =>
              refine ⟨n + 1, S', _, _, by omega, rfl, ?_, by go_num, hid ⟨HOk'.out, HNX.out, HNY.out, H9.out⟩⟩
              rw [HD.out]; first | rfl | go_num
      · rcases Nat.mod_two_eq_zero_or_one n with hpar | hpar
        · have HPar : Hid (n < 10 ∨ n % 2 = 0) := .inr hpar
          have hmod : (n : Int).tmod 2 = 0 := by rw [Int.tmod_eq_emod_of_nonneg (by omega)]; omega
          clear hend HO HOB hpar
          go_wp2_with (go_at_call 12; (with_reducible refine (HW.out _).mono ?_); rintro e w' ⟨rfl, rfl⟩)
          go_at_call 13
          (with_reducible refine (gone_step0 HS.out HOk.out HPar.out).mono ?_)
          rintro e w7 ⟨S', ⟨de, dt, ia, il, ic, da, dl, dc, ds, dw⟩, is, rfl, hok, h7, hy', hcase⟩
          have HOk' := hid hok
          have H7 := hid (h7.alloc (.cells #[.int .i64 de, .string dt, .slice ia il ic, .slice da dl dc, .int .i64 ds, .bool dw] 42 (0, 0))).right
          clear hok h7
          rcases hcase with ⟨rfl, hdx, hkx⟩ | ⟨rfl, hx0, sd, hx', hde, hds⟩
          · have HD : Hid (S'.x.dn + S'.y.dn = dn) := hid (by rw [hy', hdx]; exact hdn)
            have HNX := hid (dnX_keep HX.out hdx hkx)
            have HNY := hid (show dnY S'.y Y by rw [hy']; exact HY.out)
            clear hdx hkx hy'
            go_wp2
            go_roundg (40 - (n + 1))
            case measure => omega
            case rel =>
              refine ⟨n + 1, S', X, Y, by omega, rfl, ?_, by go_num, hid ⟨HOk'.out, HNX.out, HNY.out, H7.out⟩⟩
              rw [HD.out]
          · have HD : Hid (S'.x.dn + S'.y.dn = dn + 1) := hid (by rw [hy', hx', ← hdn, hx0]; show 1 + S.y.dn = 0 + S.y.dn + 1; omega)
            have HNX := hid (show dnX S'.x (⟨de, dt, ia, il, ic, da, dl, dc, ds, dw⟩ : DoneS) by rw [hx']; exact ⟨hde, hds⟩)
            have HNY := hid (show dnY S'.y Y by rw [hy']; exact HY.out)
            clear hx0 hx' hde hds hy'
            have h8 := H7.out
            rw [show ∀ A B R : Hp, A * (B * R) = B * (A * R) from fun A B R => by ac_rfl] at h8
            have e0 : (w7.alloc (.cells #[.int .i64 de, .string dt, .slice ia il ic, .slice da dl dc, .int .i64 ds, .bool dw] 42 (0, 0))).frozen? ⟨w8.heap.size + 1, 0, none⟩ = false := h8.free
            have e1 : (w7.alloc (.cells #[.int .i64 de, .string dt, .slice ia il ic, .slice da dl dc, .int .i64 ds, .bool dw] 42 (0, 0))).frozen? ⟨w8.heap.size + 1, 1, none⟩ = false := h8.free
            have e2 : (w7.alloc (.cells #[.int .i64 de, .string dt, .slice ia il ic, .slice da dl dc, .int .i64 ds, .bool dw] 42 (0, 0))).frozen? ⟨w8.heap.size + 1, 2, none⟩ = false := h8.free
            have e3 : (w7.alloc (.cells #[.int .i64 de, .string dt, .slice ia il ic, .slice da dl dc, .int .i64 ds, .bool dw] 42 (0, 0))).frozen? ⟨w8.heap.size + 1, 3, none⟩ = false := h8.free
            have e4 : (w7.alloc (.cells #[.int .i64 de, .string dt, .slice ia il ic, .slice da dl dc, .int .i64 ds, .bool dw] 42 (0, 0))).frozen? ⟨w8.heap.size + 1, 4, none⟩ = false := h8.free
            have e5 : (w7.alloc (.cells #[.int .i64 de, .string dt, .slice ia il ic, .slice da dl dc, .int .i64 ds, .bool dw] 42 (0, 0))).frozen? ⟨w8.heap.size + 1, 5, none⟩ = false := h8.free
            have g0 : (w7.alloc (.cells #[.int .i64 de, .string dt, .slice ia il ic, .slice da dl dc, .int .i64 ds, .bool dw] 42 (0, 0))).cell? ⟨w8.heap.size + 1, 0, none⟩ = some (.int .i64 X.e) := h8.cell rfl
            have g1 : (w7.alloc (.cells #[.int .i64 de, .string dt, .slice ia il ic, .slice da dl dc, .int .i64 ds, .bool dw] 42 (0, 0))).cell? ⟨w8.heap.size + 1, 1, none⟩ = some (.string X.text) := h8.cell rfl
            have g2 : (w7.alloc (.cells #[.int .i64 de, .string dt, .slice ia il ic, .slice da dl dc, .int .i64 ds, .bool dw] 42 (0, 0))).cell? ⟨w8.heap.size + 1, 2, none⟩ = some (.slice X.ia X.il X.ic) := h8.cell rfl
            have g3 : (w7.alloc (.cells #[.int .i64 de, .string dt, .slice ia il ic, .slice da dl dc, .int .i64 ds, .bool dw] 42 (0, 0))).cell? ⟨w8.heap.size + 1, 3, none⟩ = some (.slice X.da X.dl X.dc) := h8.cell rfl
            have g4 : (w7.alloc (.cells #[.int .i64 de, .string dt, .slice ia il ic, .slice da dl dc, .int .i64 ds, .bool dw] 42 (0, 0))).cell? ⟨w8.heap.size + 1, 4, none⟩ = some (.int .i64 X.stamp) := h8.cell rfl
            have g5 : (w7.alloc (.cells #[.int .i64 de, .string dt, .slice ia il ic, .slice da dl dc, .int .i64 ds, .bool dw] 42 (0, 0))).cell? ⟨w8.heap.size + 1, 5, none⟩ = some (.bool X.wrote) := h8.cell rfl
            have H8 := hid h8
            clear h8 H7
            go_wp2
            have h9 := (((((H8.out.setCell (off := 0) (.int .i64 de)).setCell (off := 1) (.string dt)).setCell (off := 2) (.slice ia il ic)).setCell (off := 3) (.slice da dl dc)).setCell (off := 4) (.int .i64 ds)).setCell (off := 5) (.bool dw)
            rw [show ∀ A B R : Hp, A * (B * R) = B * (A * R) from fun A B R => by ac_rfl] at h9
            have H9 := hid h9
            clear h9 H8
            go_roundg (40 - (n + 1))
            case measure => omega
            case rel =>
              refine ⟨n + 1, S', _, _, by omega, rfl, ?_, by go_num, hid ⟨HOk'.out, HNX.out, HNY.out, H9.out⟩⟩
              rw [HD.out]; first | rfl | go_num
        · have HPar : Hid (n < 10 ∨ n % 2 = 1) := .inr hpar
          have hmod : (n : Int).tmod 2 = 1 := by rw [Int.tmod_eq_emod_of_nonneg (by omega)]; omega
          clear hend HO HOB hpar
          go_wp2_with (go_at_call 12; (with_reducible refine (HW.out _).mono ?_); rintro e w' ⟨rfl, rfl⟩)
          go_at_call 13
          (with_reducible refine (gone_step1 HS.out HOk.out HPar.out).mono ?_)
          rintro e w7 ⟨S', ⟨de, dt, ia, il, ic, da, dl, dc, ds, dw⟩, is, rfl, hok, h7, hy', hcase⟩
          have HOk' := hid hok
          have H7 := hid (h7.alloc (.cells #[.int .i64 de, .string dt, .slice ia il ic, .slice da dl dc, .int .i64 ds, .bool dw] 42 (0, 0))).right
          clear hok h7
          rcases hcase with ⟨rfl, hdx, hkx⟩ | ⟨rfl, hx0, mm, ee, st, hx', hde, hds⟩
          · have HD : Hid (S'.x.dn + S'.y.dn = dn) := hid (by rw [hy', hdx]; exact hdn)
            have HNX := hid (show dnX S'.x X by rw [hy']; exact HX.out)
            have HNY := hid (dnY_keep HY.out hdx hkx)
            clear hdx hkx hy'
            go_wp2
            go_roundg (40 - (n + 1))
            case measure => omega
            case rel =>
              refine ⟨n + 1, S', X, Y, by omega, rfl, ?_, by go_num, hid ⟨HOk'.out, HNX.out, HNY.out, H7.out⟩⟩
              rw [HD.out]
          · have HD : Hid (S'.x.dn + S'.y.dn = dn + 1) := hid (by rw [hy', hx', ← hdn, hx0]; show S.x.dn + 1 = S.x.dn + 0 + 1; omega)
            have HNY := hid (show dnY S'.y (⟨de, dt, ia, il, ic, da, dl, dc, ds, dw⟩ : DoneS) by rw [hx']; exact ⟨hde, hds⟩)
            have HNX := hid (show dnX S'.x X by rw [hy']; exact HX.out)
            clear hx0 hx' hde hds hy'
            have h8 := H7.out
            rw [show ∀ A B R : Hp, A * (B * R) = B * (A * R) from fun A B R => by ac_rfl] at h8
            have e0 : (w7.alloc (.cells #[.int .i64 de, .string dt, .slice ia il ic, .slice da dl dc, .int .i64 ds, .bool dw] 42 (0, 0))).frozen? ⟨w8.heap.size + 1, 6, none⟩ = false := h8.free
            have e1 : (w7.alloc (.cells #[.int .i64 de, .string dt, .slice ia il ic, .slice da dl dc, .int .i64 ds, .bool dw] 42 (0, 0))).frozen? ⟨w8.heap.size + 1, 7, none⟩ = false := h8.free
            have e2 : (w7.alloc (.cells #[.int .i64 de, .string dt, .slice ia il ic, .slice da dl dc, .int .i64 ds, .bool dw] 42 (0, 0))).frozen? ⟨w8.heap.size + 1, 8, none⟩ = false := h8.free
            have e3 : (w7.alloc (.cells #[.int .i64 de, .string dt, .slice ia il ic, .slice da dl dc, .int .i64 ds, .bool dw] 42 (0, 0))).frozen? ⟨w8.heap.size + 1, 9, none⟩ = false := h8.free
            have e4 : (w7.alloc (.cells #[.int .i64 de, .string dt, .slice ia il ic, .slice da dl dc, .int .i64 ds, .bool dw] 42 (0, 0))).frozen? ⟨w8.heap.size + 1, 10, none⟩ = false := h8.free
            have e5 : (w7.alloc (.cells #[.int .i64 de, .string dt, .slice ia il ic, .slice da dl dc, .int .i64 ds, .bool dw] 42 (0, 0))).frozen? ⟨w8.heap.size + 1, 11, none⟩ = false := h8.free
            have g0 : (w7.alloc (.cells #[.int .i64 de, .string dt, .slice ia il ic, .slice da dl dc, .int .i64 ds, .bool dw] 42 (0, 0))).cell? ⟨w8.heap.size + 1, 6, none⟩ = some (.int .i64 Y.e) := h8.cell rfl
            have g1 : (w7.alloc (.cells #[.int .i64 de, .string dt, .slice ia il ic, .slice da dl dc, .int .i64 ds, .bool dw] 42 (0, 0))).cell? ⟨w8.heap.size + 1, 7, none⟩ = some (.string Y.text) := h8.cell rfl
            have g2 : (w7.alloc (.cells #[.int .i64 de, .string dt, .slice ia il ic, .slice da dl dc, .int .i64 ds, .bool dw] 42 (0, 0))).cell? ⟨w8.heap.size + 1, 8, none⟩ = some (.slice Y.ia Y.il Y.ic) := h8.cell rfl
            have g3 : (w7.alloc (.cells #[.int .i64 de, .string dt, .slice ia il ic, .slice da dl dc, .int .i64 ds, .bool dw] 42 (0, 0))).cell? ⟨w8.heap.size + 1, 9, none⟩ = some (.slice Y.da Y.dl Y.dc) := h8.cell rfl
            have g4 : (w7.alloc (.cells #[.int .i64 de, .string dt, .slice ia il ic, .slice da dl dc, .int .i64 ds, .bool dw] 42 (0, 0))).cell? ⟨w8.heap.size + 1, 10, none⟩ = some (.int .i64 Y.stamp) := h8.cell rfl
            have g5 : (w7.alloc (.cells #[.int .i64 de, .string dt, .slice ia il ic, .slice da dl dc, .int .i64 ds, .bool dw] 42 (0, 0))).cell? ⟨w8.heap.size + 1, 11, none⟩ = some (.bool Y.wrote) := h8.cell rfl
            have H8 := hid h8
            clear h8 H7
            go_wp2
            have h9 := (((((H8.out.setCell (off := 6) (.int .i64 de)).setCell (off := 7) (.string dt)).setCell (off := 8) (.slice ia il ic)).setCell (off := 9) (.slice da dl dc)).setCell (off := 10) (.int .i64 ds)).setCell (off := 11) (.bool dw)
            rw [show ∀ A B R : Hp, A * (B * R) = B * (A * R) from fun A B R => by ac_rfl] at h9
            have H9 := hid h9
            clear h9 H8
            go_roundg (40 - (n + 1))
            case measure => omega
            case rel =>
              refine ⟨n + 1, S', _, _, by omega, rfl, ?_, by go_num, hid ⟨HOk'.out, HNX.out, HNY.out, H9.out⟩⟩
              rw [HD.out]; first | rfl | go_num
    · rcases Nat.mod_two_eq_zero_or_one n with hpar | hpar
      · have HPar : Hid (n < 10 ∨ n % 2 = 0) := .inr hpar
        have hmod : (n : Int).tmod 2 = 0 := by rw [Int.tmod_eq_emod_of_nonneg (by omega)]; omega
        clear hend HO HOB hpar
        go_wp2_with (go_at_call 12; (with_reducible refine (HW.out _).mono ?_); rintro e w' ⟨rfl, rfl⟩)
        go_at_call 13
        (with_reducible refine (gone_step0 HS.out HOk.out HPar.out).mono ?_)
        rintro e w7 ⟨S', ⟨de, dt, ia, il, ic, da, dl, dc, ds, dw⟩, is, rfl, hok, h7, hy', hcase⟩
        have HOk' := hid hok
        have H7 := hid (h7.alloc (.cells #[.int .i64 de, .string dt, .slice ia il ic, .slice da dl dc, .int .i64 ds, .bool dw] 42 (0, 0))).right
        clear hok h7
        rcases hcase with ⟨rfl, hdx, hkx⟩ | ⟨rfl, hx0, sd, hx', hde, hds⟩
        · have HD : Hid (S'.x.dn + S'.y.dn = dn) := hid (by rw [hy', hdx]; exact hdn)
          have HNX := hid (dnX_keep HX.out hdx hkx)
          have HNY := hid (show dnY S'.y Y by rw [hy']; exact HY.out)
          clear hdx hkx hy'
          go_wp2
          go_roundg (40 - (n + 1))
          case measure => omega
          case rel =>
            refine ⟨n + 1, S', X, Y, by omega, rfl, ?_, by go_num, hid ⟨HOk'.out, HNX.out, HNY.out, H7.out⟩⟩
            rw [HD.out]
        · have HD : Hid (S'.x.dn + S'.y.dn = dn + 1) := hid (by rw [hy', hx', ← hdn, hx0]; show 1 + S.y.dn = 0 + S.y.dn + 1; omega)
          have HNX := hid (show dnX S'.x (⟨de, dt, ia, il, ic, da, dl, dc, ds, dw⟩ : DoneS) by rw [hx']; exact ⟨hde, hds⟩)
          have HNY := hid (show dnY S'.y Y by rw [hy']; exact HY.out)
          clear hx0 hx' hde hds hy'
          have h8 := H7.out
          rw [show ∀ A B R : Hp, A * (B * R) = B * (A * R) from fun A B R => by ac_rfl] at h8
          have e0 : (w7.alloc (.cells #[.int .i64 de, .string dt, .slice ia il ic, .slice da dl dc, .int .i64 ds, .bool dw] 42 (0, 0))).frozen? ⟨w8.heap.size + 1, 0, none⟩ = false := h8.free
          have e1 : (w7.alloc (.cells #[.int .i64 de, .string dt, .slice ia il ic, .slice da dl dc, .int .i64 ds, .bool dw] 42 (0, 0))).frozen? ⟨w8.heap.size + 1, 1, none⟩ = false := h8.free
          have e2 : (w7.alloc (.cells #[.int .i64 de, .string dt, .slice ia il ic, .slice da dl dc, .int .i64 ds, .bool dw] 42 (0, 0))).frozen? ⟨w8.heap.size + 1, 2, none⟩ = false := h8.free
          have e3 : (w7.alloc (.cells #[.int .i64 de, .string dt, .slice ia il ic, .slice da dl dc, .int .i64 ds, .bool dw] 42 (0, 0))).frozen? ⟨w8.heap.size + 1, 3, none⟩ = false := h8.free
          have e4 : (w7.alloc (.cells #[.int .i64 de, .string dt, .slice ia il ic, .slice da dl dc, .int .i64 ds, .bool dw] 42 (0, 0))).frozen? ⟨w8.heap.size + 1, 4, none⟩ = false := h8.free
          have e5 : (w7.alloc (.cells #[.int .i64 de, .string dt, .slice ia il ic, .slice da dl dc, .int .i64 ds, .bool dw] 42 (0, 0))).frozen? ⟨w8.heap.size + 1, 5, none⟩ = false := h8.free
          have g0 : (w7.alloc (.cells #[.int .i64 de, .string dt, .slice ia il ic, .slice da dl dc, .int .i64 ds, .bool dw] 42 (0, 0))).cell? ⟨w8.heap.size + 1, 0, none⟩ = some (.int .i64 X.e) := h8.cell rfl
          have g1 : (w7.alloc (.cells #[.int .i64 de, .string dt, .slice ia il ic, .slice da dl dc, .int .i64 ds, .bool dw] 42 (0, 0))).cell? ⟨w8.heap.size + 1, 1, none⟩ = some (.string X.text) := h8.cell rfl
          have g2 : (w7.alloc (.cells #[.int .i64 de, .string dt, .slice ia il ic, .slice da dl dc, .int .i64 ds, .bool dw] 42 (0, 0))).cell? ⟨w8.heap.size + 1, 2, none⟩ = some (.slice X.ia X.il X.ic) := h8.cell rfl
          have g3 : (w7.alloc (.cells #[.int .i64 de, .string dt, .slice ia il ic, .slice da dl dc, .int .i64 ds, .bool dw] 42 (0, 0))).cell? ⟨w8.heap.size + 1, 3, none⟩ = some (.slice X.da X.dl X.dc) := h8.cell rfl
          have g4 : (w7.alloc (.cells #[.int .i64 de, .string dt, .slice ia il ic, .slice da dl dc, .int .i64 ds, .bool dw] 42 (0, 0))).cell? ⟨w8.heap.size + 1, 4, none⟩ = some (.int .i64 X.stamp) := h8.cell rfl
          have g5 : (w7.alloc (.cells #[.int .i64 de, .string dt, .slice ia il ic, .slice da dl dc, .int .i64 ds, .bool dw] 42 (0, 0))).cell? ⟨w8.heap.size + 1, 5, none⟩ = some (.bool X.wrote) := h8.cell rfl
          have H8 := hid h8
          clear h8 H7
          go_wp2
          have h9 := (((((H8.out.setCell (off := 0) (.int .i64 de)).setCell (off := 1) (.string dt)).setCell (off := 2) (.slice ia il ic)).setCell (off := 3) (.slice da dl dc)).setCell (off := 4) (.int .i64 ds)).setCell (off := 5) (.bool dw)
          rw [show ∀ A B R : Hp, A * (B * R) = B * (A * R) from fun A B R => by ac_rfl] at h9
          have H9 := hid h9
          clear h9 H8
          go_roundg (40 - (n + 1))
          case measure => omega
          case rel =>
            refine ⟨n + 1, S', _, _, by omega, rfl, ?_, by go_num, hid ⟨HOk'.out, HNX.out, HNY.out, H9.out⟩⟩
            rw [HD.out]; first | rfl | go_num
      · have HPar : Hid (n < 10 ∨ n % 2 = 1) := .inr hpar
        have hmod : (n : Int).tmod 2 = 1 := by rw [Int.tmod_eq_emod_of_nonneg (by omega)]; omega
        clear hend HO HOB hpar
        go_wp2_with (go_at_call 12; (with_reducible refine (HW.out _).mono ?_); rintro e w' ⟨rfl, rfl⟩)
        go_at_call 13
        (with_reducible refine (gone_step1 HS.out HOk.out HPar.out).mono ?_)
        rintro e w7 ⟨S', ⟨de, dt, ia, il, ic, da, dl, dc, ds, dw⟩, is, rfl, hok, h7, hy', hcase⟩
        have HOk' := hid hok
        have H7 := hid (h7.alloc (.cells #[.int .i64 de, .string dt, .slice ia il ic, .slice da dl dc, .int .i64 ds, .bool dw] 42 (0, 0))).right
        clear hok h7
        rcases hcase with ⟨rfl, hdx, hkx⟩ | ⟨rfl, hx0, mm, ee, st, hx', hde, hds⟩
        · have HD : Hid (S'.x.dn + S'.y.dn = dn) := hid (by rw [hy', hdx]; exact hdn)
          have HNX := hid (show dnX S'.x X by rw [hy']; exact HX.out)
          have HNY := hid (dnY_keep HY.out hdx hkx)
          clear hdx hkx hy'
          go_wp2
          go_roundg (40 - (n + 1))
          case measure => omega
          case rel =>
            refine ⟨n + 1, S', X, Y, by omega, rfl, ?_, by go_num, hid ⟨HOk'.out, HNX.out, HNY.out, H7.out⟩⟩
            rw [HD.out]
        · have HD : Hid (S'.x.dn + S'.y.dn = dn + 1) := hid (by rw [hy', hx', ← hdn, hx0]; show S.x.dn + 1 = S.x.dn + 0 + 1; omega)
          have HNY := hid (show dnY S'.y (⟨de, dt, ia, il, ic, da, dl, dc, ds, dw⟩ : DoneS) by rw [hx']; exact ⟨hde, hds⟩)
          have HNX := hid (show dnX S'.x X by rw [hy']; exact HX.out)
          clear hx0 hx' hde hds hy'
          have h8 := H7.out
          rw [show ∀ A B R : Hp, A * (B * R) = B * (A * R) from fun A B R => by ac_rfl] at h8
          have e0 : (w7.alloc (.cells #[.int .i64 de, .string dt, .slice ia il ic, .slice da dl dc, .int .i64 ds, .bool dw] 42 (0, 0))).frozen? ⟨w8.heap.size + 1, 6, none⟩ = false := h8.free
          have e1 : (w7.alloc (.cells #[.int .i64 de, .string dt, .slice ia il ic, .slice da dl dc, .int .i64 ds, .bool dw] 42 (0, 0))).frozen? ⟨w8.heap.size + 1, 7, none⟩ = false := h8.free
          have e2 : (w7.alloc (.cells #[.int .i64 de, .string dt, .slice ia il ic, .slice da dl dc, .int .i64 ds, .bool dw] 42 (0, 0))).frozen? ⟨w8.heap.size + 1, 8, none⟩ = false := h8.free
          have e3 : (w7.alloc (.cells #[.int .i64 de, .string dt, .slice ia il ic, .slice da dl dc, .int .i64 ds, .bool dw] 42 (0, 0))).frozen? ⟨w8.heap.size + 1, 9, none⟩ = false := h8.free
          have e4 : (w7.alloc (.cells #[.int .i64 de, .string dt, .slice ia il ic, .slice da dl dc, .int .i64 ds, .bool dw] 42 (0, 0))).frozen? ⟨w8.heap.size + 1, 10, none⟩ = false := h8.free
          have e5 : (w7.alloc (.cells #[.int .i64 de, .string dt, .slice ia il ic, .slice da dl dc, .int .i64 ds, .bool dw] 42 (0, 0))).frozen? ⟨w8.heap.size + 1, 11, none⟩ = false := h8.free
          have g0 : (w7.alloc (.cells #[.int .i64 de, .string dt, .slice ia il ic, .slice da dl dc, .int .i64 ds, .bool dw] 42 (0, 0))).cell? ⟨w8.heap.size + 1, 6, none⟩ = some (.int .i64 Y.e) := h8.cell rfl
          have g1 : (w7.alloc (.cells #[.int .i64 de, .string dt, .slice ia il ic, .slice da dl dc, .int .i64 ds, .bool dw] 42 (0, 0))).cell? ⟨w8.heap.size + 1, 7, none⟩ = some (.string Y.text) := h8.cell rfl
          have g2 : (w7.alloc (.cells #[.int .i64 de, .string dt, .slice ia il ic, .slice da dl dc, .int .i64 ds, .bool dw] 42 (0, 0))).cell? ⟨w8.heap.size + 1, 8, none⟩ = some (.slice Y.ia Y.il Y.ic) := h8.cell rfl
          have g3 : (w7.alloc (.cells #[.int .i64 de, .string dt, .slice ia il ic, .slice da dl dc, .int .i64 ds, .bool dw] 42 (0, 0))).cell? ⟨w8.heap.size + 1, 9, none⟩ = some (.slice Y.da Y.dl Y.dc) := h8.cell rfl
          have g4 : (w7.alloc (.cells #[.int .i64 de, .string dt, .slice ia il ic, .slice da dl dc, .int .i64 ds, .bool dw] 42 (0, 0))).cell? ⟨w8.heap.size + 1, 10, none⟩ = some (.int .i64 Y.stamp) := h8.cell rfl
          have g5 : (w7.alloc (.cells #[.int .i64 de, .string dt, .slice ia il ic, .slice da dl dc, .int .i64 ds, .bool dw] 42 (0, 0))).cell? ⟨w8.heap.size + 1, 11, none⟩ = some (.bool Y.wrote) := h8.cell rfl
          have H8 := hid h8
          clear h8 H7
          go_wp2
          have h9 := (((((H8.out.setCell (off := 6) (.int .i64 de)).setCell (off := 7) (.string dt)).setCell (off := 8) (.slice ia il ic)).setCell (off := 9) (.slice da dl dc)).setCell (off := 10) (.int .i64 ds)).setCell (off := 11) (.bool dw)
          rw [show ∀ A B R : Hp, A * (B * R) = B * (A * R) from fun A B R => by ac_rfl] at h9
          have H9 := hid h9
          clear h9 H8
          go_roundg (40 - (n + 1))
          case measure => omega
          case rel =>
            refine ⟨n + 1, S', _, _, by omega, rfl, ?_, by go_num, hid ⟨HOk'.out, HNX.out, HNY.out, H9.out⟩⟩
            rw [HD.out]; first | rfl | go_num

set_option maxRecDepth 100000 in
set_option maxHeartbeats 8000000 in
theorem gone_walk_t (v : Value) (zs : List Int) (w : World) (hv : Ints w v zs) :
    Calls Tryz.prog 4 #[v, .bool true] w fun e w' => e = .returned (.bool true) ∧ Below w.heap.size w w' := by
  obtain ⟨oa, oc, rfl, hol, hoc, hob⟩ := hv
  have hol' : zs.length ≤ 9223372036854775807 := hol
  have HK := hid (known_calls w)
  have H0 := hid (Sat.old w)
  have HO := hid hoc
  have HOB := hid hob
  clear hol hoc hob
  go_enter Tryz.func4, Tryz.ntmps4
  go_wp2_with (first
    | (go_at_call 7; (with_reducible refine HK.out.mono ?_); rintro e w1 ⟨rfl, hb1⟩
       have H1 := hid (H0.out.below hb1)
       clear hb1)
    | (go_at_call 8; (with_reducible refine (New_calls 1000 H1.out).mono ?_); rintro e w2 ⟨bs, rfl, h2⟩
       have H2 := hid (StoreB.shut (Rep.new 1000) h2)
       clear h2)
    | (go_at_call 9; (with_reducible refine (incrNew_calls H2.out).mono ?_); rintro e w3 ⟨bb, mb, rfl, h3'⟩
       have H3 := hid h3'.right
       clear h3')
    | (go_at_call 11; (with_reducible refine (Begin_calls bs bb (putR kM ⟨#[111, 108, 100]⟩) H3.out).mono ?_); rintro e w4 ⟨tb, rfl, h4'⟩
       have H4 := hid h4'
       clear h4')
    | (go_at_call 10; (with_reducible refine (finish_first H4.out (by decide)).mono ?_); rintro e w5 ⟨rfl, h5⟩
       have h6 := h5.alloc (reqO appR)
       have H6 := hid h6
       clear h5 h6))
  have H6d := hid (H6.out.drew)
  have q0 : (w5.alloc (reqO appR)).drew.cell? ⟨w5.heap.size, 0, none⟩ = some (.int .i64 appR.kind) ∧ (w5.alloc (reqO appR)).drew.cell? ⟨w5.heap.size, 1, none⟩ = some (.string appR.name) ∧ (w5.alloc (reqO appR)).drew.cell? ⟨w5.heap.size, 2, none⟩ = some (.string appR.text) ∧ (w5.alloc (reqO appR)).drew.cell? ⟨w5.heap.size, 3, none⟩ = some (.int .i64 appR.value) := ⟨H6d.out.cell rfl, H6d.out.cell rfl, H6d.out.cell rfl, H6d.out.cell rfl⟩
  go_region_held3 (fun w' => w'.cell? ⟨w5.heap.size, 0, none⟩ = some (.int .i64 appR.kind) ∧ w'.cell? ⟨w5.heap.size, 1, none⟩ = some (.string appR.name) ∧ w'.cell? ⟨w5.heap.size, 2, none⟩ = some (.string appR.text) ∧ w'.cell? ⟨w5.heap.size, 3, none⟩ = some (.int .i64 appR.value)) (with_reducible first | exact q0 | exact q1 | exact q2 | exact q3)
    (first
    | (go_at_call 11; ((with_reducible refine (Begin_calls bs bb delR H6d.out).mono ?_); rintro e w7 ⟨t0, rfl, h7⟩; have H7 := hid h7; have q1 : w7.cell? ⟨w5.heap.size, 0, none⟩ = some (.int .i64 appR.kind) ∧ w7.cell? ⟨w5.heap.size, 1, none⟩ = some (.string appR.name) ∧ w7.cell? ⟨w5.heap.size, 2, none⟩ = some (.string appR.text) ∧ w7.cell? ⟨w5.heap.size, 3, none⟩ = some (.int .i64 appR.value) := ⟨h7.right.cell rfl, h7.right.cell rfl, h7.right.cell rfl, h7.right.cell rfl⟩; clear h7))
    | (go_at_call 11; ((with_reducible refine (Begin_calls bs bb appR H7.out).mono ?_); rintro e w8 ⟨t1, rfl, h8⟩; have H8 := hid h8; have q2 : w8.cell? ⟨w5.heap.size, 0, none⟩ = some (.int .i64 appR.kind) ∧ w8.cell? ⟨w5.heap.size, 1, none⟩ = some (.string appR.name) ∧ w8.cell? ⟨w5.heap.size, 2, none⟩ = some (.string appR.text) ∧ w8.cell? ⟨w5.heap.size, 3, none⟩ = some (.int .i64 appR.value) := ⟨h8.right.right.cell rfl, h8.right.right.cell rfl, h8.right.right.cell rfl, h8.right.right.cell rfl⟩; have h9 := h8.alloc (tsO t0 t1); have q3 : (w8.alloc (tsO t0 t1)).cell? ⟨w5.heap.size, 0, none⟩ = some (.int .i64 appR.kind) ∧ (w8.alloc (tsO t0 t1)).cell? ⟨w5.heap.size, 1, none⟩ = some (.string appR.name) ∧ (w8.alloc (tsO t0 t1)).cell? ⟨w5.heap.size, 2, none⟩ = some (.string appR.text) ∧ (w8.alloc (tsO t0 t1)).cell? ⟨w5.heap.size, 3, none⟩ = some (.int .i64 appR.value) := ⟨h9.right.right.right.cell rfl, h9.right.right.right.cell rfl, h9.right.right.right.cell rfl, h9.right.right.right.cell rfl⟩; have H9 := hid h9; clear h8 h9)))
  have h10 := H9.out.alloc (dO dZ dZ)
  rw [show (w8.alloc (tsO t0 t1)).heap.size = w8.heap.size + 1 by show (w8.heap.push _).size = _; simp] at h10
  rw [show ∀ A B C D E F G : Hp, A * (B * (C * (D * (E * (F * G))))) = D * (C * F) * (A * (B * (E * G))) from fun A B C D E F G => by ac_rfl] at h10
  have H10 : Hid (Sat (out w) ((w8.alloc (tsO t0 t1)).alloc (dO dZ dZ)) (gStart.hp true bs bb t0 t1 * (pts (w8.heap.size + 1) (dO dZ dZ) * (pts w8.heap.size (tsO t0 t1) * (pts w5.heap.size (reqO appR) * Old w))))) := h10
  clear h10 H9 q0 q1 q2 q3 H8 H7
  go_wp2
  go_loopg [10, 11, 12, 13, 14] 40 (fun m dn i _ _ _ wr => ∃ (n : Nat) (S : GSt) (X Y : DoneS), n ≤ 40 ∧ m = 40 - n ∧ dn = .int .i64 (S.x.dn + S.y.dn : Nat) ∧ i = .int .i64 n ∧
    Hid (GOk true S n ∧ dnX S.x X ∧ dnY S.y Y ∧ Sat (out w) wr (S.hp true bs bb t0 t1 * (pts (w8.heap.size + 1) (dO X Y) * (pts w8.heap.size (tsO t0 t1) * (pts w5.heap.size (reqO appR) * Old w))))))
  case atStart =>
    exact ⟨0, gStart, dZ, dZ, by omega, rfl, rfl, rfl, hid ⟨gone_start true, trivial, trivial, H10.out⟩⟩
  case round =>
    obtain ⟨n, S, X, Y, hn40, rfl, rfl, rfl, HQ⟩ := hrel
    clear H10
    obtain ⟨hok0, hX0, hY0, hS0⟩ := HQ.out
    clear HQ
    have hdl := S.x.dn_le
    have hdl2 := S.y.dn_le
    have t0c : wr.cell? ⟨w8.heap.size, 0, none⟩ = some (.pointer (some ⟨t0, 0, none⟩)) := hS0.right.right.cell rfl
    have t1c : wr.cell? ⟨w8.heap.size, 1, none⟩ = some (.pointer (some ⟨t1, 0, none⟩)) := hS0.right.right.cell rfl
    have hold := hS0.right.right.right.right.old_only
    have HS := hid hS0
    have HOk := hid hok0
    have HX := hid hX0
    have HY := hid hY0
    clear hS0 hok0 hX0 hY0
    generalize hdn : S.x.dn + S.y.dn = dn at *
    by_cases hend : n = 40 ∨ dn = 2
    · obtain ⟨⟨sd, hx⟩, mm, ee, st, hy⟩ := gone_end HOk.out (by rw [hdn]; exact hend)
      obtain ⟨A, sh, x, y⟩ := S
      dsimp only at hx hy
      subst hx; subst hy
      have hdn2 : dn = 2 := by rw [← hdn]; rfl
      subst hdn2
      obtain ⟨xe, xt, xa, xl, xc, xda, xdl, xdc, xs, xw⟩ := X
      obtain ⟨ye, yt, ya, yl, yc, yda, ydl, ydc, ys, yw⟩ := Y
      obtain ⟨hX1, hX2⟩ := HX.out
      obtain ⟨hY1, hY2⟩ := HY.out
      dsimp only at hX1 hX2 hY1 hY2
      subst hX1; subst hX2; subst hY1; subst hY2
      have hW := HS.out
      unfold GSt.hp at hW
      dsimp only at hW
      rw [show ∀ X Y Z R : Hp, X * (Y * Z) * R = Z * (X * Y * R) from fun X Y Z R => by ac_rfl] at hW
      obtain ⟨σ, hσ, _⟩ := StoreB.open_ hW
      have HN := hid (nowB_calls hW)
      have hR1 := readB_calls hW kFM hσ.mN
      have hR2 := readB_calls hW kD hσ.mN
      have hcs := gone_fin HOk.out hσ
      have c0 : wr.cell? ⟨w8.heap.size + 1, 0, none⟩ = some (.int .i64 0) := HS.out.right.cell rfl
      have hn2 : ¬ ((n : Int) < 40 ∧ (2 : Int) < 2) := by omega
      clear hend hdn hW t0c t1c HO HOB HOk HX HY
      rcases hcs with ⟨f1, f2, ⟨he, hlt⟩ | ⟨he, _⟩⟩ | ⟨ha, _⟩
      · subst he
        rw [f1] at hR1; rw [f2] at hR2
        have HR1 : Hid (Calls Tryz.prog 15 #[.pointer (some ⟨bs, 0, none⟩), .string ⟨#[102, 109]⟩, .int .i64 A.now] wr fun e w' => e = .returned (.tuple #[.string ⟨#[]⟩, .bool false]) ∧ wr = w') := hR1
        have HR2 : Hid (Calls Tryz.prog 15 #[.pointer (some ⟨bs, 0, none⟩), .string ⟨#[100]⟩, .int .i64 A.now] wr fun e w' => e = .returned (.tuple #[.string ⟨#[]⟩, .bool true]) ∧ wr = w') := hR2
        have HP : Hid (Calls Tryz.prog 17 #[.string ⟨#[]⟩] wr fun e w' => ∃ v, e = .returned v ∧ Fresh wr w' (Row 9 1 v 0 [])) := Parts_calls libS.sp ⟨#[]⟩ wr (by decide)
        clear hR1 hR2 f1 f2 hσ
        go_wp2_with (first
          | (go_at_call 16; (with_reducible refine HN.out.mono ?_); rintro e w' ⟨rfl, rfl⟩)
          | (go_at_call 15; (with_reducible refine HR1.out.mono ?_); rintro e w' ⟨rfl, rfl⟩)
          | (go_at_call 15; (with_reducible refine HR2.out.mono ?_); rintro e w' ⟨rfl, rfl⟩)
          | (go_at_call 17; (with_reducible refine HP.out.mono ?_); rintro e w9 ⟨v, rfl, hf⟩
             obtain ⟨_, _, pa, pc, rfl, _, _⟩ := Row.len hf
             have h9 := HS.out.below hf.below
             have d6 : w9.cell? ⟨w8.heap.size + 1, 6, none⟩ = some (.int .i64 0) := h9.right.cell rfl
             have d10 : w9.cell? ⟨w8.heap.size + 1, 10, none⟩ = some (.int .i64 (st : Nat)) := h9.right.cell rfl
             have d4 : w9.cell? ⟨w8.heap.size + 1, 4, none⟩ = some (.int .i64 (sd : Nat)) := h9.right.cell rfl
             have hb9 := h9.right.right.right.right.old_only
             clear h9 hf))
        all_goals
          go_ret
          exact ⟨by first | rfl | simp, hb9⟩
      · subst he
        rw [f1] at hR1; rw [f2] at hR2
        have HR1 : Hid (Calls Tryz.prog 15 #[.pointer (some ⟨bs, 0, none⟩), .string ⟨#[102, 109]⟩, .int .i64 A.now] wr fun e w' => e = .returned (.tuple #[.string ⟨#[]⟩, .bool false]) ∧ wr = w') := hR1
        have HR2 : Hid (Calls Tryz.prog 15 #[.pointer (some ⟨bs, 0, none⟩), .string ⟨#[100]⟩, .int .i64 A.now] wr fun e w' => e = .returned (.tuple #[.string ⟨#[]⟩, .bool true]) ∧ wr = w') := hR2
        have HP : Hid (Calls Tryz.prog 17 #[.string ⟨#[]⟩] wr fun e w' => ∃ v, e = .returned v ∧ Fresh wr w' (Row 9 1 v 0 [])) := Parts_calls libS.sp ⟨#[]⟩ wr (by decide)
        clear hR1 hR2 f1 f2 hσ
        go_wp2_with (first
          | (go_at_call 16; (with_reducible refine HN.out.mono ?_); rintro e w' ⟨rfl, rfl⟩)
          | (go_at_call 15; (with_reducible refine HR1.out.mono ?_); rintro e w' ⟨rfl, rfl⟩)
          | (go_at_call 15; (with_reducible refine HR2.out.mono ?_); rintro e w' ⟨rfl, rfl⟩)
          | (go_at_call 17; (with_reducible refine HP.out.mono ?_); rintro e w9 ⟨v, rfl, hf⟩
             obtain ⟨_, _, pa, pc, rfl, _, _⟩ := Row.len hf
             have h9 := HS.out.below hf.below
             have d6 : w9.cell? ⟨w8.heap.size + 1, 6, none⟩ = some (.int .i64 9) := h9.right.cell rfl
             have d10 : w9.cell? ⟨w8.heap.size + 1, 10, none⟩ = some (.int .i64 (st : Nat)) := h9.right.cell rfl
             have d4 : w9.cell? ⟨w8.heap.size + 1, 4, none⟩ = some (.int .i64 (sd : Nat)) := h9.right.cell rfl
             have hb9 := h9.right.right.right.right.old_only
             clear h9 hf))
        all_goals
          go_ret
          exact ⟨by first | rfl | simp, hb9⟩
      · cases ha
    have hn39 : n < 40 := by omega
    have hdn1 : dn < 2 := by omega
    by_cases ho : n < zs.length
    · by_cases h8 : n < 10
      · have hz : zs[n]? = some zs[n] := by simp [ho]
        obtain ⟨ob, off, rfl, hbl, hcz⟩ := HO.out n _ hz
        have hc : wr.cell? ⟨ob, off + n, none⟩ = some (.int .i64 zs[n]) := (hold.cell hbl).trans hcz
        have hzb := HOB.out zs[n] (List.getElem_mem _)
        generalize zs[n] = z at *
        have HW := hid (fun W => within_calls z 2 W (by decide) (by decide) hzb)
        have hwb := within_bd z (n := 2) (by decide)
        generalize within z 2 = wk at *
        have HPar0 : Hid (n < 10 ∨ n % 2 = 0) := .inl h8
        have HPar1 : Hid (n < 10 ∨ n % 2 = 1) := .inl h8
        clear hz hcz hzb hend HO HOB
        rcases (show wk = 0 ∨ wk = 1 by omega) with rfl | rfl
        · clear hwb HPar1
          have HPar := HPar0
          go_wp2_with (go_at_call 12; (with_reducible refine (HW.out _).mono ?_); rintro e w' ⟨rfl, rfl⟩)
          go_at_call 13
          (with_reducible refine (gone_step0 HS.out HOk.out HPar.out).mono ?_)
          rintro e w7 ⟨S', ⟨de, dt, ia, il, ic, da, dl, dc, ds, dw⟩, is, rfl, hok, h7, hy', hcase⟩
          have HOk' := hid hok
          have H7 := hid (h7.alloc (.cells #[.int .i64 de, .string dt, .slice ia il ic, .slice da dl dc, .int .i64 ds, .bool dw] 42 (0, 0))).right
          clear hok h7
          rcases hcase with ⟨rfl, hdx, hkx⟩ | ⟨rfl, hx0, sd, hx', hde, hds⟩
          · have HD : Hid (S'.x.dn + S'.y.dn = dn) := hid (by rw [hy', hdx]; exact hdn)
            have HNX := hid (dnX_keep HX.out hdx hkx)
            have HNY := hid (show dnY S'.y Y by rw [hy']; exact HY.out)
            clear hdx hkx hy'
            go_wp2
            go_roundg (40 - (n + 1))
            case measure => omega
            case rel =>
              refine ⟨n + 1, S', X, Y, by omega, rfl, ?_, by go_num, hid ⟨HOk'.out, HNX.out, HNY.out, H7.out⟩⟩
              rw [HD.out]
          · have HD : Hid (S'.x.dn + S'.y.dn = dn + 1) := hid (by rw [hy', hx', ← hdn, hx0]; show 1 + S.y.dn = 0 + S.y.dn + 1; omega)
            have HNX := hid (show dnX S'.x (⟨de, dt, ia, il, ic, da, dl, dc, ds, dw⟩ : DoneS) by rw [hx']; exact ⟨hde, hds⟩)
            have HNY := hid (show dnY S'.y Y by rw [hy']; exact HY.out)
            clear hx0 hx' hde hds hy'
            have h8 := H7.out
            rw [show ∀ A B R : Hp, A * (B * R) = B * (A * R) from fun A B R => by ac_rfl] at h8
            have e0 : (w7.alloc (.cells #[.int .i64 de, .string dt, .slice ia il ic, .slice da dl dc, .int .i64 ds, .bool dw] 42 (0, 0))).frozen? ⟨w8.heap.size + 1, 0, none⟩ = false := h8.free
            have e1 : (w7.alloc (.cells #[.int .i64 de, .string dt, .slice ia il ic, .slice da dl dc, .int .i64 ds, .bool dw] 42 (0, 0))).frozen? ⟨w8.heap.size + 1, 1, none⟩ = false := h8.free
            have e2 : (w7.alloc (.cells #[.int .i64 de, .string dt, .slice ia il ic, .slice da dl dc, .int .i64 ds, .bool dw] 42 (0, 0))).frozen? ⟨w8.heap.size + 1, 2, none⟩ = false := h8.free
            have e3 : (w7.alloc (.cells #[.int .i64 de, .string dt, .slice ia il ic, .slice da dl dc, .int .i64 ds, .bool dw] 42 (0, 0))).frozen? ⟨w8.heap.size + 1, 3, none⟩ = false := h8.free
            have e4 : (w7.alloc (.cells #[.int .i64 de, .string dt, .slice ia il ic, .slice da dl dc, .int .i64 ds, .bool dw] 42 (0, 0))).frozen? ⟨w8.heap.size + 1, 4, none⟩ = false := h8.free
            have e5 : (w7.alloc (.cells #[.int .i64 de, .string dt, .slice ia il ic, .slice da dl dc, .int .i64 ds, .bool dw] 42 (0, 0))).frozen? ⟨w8.heap.size + 1, 5, none⟩ = false := h8.free
            have g0 : (w7.alloc (.cells #[.int .i64 de, .string dt, .slice ia il ic, .slice da dl dc, .int .i64 ds, .bool dw] 42 (0, 0))).cell? ⟨w8.heap.size + 1, 0, none⟩ = some (.int .i64 X.e) := h8.cell rfl
            have g1 : (w7.alloc (.cells #[.int .i64 de, .string dt, .slice ia il ic, .slice da dl dc, .int .i64 ds, .bool dw] 42 (0, 0))).cell? ⟨w8.heap.size + 1, 1, none⟩ = some (.string X.text) := h8.cell rfl
            have g2 : (w7.alloc (.cells #[.int .i64 de, .string dt, .slice ia il ic, .slice da dl dc, .int .i64 ds, .bool dw] 42 (0, 0))).cell? ⟨w8.heap.size + 1, 2, none⟩ = some (.slice X.ia X.il X.ic) := h8.cell rfl
            have g3 : (w7.alloc (.cells #[.int .i64 de, .string dt, .slice ia il ic, .slice da dl dc, .int .i64 ds, .bool dw] 42 (0, 0))).cell? ⟨w8.heap.size + 1, 3, none⟩ = some (.slice X.da X.dl X.dc) := h8.cell rfl
            have g4 : (w7.alloc (.cells #[.int .i64 de, .string dt, .slice ia il ic, .slice da dl dc, .int .i64 ds, .bool dw] 42 (0, 0))).cell? ⟨w8.heap.size + 1, 4, none⟩ = some (.int .i64 X.stamp) := h8.cell rfl
            have g5 : (w7.alloc (.cells #[.int .i64 de, .string dt, .slice ia il ic, .slice da dl dc, .int .i64 ds, .bool dw] 42 (0, 0))).cell? ⟨w8.heap.size + 1, 5, none⟩ = some (.bool X.wrote) := h8.cell rfl
            have H8 := hid h8
            clear h8 H7
            go_wp2
            have h9 := (((((H8.out.setCell (off := 0) (.int .i64 de)).setCell (off := 1) (.string dt)).setCell (off := 2) (.slice ia il ic)).setCell (off := 3) (.slice da dl dc)).setCell (off := 4) (.int .i64 ds)).setCell (off := 5) (.bool dw)
            rw [show ∀ A B R : Hp, A * (B * R) = B * (A * R) from fun A B R => by ac_rfl] at h9
            have H9 := hid h9
            clear h9 H8
            go_roundg (40 - (n + 1))
            case measure => omega
            case rel =>
              refine ⟨n + 1, S', _, _, by omega, rfl, ?_, by go_num, hid ⟨HOk'.out, HNX.out, HNY.out, H9.out⟩⟩
              rw [HD.out]; first | rfl | go_num
        · clear hwb HPar0
          have HPar := HPar1
          go_wp2_with (go_at_call 12; (with_reducible refine (HW.out _).mono ?_); rintro e w' ⟨rfl, rfl⟩)
          go_at_call 13
          (with_reducible refine (gone_step1 HS.out HOk.out HPar.out).mono ?_)
          rintro e w7 ⟨S', ⟨de, dt, ia, il, ic, da, dl, dc, ds, dw⟩, is, rfl, hok, h7, hy', hcase⟩
          have HOk' := hid hok
          have H7 := hid (h7.alloc (.cells #[.int .i64 de, .string dt, .slice ia il ic, .slice da dl dc, .int .i64 ds, .bool dw] 42 (0, 0))).right
          clear hok h7
          rcases hcase with ⟨rfl, hdx, hkx⟩ | ⟨rfl, hx0, mm, ee, st, hx', hde, hds⟩
          · have HD : Hid (S'.x.dn + S'.y.dn = dn) := hid (by rw [hy', hdx]; exact hdn)
            have HNX := hid (show dnX S'.x X by rw [hy']; exact HX.out)
            have HNY := hid (dnY_keep HY.out hdx hkx)
            clear hdx hkx hy'
            go_wp2
            go_roundg (40 - (n + 1))
            case measure => omega
            case rel =>
              refine ⟨n + 1, S', X, Y, by omega, rfl, ?_, by go_num, hid ⟨HOk'.out, HNX.out, HNY.out, H7.out⟩⟩
              rw [HD.out]
          · have HD : Hid (S'.x.dn + S'.y.dn = dn + 1) := hid (by rw [hy', hx', ← hdn, hx0]; show S.x.dn + 1 = S.x.dn + 0 + 1; omega)
            have HNY := hid (show dnY S'.y (⟨de, dt, ia, il, ic, da, dl, dc, ds, dw⟩ : DoneS) by rw [hx']; exact ⟨hde, hds⟩)
            have HNX := hid (show dnX S'.x X by rw [hy']; exact HX.out)
            clear hx0 hx' hde hds hy'
            have h8 := H7.out
            rw [show ∀ A B R : Hp, A * (B * R) = B * (A * R) from fun A B R => by ac_rfl] at h8
            have e0 : (w7.alloc (.cells #[.int .i64 de, .string dt, .slice ia il ic, .slice da dl dc, .int .i64 ds, .bool dw] 42 (0, 0))).frozen? ⟨w8.heap.size + 1, 6, none⟩ = false := h8.free
            have e1 : (w7.alloc (.cells #[.int .i64 de, .string dt, .slice ia il ic, .slice da dl dc, .int .i64 ds, .bool dw] 42 (0, 0))).frozen? ⟨w8.heap.size + 1, 7, none⟩ = false := h8.free
            have e2 : (w7.alloc (.cells #[.int .i64 de, .string dt, .slice ia il ic, .slice da dl dc, .int .i64 ds, .bool dw] 42 (0, 0))).frozen? ⟨w8.heap.size + 1, 8, none⟩ = false := h8.free
            have e3 : (w7.alloc (.cells #[.int .i64 de, .string dt, .slice ia il ic, .slice da dl dc, .int .i64 ds, .bool dw] 42 (0, 0))).frozen? ⟨w8.heap.size + 1, 9, none⟩ = false := h8.free
            have e4 : (w7.alloc (.cells #[.int .i64 de, .string dt, .slice ia il ic, .slice da dl dc, .int .i64 ds, .bool dw] 42 (0, 0))).frozen? ⟨w8.heap.size + 1, 10, none⟩ = false := h8.free
            have e5 : (w7.alloc (.cells #[.int .i64 de, .string dt, .slice ia il ic, .slice da dl dc, .int .i64 ds, .bool dw] 42 (0, 0))).frozen? ⟨w8.heap.size + 1, 11, none⟩ = false := h8.free
            have g0 : (w7.alloc (.cells #[.int .i64 de, .string dt, .slice ia il ic, .slice da dl dc, .int .i64 ds, .bool dw] 42 (0, 0))).cell? ⟨w8.heap.size + 1, 6, none⟩ = some (.int .i64 Y.e) := h8.cell rfl
            have g1 : (w7.alloc (.cells #[.int .i64 de, .string dt, .slice ia il ic, .slice da dl dc, .int .i64 ds, .bool dw] 42 (0, 0))).cell? ⟨w8.heap.size + 1, 7, none⟩ = some (.string Y.text) := h8.cell rfl
            have g2 : (w7.alloc (.cells #[.int .i64 de, .string dt, .slice ia il ic, .slice da dl dc, .int .i64 ds, .bool dw] 42 (0, 0))).cell? ⟨w8.heap.size + 1, 8, none⟩ = some (.slice Y.ia Y.il Y.ic) := h8.cell rfl
            have g3 : (w7.alloc (.cells #[.int .i64 de, .string dt, .slice ia il ic, .slice da dl dc, .int .i64 ds, .bool dw] 42 (0, 0))).cell? ⟨w8.heap.size + 1, 9, none⟩ = some (.slice Y.da Y.dl Y.dc) := h8.cell rfl
            have g4 : (w7.alloc (.cells #[.int .i64 de, .string dt, .slice ia il ic, .slice da dl dc, .int .i64 ds, .bool dw] 42 (0, 0))).cell? ⟨w8.heap.size + 1, 10, none⟩ = some (.int .i64 Y.stamp) := h8.cell rfl
            have g5 : (w7.alloc (.cells #[.int .i64 de, .string dt, .slice ia il ic, .slice da dl dc, .int .i64 ds, .bool dw] 42 (0, 0))).cell? ⟨w8.heap.size + 1, 11, none⟩ = some (.bool Y.wrote) := h8.cell rfl
            have H8 := hid h8
            clear h8 H7
            go_wp2
            have h9 := (((((H8.out.setCell (off := 6) (.int .i64 de)).setCell (off := 7) (.string dt)).setCell (off := 8) (.slice ia il ic)).setCell (off := 9) (.slice da dl dc)).setCell (off := 10) (.int .i64 ds)).setCell (off := 11) (.bool dw)
            rw [show ∀ A B R : Hp, A * (B * R) = B * (A * R) from fun A B R => by ac_rfl] at h9
            have H9 := hid h9
            clear h9 H8
            go_roundg (40 - (n + 1))
            case measure => omega
            case rel =>
              refine ⟨n + 1, S', _, _, by omega, rfl, ?_, by go_num, hid ⟨HOk'.out, HNX.out, HNY.out, H9.out⟩⟩
              rw [HD.out]; first | rfl | go_num
      · rcases Nat.mod_two_eq_zero_or_one n with hpar | hpar
        · have HPar : Hid (n < 10 ∨ n % 2 = 0) := .inr hpar
          have hmod : (n : Int).tmod 2 = 0 := by rw [Int.tmod_eq_emod_of_nonneg (by omega)]; omega
          clear hend HO HOB hpar
          go_wp2_with (go_at_call 12; (with_reducible refine (HW.out _).mono ?_); rintro e w' ⟨rfl, rfl⟩)
          go_at_call 13
          (with_reducible refine (gone_step0 HS.out HOk.out HPar.out).mono ?_)
          rintro e w7 ⟨S', ⟨de, dt, ia, il, ic, da, dl, dc, ds, dw⟩, is, rfl, hok, h7, hy', hcase⟩
          have HOk' := hid hok
          have H7 := hid (h7.alloc (.cells #[.int .i64 de, .string dt, .slice ia il ic, .slice da dl dc, .int .i64 ds, .bool dw] 42 (0, 0))).right
          clear hok h7
          rcases hcase with ⟨rfl, hdx, hkx⟩ | ⟨rfl, hx0, sd, hx', hde, hds⟩
          · have HD : Hid (S'.x.dn + S'.y.dn = dn) := hid (by rw [hy', hdx]; exact hdn)
            have HNX := hid (dnX_keep HX.out hdx hkx)
            have HNY := hid (show dnY S'.y Y by rw [hy']; exact HY.out)
            clear hdx hkx hy'
            go_wp2
            go_roundg (40 - (n + 1))
            case measure => omega
            case rel =>
              refine ⟨n + 1, S', X, Y, by omega, rfl, ?_, by go_num, hid ⟨HOk'.out, HNX.out, HNY.out, H7.out⟩⟩
              rw [HD.out]
          · have HD : Hid (S'.x.dn + S'.y.dn = dn + 1) := hid (by rw [hy', hx', ← hdn, hx0]; show 1 + S.y.dn = 0 + S.y.dn + 1; omega)
            have HNX := hid (show dnX S'.x (⟨de, dt, ia, il, ic, da, dl, dc, ds, dw⟩ : DoneS) by rw [hx']; exact ⟨hde, hds⟩)
            have HNY := hid (show dnY S'.y Y by rw [hy']; exact HY.out)
            clear hx0 hx' hde hds hy'
            have h8 := H7.out
            rw [show ∀ A B R : Hp, A * (B * R) = B * (A * R) from fun A B R => by ac_rfl] at h8
            have e0 : (w7.alloc (.cells #[.int .i64 de, .string dt, .slice ia il ic, .slice da dl dc, .int .i64 ds, .bool dw] 42 (0, 0))).frozen? ⟨w8.heap.size + 1, 0, none⟩ = false := h8.free
            have e1 : (w7.alloc (.cells #[.int .i64 de, .string dt, .slice ia il ic, .slice da dl dc, .int .i64 ds, .bool dw] 42 (0, 0))).frozen? ⟨w8.heap.size + 1, 1, none⟩ = false := h8.free
            have e2 : (w7.alloc (.cells #[.int .i64 de, .string dt, .slice ia il ic, .slice da dl dc, .int .i64 ds, .bool dw] 42 (0, 0))).frozen? ⟨w8.heap.size + 1, 2, none⟩ = false := h8.free
            have e3 : (w7.alloc (.cells #[.int .i64 de, .string dt, .slice ia il ic, .slice da dl dc, .int .i64 ds, .bool dw] 42 (0, 0))).frozen? ⟨w8.heap.size + 1, 3, none⟩ = false := h8.free
            have e4 : (w7.alloc (.cells #[.int .i64 de, .string dt, .slice ia il ic, .slice da dl dc, .int .i64 ds, .bool dw] 42 (0, 0))).frozen? ⟨w8.heap.size + 1, 4, none⟩ = false := h8.free
            have e5 : (w7.alloc (.cells #[.int .i64 de, .string dt, .slice ia il ic, .slice da dl dc, .int .i64 ds, .bool dw] 42 (0, 0))).frozen? ⟨w8.heap.size + 1, 5, none⟩ = false := h8.free
            have g0 : (w7.alloc (.cells #[.int .i64 de, .string dt, .slice ia il ic, .slice da dl dc, .int .i64 ds, .bool dw] 42 (0, 0))).cell? ⟨w8.heap.size + 1, 0, none⟩ = some (.int .i64 X.e) := h8.cell rfl
            have g1 : (w7.alloc (.cells #[.int .i64 de, .string dt, .slice ia il ic, .slice da dl dc, .int .i64 ds, .bool dw] 42 (0, 0))).cell? ⟨w8.heap.size + 1, 1, none⟩ = some (.string X.text) := h8.cell rfl
            have g2 : (w7.alloc (.cells #[.int .i64 de, .string dt, .slice ia il ic, .slice da dl dc, .int .i64 ds, .bool dw] 42 (0, 0))).cell? ⟨w8.heap.size + 1, 2, none⟩ = some (.slice X.ia X.il X.ic) := h8.cell rfl
            have g3 : (w7.alloc (.cells #[.int .i64 de, .string dt, .slice ia il ic, .slice da dl dc, .int .i64 ds, .bool dw] 42 (0, 0))).cell? ⟨w8.heap.size + 1, 3, none⟩ = some (.slice X.da X.dl X.dc) := h8.cell rfl
            have g4 : (w7.alloc (.cells #[.int .i64 de, .string dt, .slice ia il ic, .slice da dl dc, .int .i64 ds, .bool dw] 42 (0, 0))).cell? ⟨w8.heap.size + 1, 4, none⟩ = some (.int .i64 X.stamp) := h8.cell rfl
            have g5 : (w7.alloc (.cells #[.int .i64 de, .string dt, .slice ia il ic, .slice da dl dc, .int .i64 ds, .bool dw] 42 (0, 0))).cell? ⟨w8.heap.size + 1, 5, none⟩ = some (.bool X.wrote) := h8.cell rfl
            have H8 := hid h8
            clear h8 H7
            go_wp2
            have h9 := (((((H8.out.setCell (off := 0) (.int .i64 de)).setCell (off := 1) (.string dt)).setCell (off := 2) (.slice ia il ic)).setCell (off := 3) (.slice da dl dc)).setCell (off := 4) (.int .i64 ds)).setCell (off := 5) (.bool dw)
            rw [show ∀ A B R : Hp, A * (B * R) = B * (A * R) from fun A B R => by ac_rfl] at h9
            have H9 := hid h9
            clear h9 H8
            go_roundg (40 - (n + 1))
            case measure => omega
            case rel =>
              refine ⟨n + 1, S', _, _, by omega, rfl, ?_, by go_num, hid ⟨HOk'.out, HNX.out, HNY.out, H9.out⟩⟩
              rw [HD.out]; first | rfl | go_num
        · have HPar : Hid (n < 10 ∨ n % 2 = 1) := .inr hpar
          have hmod : (n : Int).tmod 2 = 1 := by rw [Int.tmod_eq_emod_of_nonneg (by omega)]; omega
          clear hend HO HOB hpar
          go_wp2_with (go_at_call 12; (with_reducible refine (HW.out _).mono ?_); rintro e w' ⟨rfl, rfl⟩)
          go_at_call 13
          (with_reducible refine (gone_step1 HS.out HOk.out HPar.out).mono ?_)
          rintro e w7 ⟨S', ⟨de, dt, ia, il, ic, da, dl, dc, ds, dw⟩, is, rfl, hok, h7, hy', hcase⟩
          have HOk' := hid hok
          have H7 := hid (h7.alloc (.cells #[.int .i64 de, .string dt, .slice ia il ic, .slice da dl dc, .int .i64 ds, .bool dw] 42 (0, 0))).right
          clear hok h7
          rcases hcase with ⟨rfl, hdx, hkx⟩ | ⟨rfl, hx0, mm, ee, st, hx', hde, hds⟩
          · have HD : Hid (S'.x.dn + S'.y.dn = dn) := hid (by rw [hy', hdx]; exact hdn)
            have HNX := hid (show dnX S'.x X by rw [hy']; exact HX.out)
            have HNY := hid (dnY_keep HY.out hdx hkx)
            clear hdx hkx hy'
            go_wp2
            go_roundg (40 - (n + 1))
            case measure => omega
            case rel =>
              refine ⟨n + 1, S', X, Y, by omega, rfl, ?_, by go_num, hid ⟨HOk'.out, HNX.out, HNY.out, H7.out⟩⟩
              rw [HD.out]
          · have HD : Hid (S'.x.dn + S'.y.dn = dn + 1) := hid (by rw [hy', hx', ← hdn, hx0]; show S.x.dn + 1 = S.x.dn + 0 + 1; omega)
            have HNY := hid (show dnY S'.y (⟨de, dt, ia, il, ic, da, dl, dc, ds, dw⟩ : DoneS) by rw [hx']; exact ⟨hde, hds⟩)
            have HNX := hid (show dnX S'.x X by rw [hy']; exact HX.out)
            clear hx0 hx' hde hds hy'
            have h8 := H7.out
            rw [show ∀ A B R : Hp, A * (B * R) = B * (A * R) from fun A B R => by ac_rfl] at h8
            have e0 : (w7.alloc (.cells #[.int .i64 de, .string dt, .slice ia il ic, .slice da dl dc, .int .i64 ds, .bool dw] 42 (0, 0))).frozen? ⟨w8.heap.size + 1, 6, none⟩ = false := h8.free
            have e1 : (w7.alloc (.cells #[.int .i64 de, .string dt, .slice ia il ic, .slice da dl dc, .int .i64 ds, .bool dw] 42 (0, 0))).frozen? ⟨w8.heap.size + 1, 7, none⟩ = false := h8.free
            have e2 : (w7.alloc (.cells #[.int .i64 de, .string dt, .slice ia il ic, .slice da dl dc, .int .i64 ds, .bool dw] 42 (0, 0))).frozen? ⟨w8.heap.size + 1, 8, none⟩ = false := h8.free
            have e3 : (w7.alloc (.cells #[.int .i64 de, .string dt, .slice ia il ic, .slice da dl dc, .int .i64 ds, .bool dw] 42 (0, 0))).frozen? ⟨w8.heap.size + 1, 9, none⟩ = false := h8.free
            have e4 : (w7.alloc (.cells #[.int .i64 de, .string dt, .slice ia il ic, .slice da dl dc, .int .i64 ds, .bool dw] 42 (0, 0))).frozen? ⟨w8.heap.size + 1, 10, none⟩ = false := h8.free
            have e5 : (w7.alloc (.cells #[.int .i64 de, .string dt, .slice ia il ic, .slice da dl dc, .int .i64 ds, .bool dw] 42 (0, 0))).frozen? ⟨w8.heap.size + 1, 11, none⟩ = false := h8.free
            have g0 : (w7.alloc (.cells #[.int .i64 de, .string dt, .slice ia il ic, .slice da dl dc, .int .i64 ds, .bool dw] 42 (0, 0))).cell? ⟨w8.heap.size + 1, 6, none⟩ = some (.int .i64 Y.e) := h8.cell rfl
            have g1 : (w7.alloc (.cells #[.int .i64 de, .string dt, .slice ia il ic, .slice da dl dc, .int .i64 ds, .bool dw] 42 (0, 0))).cell? ⟨w8.heap.size + 1, 7, none⟩ = some (.string Y.text) := h8.cell rfl
            have g2 : (w7.alloc (.cells #[.int .i64 de, .string dt, .slice ia il ic, .slice da dl dc, .int .i64 ds, .bool dw] 42 (0, 0))).cell? ⟨w8.heap.size + 1, 8, none⟩ = some (.slice Y.ia Y.il Y.ic) := h8.cell rfl
            have g3 : (w7.alloc (.cells #[.int .i64 de, .string dt, .slice ia il ic, .slice da dl dc, .int .i64 ds, .bool dw] 42 (0, 0))).cell? ⟨w8.heap.size + 1, 9, none⟩ = some (.slice Y.da Y.dl Y.dc) := h8.cell rfl
            have g4 : (w7.alloc (.cells #[.int .i64 de, .string dt, .slice ia il ic, .slice da dl dc, .int .i64 ds, .bool dw] 42 (0, 0))).cell? ⟨w8.heap.size + 1, 10, none⟩ = some (.int .i64 Y.stamp) := h8.cell rfl
            have g5 : (w7.alloc (.cells #[.int .i64 de, .string dt, .slice ia il ic, .slice da dl dc, .int .i64 ds, .bool dw] 42 (0, 0))).cell? ⟨w8.heap.size + 1, 11, none⟩ = some (.bool Y.wrote) := h8.cell rfl
            have H8 := hid h8
            clear h8 H7
            go_wp2
            have h9 := (((((H8.out.setCell (off := 6) (.int .i64 de)).setCell (off := 7) (.string dt)).setCell (off := 8) (.slice ia il ic)).setCell (off := 9) (.slice da dl dc)).setCell (off := 10) (.int .i64 ds)).setCell (off := 11) (.bool dw)
            rw [show ∀ A B R : Hp, A * (B * R) = B * (A * R) from fun A B R => by ac_rfl] at h9
            have H9 := hid h9
            clear h9 H8
            go_roundg (40 - (n + 1))
            case measure => omega
            case rel =>
              refine ⟨n + 1, S', _, _, by omega, rfl, ?_, by go_num, hid ⟨HOk'.out, HNX.out, HNY.out, H9.out⟩⟩
              rw [HD.out]; first | rfl | go_num
    · rcases Nat.mod_two_eq_zero_or_one n with hpar | hpar
      · have HPar : Hid (n < 10 ∨ n % 2 = 0) := .inr hpar
        have hmod : (n : Int).tmod 2 = 0 := by rw [Int.tmod_eq_emod_of_nonneg (by omega)]; omega
        clear hend HO HOB hpar
        go_wp2_with (go_at_call 12; (with_reducible refine (HW.out _).mono ?_); rintro e w' ⟨rfl, rfl⟩)
        go_at_call 13
        (with_reducible refine (gone_step0 HS.out HOk.out HPar.out).mono ?_)
        rintro e w7 ⟨S', ⟨de, dt, ia, il, ic, da, dl, dc, ds, dw⟩, is, rfl, hok, h7, hy', hcase⟩
        have HOk' := hid hok
        have H7 := hid (h7.alloc (.cells #[.int .i64 de, .string dt, .slice ia il ic, .slice da dl dc, .int .i64 ds, .bool dw] 42 (0, 0))).right
        clear hok h7
        rcases hcase with ⟨rfl, hdx, hkx⟩ | ⟨rfl, hx0, sd, hx', hde, hds⟩
        · have HD : Hid (S'.x.dn + S'.y.dn = dn) := hid (by rw [hy', hdx]; exact hdn)
          have HNX := hid (dnX_keep HX.out hdx hkx)
          have HNY := hid (show dnY S'.y Y by rw [hy']; exact HY.out)
          clear hdx hkx hy'
          go_wp2
          go_roundg (40 - (n + 1))
          case measure => omega
          case rel =>
            refine ⟨n + 1, S', X, Y, by omega, rfl, ?_, by go_num, hid ⟨HOk'.out, HNX.out, HNY.out, H7.out⟩⟩
            rw [HD.out]
        · have HD : Hid (S'.x.dn + S'.y.dn = dn + 1) := hid (by rw [hy', hx', ← hdn, hx0]; show 1 + S.y.dn = 0 + S.y.dn + 1; omega)
          have HNX := hid (show dnX S'.x (⟨de, dt, ia, il, ic, da, dl, dc, ds, dw⟩ : DoneS) by rw [hx']; exact ⟨hde, hds⟩)
          have HNY := hid (show dnY S'.y Y by rw [hy']; exact HY.out)
          clear hx0 hx' hde hds hy'
          have h8 := H7.out
          rw [show ∀ A B R : Hp, A * (B * R) = B * (A * R) from fun A B R => by ac_rfl] at h8
          have e0 : (w7.alloc (.cells #[.int .i64 de, .string dt, .slice ia il ic, .slice da dl dc, .int .i64 ds, .bool dw] 42 (0, 0))).frozen? ⟨w8.heap.size + 1, 0, none⟩ = false := h8.free
          have e1 : (w7.alloc (.cells #[.int .i64 de, .string dt, .slice ia il ic, .slice da dl dc, .int .i64 ds, .bool dw] 42 (0, 0))).frozen? ⟨w8.heap.size + 1, 1, none⟩ = false := h8.free
          have e2 : (w7.alloc (.cells #[.int .i64 de, .string dt, .slice ia il ic, .slice da dl dc, .int .i64 ds, .bool dw] 42 (0, 0))).frozen? ⟨w8.heap.size + 1, 2, none⟩ = false := h8.free
          have e3 : (w7.alloc (.cells #[.int .i64 de, .string dt, .slice ia il ic, .slice da dl dc, .int .i64 ds, .bool dw] 42 (0, 0))).frozen? ⟨w8.heap.size + 1, 3, none⟩ = false := h8.free
          have e4 : (w7.alloc (.cells #[.int .i64 de, .string dt, .slice ia il ic, .slice da dl dc, .int .i64 ds, .bool dw] 42 (0, 0))).frozen? ⟨w8.heap.size + 1, 4, none⟩ = false := h8.free
          have e5 : (w7.alloc (.cells #[.int .i64 de, .string dt, .slice ia il ic, .slice da dl dc, .int .i64 ds, .bool dw] 42 (0, 0))).frozen? ⟨w8.heap.size + 1, 5, none⟩ = false := h8.free
          have g0 : (w7.alloc (.cells #[.int .i64 de, .string dt, .slice ia il ic, .slice da dl dc, .int .i64 ds, .bool dw] 42 (0, 0))).cell? ⟨w8.heap.size + 1, 0, none⟩ = some (.int .i64 X.e) := h8.cell rfl
          have g1 : (w7.alloc (.cells #[.int .i64 de, .string dt, .slice ia il ic, .slice da dl dc, .int .i64 ds, .bool dw] 42 (0, 0))).cell? ⟨w8.heap.size + 1, 1, none⟩ = some (.string X.text) := h8.cell rfl
          have g2 : (w7.alloc (.cells #[.int .i64 de, .string dt, .slice ia il ic, .slice da dl dc, .int .i64 ds, .bool dw] 42 (0, 0))).cell? ⟨w8.heap.size + 1, 2, none⟩ = some (.slice X.ia X.il X.ic) := h8.cell rfl
          have g3 : (w7.alloc (.cells #[.int .i64 de, .string dt, .slice ia il ic, .slice da dl dc, .int .i64 ds, .bool dw] 42 (0, 0))).cell? ⟨w8.heap.size + 1, 3, none⟩ = some (.slice X.da X.dl X.dc) := h8.cell rfl
          have g4 : (w7.alloc (.cells #[.int .i64 de, .string dt, .slice ia il ic, .slice da dl dc, .int .i64 ds, .bool dw] 42 (0, 0))).cell? ⟨w8.heap.size + 1, 4, none⟩ = some (.int .i64 X.stamp) := h8.cell rfl
          have g5 : (w7.alloc (.cells #[.int .i64 de, .string dt, .slice ia il ic, .slice da dl dc, .int .i64 ds, .bool dw] 42 (0, 0))).cell? ⟨w8.heap.size + 1, 5, none⟩ = some (.bool X.wrote) := h8.cell rfl
          have H8 := hid h8
          clear h8 H7
          go_wp2
          have h9 := (((((H8.out.setCell (off := 0) (.int .i64 de)).setCell (off := 1) (.string dt)).setCell (off := 2) (.slice ia il ic)).setCell (off := 3) (.slice da dl dc)).setCell (off := 4) (.int .i64 ds)).setCell (off := 5) (.bool dw)
          rw [show ∀ A B R : Hp, A * (B * R) = B * (A * R) from fun A B R => by ac_rfl] at h9
          have H9 := hid h9
          clear h9 H8
          go_roundg (40 - (n + 1))
          case measure => omega
          case rel =>
            refine ⟨n + 1, S', _, _, by omega, rfl, ?_, by go_num, hid ⟨HOk'.out, HNX.out, HNY.out, H9.out⟩⟩
            rw [HD.out]; first | rfl | go_num
      · have HPar : Hid (n < 10 ∨ n % 2 = 1) := .inr hpar
        have hmod : (n : Int).tmod 2 = 1 := by rw [Int.tmod_eq_emod_of_nonneg (by omega)]; omega
        clear hend HO HOB hpar
        go_wp2_with (go_at_call 12; (with_reducible refine (HW.out _).mono ?_); rintro e w' ⟨rfl, rfl⟩)
        go_at_call 13
        (with_reducible refine (gone_step1 HS.out HOk.out HPar.out).mono ?_)
        rintro e w7 ⟨S', ⟨de, dt, ia, il, ic, da, dl, dc, ds, dw⟩, is, rfl, hok, h7, hy', hcase⟩
        have HOk' := hid hok
        have H7 := hid (h7.alloc (.cells #[.int .i64 de, .string dt, .slice ia il ic, .slice da dl dc, .int .i64 ds, .bool dw] 42 (0, 0))).right
        clear hok h7
        rcases hcase with ⟨rfl, hdx, hkx⟩ | ⟨rfl, hx0, mm, ee, st, hx', hde, hds⟩
        · have HD : Hid (S'.x.dn + S'.y.dn = dn) := hid (by rw [hy', hdx]; exact hdn)
          have HNX := hid (show dnX S'.x X by rw [hy']; exact HX.out)
          have HNY := hid (dnY_keep HY.out hdx hkx)
          clear hdx hkx hy'
          go_wp2
          go_roundg (40 - (n + 1))
          case measure => omega
          case rel =>
            refine ⟨n + 1, S', X, Y, by omega, rfl, ?_, by go_num, hid ⟨HOk'.out, HNX.out, HNY.out, H7.out⟩⟩
            rw [HD.out]
        · have HD : Hid (S'.x.dn + S'.y.dn = dn + 1) := hid (by rw [hy', hx', ← hdn, hx0]; show S.x.dn + 1 = S.x.dn + 0 + 1; omega)
          have HNY := hid (show dnY S'.y (⟨de, dt, ia, il, ic, da, dl, dc, ds, dw⟩ : DoneS) by rw [hx']; exact ⟨hde, hds⟩)
          have HNX := hid (show dnX S'.x X by rw [hy']; exact HX.out)
          clear hx0 hx' hde hds hy'
          have h8 := H7.out
          rw [show ∀ A B R : Hp, A * (B * R) = B * (A * R) from fun A B R => by ac_rfl] at h8
          have e0 : (w7.alloc (.cells #[.int .i64 de, .string dt, .slice ia il ic, .slice da dl dc, .int .i64 ds, .bool dw] 42 (0, 0))).frozen? ⟨w8.heap.size + 1, 6, none⟩ = false := h8.free
          have e1 : (w7.alloc (.cells #[.int .i64 de, .string dt, .slice ia il ic, .slice da dl dc, .int .i64 ds, .bool dw] 42 (0, 0))).frozen? ⟨w8.heap.size + 1, 7, none⟩ = false := h8.free
          have e2 : (w7.alloc (.cells #[.int .i64 de, .string dt, .slice ia il ic, .slice da dl dc, .int .i64 ds, .bool dw] 42 (0, 0))).frozen? ⟨w8.heap.size + 1, 8, none⟩ = false := h8.free
          have e3 : (w7.alloc (.cells #[.int .i64 de, .string dt, .slice ia il ic, .slice da dl dc, .int .i64 ds, .bool dw] 42 (0, 0))).frozen? ⟨w8.heap.size + 1, 9, none⟩ = false := h8.free
          have e4 : (w7.alloc (.cells #[.int .i64 de, .string dt, .slice ia il ic, .slice da dl dc, .int .i64 ds, .bool dw] 42 (0, 0))).frozen? ⟨w8.heap.size + 1, 10, none⟩ = false := h8.free
          have e5 : (w7.alloc (.cells #[.int .i64 de, .string dt, .slice ia il ic, .slice da dl dc, .int .i64 ds, .bool dw] 42 (0, 0))).frozen? ⟨w8.heap.size + 1, 11, none⟩ = false := h8.free
          have g0 : (w7.alloc (.cells #[.int .i64 de, .string dt, .slice ia il ic, .slice da dl dc, .int .i64 ds, .bool dw] 42 (0, 0))).cell? ⟨w8.heap.size + 1, 6, none⟩ = some (.int .i64 Y.e) := h8.cell rfl
          have g1 : (w7.alloc (.cells #[.int .i64 de, .string dt, .slice ia il ic, .slice da dl dc, .int .i64 ds, .bool dw] 42 (0, 0))).cell? ⟨w8.heap.size + 1, 7, none⟩ = some (.string Y.text) := h8.cell rfl
          have g2 : (w7.alloc (.cells #[.int .i64 de, .string dt, .slice ia il ic, .slice da dl dc, .int .i64 ds, .bool dw] 42 (0, 0))).cell? ⟨w8.heap.size + 1, 8, none⟩ = some (.slice Y.ia Y.il Y.ic) := h8.cell rfl
          have g3 : (w7.alloc (.cells #[.int .i64 de, .string dt, .slice ia il ic, .slice da dl dc, .int .i64 ds, .bool dw] 42 (0, 0))).cell? ⟨w8.heap.size + 1, 9, none⟩ = some (.slice Y.da Y.dl Y.dc) := h8.cell rfl
          have g4 : (w7.alloc (.cells #[.int .i64 de, .string dt, .slice ia il ic, .slice da dl dc, .int .i64 ds, .bool dw] 42 (0, 0))).cell? ⟨w8.heap.size + 1, 10, none⟩ = some (.int .i64 Y.stamp) := h8.cell rfl
          have g5 : (w7.alloc (.cells #[.int .i64 de, .string dt, .slice ia il ic, .slice da dl dc, .int .i64 ds, .bool dw] 42 (0, 0))).cell? ⟨w8.heap.size + 1, 11, none⟩ = some (.bool Y.wrote) := h8.cell rfl
          have H8 := hid h8
          clear h8 H7
          go_wp2
          have h9 := (((((H8.out.setCell (off := 6) (.int .i64 de)).setCell (off := 7) (.string dt)).setCell (off := 8) (.slice ia il ic)).setCell (off := 9) (.slice da dl dc)).setCell (off := 10) (.int .i64 ds)).setCell (off := 11) (.bool dw)
          rw [show ∀ A B R : Hp, A * (B * R) = B * (A * R) from fun A B R => by ac_rfl] at h9
          have H9 := hid h9
          clear h9 H8
          go_roundg (40 - (n + 1))
          case measure => omega
          case rel =>
            refine ⟨n + 1, S', _, _, by omega, rfl, ?_, by go_num, hid ⟨HOk'.out, HNX.out, HNY.out, H9.out⟩⟩
            rw [HD.out]; first | rfl | go_num

theorem gone_walk (v : Value) (zs : List Int) (app : Bool) (w : World) (hv : Ints w v zs) :
    Calls Tryz.prog 4 #[v, .bool app] w fun e w' => e = .returned (.bool true) ∧ Below w.heap.size w w' := by
  cases app
  · exact gone_walk_f v zs w hv
  · exact gone_walk_t v zs w hv

end Go.Proofs.YtnjgddckejpddaaGreatDoor
