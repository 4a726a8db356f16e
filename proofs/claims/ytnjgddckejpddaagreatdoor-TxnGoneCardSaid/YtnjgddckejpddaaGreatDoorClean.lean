/-
  The store's Clean: what nobody can read any more is let go.
-/
import Derived.Test.YtnjgddckejpddaaGreatDoorCommit
import Derived.Test.YtnjgddckejpddaaGreatDoorView
namespace Go.Proofs.YtnjgddckejpddaaGreatDoor
open Go.RowKit Go.Proofs.YtnjgddckejpddaaGreatDoor.Sep

/-- slices.Sorted(maps.Keys(m)): a new row of the keys. -/
def SortedKeysSpec : Prop := ∀ (bk : Nat) (kes : Array MapEntry) (kc : Nat) (l : List (ByteArray × Value)) (W : World), W.heap[bk]? = some (.map kes kc) → Holds .string kes kc l → l.length ≤ 1099511627776 → ((∀ k ∈ l.map (·.1), k.size ≤ maxLen) ∧ (l.map (·.1)).Nodup) →
  Calls Tryz.prog 68 #[.map (some bk)] W fun e w' => ∃ f, e = .returned f ∧ Below W.heap.size W w' ∧
    Calls Tryz.prog 67 #[f] w' fun e w2 => ∃ (v : Value) (ss : List ByteArray), e = .returned v ∧ ss.Perm (l.map (·.1)) ∧ Fresh w' w2 (Row 9 1 v ss.length (ss.map .string))

/-- Not too many keys, none too long. -/
def KeysOk (σ : StoreS) : Prop := σ.keys.length ≤ 549755813888 ∧ (∀ k ∈ σ.keys.map (·.1), k.size ≤ maxLen) ∧ (σ.keys.map (·.1)).Nodup

/-- One key is cleaned. -/
def cleanAt (t : Nat) (k : ByteArray) (keys : List (ByteArray × List Ver)) : List (ByteArray × List Ver) :=
  let l := ((aget k keys).getD []).drop (goneN ((aget k keys).getD []) t)
  if l.length = 0 then adel k (aset k l keys) else aset k l keys

/-- The keys, in this order, are cleaned. -/
def cleanAll (t : Nat) (ks : List ByteArray) (keys : List (ByteArray × List Ver)) : List (ByteArray × List Ver) := ks.foldl (fun m k => cleanAt t k m) keys

/-- The least stamp that is pinned, or now. -/
def StoreS.least (σ : StoreS) : Int := σ.pins.foldl (fun m p => min m p.1) σ.now

theorem minKey_pins {pes : Array MapEntry} {pc : Nat} {σ : StoreS} (h : Holds (.int .i64) pes pc (amap (fun n => .int .i64 n) σ.pins)) : minKey σ.now pes.toList = σ.least := by
  have h1 := congrArg (List.map fun p : Value × Value => keyInt p.1) h.kv
  simp only [amap, List.map_map] at h1
  have h2 : ∀ (l : List MapEntry) (m : List (Int × Int)) (now : Int), l.map ((fun p : Value × Value => keyInt p.1) ∘ fun e => (e.key, e.val)) = m.map ((fun p : Value × Value => keyInt p.1) ∘ (fun p : Int × Value => (Value.int .i64 p.1, p.2)) ∘ fun p : Int × Int => (p.1, Value.int .i64 p.2)) →
      minKey now l = m.foldl (fun m p => min m p.1) now := by
    intro l
    induction l with
    | nil => intro m now h; cases m with
      | nil => rfl
      | cons _ _ => simp at h
    | cons e l ih =>
      intro m now h
      cases m with
      | nil => simp at h
      | cons p m =>
        simp only [List.map_cons, List.cons.injEq, Function.comp_apply] at h
        have := ih m (min now (keyInt e.key)) h.2
        simp only [minKey, List.foldl_cons] at this ⊢
        rw [this, h.1]; rfl
  exact h2 _ _ _ h1

theorem adel_aset {K V : Type} [DecidableEq K] (k : K) (v : V) : ∀ l : List (K × V), adel k (aset k v l) = adel k l
  | [] => by simp [aset, adel]
  | (j, u) :: l => by
    unfold aset
    by_cases hk : k = j
    · simp [hk, adel]
    · simp only [hk, if_false, adel, adel_aset k v l]

/-- The facts of a round of Clean. -/
theorem clean_facts {s : Out} {W : World} {bs : Nat} {σ : StoreS} {key : ByteArray} {t : Nat} {F : Hp} (h : Sat s W (StoreAt bs σ * F)) (hc : σ.count ≤ 1099511627776) :
    ∃ (bk : Nat) (v v2 : Value), W.cell? ⟨bs, 3, none⟩ = some (.map (some bk)) ∧ (Instr.lookup 60 (.map (some bk)) (.string key) false).run Tryz.prog W = .ok v W ∧
      (Instr.lookup 60 (.map (some bk)) (.string key) false).run Tryz.prog W.drew = .ok v W.drew ∧ VersAt W v ((aget key σ.keys).getD []) ∧
      (∀ W' : World, (Instr.slice 76 v (some (.int .i64 (goneN ((aget key σ.keys).getD []) t))) none none).run Tryz.prog W' = .ok v2 W') ∧
      (Calls Tryz.prog 61 #[v2] W.drew fun e w' => ∃ v' w3, e = .returned v' ∧ w'.cell? ⟨bs, 3, none⟩ = some (.map (some bk)) ∧
        (Instr.mapUpdate 60 (.map (some bk)) (.string key) v').run Tryz.prog w' = .ok () w3 ∧ w3.cell? ⟨bs, 3, none⟩ = some (.map (some bk)) ∧
        (Instr.lookup 60 (.map (some bk)) (.string key) false).run Tryz.prog w3 = .ok v' w3 ∧
        (∃ a c, v' = .slice a (((aget key σ.keys).getD []).drop (goneN ((aget key σ.keys).getD []) t)).length c) ∧
        Sat s w3 (StoreAt bs { σ with keys := aset key (((aget key σ.keys).getD []).drop (goneN ((aget key σ.keys).getD []) t)) σ.keys } * F) ∧
        ∃ w4, (Builtin.delete_ #[60, 9] 0 #[.map (some bk), .string key]).run Tryz.prog w3 = .ok (.tuple #[]) w4 ∧
          Sat s w4 (StoreAt bs { σ with keys := adel key (aset key (((aget key σ.keys).getD []).drop (goneN ((aget key σ.keys).getD []) t)) σ.keys) } * F)) := by
  obtain ⟨bp, pes, pc, bk, kes, kc, rows, h1, h2, h3, h4⟩ := StoreAt.open_ h
  obtain ⟨iv, hiv, hzv⟩ := zero_of P.iVers
  obtain ⟨i, z, E, hby⟩ := elem_store_version
  have hlen := StoreS.count_get σ key
  have hkf := h4
  rw [StoreO.keys_first] at hkf
  have hself := h4
  rw [StoreO.self_first] at hself
  have hlk : ∀ W' : World, W'.heap[bk]? = some (.map kes kc) → (Instr.lookup 60 (.map (some bk)) (.string key) false).run Tryz.prog W' =
      .ok ((aget key (amap (fun r : Value × List Ver => r.1) rows)).getD (.slice none 0 0)) W' := fun W' hb =>
    lookup_run P.skeys (mt := 60) Tryz.underlying60 hiv hzv hb h2 key
  obtain ⟨v0, hl0, hva⟩ := StoreO.look h4 h2 key
  rw [hlk W hkf.get] at hl0
  injection hl0 with hl0 _
  rw [← hl0] at hva
  have hvw := StoreO.view h4 key
  rw [← h3] at hva hvw
  generalize hold : (aget key σ.keys).getD [] = old at *
  have hk := goneN_le old t
  obtain ⟨v2, hsl, hv2⟩ := View.drop (t := 76) Tryz.underlying76 ⟨i, E.hi, E.hs⟩ hvw (goneN old t) hk
  have hxs : (cellsOf (Ver.cells key) old).drop (goneN old t * 4) = cellsOf (Ver.cells key) (old.drop (goneN old t)) := by
    have e1 : cellsOf (Ver.cells key) old = cellsOf (Ver.cells key) (old.take (goneN old t)) ++ cellsOf (Ver.cells key) (old.drop (goneN old t)) := by rw [← cellsOf_append, List.take_append_drop]
    rw [e1, List.drop_append_of_le_length (by rw [cellsOf_length (sz := 4) (fun _ => rfl), List.length_take, Nat.min_eq_left hk]; exact Nat.le_refl _)]
    rw [List.drop_of_length_le (by rw [cellsOf_length (sz := 4) (fun _ => rfl), List.length_take]; exact Nat.mul_le_mul_right 4 (Nat.min_le_left _ _)), List.nil_append]
  rw [hxs] at hv2
  have hlen2 : (old.drop (goneN old t)).length = old.length - goneN old t := List.length_drop ..
  rw [← hlen2] at hv2
  generalize hnew : old.drop (goneN old t) = new at *
  have hone : ∀ u ∈ cellsOf (Ver.cells key) new, u.oneCell' = true := by
    intro u hu
    simp only [cellsOf, List.mem_flatMap] at hu
    obtain ⟨y, _, hu⟩ := hu
    simp only [Ver.cells, List.mem_cons, List.not_mem_nil, or_false] at hu
    rcases hu with rfl | rfl | rfl | rfl <;> rfl
  refine ⟨bk, _, v2, hself.cell rfl, hlk W hkf.get, hlk W.drew hkf.drew.get, hva, hsl, ?_⟩
  refine (clone_store_version v2 new.length _ W.drew (hv2.below (Below.refl _ _).drew) hone (by omega)).mono ?_
  rintro e w' ⟨v', rfl, hf⟩
  have h5 := h4.drew.fresh hf
  obtain ⟨es', c', hup, hh, hsat⟩ := StoreO.put key v' new h5 h2
  have hself5 := h5.right
  rw [StoreO.self_first] at hself5
  have hkf6 := hsat
  rw [StoreO.keys_first] at hkf6
  have hself6 := hsat
  rw [StoreO.self_first] at hself6
  have hlk3 := lookup_run P.skeys (mt := 60) Tryz.underlying60 hiv hzv hkf6.get hh key
  rw [← aset_amap, aget_aset] at hlk3
  obtain ⟨_, _, a, c, hv', _⟩ := Row.len h5
  obtain ⟨es2, hdel, hh2⟩ := delete_run P.skeys (mt := 60) (tx := 9) (ty := 0) Tryz.underlying60 hkf6.get hh key
  have hd := hkf6.setObj (.map es2 c')
  refine ⟨v', _, rfl, hself5.cell rfl, hup, hself6.cell rfl, hlk3, ⟨a, c, hv'⟩, ?_, _, hdel, ?_⟩
  · refine StoreAt.shut (σ := { σ with keys := aset key new σ.keys }) hsat h1 hh ?_
    simp only; rw [h3, ← aset_amap]
  · refine StoreAt.shut (σ := { σ with keys := adel key (aset key new σ.keys) }) (bk := bk) (rows := adel key (aset key (v', new) rows)) (kes := es2) (kc := c') (bp := bp) ?_ h1 ?_ ?_
    · rw [StoreO.keys_first]
      have hd2 := hd
      rw [show pts bk (.map es2 c') * (pts bs (.cells #[.map (some bp), .int .i64 σ.limit, .int .i64 σ.now, .map (some bk)] 62 (0, 0)) * (pts bp (.map pes pc) * bigstar rowHp (aset key (v', new) rows) * F)) =
        rowHp (key, (v', new)) * (pts bk (.map es2 c') * (pts bs (.cells #[.map (some bp), .int .i64 σ.limit, .int .i64 σ.now, .map (some bk)] 62 (0, 0)) * (pts bp (.map pes pc) * bigstar rowHp (adel key rows) * F))) by rw [bigstar_set]; ac_rfl] at hd2
      have hd3 := hd2.right
      rw [← adel_aset key ((v', new) : Value × List Ver) rows] at hd3
      exact hd3
    · rw [← adel_amap]; exact hh2
    · simp only; rw [h3]
      show adel key (aset key ((fun r : Value × List Ver => r.2) (v', new)) _) = _
      rw [aset_amap, adel_amap]


theorem ksum_aset (k : ByteArray) (v : List Ver) (l : List (ByteArray × List Ver)) (h : v.length ≤ ((aget k l).getD []).length) : ((aset k v l).map fun p => p.2.length).sum ≤ (l.map fun p => p.2.length).sum := by
  have h1 := sum_aset List.length k v l
  cases hx : aget k l with
  | none => rw [hx] at h1 h; simp only [Option.map_none, Option.getD_none, List.length_nil] at h1 h; omega
  | some u => rw [hx] at h1 h; simp only [Option.map_some, Option.getD_some] at h1 h; omega

theorem ksum_adel (k : ByteArray) : ∀ l : List (ByteArray × List Ver), ((adel k l).map fun p => p.2.length).sum ≤ (l.map fun p => p.2.length).sum
  | [] => by simp [adel]
  | (j, u) :: l => by
    have ih := ksum_adel k l
    unfold adel
    by_cases h : k = j
    · simp only [h, if_true, List.map_cons, List.sum_cons]; subst h; omega
    · simp only [h, if_false, List.map_cons, List.sum_cons]; omega

theorem ksum_cleanAt (t : Nat) (k : ByteArray) (l : List (ByteArray × List Ver)) : ((cleanAt t k l).map fun p => p.2.length).sum ≤ (l.map fun p => p.2.length).sum := by
  unfold cleanAt
  dsimp only
  split
  · exact Nat.le_trans (ksum_adel k _) (ksum_aset k _ l (by rw [List.length_drop]; omega))
  · exact ksum_aset k _ l (by rw [List.length_drop]; omega)

theorem ksum_cleanAll (t : Nat) : ∀ (ks : List ByteArray) (l : List (ByteArray × List Ver)), ((cleanAll t ks l).map fun p => p.2.length).sum ≤ (l.map fun p => p.2.length).sum
  | [], _ => Nat.le_refl _
  | k :: ks, l => Nat.le_trans (ksum_cleanAll t ks (cleanAt t k l)) (ksum_cleanAt t k l)

theorem cleanAll_succ (t : Nat) (ks : List ByteArray) (l : List (ByteArray × List Ver)) (k : Nat) (x : ByteArray) (h : ks[k]? = some x) : cleanAll t (ks.take (k + 1)) l = cleanAt t x (cleanAll t (ks.take k) l) := by
  unfold cleanAll
  rw [List.take_add_one, h]
  simp

set_option maxRecDepth 100000 in
set_option maxHeartbeats 1000000 in
theorem clean_walk (HSK : SortedKeysSpec) (s : Out) (bs t : Nat) (σ : StoreS) (w : World) (R : Hp) (h : Sat s w (StoreAt bs σ * R)) (ht : σ.least = t) (hc : σ.count ≤ 549755813888) (hk : KeysOk σ) :
    Calls Tryz.prog 54 #[.pointer (some ⟨bs, 0, none⟩)] w fun e w' => ∃ (o : Int) (ks : List ByteArray), e = .returned (.int .i64 o) ∧ ks.Perm (σ.keys.map (·.1)) ∧ Sat s w' (StoreAt bs { σ with keys := cleanAll t ks σ.keys } * R) := by
  obtain ⟨hk, hkz⟩ := hk
  obtain ⟨bp, pes, pc, bk, kes, kc, rows, h1, h2, h3, h4⟩ := StoreAt.open_ h
  have hp := h4
  rw [StoreO.pins_first] at hp
  have hself := h4
  rw [StoreO.self_first] at hself
  have hkf := h4
  rw [StoreO.keys_first] at hkf
  have hlt := hself.lt
  have c0 : w.cell? ⟨bs, 0, none⟩ = some (.map (some bp)) := hself.cell rfl
  have c2 : w.cell? ⟨bs, 2, none⟩ = some (.int .i64 σ.now) := hself.cell rfl
  have HLe := hid (least_calls bp pes pc _ σ.now w.drew hp.get h1)
  rw [minKey_pins h1, ht] at HLe
  have H4 := hid h4
  have HSt := hid h
  have hkeyse : (amap (fun r : Value × List Ver => r.1) rows).map (·.1) = σ.keys.map (·.1) := by
    rw [h3]; simp [amap, List.map_map, Function.comp_def]
  have hll : (amap (fun r : Value × List Ver => r.1) rows).length ≤ 1099511627776 := by
    have := congrArg List.length hkeyse; simp only [List.length_map] at this; omega
  rw [← hkeyse] at hkz
  have HKZ := hid hkz
  have H2 := hid h2
  have HSK' := hid HSK
  have HKE := hid hkeyse
  have HC : Hid (∀ ks : List ByteArray, ({ σ with keys := cleanAll t ks σ.keys } : StoreS).count ≤ 549755813888) := fun ks => Nat.le_trans (ksum_cleanAll t ks σ.keys) hc
  have HN := hid hk
  clear h h1 h2 h3 h4 hp hself hkf HSK hk ht hkeyse hc hkz
  have q0 : w.drew.cell? ⟨bs, 0, none⟩ = some (.map (some bp)) ∧ w.drew.cell? ⟨bs, 2, none⟩ = some (.int .i64 σ.now) := ⟨c0, c2⟩
  have Q0 := hid q0
  clear q0
  go_enter Tryz.func54, Tryz.ntmps54
  go_wp2
  go_region_held3 (fun w' => (w'.cell? ⟨bs, 0, none⟩ = some (.map (some bp)) ∧ w'.cell? ⟨bs, 2, none⟩ = some (.int .i64 σ.now))) (with_reducible first | exact Q0.out | exact q1)
    (first | (go_at_call 66; ((with_reducible refine HLe.out.mono ?_); rintro e w' ⟨rfl, hb⟩; have q1 : w'.cell? ⟨bs, 0, none⟩ = some (.map (some bp)) ∧ w'.cell? ⟨bs, 2, none⟩ = some (.int .i64 σ.now) := ⟨(hb.cell hlt).trans Q0.out.1, (hb.cell hlt).trans Q0.out.2⟩)))
  have hS := HSt.out.drew.below hb
  have hkf := H4.out.drew.below hb
  have hsf := hkf
  rw [StoreO.keys_first] at hkf
  rw [StoreO.self_first] at hsf
  have c3 : w'.cell? ⟨bs, 3, none⟩ = some (.map (some bk)) := hsf.cell rfl
  have HKey := hid (HSK'.out bk kes kc _ w' hkf.get H2.out hll HKZ.out)
  rw [HKE.out] at HKey
  have HS := hid hS
  clear hkf hsf hS hb q1 Q0 c0 c2 HLe H4 H2 HSt hlt hll HKE HSK' HKZ
  go_wp2_with (first
    | (go_at_call 68; refine HKey.out.mono ?_; rintro e w1 ⟨f, rfl, hb1, hC2⟩; have HC2 := hid hC2; have HS1 := hid (HS.out.below hb1); clear hC2 hb1 HS HKey)
    | (go_at_call 67; refine HC2.out.mono ?_; rintro e w2 ⟨v, ss, rfl, hperm, hfr⟩; have hS2 := HS1.out.fresh hfr; obtain ⟨_, hm, a, cap, rfl, hnc, hcm⟩ := Row.len hS2; have HS2 := hid hS2; have HP := hid hperm; clear hS2 hperm hfr HS1 HC2))
  have hn : ss.length ≤ 1099511627776 := by
    have := HP.out.length_eq; have := HN.out; simp only [List.length_map] at *; omega
  clear HN
  have HE0 : Hid (Sat s w2 (StoreAt bs { σ with keys := cleanAll t (ss.take 0) σ.keys } * (Row 9 1 (.slice a ss.length cap) ss.length (ss.map .string) * R))) := by
    have := HS2.out
    rw [show Row 9 1 (.slice a ss.length cap) ss.length (ss.map .string) * (StoreAt bs σ * R) = StoreAt bs σ * (Row 9 1 (.slice a ss.length cap) ss.length (ss.map .string) * R) by ac_rfl] at this
    exact this
  clear HS2
  generalize hL : ss.length = n at *
  have HL := hid hL
  clear hL c3
  go_loopg [4, 24] n (fun m o j wr => ∃ (k : Nat) (o' : Int), k ≤ n ∧ m = n - k ∧ o = .int .i64 o' ∧ j = .int .i64 k ∧
      Sat s wr (StoreAt bs { σ with keys := cleanAll t (ss.take k) σ.keys } * (Row 9 1 (.slice a n cap) n (ss.map .string) * R)))
  case atStart => exact ⟨0, 0, by omega, by omega, rfl, rfl, HE0.out⟩
  case round =>
    clear HE0
    obtain ⟨k, o', hk, rfl, rfl, rfl, hs⟩ := hrel
    by_cases hlt : k < n
    · obtain ⟨x, hx⟩ : ∃ x, ss[k]? = some x := ⟨ss[k]'(by have := HL.out; omega), by simp⟩
      have hrow := hs
      rw [show StoreAt bs { σ with keys := cleanAll t (ss.take k) σ.keys } * (Row 9 1 (.slice a n cap) n (ss.map .string) * R) = Row 9 1 (.slice a n cap) n (ss.map .string) * (StoreAt bs { σ with keys := cleanAll t (ss.take k) σ.keys } * R) by ac_rfl] at hrow
      obtain ⟨_, ⟨⟨a0, hva⟩, hn0, _⟩ | ⟨g, cap', cur, hva, hc1, hc2, hc3, hc4, hs5⟩⟩ := Row.open_ hrow
      · omega
      injection hva with ha _ hcap
      subst ha
      subst hcap
      have a0 : wr.cell? ⟨g, k, none⟩ = some (.string x) := by
        refine hs5.cell ?_
        have h6 := congrArg (fun l : List Value => l[k]?) hc4
        simp only [List.getElem?_map, hx, Option.map_some, Nat.mul_one] at h6
        rw [List.getElem?_take_of_lt hlt] at h6
        simpa using h6
      have HX := hid (cleanAll_succ t ss σ.keys k x hx)
      have hcn := HC.out (ss.take k)
      clear hrow hc1 hc2 hc3 hc4 hs5 hx
      generalize hks : cleanAll t (ss.take k) σ.keys = ks at *
      obtain ⟨bk', v, v2, c3, hlk0, hlk1, hva, hsl, hcl⟩ := clean_facts (key := x) (t := t) hs (by omega)
      have hgl : ((aget x ks).getD []).length ≤ 549755813888 := Nat.le_trans (StoreS.count_get { σ with keys := ks } x) hcn
      have HG := hid (gone_calls (t := t) hva (Nat.le_trans hgl (by omega)))
      have HCl := hid hcl
      have hgn : goneN ((aget x ks).getD []) t ≤ 1099511627776 := Nat.le_trans (goneN_le _ _) (by omega)
      clear hs hva hcl hgl hks hcn
      unfold cleanAt at HX
      generalize (aget x ks).getD [] = old at *
      generalize goneN old t = gn at *
      go_wp2_with (go_at_call 69; (with_reducible refine HG.out.mono ?_); rintro e w' ⟨rfl, rfl⟩)
      clear HG a0
      generalize old.drop gn = nw at *
      have q0 : wr.drew.cell? ⟨bs, 3, none⟩ = some (.map (some bk')) := c3
      have hL0 := hid hlk0
      clear hlk0
      go_region_held3 (fun w' => w'.cell? ⟨bs, 3, none⟩ = some (.map (some bk'))) (with_reducible first | exact q0 | exact hq | exact hq3)
        (first | (go_at_call 61; ((with_reducible refine HCl.out.mono ?_); rintro e w' ⟨v', w3, rfl, hq, hup, hq3, hlk3, ⟨a3, c4, rfl⟩, hsat, w4, hdel, hsat4⟩; have HD := hid hdel; have HSat := hid hsat; have HSat4 := hid hsat4; clear hdel hsat hsat4)))
      clear hup hL0 hlk1 hsl HCl q0 hq c3
      rcases Nat.eq_zero_or_pos nw.length with hz | hz
      · have HS4 : Hid (Sat s w4 (StoreAt bs { σ with keys := cleanAll t (ss.take (k + 1)) σ.keys } * (Row 9 1 (.slice (some ⟨g, 0, none⟩) n cap) n (ss.map .string) * R))) := by
          unfold Hid
          have := HX.out
          simp only [hz, if_true] at this
          rw [this]
          exact HSat4.out
        clear HSat HSat4 HX
        have hdel := HD.out
        rw [hz] at hlk3
        generalize nw.length = nl at *
        subst hz
        go_wp2
        go_roundg (n - (k + 1))
        case measure => omega
        case rel => exact ⟨k + 1, _, by omega, rfl, rfl, by go_num, HS4.out⟩
      · have HS4 : Hid (Sat s w3 (StoreAt bs { σ with keys := cleanAll t (ss.take (k + 1)) σ.keys } * (Row 9 1 (.slice (some ⟨g, 0, none⟩) n cap) n (ss.map .string) * R))) := by
          unfold Hid
          have := HX.out
          simp only [show ¬ nw.length = 0 by omega, if_false] at this
          rw [this]
          exact HSat.out
        clear HSat HSat4 HX HD
        generalize nw.length = nl at *
        go_wp2
        go_roundg (n - (k + 1))
        case measure => omega
        case rel => exact ⟨k + 1, _, by omega, rfl, rfl, by go_num, HS4.out⟩
    · have hkn : k = n := by omega
      subst hkn
      have HF : Hid (Sat s wr (StoreAt bs { σ with keys := cleanAll t ss σ.keys } * R)) := by
        unfold Hid
        rw [List.take_of_length_le (by rw [HL.out]; exact Nat.le_refl _)] at hs
        rw [show StoreAt bs { σ with keys := cleanAll t ss σ.keys } * (Row 9 1 (.slice a k cap) k (ss.map .string) * R) = Row 9 1 (.slice a k cap) k (ss.map .string) * (StoreAt bs { σ with keys := cleanAll t ss σ.keys } * R) by ac_rfl] at hs
        exact hs.right
      clear hs
      go_wp2
      go_ret
      exact ⟨_, ss, rfl, HP.out, HF.out⟩

end Go.Proofs.YtnjgddckejpddaaGreatDoor
