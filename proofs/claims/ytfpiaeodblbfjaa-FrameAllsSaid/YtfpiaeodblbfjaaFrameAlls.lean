/- Own work: FrameAlls. -/
import Derived.Test.YtfpiaeodblbfjaaFramePlain
import Derived.Test.YtfpiaeodblbfjaaOpenR
import Derived.Test.YtfpiaeodblbfjaaRound
namespace Go.Proofs.YtfpiaeodblbfjaaSep
open Go.RowKit Go.Lib Go.Proofs Go.Shelf
attribute [local go_sem] Oper.semAt_some

theorem results_cell1 {fn : Func} {p : Tmp} {ty : TypeId} (h : fn.results = #[.cell p ty]) (tmps : Array Value) (P : Program) (w : World) :
    (results fn tmps).run P w = ((asAddr (tmps.getD p undef)).run P w).andThen fun a w₁ => (loadVar ty a).run P w₁ := by
  simp only [results, h]
  simp [Sem.run_bind, Result.andThen]
def andH (p : Prop) (A : HP) : HP := fun h => p ∧ A h
theorem Own.andL {W0 w : World} {p : Prop} {A G : HP} (H : Own W0 w (andH p A * G)) : p ∧ Own W0 w (A * G) := by
  obtain ⟨q1, q2, q3, h, ⟨a, b, hd, rfl, ⟨hp, hx⟩, hb⟩, hs⟩ := H
  exact ⟨hp, q1, q2, q3, _, ⟨a, b, hd, rfl, hx, hb⟩, hs⟩
theorem Own.toAndL {W0 w : World} {p : Prop} {A G : HP} (hp : p) (H : Own W0 w (A * G)) : Own W0 w (andH p A * G) :=
  H.mono fun _ ⟨a, b, hd, he, hx, hb⟩ => ⟨a, b, hd, he, ⟨hp, hx⟩, hb⟩
theorem Own.toAnd {W0 w : World} {p : Prop} {A : HP} (hp : p) (H : Own W0 w A) : Own W0 w (andH p A) := H.mono fun _ hx => ⟨hp, hx⟩
theorem undef_bool {b : Bool} (h : some undef = some (Value.bool b)) : False := by cases h
theorem info_int : (Try.prog.info? 3).map (fun i => (i.zero, i.size, i.bytes)) = some (some (.int .i64 0), 1, 8) := by kernel_rfl
abbrev FBase (w : World) (b : Nat) (vl : Value) (a s : Int) (r : Bool) : HP := Old w * Blk b (.cells #[vl] 48) * Blk (b + 1) (.cells #[.int .i64 a] 3) * Blk (b + 1 + 1) (.cells #[.int .i64 s] 3) * Blk (b + 1 + 1 + 1) (.cells #[.bool r] 4)
def endsV (ds : List (List UInt8)) (k : Nat) : List Value := (List.range k).map fun i => .int .i64 (offs ds (i + 1) : Int)
theorem endsV_step (ds : List (List UInt8)) (k : Nat) : endsV ds (k + 1) = endsV ds k ++ [.int .i64 (offs ds (k + 1) : Int)] := by rw [endsV, List.range_succ, List.map_append]; rfl
theorem offs_bound (ds : List (List UInt8)) (k : Nat) (hk : k ≤ ds.length) (hs : ∀ j d, j < k → ds[j]? = some d → d.length ≤ 200) : offs ds k ≤ 214 * k := by
  induction k with
  | zero => rw [offs_zero]; omega
  | succ k ih =>
    have h := ih (by omega) fun j d hj => hs j d (by omega)
    have he : ds[k]? = some ds[k] := List.getElem?_eq_getElem (by omega)
    have h2 := hs k _ (by omega) he
    have hp := putN_len64 (n := (ds[k]).length) (by omega)
    rw [offs_step he, len_frameF]
    omega
theorem ok_at {ds : List (List UInt8)} {q : Nat} {l : List UInt8} (h : allF l = (List.range q).map (frOf ds)) {pre : List Fr} {x : Fr} (hok : FrOk l pre x) : pre.length < q ∧ ct x = frOf ds pre.length := by
  obtain ⟨rest, hr⟩ := hok
  rw [h] at hr
  have hl := congrArg List.length hr
  simp only [List.length_map, List.length_range, List.length_append, List.length_cons] at hl
  have hk : pre.length < q := by omega
  refine ⟨hk, ?_⟩
  have h2 := congrArg (fun l => l[pre.length]?) hr
  simp only [List.getElem?_map, List.getElem?_range hk, Option.map_some] at h2
  rw [List.getElem?_append_right (by simp)] at h2
  simp at h2
  exact h2.symm
theorem offs_mono (ds : List (List UInt8)) (j : Nat) : ∀ k, j + k ≤ ds.length → offs ds j ≤ offs ds (j + k) := by
  intro k
  induction k with
  | zero => intro _; exact Nat.le_refl _
  | succ k ih =>
    intro h
    have := ih (by omega)
    rw [← Nat.add_assoc, offs_step (List.getElem?_eq_getElem (show j + k < ds.length by omega))]
    omega
set_option maxHeartbeats 4000000 in
set_option maxRecDepth 100000 in
theorem frameAlls_core (w : World) (v0 : Value) (vs : List Value) (ds : List (List UInt8)) (g : Rows2 w v0 vs ds) (a s : Int) (hn : ds.length ≤ 10) :
    Calls Try.prog 8 #[v0, .int .i64 a, .int .i64 s] w fun e w' => e = .returned (.bool true) ∧ Below w.heap.size w w' := by
  have G := Kp.mk g
  obtain ⟨A0, cc, rfl, l0, _⟩ := g.sl.2
  clear g
  obtain ⟨inf, hinf, _⟩ := Option.map_eq_some_iff.1 info_u8
  have HS := own_start w
  have H0 := ((((HS.alloc (.cells #[.slice A0 ds.length cc] 48)).alloc (.cells #[.int .i64 a] 3)).alloc (.cells #[.int .i64 s] 3)).alloc (.cells #[.bool false] 4))
  simp only [World.size_alloc] at H0
  have HH := Kp.mk (head5 H0)
  clear HS H0
  refine (callsIn_wide (n := 9)).1 ?_
  refine callsIn_of_wp_marks Try.func8 rfl trivial ?_ rfl
  simp only [Try.ntmps8, List.size_toArray, List.length_cons, List.length_nil, Nat.reduceAdd, Nat.reduceSub, Array.replicate_succ, Array.replicate_zero, List.push_toArray, List.append_toArray, List.nil_append, List.cons_append]
  gi_wp2
  refine ⟨trivial, (callsIn_wide.2 HH.out).mono ?_⟩
  rintro e w1 ⟨rfl, H1⟩
  obtain ⟨b, hb⟩ : ∃ b, Kp (w.heap.size = b) := ⟨_, ⟨rfl⟩⟩
  rw [hb.out] at H1 ⊢
  have c0 : w1.cell? ⟨b, 0, none⟩ = some (.slice A0 ds.length cc) := cell_blk (H1.focB b).blk rfl
  have hlt : b < w1.heap.size := (H1.focB b).lt
  have H2 := (((H1.box (.cells #[] 5)).box (.cells #[] 3)).zero 5 1 w1.heap.size 0).alloc (.cells #[.slice (some ⟨w1.heap.size + 1, 0, none⟩) 0 0] 49)
  have H2 := H2.zero 3 1 (w1.heap.size + 1) 0
  simp only [World.size_alloc] at H2
  have c2 := cell_blk (j := 0) (v := .slice A0 ds.length cc) (H2.focB b).blk rfl
  have H2 := Kp.mk H2
  clear HH H1
  gi_wp2
  obtain ⟨q, hq⟩ : ∃ q, Kp (w1.heap.size + 1 + 1 = q) := ⟨_, ⟨rfl⟩⟩
  rw [hq.out] at H2 ⊢
  gi_loopw [7, 27] (fun vb i wr => ∃ (k : Nat) (ve : Value), k ≤ ds.length ∧ i = .int .i64 k ∧ Kp (∀ j d, j < k → ds[j]? = some d → d.length ≤ 200) ∧ Kp (Own w wr (FBase w b (.slice A0 ds.length cc) a s false * Row 5 1 vb (offs ds k) (U (catF (ds.take k))) * Blk q (.cells #[ve] 49) * Row 3 1 ve k (endsV ds k))))
    (fun _ i _ => leftAt ds.length i)
  case atStart => exact ⟨0, _, Nat.zero_le _, rfl, ⟨fun j d h => by omega⟩, H2⟩
  case round =>
    clear H2 c0 c2 hlt
    obtain ⟨k, ve, hk, rfl, hs, HO⟩ := hrel
    by_cases hlt : k < ds.length
    · obtain ⟨A', c', hv, hcell⟩ := (G.out.sl.heldF.sl HO.out).at_ k hlt
      injection hv with hv1 _ hv2
      subst hv1 hv2
      obtain ⟨u, hu⟩ : ∃ u, vs[k]? = some u := ⟨_, List.getElem?_eq_getElem (by have := G.out.len; omega)⟩
      obtain ⟨d, hdk⟩ : ∃ d, Kp (ds[k]? = some d) := ⟨_, ⟨List.getElem?_eq_getElem hlt⟩⟩
      have HE := G.out.at_ k u d hu hdk.out
      rw [List.getD_eq_getElem?_getD, hu, Option.getD_some] at hcell
      clear hu
      obtain ⟨Au, cu, rfl, _⟩ := HE.2
      have HE := Kp.mk HE
      have r3 := cell_blk (j := 0) (v := .bool false) (HO.out.focB (b + 1 + 1 + 1)).blk rfl
      have z3 : wr.frozen? ⟨b + 1 + 1 + 1, 0, none⟩ = false := frz_blk (HO.out.focB (b + 1 + 1 + 1)).blk
      by_cases hd : d.length ≤ 200
      · have h1 : decide ((200 : Int) < (d.length : Int)) = false := decide_eq_false (by omega)
        have h1b : decide (200 < d.length) = false := decide_eq_false (by omega)
        have HQ := Kp.mk (law_of HO.out d HE.out.heldF (by omega))
        have hp := putN_len64 (n := d.length) (by omega)
        have hL : (frameF d).length ≤ 214 := by rw [len_frameF]; omega
        have hst := Kp.mk (offs_step hdk.out)
        gi_wp2
        refine ⟨trivial, (callsIn_wide.2 HQ.out).mono ?_⟩
        rintro e w3 ⟨vo, rfl, H3, hz3⟩
        have HX := H3.sl (by decide)
        obtain ⟨Ao, co, hvo, _⟩ := HX.2
        subst hvo
        have hof := offs_bound ds k hk hs.out
        have HX := Kp.mk HX
        have HY := Kp.mk (H3.focR u7)
        clear HQ hz3 H3
        gi_wp2_with (gi_at_builtin; go_must (refine own_append_in (v := u7) (vx := .slice Ao (frameF d).length co) HY.out rfl (.tmp 34) (.tmp 36) 24 (.int .u8 0) 1 (frameF d).length (U (frameF d)) rfl Try.underlying24 info_u8 rfl (by decide) rfl rfl HX.out (U_one _) ?c3 ?c4 ?_))
        case c3 => unfold maxLen; omega
        case c4 => omega
        intro v4 w4 H4 hz4 _
        rw [← hst.out, ← U_append, ← catF_step hdk.out] at H4
        obtain ⟨A4, c4, hv4, _⟩ := (H4.sl (by decide)).2
        subst hv4
        obtain ⟨Ae, ce, hve, _⟩ := (H4.slR ve (by decide)).2
        subst hve
        have re := cell_blk (j := 0) (v := .slice Ae k ce) (H4.focB q).blk rfl
        have ze : w4.frozen? ⟨q, 0, none⟩ = false := frz_blk (H4.focB q).blk
        have hqlt : q < w4.heap.size := (H4.focB q).lt
        have H4 := Kp.mk H4
        clear HY HX hz4
        gi_wp2_with (gi_at_builtin; go_must (refine own_append_in (v := .slice Ae k ce) (vx := .slice (some ⟨w4.heap.size, 0, none⟩) 1 1) (H4.out.box (.cells #[.int .i64 (offs ds (k + 1) : Int)] 3)) rfl (.tmp 38) (.tmp 41) 49 (.int .i64 0) 8 1 [.int .i64 (offs ds (k + 1) : Int)] rfl Try.underlying49 info_int rfl (by decide) rfl rfl ?c5 ?c6 ?c7 ?c8 ?_))
        case c5 => exact sl_box w4 #[_] _ 1 1 rfl (by decide)
        case c6 => simp [Value.oneCell']
        case c7 => unfold maxLen; omega
        case c8 => omega
        intro v5 w5 H5 hz5 _
        obtain ⟨A5, c5, hv5, _⟩ := (H5.sl (by decide)).2
        subst hv5
        have r5 := cell_blk (j := 0) (v := .slice Ae k ce) (H5.focB q).blk rfl
        have z5 : w5.frozen? ⟨q, 0, none⟩ = false := frz_blk (H5.focB q).blk
        have H6 : Own w (w5.setCell ⟨q, 0, none⟩ (.slice A5 (k + 1) c5)) (_ * Blk q (.cells #[.slice A5 (k + 1) c5] 49)) := (H5.focB q).set 0 _
        have H6 := Kp.mk H6
        clear H5 H4 hz5 re ze
        gi_wp2
        go_roundw
        case rel =>
          refine ⟨k + 1, .slice A5 (k + 1) c5, by omega, by go_num, ⟨fun j x hj hx => ?_⟩, ⟨?_⟩⟩
          · by_cases hjk : j < k
            · exact hs.out j x hjk hx
            · obtain rfl : j = k := by omega
              rw [hdk.out] at hx
              injection hx with hx
              subst hx
              exact hd
          · rw [endsV_step]
            exact ((H6.out.focR (.slice Ao (frameF d).length co)).drop).rot
        case measure => simp [leftAt]; omega
      · have h1 : decide ((200 : Int) < (d.length : Int)) = true := decide_eq_true (by omega)
        have h1b : decide (200 < d.length) = true := decide_eq_true (by omega)
        have H5 : Own w (wr.setCell ⟨b + 1 + 1 + 1, 0, none⟩ (.bool true)) (_ * Blk (b + 1 + 1 + 1) (.cells #[.bool true] 4)) := (HO.out.focB (b + 1 + 1 + 1)).set 0 (.bool true)
        have r5 := cell_blk (j := 0) (v := .bool true) H5.blk rfl
        have H5 := Kp.mk H5
        clear hd
        gi_wp2
        refine ⟨.bool true, ?_, rfl, H5.out.oldF⟩
        rw [results_cell1 rfl]
        go_simp
    · obtain rfl : k = ds.length := by omega
      rw [List.take_length] at HO
      have hds : Kp (∀ d ∈ ds, d.length ≤ 200) := ⟨fun d hd => by
        obtain ⟨j, hj, rfl⟩ := List.getElem_of_mem hd
        exact hs.out j _ hj (List.getElem?_eq_getElem hj)⟩
      have hLb := offs_bound ds ds.length (Nat.le_refl _) hs.out
      obtain ⟨L, hL⟩ : ∃ L, Kp (offs ds ds.length = L) := ⟨_, ⟨rfl⟩⟩
      rw [hL.out] at HO hLb
      have hXl : Kp ((catF ds).length = L) := ⟨by rw [← offs_all]; exact hL.out⟩
      obtain ⟨ak, hak, hand⟩ := and_i64 a 65535 (by decide)
      have hand : bits .and .i64 a 65535 = (ak : Int) := hand
      obtain ⟨m, hm⟩ : ∃ m, ak % (L + 1) = m := ⟨_, rfl⟩
      have hmL : m ≤ L := by have := Nat.mod_lt ak (show 0 < L + 1 by omega); omega
      have hrem : (ak : Int) % ((L : Int) + 1) = (m : Int) := by rw [← hm, show (L : Int) + 1 = ((L + 1 : Nat) : Int) by omega, ← Int.natCast_emod]
      clear hm hs hk hlt
      obtain ⟨Ab, cb, hvb, hlb, _⟩ := (HO.out.slR u7 (by decide)).2
      subst hvb
      obtain ⟨Ae, ce, hve, _⟩ := (HO.out.slR ve (by decide)).2
      subst hve
      have r1 := cell_blk (j := 0) (v := .int .i64 a) (HO.out.focB (b + 1)).blk rfl
      have z1 : wr.frozen? ⟨b + 1, 0, none⟩ = false := frz_blk (HO.out.focB (b + 1)).blk
      have H5 : Own w (wr.setCell ⟨b + 1, 0, none⟩ (.int .i64 (m : Int))) (_ * Blk (b + 1) (.cells #[.int .i64 (m : Int)] 3)) := (HO.out.focB (b + 1)).set 0 _
      have H6 := H5.alloc (.cells #[.int .i64 0] 3)
      rw [World.size_setCell] at H6
      have r6 := cell_blk (j := 0) (v := .int .i64 (m : Int)) (H6.focB (b + 1)).blk rfl
      have hCut := Held.cutTo (l := catF ds) (A := Ab) (c := cb) Try.underlying24 hinf (by rw [hXl.out]; exact held_row (by decide) : Held w (emp * Row 5 1 (.slice Ab L cb) L (U (catF ds))) (.slice Ab (catF ds).length cb) 1 (catF ds).length (U (catF ds))) (by rw [hXl.out]; exact hlb) (m : Int) m rfl (by rw [hXl.out]; exact hmL)
      rw [hXl.out] at hCut
      have hcut := hCut.1
      have H6 := Kp.mk H6
      have HQ := Kp.mk (frame_All (A := Ab) (k := m) (c := cb) H6.out)
      clear hCut H5 HO
      gi_wp2
      refine ⟨trivial, (callsIn_wide.2 HQ.out).mono ?_⟩
      rintro e w6 ⟨B, rfl, H7⟩
      obtain ⟨nb, hnb⟩ : ∃ nb, Kp (wr.heap.size = nb) := ⟨_, ⟨rfl⟩⟩
      rw [hnb.out] at H7 ⊢
      obtain ⟨qn, hq1, hq2, hq3, hq4, hq5⟩ := allF_cut ds hds.out m (by rw [hXl.out]; exact hmL)
      have hq4 := Kp.mk hq4
      have hq5 := Kp.mk hq5
      have hq3 := Kp.mk hq3
      have H7 := Kp.mk H7
      clear HQ H6 r1 z1 r6 hnb
      gi_wp2
      refine wp_range rfl (by omega) (gf := 32) (lb := #[.pointer (some ⟨B, 0, none⟩)]) rfl trivial (enters_of Try.func32 (by kernel_rfl) rfl) (fun _ => rfl) (all1_seqs w _ (by omega) B (.slice Ab m cb) ((catF ds).take m) (by rw [List.length_take]; omega))
        (fun pre => FBase w b (.slice A0 ds.length cc) (m : Int) s false * Row 5 1 (.slice Ab L cb) L (U (catF ds)) * Blk q (.cells #[.slice Ae ds.length ce] 49) * Row 3 1 (.slice Ae ds.length ce) ds.length (endsV ds ds.length) * Blk nb (.cells #[.int .i64 (pre.length : Int)] 3) * Blk B (.cells #[.slice Ab m cb] 24)) (fun _ _ _ => False) ?start ?need
        ?a1 ?assign ?body ?done ?stop
      case start =>
        refine H7.out.eq ?_
        show _ = Old w * Blk b _ * Blk (b + 1) _ * Blk (b + 1 + 1) _ * Blk (b + 1 + 1 + 1) _ * _ * _ * _ * Blk nb (.cells #[.int .i64 0] 3) * _
        ac_rfl
      case need =>
        intro G2 pre W H
        refine ⟨cell_blk (H.focB B).blk rfl, ?_⟩
        have h := (H.slR (.slice Ab L cb) (by decide)).take (m := m) hmL
        rw [Nat.mul_one, U, ← List.map_take] at h
        rw [show ((catF ds).take m).length = m by rw [List.length_take, hXl.out]; omega]
        exact h
      case stop =>
        rintro D k pre W ⟨_, _, _, h, ⟨_, _, _, _, hf, _⟩, _⟩
        exact hf.elim
      case assign =>
        intro lp x W K hK
        dsimp only [encF]
        gi_wp2
        exact hK
      case body =>
        rintro G2 lp pre ⟨kx, vx, dx⟩ W H hok
        obtain ⟨hk, hct⟩ := ok_at hq4.out hok
        simp only [ct, frOf, Prod.mk.injEq] at hct
        obtain ⟨rfl, rfl⟩ := hct
        obtain ⟨k, hkk⟩ : ∃ k, pre.length = k := ⟨_, rfl⟩
        rw [hkk] at hk H
        have hkn : k < ds.length := by omega
        obtain ⟨d, hd⟩ : ∃ d, Kp (ds.getD k [] = d) := ⟨_, ⟨rfl⟩⟩
        rw [hd.out] at H
        rw [hkk, hd.out]
        have hdk : ds[k]? = some d := by rw [← hd.out, List.getD_eq_getElem?_getD, List.getElem?_eq_getElem hkn]; rfl
        have hkm : offs ds (k + 1) ≤ m := by
          have := offs_mono ds (k + 1) (qn - (k + 1)) (by omega)
          rw [show k + 1 + (qn - (k + 1)) = qn by omega] at this
          omega
        have HX := Own.sl (e := 5) (sz := 1) H (by decide)
        obtain ⟨Ax, cx, hvx, _⟩ := HX.2
        dsimp only at hvx HX
        subst hvx
        have e0 := cell_blk (j := 0) (v := .slice A0 ds.length cc) (H.focB b).blk rfl
        have e1 := cell_blk (j := 0) (v := .int .i64 (m : Int)) (H.focB (b + 1)).blk rfl
        have eq_ := cell_blk (j := 0) (v := .slice Ae ds.length ce) (H.focB q).blk rfl
        have en := cell_blk (j := 0) (v := .int .i64 (k : Int)) (H.focB nb).blk rfl
        have zn : W.frozen? ⟨nb, 0, none⟩ = false := frz_blk (H.focB nb).blk
        obtain ⟨A2, c2, hv2, hcE⟩ := (H.slR (.slice Ae ds.length ce) (by decide)).at_ k hkn
        injection hv2 with hv21 _ hv22
        subst hv21 hv22
        rw [List.getD_eq_getElem?_getD, endsV, List.getElem?_map, List.getElem?_range hkn, Option.map_some, Option.getD_some] at hcE
        obtain ⟨A3, c3, hv3, hcL⟩ := (G.out.sl.heldF.sl H).at_ k hkn
        injection hv3 with hv31 _ hv32
        subst hv31 hv32
        obtain ⟨u, hu⟩ : ∃ u, vs[k]? = some u := ⟨_, List.getElem?_eq_getElem (by have := G.out.len; omega)⟩
        have HU := (G.out.at_ k u d hu hdk).heldF.sl H
        rw [List.getD_eq_getElem?_getD, hu, Option.getD_some] at hcL
        obtain ⟨Au, cu, hvu, _⟩ := HU.2
        subst hvu
        have s1 := fun n => run_str (P := Try.prog) Try.underlying24 Try.underlying5 Try.underlying9 (HX.drawn ⟨n, rfl⟩)
        have s2 := fun n => run_str (P := Try.prog) Try.underlying24 Try.underlying5 Try.underlying9 (HU.drawn ⟨n, rfl⟩)
        have t1 : decide ((ds.length : Int) ≤ (k : Int)) = false := decide_eq_false (by omega)
        have t1b : decide (ds.length ≤ k) = false := decide_eq_false (by omega)
        have t2b : decide (m < offs ds (k + 1)) = false := decide_eq_false (by omega)
        have t2 : decide ((m : Int) < ((offs ds (k + 1) : Nat) : Int)) = false := decide_eq_false (by omega)
        have HK := Kp.mk H
        have hq1 := Kp.mk hq1
        clear H hu hdk hok
        gi_wp2
        refine wp_quiet_round (F := Fence.wide) rfl (by kernel_rfl) (by kernel_rfl) (by kernel_rfl) ?_
        repeat (gi_big_quiet_step (fail))
        refine wpQuietIn_nil ?_
        intro _ hw'
        obtain ⟨nq, hw''⟩ := hw'
        subst hw''
        gi_wp2
        have H8 : Own w ((W.drewN nq).setCell ⟨nb, 0, none⟩ (.int .i64 ((k : Int) + 1))) (_ * Blk nb (.cells #[.int .i64 ((k : Int) + 1)] 3)) := ((HK.out.drop.drewN nq).focB nb).set 0 _
        have hl : (((pre ++ [(offs ds (k + 1), Value.slice Ax d.length cx, d)]).length : Nat) : Int) = (k : Int) + 1 := by rw [List.length_append, hkk]; rfl
        show Own w _ (FBase w b (.slice (some A3) ds.length cc) (m : Int) s false * Row 5 1 (.slice Ab L cb) L (U (catF ds)) * Blk q (.cells #[.slice (some A2) ds.length ce] 49) * Row 3 1 (.slice (some A2) ds.length ce) ds.length (endsV ds ds.length) * Blk nb (.cells #[.int .i64 (((pre ++ [(offs ds (k + 1), Value.slice Ax d.length cx, d)]).length : Nat) : Int)] 3) * Blk B (.cells #[.slice Ab m cb] 24) * G2)
        rw [hl]
        exact H8.eq (by ac_rfl)
      case done =>
        intro D xs W hS H
        have hlx : xs.length = qn := by
          have := congrArg List.length (hS.trans hq4.out)
          simpa using this
        rw [hlx] at H
        clear hS hlx H7
        have e0 := cell_blk (j := 0) (v := .slice A0 ds.length cc) (H.focB b).blk rfl
        have e1 := cell_blk (j := 0) (v := .int .i64 (m : Int)) (H.focB (b + 1)).blk rfl
        have e2 := cell_blk (j := 0) (v := .int .i64 s) (H.focB (b + 1 + 1)).blk rfl
        have z2 : W.frozen? ⟨b + 1 + 1, 0, none⟩ = false := frz_blk (H.focB (b + 1 + 1)).blk
        have eq_ := cell_blk (j := 0) (v := .slice Ae ds.length ce) (H.focB q).blk rfl
        have en := cell_blk (j := 0) (v := .int .i64 (qn : Int)) (H.focB nb).blk rfl
        obtain ⟨sk, hsk, hsand⟩ := and_i64 s 7 (by decide)
        have hsand : bits .and .i64 s 7 = (sk : Int) := hsand
        have hnm : Kp (qn < ds.length → ∃ A c, Value.slice Ae ds.length ce = .slice (some A) ds.length c ∧ W.cell? (A.add qn) = some (.int .i64 ((offs ds (qn + 1) : Nat) : Int))) := ⟨fun hlt => by
          obtain ⟨A, c, hv, hc⟩ := (H.slR (.slice Ae ds.length ce) (by decide)).at_ qn hlt
          rw [List.getD_eq_getElem?_getD, endsV, List.getElem?_map, List.getElem?_range hlt, Option.map_some, Option.getD_some] at hc
          exact ⟨A, c, hv, hc⟩⟩
        have H := Kp.mk H
        have to23 : ∃ nq, True := ⟨0, trivial⟩
        gi_wp2
        by_cases hqn : qn < ds.length
        case' pos =>
          obtain ⟨A2, c2, hv2, hcE⟩ := hnm.out hqn
          injection hv2 with hv21 _ hv22
          subst hv21 hv22
          have := hq3.out hqn
          have t1 : decide ((qn : Int) < (ds.length : Int)) = true := decide_eq_true (by omega)
          have t1b : decide (qn < ds.length) = true := decide_eq_true (by omega)
          have t2b : decide (offs ds (qn + 1) ≤ m) = false := decide_eq_false (by omega)
          have t2 : decide (((offs ds (qn + 1) : Nat) : Int) ≤ (m : Int)) = false := decide_eq_false (by omega)
          gi_quiet (fail)
          gi_wp2
          clear t1 t1b t2 t2b this hcE eq_ hnm
          generalize Value.slice (some A2) ds.length ce = ve at H
        case' neg =>
          have t1 : decide ((qn : Int) < (ds.length : Int)) = false := decide_eq_false (by omega)
          have t1b : decide (qn < ds.length) = false := decide_eq_false (by omega)
          gi_quiet (fail)
          gi_wp2
          clear t1 t1b eq_ hnm
          generalize Value.slice Ae ds.length ce = ve at H
        all_goals
          clear hqn e0 e1 e2 z2 en
          have H5 : Own w ((W.drewN nq).setCell ⟨b + 1 + 1, 0, none⟩ (.int .i64 (sk : Int))) (_ * Blk (b + 1 + 1) (.cells #[.int .i64 (sk : Int)] 3)) := ((H.out.drewN nq).focB (b + 1 + 1)).set 0 _
          have H6 := H5.alloc (.cells #[.int .i64 0] 3)
          rw [World.size_setCell] at H6
          change Own w _ (_ * Blk W.heap.size _) at H6
          have HQ := Kp.mk (frame_All (A := Ab) (k := L) (c := cb) H6)
          clear H5 H6
          refine ⟨trivial, (callsIn_wide.2 HQ.out).mono ?_⟩
          rintro e w7 ⟨B2, rfl, H7⟩
          obtain ⟨kb, hkb⟩ : ∃ kb, Kp (W.heap.size = kb) := ⟨_, ⟨rfl⟩⟩
          rw [hkb.out] at H7 ⊢
          have H7 := Kp.mk H7
          have hAll : Kp (allF (catF ds) = (List.range ds.length).map (frOf ds)) := ⟨by
            obtain ⟨q', h1, h2, h3, h4, _⟩ := allF_cut ds hds.out L (by rw [hXl.out]; exact Nat.le_refl _)
            rw [List.take_of_length_le (by rw [hXl.out]; exact Nat.le_refl _)] at h4
            by_cases hq' : q' = ds.length
            · rw [hq'] at h4; exact h4
            · have h5 := h3 (by omega)
              have h6 := offs_mono ds (q' + 1) (ds.length - (q' + 1)) (by omega)
              rw [show q' + 1 + (ds.length - (q' + 1)) = ds.length by omega, hL.out] at h6
              omega⟩
          clear HQ hkb H
          gi_wp2
          refine wp_range rfl (by omega) (gf := 32) (lb := #[.pointer (some ⟨B2, 0, none⟩)]) rfl trivial (enters_of Try.func32 (by kernel_rfl) rfl) (fun _ => rfl) (all1_seqs w _ (by omega) B2 (.slice Ab L cb) (catF ds) (by rw [hXl.out]; omega))
            (fun pre => andH (pre.length ≤ sk) (FBase w b (.slice A0 ds.length cc) (m : Int) (sk : Int) false * Row 5 1 (.slice Ab L cb) L (U (catF ds)) * Blk q (.cells #[ve] 49) * Row 3 1 ve ds.length (endsV ds ds.length) * Blk nb (.cells #[.int .i64 (qn : Int)] 3) * Blk D (.deferred (some [])) * Blk kb (.cells #[.int .i64 (pre.length : Int)] 3) * Blk B2 (.cells #[.slice Ab L cb] 24)))
            (fun c _ => andH (c = .exit 4 ∧ sk < ds.length) (FBase w b (.slice A0 ds.length cc) (m : Int) (sk : Int) false * Row 5 1 (.slice Ab L cb) L (U (catF ds)) * Blk q (.cells #[ve] 49) * Row 3 1 ve ds.length (endsV ds ds.length) * Blk nb (.cells #[.int .i64 (qn : Int)] 3) * Blk D (.deferred (some [])) * Blk kb (.cells #[.int .i64 (sk : Int)] 3))) ?_ ?_
            ?_ ?_ ?_ ?_ ?_
          · refine Own.toAnd (Nat.zero_le _) ?_
            have h := (H7.out.focB B).drop
            refine h.eq ?_
            show _ = Old w * Blk b _ * Blk (b + 1) _ * Blk (b + 1 + 1) _ * Blk (b + 1 + 1 + 1) _ * _ * _ * _ * _ * _ * Blk kb (.cells #[.int .i64 0] 3) * _
            ac_rfl
          · intro G2 pre W2 H
            obtain ⟨_, H⟩ := H.andL
            refine ⟨cell_blk (H.focB B2).blk rfl, ?_⟩
            rw [hXl.out]
            exact H.slR (.slice Ab L cb) (by decide)
          rotate_left
          · intro lp x W K hK
            dsimp only [encF]
            gi_wp2
            exact hK
          · rintro G2 lp pre x W2 H hok
            obtain ⟨hk, _⟩ := ok_at hAll.out hok
            rw [star_assoc] at H
            obtain ⟨hle, H9⟩ := H.andL
            rw [← star_assoc] at H9
            obtain ⟨k, hkk⟩ : ∃ k, Kp (pre.length = k) := ⟨_, ⟨rfl⟩⟩
            rw [hkk.out] at hk hle H9
            have HK := Kp.mk H9.drop
            have e2 := cell_blk (j := 0) (v := .int .i64 (sk : Int)) (HK.out.focB (b + 1 + 1)).blk rfl
            have ek := cell_blk (j := 0) (v := .int .i64 (k : Int)) (HK.out.focB kb).blk rfl
            have zk : W2.frozen? ⟨kb, 0, none⟩ = false := frz_blk (HK.out.focB kb).blk
            clear H H9 hok
            by_cases hks : k = sk
            · subst hks
              gi_wp2
              exact Own.toAndL ⟨rfl, hk⟩ ((HK.out.focB B2).drop)
            · have t1 : ((k : Int) == (sk : Int)) = false := by simp; omega
              gi_wp2
              have H8 : Own w (W2.setCell ⟨kb, 0, none⟩ (.int .i64 ((k : Int) + 1))) (_ * Blk kb (.cells #[.int .i64 ((k : Int) + 1)] 3)) := (HK.out.focB kb).set 0 _
              have hl : (((pre ++ [x]).length : Nat) : Int) = (k : Int) + 1 := by rw [List.length_append, hkk.out]; rfl
              refine Own.toAndL (by rw [List.length_append, hkk.out]; simp; omega) ?_
              rw [hl]
              exact H8.eq (by ac_rfl)
          · intro D2 ys W2 hS2 H
            have hly : ys.length = ds.length := by
              have := congrArg List.length (hS2.trans hAll.out)
              simpa using this
            obtain ⟨hle, H9⟩ := H.andL
            rw [hly] at hle H9
            clear hS2 hly H7 H
            have e0 := cell_blk (j := 0) (v := .slice A0 ds.length cc) (H9.focB b).blk rfl
            have e1 := cell_blk (j := 0) (v := .int .i64 (m : Int)) (H9.focB (b + 1)).blk rfl
            have e2 := cell_blk (j := 0) (v := .int .i64 (sk : Int)) (H9.focB (b + 1 + 1)).blk rfl
            have ek := cell_blk (j := 0) (v := .int .i64 (ds.length : Int)) (H9.focB kb).blk rfl
            have hif : (if ds.length < sk then (ds.length : Int) else (sk : Int)) = (ds.length : Int) := by split <;> omega
            have H := Kp.mk ((H9.focB B2).drop)
            clear H9
            gi_wp2
            clear e0 e1 e2 ek hif
            have HD8 : Held w (FBase w b (.slice A0 ds.length cc) (m : Int) (sk : Int) false * Row 5 1 (.slice Ab L cb) L (U (catF ds)) * Blk q (.cells #[ve] 49) * Row 3 1 ve ds.length (endsV ds ds.length) * Blk nb (.cells #[.int .i64 (qn : Int)] 3) * Blk D (.deferred (some [])) * Blk kb (.cells #[.int .i64 (ds.length : Int)] 3) * Blk D2 (.deferred (some []))) (.slice Ab m cb) 1 ((catF ds).take m).length (U ((catF ds).take m)) := fun W' H' => by
              have h := (H'.slR (.slice Ab L cb) (by decide)).take (m := m) hmL
              rw [Nat.mul_one, U, ← List.map_take] at h
              rw [show ((catF ds).take m).length = m by rw [List.length_take, hXl.out]; omega]
              exact h
            have HW := frame_Whole H.out HD8 (by rw [List.length_take]; omega)
            rw [hq5.out] at HW
            have HW := Kp.mk HW
            clear HD8 H
            have hcase : (m = 0 ∧ ¬ offs ds qn < m) ∨ (0 < m ∧ qn = 0 ∧ offs ds qn < m) ∨ (0 < m ∧ 0 < qn ∧ offs ds qn = m ∧ ¬ offs ds qn < m) ∨ (0 < m ∧ 0 < qn ∧ offs ds qn < m) := by
              have h0 := offs_zero ds
              rcases Nat.eq_zero_or_pos m with h | h
              · exact .inl ⟨h, by omega⟩
              · rcases Nat.eq_zero_or_pos qn with h1 | h1
                · exact .inr (.inl ⟨h, h1, by rw [h1]; omega⟩)
                · rcases Nat.lt_or_ge (offs ds qn) m with h2 | h2
                  · exact .inr (.inr (.inr ⟨h, h1, h2⟩))
                  · exact .inr (.inr (.inl ⟨h, h1, by omega, by omega⟩))
            rcases hcase with ⟨hm0, hnlt⟩ | ⟨hm0, hq0, hlt8⟩ | ⟨hm0, hq0, hoe, hnlt⟩ | ⟨hm0, hq0, hlt8⟩
            case' inl =>
              rw [if_neg hnlt] at HW
              have tm : ((m : Int) == 0) = true := by simp; omega
              refine ⟨trivial, (callsIn_wide.2 HW.out).mono ?_⟩
              rintro e w8 ⟨A8, c8, rfl, H8⟩
              have e1 := cell_blk (j := 0) (v := .int .i64 (m : Int)) (H8.focB (b + 1)).blk rfl
              have en := cell_blk (j := 0) (v := .int .i64 (qn : Int)) (H8.focB nb).blk rfl
              have r6 := cell_blk (j := 0) (v := .bool false) (H8.focB (b + 1 + 1 + 1)).blk rfl
              have z6 : w8.frozen? ⟨b + 1 + 1 + 1, 0, none⟩ = false := frz_blk (H8.focB (b + 1 + 1 + 1)).blk
              have H8 := Kp.mk H8
              clear HW
              dsimp only
            case' inr.inl =>
              rw [if_pos hlt8] at HW
              have tm : ((m : Int) == 0) = false := by simp; omega
              have tn : decide ((0 : Int) < (qn : Int)) = false := decide_eq_false (by omega)
              have tnb : decide (0 < qn) = false := decide_eq_false (by omega)
              refine ⟨trivial, (callsIn_wide.2 HW.out).mono ?_⟩
              rintro e w8 ⟨A8, c8, rfl, H8⟩
              have e1 := cell_blk (j := 0) (v := .int .i64 (m : Int)) (H8.focB (b + 1)).blk rfl
              have en := cell_blk (j := 0) (v := .int .i64 (qn : Int)) (H8.focB nb).blk rfl
              have r6 := cell_blk (j := 0) (v := .bool false) (H8.focB (b + 1 + 1 + 1)).blk rfl
              have z6 : w8.frozen? ⟨b + 1 + 1 + 1, 0, none⟩ = false := frz_blk (H8.focB (b + 1 + 1 + 1)).blk
              have H8 := Kp.mk H8
              clear HW
              dsimp only
            case' inr.inr.inl =>
              rw [if_neg hnlt] at HW
              have tm : ((m : Int) == 0) = false := by simp; omega
              have tn : decide ((0 : Int) < (qn : Int)) = true := decide_eq_true (by omega)
              have tnb : decide (0 < qn) = true := decide_eq_true (by omega)
              have te : ((m : Int) == (m : Int)) = true := by simp
              refine ⟨trivial, (callsIn_wide.2 HW.out).mono ?_⟩
              rintro e w8 ⟨A8, c8, rfl, H8⟩
              have e1 := cell_blk (j := 0) (v := .int .i64 (m : Int)) (H8.focB (b + 1)).blk rfl
              have en := cell_blk (j := 0) (v := .int .i64 (qn : Int)) (H8.focB nb).blk rfl
              have r6 := cell_blk (j := 0) (v := .bool false) (H8.focB (b + 1 + 1 + 1)).blk rfl
              have z6 : w8.frozen? ⟨b + 1 + 1 + 1, 0, none⟩ = false := frz_blk (H8.focB (b + 1 + 1 + 1)).blk
              obtain ⟨Ae9, ce9, hv9, hcE⟩ := (H8.slR ve (by decide)).at_ (qn - 1) (by omega)
              rw [List.getD_eq_getElem?_getD, endsV, List.getElem?_map, List.getElem?_range (by omega), Option.map_some, Option.getD_some, show qn - 1 + 1 = qn by omega] at hcE
              subst hv9
              have eq_ := cell_blk (j := 0) (v := .slice (some Ae9) ds.length ce9) (H8.focB q).blk rfl
              have hidx : ((qn : Int) - 1).toNat = qn - 1 := by omega
              rw [hoe] at hcE
              have H8 := Kp.mk H8
              clear HW
              dsimp only
            case' inr.inr.inr =>
              rw [if_pos hlt8] at HW
              have tm : ((m : Int) == 0) = false := by simp; omega
              have tn : decide ((0 : Int) < (qn : Int)) = true := decide_eq_true (by omega)
              have tnb : decide (0 < qn) = true := decide_eq_true (by omega)
              have te : (((offs ds qn : Nat) : Int) == (m : Int)) = false := by simp; omega
              refine ⟨trivial, (callsIn_wide.2 HW.out).mono ?_⟩
              rintro e w8 ⟨A8, c8, rfl, H8⟩
              have e1 := cell_blk (j := 0) (v := .int .i64 (m : Int)) (H8.focB (b + 1)).blk rfl
              have en := cell_blk (j := 0) (v := .int .i64 (qn : Int)) (H8.focB nb).blk rfl
              have r6 := cell_blk (j := 0) (v := .bool false) (H8.focB (b + 1 + 1 + 1)).blk rfl
              have z6 : w8.frozen? ⟨b + 1 + 1 + 1, 0, none⟩ = false := frz_blk (H8.focB (b + 1 + 1 + 1)).blk
              obtain ⟨Ae9, ce9, hv9, hcE⟩ := (H8.slR ve (by decide)).at_ (qn - 1) (by omega)
              rw [List.getD_eq_getElem?_getD, endsV, List.getElem?_map, List.getElem?_range (by omega), Option.map_some, Option.getD_some, show qn - 1 + 1 = qn by omega] at hcE
              subst hv9
              have eq_ := cell_blk (j := 0) (v := .slice (some Ae9) ds.length ce9) (H8.focB q).blk rfl
              have hidx : ((qn : Int) - 1).toNat = qn - 1 := by omega
              have H8 := Kp.mk H8
              clear HW
              dsimp only
            all_goals
              gi_wp2
              gi_quiet (fail)
              gi_wp2
              all_goals first | exact (undef_bool (by assumption)).elim | skip
              have H9 : Own w ((w8.drewN nq).setCell ⟨b + 1 + 1 + 1, 0, none⟩ (.bool true)) (_ * Blk (b + 1 + 1 + 1) (.cells #[.bool true] 4)) := ((H8.out.drewN nq).focB (b + 1 + 1 + 1)).set 0 _
              refine ⟨by simp, .inl ⟨_, _, rfl, run_takeDeferred (H9.focB D2).blk, ?_⟩⟩
              have H10 := (H9.focB D2).obj (.deferred none)
              refine ⟨by simp, .inl ⟨_, _, rfl, run_takeDeferred (H10.focB D).blk, ?_⟩⟩
              have H11 := (H10.focB D).obj (.deferred none)
              refine ⟨.bool true, ?_, rfl, H11.oldF⟩
              rw [results_cell1 rfl]
              have r9 := cell_blk (j := 0) (v := .bool true) (H11.focB (b + 1 + 1 + 1)).blk rfl
              go_simp
          · intro D2 cd ys W2 H
            obtain ⟨⟨hcd, hlt2⟩, H9⟩ := H.andL
            clear H7 H
            subst hcd
            have e0 := cell_blk (j := 0) (v := .slice A0 ds.length cc) (H9.focB b).blk rfl
            have e1 := cell_blk (j := 0) (v := .int .i64 (m : Int)) (H9.focB (b + 1)).blk rfl
            have e2 := cell_blk (j := 0) (v := .int .i64 (sk : Int)) (H9.focB (b + 1 + 1)).blk rfl
            have ek := cell_blk (j := 0) (v := .int .i64 (sk : Int)) (H9.focB kb).blk rfl
            have H := Kp.mk H9
            clear H9
            gi_wp2
            clear e0 e1 e2 ek
            have HD8 : Held w (FBase w b (.slice A0 ds.length cc) (m : Int) (sk : Int) false * Row 5 1 (.slice Ab L cb) L (U (catF ds)) * Blk q (.cells #[ve] 49) * Row 3 1 ve ds.length (endsV ds ds.length) * Blk nb (.cells #[.int .i64 (qn : Int)] 3) * Blk D (.deferred (some [])) * Blk kb (.cells #[.int .i64 (sk : Int)] 3) * Blk D2 (.deferred (some []))) (.slice Ab m cb) 1 ((catF ds).take m).length (U ((catF ds).take m)) := fun W' H' => by
              have h := (H'.slR (.slice Ab L cb) (by decide)).take (m := m) hmL
              rw [Nat.mul_one, U, ← List.map_take] at h
              rw [show ((catF ds).take m).length = m by rw [List.length_take, hXl.out]; omega]
              exact h
            have HW := frame_Whole H.out HD8 (by rw [List.length_take]; omega)
            rw [hq5.out] at HW
            have HW := Kp.mk HW
            clear HD8 H
            have hcase : (m = 0 ∧ ¬ offs ds qn < m) ∨ (0 < m ∧ qn = 0 ∧ offs ds qn < m) ∨ (0 < m ∧ 0 < qn ∧ offs ds qn = m ∧ ¬ offs ds qn < m) ∨ (0 < m ∧ 0 < qn ∧ offs ds qn < m) := by
              have h0 := offs_zero ds
              rcases Nat.eq_zero_or_pos m with h | h
              · exact .inl ⟨h, by omega⟩
              · rcases Nat.eq_zero_or_pos qn with h1 | h1
                · exact .inr (.inl ⟨h, h1, by rw [h1]; omega⟩)
                · rcases Nat.lt_or_ge (offs ds qn) m with h2 | h2
                  · exact .inr (.inr (.inr ⟨h, h1, h2⟩))
                  · exact .inr (.inr (.inl ⟨h, h1, by omega, by omega⟩))
            rcases hcase with ⟨hm0, hnlt⟩ | ⟨hm0, hq0, hlt8⟩ | ⟨hm0, hq0, hoe, hnlt⟩ | ⟨hm0, hq0, hlt8⟩
            case' inl =>
              rw [if_neg hnlt] at HW
              have tm : ((m : Int) == 0) = true := by simp; omega
              refine ⟨trivial, (callsIn_wide.2 HW.out).mono ?_⟩
              rintro e w8 ⟨A8, c8, rfl, H8⟩
              have e1 := cell_blk (j := 0) (v := .int .i64 (m : Int)) (H8.focB (b + 1)).blk rfl
              have en := cell_blk (j := 0) (v := .int .i64 (qn : Int)) (H8.focB nb).blk rfl
              have r6 := cell_blk (j := 0) (v := .bool false) (H8.focB (b + 1 + 1 + 1)).blk rfl
              have z6 : w8.frozen? ⟨b + 1 + 1 + 1, 0, none⟩ = false := frz_blk (H8.focB (b + 1 + 1 + 1)).blk
              have H8 := Kp.mk H8
              clear HW
              dsimp only
            case' inr.inl =>
              rw [if_pos hlt8] at HW
              have tm : ((m : Int) == 0) = false := by simp; omega
              have tn : decide ((0 : Int) < (qn : Int)) = false := decide_eq_false (by omega)
              have tnb : decide (0 < qn) = false := decide_eq_false (by omega)
              refine ⟨trivial, (callsIn_wide.2 HW.out).mono ?_⟩
              rintro e w8 ⟨A8, c8, rfl, H8⟩
              have e1 := cell_blk (j := 0) (v := .int .i64 (m : Int)) (H8.focB (b + 1)).blk rfl
              have en := cell_blk (j := 0) (v := .int .i64 (qn : Int)) (H8.focB nb).blk rfl
              have r6 := cell_blk (j := 0) (v := .bool false) (H8.focB (b + 1 + 1 + 1)).blk rfl
              have z6 : w8.frozen? ⟨b + 1 + 1 + 1, 0, none⟩ = false := frz_blk (H8.focB (b + 1 + 1 + 1)).blk
              have H8 := Kp.mk H8
              clear HW
              dsimp only
            case' inr.inr.inl =>
              rw [if_neg hnlt] at HW
              have tm : ((m : Int) == 0) = false := by simp; omega
              have tn : decide ((0 : Int) < (qn : Int)) = true := decide_eq_true (by omega)
              have tnb : decide (0 < qn) = true := decide_eq_true (by omega)
              have te : ((m : Int) == (m : Int)) = true := by simp
              refine ⟨trivial, (callsIn_wide.2 HW.out).mono ?_⟩
              rintro e w8 ⟨A8, c8, rfl, H8⟩
              have e1 := cell_blk (j := 0) (v := .int .i64 (m : Int)) (H8.focB (b + 1)).blk rfl
              have en := cell_blk (j := 0) (v := .int .i64 (qn : Int)) (H8.focB nb).blk rfl
              have r6 := cell_blk (j := 0) (v := .bool false) (H8.focB (b + 1 + 1 + 1)).blk rfl
              have z6 : w8.frozen? ⟨b + 1 + 1 + 1, 0, none⟩ = false := frz_blk (H8.focB (b + 1 + 1 + 1)).blk
              obtain ⟨Ae9, ce9, hv9, hcE⟩ := (H8.slR ve (by decide)).at_ (qn - 1) (by omega)
              rw [List.getD_eq_getElem?_getD, endsV, List.getElem?_map, List.getElem?_range (by omega), Option.map_some, Option.getD_some, show qn - 1 + 1 = qn by omega] at hcE
              subst hv9
              have eq_ := cell_blk (j := 0) (v := .slice (some Ae9) ds.length ce9) (H8.focB q).blk rfl
              have hidx : ((qn : Int) - 1).toNat = qn - 1 := by omega
              rw [hoe] at hcE
              have H8 := Kp.mk H8
              clear HW
              dsimp only
            case' inr.inr.inr =>
              rw [if_pos hlt8] at HW
              have tm : ((m : Int) == 0) = false := by simp; omega
              have tn : decide ((0 : Int) < (qn : Int)) = true := decide_eq_true (by omega)
              have tnb : decide (0 < qn) = true := decide_eq_true (by omega)
              have te : (((offs ds qn : Nat) : Int) == (m : Int)) = false := by simp; omega
              refine ⟨trivial, (callsIn_wide.2 HW.out).mono ?_⟩
              rintro e w8 ⟨A8, c8, rfl, H8⟩
              have e1 := cell_blk (j := 0) (v := .int .i64 (m : Int)) (H8.focB (b + 1)).blk rfl
              have en := cell_blk (j := 0) (v := .int .i64 (qn : Int)) (H8.focB nb).blk rfl
              have r6 := cell_blk (j := 0) (v := .bool false) (H8.focB (b + 1 + 1 + 1)).blk rfl
              have z6 : w8.frozen? ⟨b + 1 + 1 + 1, 0, none⟩ = false := frz_blk (H8.focB (b + 1 + 1 + 1)).blk
              obtain ⟨Ae9, ce9, hv9, hcE⟩ := (H8.slR ve (by decide)).at_ (qn - 1) (by omega)
              rw [List.getD_eq_getElem?_getD, endsV, List.getElem?_map, List.getElem?_range (by omega), Option.map_some, Option.getD_some, show qn - 1 + 1 = qn by omega] at hcE
              subst hv9
              have eq_ := cell_blk (j := 0) (v := .slice (some Ae9) ds.length ce9) (H8.focB q).blk rfl
              have hidx : ((qn : Int) - 1).toNat = qn - 1 := by omega
              have H8 := Kp.mk H8
              clear HW
              dsimp only
            all_goals
              gi_wp2
              gi_quiet (fail)
              gi_wp2
              all_goals first | exact (undef_bool (by assumption)).elim | skip
              have H9 : Own w ((w8.drewN nq).setCell ⟨b + 1 + 1 + 1, 0, none⟩ (.bool true)) (_ * Blk (b + 1 + 1 + 1) (.cells #[.bool true] 4)) := ((H8.out.drewN nq).focB (b + 1 + 1 + 1)).set 0 _
              refine ⟨by simp, .inl ⟨_, _, rfl, run_takeDeferred (H9.focB D2).blk, ?_⟩⟩
              have H10 := (H9.focB D2).obj (.deferred none)
              refine ⟨by simp, .inl ⟨_, _, rfl, run_takeDeferred (H10.focB D).blk, ?_⟩⟩
              have H11 := (H10.focB D).obj (.deferred none)
              refine ⟨.bool true, ?_, rfl, H11.oldF⟩
              rw [results_cell1 rfl]
              have r9 := cell_blk (j := 0) (v := .bool true) (H11.focB (b + 1 + 1 + 1)).blk rfl
              go_simp
end Go.Proofs.YtfpiaeodblbfjaaSep
