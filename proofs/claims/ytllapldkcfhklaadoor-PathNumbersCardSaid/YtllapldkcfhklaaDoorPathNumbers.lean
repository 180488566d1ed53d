/- Own work: PathNumbers: the walk. -/
import Derived.Test.YtllapldkcfhklaaDoorPathNb
import Derived.Test.YtllapldkcfhklaaDoorPathE
namespace Go.Proofs.YtllapldkcfhklaaDoorSep
open Go.RowKit Go.Lib Go.Proofs Go.Shelf
attribute [local go_sem] Oper.semAt_some
/-- A statement that ends usually, in one act, in worlds of one kind. -/
def QN (A0 : Act) (C : World → Prop) : Exit → Act → World → Prop
  | .normal, act, w => act = A0 ∧ C w
  | _, _, _ => False
/-- What a round finds: the last number, how many there were. -/
def NI (Y : HP) (b7 b8 : Nat) (pre : List NV) : HP := Y * Blk b7 (.cells #[.int .i64 (lastN pre)] 3) * Blk b8 (.cells #[.int .i64 (pre.length : Nat)] 3)
def keysN (zs : List Int) : List Int := zs.foldl putI []
def valsN (zs : List Int) : List Int × List Value → List Int × List Value := fun p => zs.foldl (fun p x => (putI p.1 x, putW p.1 p.2 x (.string ⟨#[97]⟩))) p
/-- How table and map stand behind so many numbers. -/
structure StepN (n : Nat) (K : List Int) (V : List Value) (L : AL) : Prop where
  sorted : sortedI K
  len : V.length = K.length
  one : ∀ u ∈ V, u.oneCell' = true
  most : K.length ≤ n
  seen : SeenR K L
  keys : KeysA L
theorem stepN_nil : StepN 0 [] [] [] := ⟨List.Pairwise.nil, rfl, fun _ h => absurd h (List.not_mem_nil), Nat.le_refl _, seen_nil, List.nodup_nil⟩
theorem stepN_next {n : Nat} {K : List Int} {V : List Value} {L : AL} (h : StepN n K V L) (x : Int) : StepN (n + 1) (putI K x) (putW K V x (.string ⟨#[97]⟩)) (setA L x (.bool true)) :=
  ⟨putI_sorted K x h.sorted, putW_len K V x _ h.len, putW_one K V x _ h.one rfl, Nat.le_trans (putI_len K x) (by have := h.most; omega), seen_step h.sorted h.seen x, keysA_set h.keys x _⟩
set_option maxHeartbeats 4000000 in
theorem pathNumbers_core (w : World) (va : Value) (zs : List Int) (gs : Sl w va 1 zs.length (zs.map (Value.int .i64))) (m : Int) (hm : MaxL w (Old w) m) :
    Calls Tryd.prog 5 #[va] w fun e w' => e = .returned (.bool true) ∧ Below w.heap.size w w' := by
  have H0 := (own_start w).alloc (.cells #[.bool false] 4)
  have HH := Kp.mk (path_head hm.more H0)
  clear H0
  replace gs := Kp.mk gs
  obtain ⟨_, A, c, rfl, hc1, hc2, hc3, _⟩ := gs.out
  obtain ⟨b2, hb2⟩ : ∃ b, Kp (w.heap.size = b) := ⟨_, ⟨rfl⟩⟩
  rw [hb2.out] at HH
  refine (callsIn_wide (n := 9)).1 ?_
  refine callsIn_of_wp_marks Tryd.func5 rfl trivial ?_ rfl
  simp only [Tryd.ntmps5, List.size_toArray, List.length_cons, List.length_nil, Nat.reduceAdd, Nat.reduceSub, Array.replicate_succ, Array.replicate_zero, List.push_toArray, List.append_toArray, List.nil_append, List.cons_append]
  refine wpIn_wide.2 ?_
  by_cases h60 : 60 < zs.length
  · have t1 : decide ((60 : Int) < (zs.length : Int)) = true := decide_eq_true (by omega)
    go_wp2_with fail
    rw [hb2.out]
    refine HH.out.mono ?_
    rintro e w1 ⟨rfl, H1⟩
    have f2 : w1.frozen? ⟨b2, 0, none⟩ = false := frz_blk H1.blk
    have c2 : w1.cell? ⟨b2, 0, none⟩ = some (.bool false) := cell_blk H1.blk rfl
    have H2 := H1.set 0 (.bool true)
    have k2 : (w1.setCell ⟨b2, 0, none⟩ (.bool true)).cell? ⟨b2, 0, none⟩ = some (.bool true) := cell_blk H2.blk rfl
    replace H2 := Kp.mk H2
    clear HH H1
    go_wp2
    refine ⟨.bool true, ?_, rfl, H2.out.drop.old⟩
    rw [results_cell1 rfl]
    go_simp
  have t1 : decide ((60 : Int) < (zs.length : Int)) = false := decide_eq_false (by omega)
  have hl : zs.length ≤ 60 := by omega
  clear h60
  go_wp2_with fail
  rw [hb2.out]
  refine HH.out.mono ?_
  rintro e w1 ⟨rfl, H1⟩
  replace H1 := Kp.mk H1
  clear HH
  obtain ⟨g, hgg⟩ : ∃ g, Kp (w1.heap.size = g) := ⟨_, ⟨rfl⟩⟩
  have hmm := fun w => run_makeMap (P := Tryd.prog) 32 w
  have H3 := (((H1.out.alloc (.cells #[.slice none 0 0, .slice none 0 0] 31)).tabINil 9).alloc (.map #[] 0)).mapNil.alloc (.cells #[.map (some (g + 1))] 32)
  simp only [World.size_alloc, hgg.out] at H3
  replace H3 := Kp.mk H3
  clear H1
  obtain ⟨w3, hw3⟩ : ∃ w3, Kp (w3 = ((w1.alloc (.cells #[.slice none 0 0, .slice none 0 0] 31)).alloc (.map #[] 0)).alloc (.cells #[.map (some (g + 1))] 32)) := ⟨_, ⟨rfl⟩⟩
  rw [← hw3.out] at H3
  go_wp2
  rw [hgg.out]
  try rw [← hw3.out]
  clear hw3 hmm hgg
  obtain ⟨mb, hmb⟩ : ∃ x, g + 1 = x := ⟨_, rfl⟩
  rw [hmb] at H3 ⊢
  obtain ⟨b4, hb4⟩ : ∃ x, mb + 1 = x := ⟨_, rfl⟩
  rw [hb4] at H3 ⊢
  clear hmb hb4
  go_loopg [20] zs.length (fun gk v wr => ∃ (pos : Nat) (K : List Int) (V : List Value) (L : AL), v = .int .i64 pos ∧ pos ≤ zs.length ∧ Kp (gk + pos = zs.length) ∧ Kp (StepN pos K V L) ∧ Kp (Own w wr (Old w * Blk b2 (.cells #[.bool false] 4) * TabIH g 31 [] 9 K V * MapH mb L * Blk b4 (.cells #[.map (some mb)] 32))))
  case atStart => exact ⟨0, [], [], [], rfl, Nat.zero_le _, ⟨by omega⟩, ⟨stepN_nil⟩, H3⟩
  case round =>
    obtain ⟨pos, K, V, L, rfl, hpos, hgk, hst, HO⟩ := hrel
    by_cases hlt : pos < zs.length
    · obtain ⟨x, hx⟩ : ∃ x, zs[pos] = x := ⟨_, rfl⟩
      obtain ⟨Ak, ck, hk1, hk2⟩ := (gs.out.old (HO.out.eq (by rw [star_assoc, star_assoc, star_assoc]))).at_ pos hlt
      injection hk1 with q1 q2 q3
      subst q1 q3
      rw [show (zs.map (Value.int .i64)).getD pos undef = .int .i64 x by rw [List.getD_eq_getElem?_getD, List.getElem?_map, List.getElem?_eq_getElem hlt, hx]; rfl] at hk2
      clear hx
      have hsx := hst.out
      have hput := fun (wq : World) (h : Own w wq (Old w * Blk b2 (.cells #[.bool false] 4) * TabIH g 31 [] 9 K V * MapH mb L * Blk b4 (.cells #[.map (some mb)] 32))) => put_num (h.foc (TabIH g 31 [] 9 K V)) x [97] hsx.sorted (by have := hsx.most; omega) hsx.len hsx.one
      rw [show str [97] = (⟨#[97]⟩ : ByteArray) from rfl] at hput
      have hlook := fun (wq : World) (X : HP) (h : Own w wq (X * MapH mb L)) => h.look (P := Tryd.prog) (z := .bool false) Tryd.underlying32 Tryd.underlying3 (by kernel_rfl) x false
      have hseen := seen_get hsx.sorted hsx.seen x
      rw [hseen] at hlook
      have hstep := Kp.mk (stepN_next hsx x)
      obtain ⟨q, hq⟩ : ∃ q, hasI K x = q := ⟨_, rfl⟩
      rw [hq] at hput hlook
      have c4 : wr.cell? ⟨b4, 0, none⟩ = some (.map (some mb)) := cell_blk (HO.out.focB b4).blk rfl
      have l4 := hlook _ _ HO.out.rot
      have l4d := hlook _ _ HO.out.drew.rot
      have CA := Kp.mk (hput _ HO.out.drew)
      clear hput hsx hseen hq
      replace hlook := Kp.mk hlook
      have e1 : ((!q) == q) = false := by cases q <;> rfl
      have e2 : (q == !q) = false := by cases q <;> rfl
      have e3 : ¬ ((!q) = q) := by cases q <;> simp
      go_upto_region 10 with fail
      refine Go.wp_mono (Q := QN ?A0 (fun wx => Kp (Own w wx (Old w * Blk b2 (.cells #[.bool false] 4) * TabIH g 31 [] 9 (putI K x) (putW K V x (.string ⟨#[97]⟩)) * MapH mb L * Blk b4 (.cells #[.map (some mb)] 32))))) ?first ?rest
      case first =>
        go_region_law (go_simp; (go_at_call 15; (with_reducible refine CA.out.mono ?_); rintro e wq ⟨rfl, HQ⟩; have kq := cell_blk (j := 0) (v := .map (some mb)) (HQ.focB b4).blk rfl; have lq := hlook.out _ _ (HQ.foc (MapH mb L)); have HQ1 := Kp.mk HQ; clear HQ))
        all_goals
          refine And.intro ?_ ⟨HQ1.out.eq (by ac_rfl)⟩
          exact rfl
      case rest =>
        rintro (_ | _ | _ | _ | _ | _) act wx HQ
        all_goals first | (exact HQ.elim) | skip
        obtain ⟨rfl, HO2⟩ := HQ
        have k4 : wx.cell? ⟨b4, 0, none⟩ = some (.map (some mb)) := cell_blk (HO2.out.focB b4).blk rfl
        clear CA c4 l4 l4d hlook HO
        go_wp2_with (at_mapUpdate; go_must (refine own_mapSet rfl (.tmp 31) (.tmp 32) (.const (.bool true)) 32 rfl 3 4 Tryd.underlying32 Tryd.underlying3 rfl x rfl (.bool true) rfl (HO2.out.foc (MapH mb L)) ?_))
        intro w5 H5 hz5
        clear k4 HO2
        replace H5 := Kp.mk (H5.eq (by ac_rfl) : Own w w5 (Old w * Blk b2 (.cells #[.bool false] 4) * TabIH g 31 [] 9 (putI K x) (putW K V x (.string ⟨#[97]⟩)) * MapH mb (setA L x (.bool true)) * Blk b4 (.cells #[.map (some mb)] 32)))
        go_wp2
        go_roundg (zs.length - (pos + 1))
        case rel => exact ⟨pos + 1, _, _, _, by go_num, by omega, ⟨by omega⟩, hstep, H5⟩
        case measure => have := hgk.out; omega
    · obtain rfl : pos = zs.length := by omega
      have hsx := hst.out
      have hKl : K.length ≤ 60 := by have := hsx.most; omega
      have hLK : L.length = K.length := seen_len hsx.sorted hsx.seen hsx.keys
      clear hgk hlt hpos H3
      obtain ⟨vk, vv, HT⟩ := (HO.out.foc (TabIH g 31 [] 9 K V)).tabI
      obtain ⟨b7, hb7⟩ : ∃ b, Kp (wr.heap.size = b) := ⟨_, ⟨rfl⟩⟩
      have H5 := (HT.alloc (.cells #[.int .i64 0] 3)).alloc (.cells #[.int .i64 0] 3)
      simp only [World.size_alloc, hb7.out] at H5
      have HQ := Kp.mk (tab_All_num (g := g) H5)
      clear HO HT H5
      go_wp2_with fail
      rw [hb7.out]
      refine HQ.out.mono ?_
      rintro e w6 ⟨B, rfl, H6⟩
      clear HQ hb7
      obtain ⟨Y, hY⟩ : ∃ Y, Kp (Y = Old w * Blk b2 (.cells #[.bool false] 4) * MapH mb L * Blk b4 (.cells #[.map (some mb)] 32) * Row 3 1 vk K.length (IV K) * Row 9 1 vv K.length V * Blk g (.cells #[vk, vv] 31) * Blk B (.cells #[.pointer (some ⟨g, 0, none⟩)] 29)) := ⟨_, ⟨rfl⟩⟩
      obtain ⟨b8, hb8⟩ : ∃ x, b7 + 1 = x := ⟨_, rfl⟩
      rw [hb8] at H6 ⊢
      have H7 : Own w w6 (NI Y b7 b8 []) := by
        unfold NI
        rw [hY.out]
        exact H6.eq (by ac_rfl)
      clear H6 hb8
      replace H7 := Kp.mk H7
      have hsk := Kp.mk hsx
      clear hst hsx
      go_wp2
      refine (wpIn_wide (n := 9)).1 ?_
      refine wp_range rfl (by omega) (gf := 34) (lb := #[.pointer (some ⟨B, 0, none⟩)]) rfl trivial (enters_of Tryd.func34 (by kernel_rfl) rfl) (fun _ => rfl) (all1_num w _ (by omega) B g vk vv K V hsk.out.len (by omega))
        (fun pre => NI Y b7 b8 pre) (fun _ _ _ => False) ?start ?need ?a1 ?assign ?body ?done ?stop
      case start => exact H7.out
      case need =>
        intro G pre W H
        unfold NI at H
        rw [hY.out] at H
        exact ⟨cell_blk (H.focB B).blk rfl, cell_blk (H.focB g).blk rfl, cell_blk (H.focB g).blk rfl, (H.slR vk (by decide)), (H.slR vv (by decide))⟩
      case assign =>
        intro lp x W Kc hKc
        dsimp only [encNV]
        gi_wp2
        exact hKc
      case body =>
        intro G lp pre x W H hok
        obtain ⟨rest, hok⟩ := hok
        have hpl : pre.length < 60 := by
          have := congrArg List.length hok
          rw [List.length_zip, List.length_append, List.length_cons] at this
          omega
        obtain ⟨hmem, hlast⟩ := next_sorted hsk.out.sorted hsk.out.len hok
        replace H := H.drop
        have hlook : (Instr.lookup 32 (.map (some mb)) (.int .i64 x.1) false).run Tryd.prog W = .ok (.bool true) W := by
          have h := H
          unfold NI at h
          rw [hY.out] at h
          have h2 := (h.foc (MapH mb L)).look (P := Tryd.prog) (z := .bool false) Tryd.underlying32 Tryd.underlying3 (by kernel_rfl) x.1 false
          rw [seen_get hsk.out.sorted hsk.out.seen, hasI_mem K x.1 hsk.out.sorted, decide_eq_true hmem] at h2
          exact h2
        have c4 : W.cell? ⟨b4, 0, none⟩ = some (.map (some mb)) := by
          have h := H
          unfold NI at h
          rw [hY.out] at h
          exact cell_blk (h.focB b4).blk rfl
        have hn := Kp.mk (lastN_snoc pre x)
        have hn2 : Kp ((pre ++ [x]).length = pre.length + 1) := ⟨by simp⟩
        unfold NI at H
        have c7 : W.cell? ⟨b7, 0, none⟩ = some (.int .i64 (lastN pre)) := cell_blk (H.focB b7).blk rfl
        have c8 : W.cell? ⟨b8, 0, none⟩ = some (.int .i64 (pre.length : Nat)) := cell_blk (H.focB b8).blk rfl
        have f7 : W.frozen? ⟨b7, 0, none⟩ = false := frz_blk (H.focB b7).blk
        have f8 : W.frozen? ⟨b8, 0, none⟩ = false := frz_blk (H.focB b8).blk
        have H9 := (H.focB b7).set 0 (.int .i64 x.1)
        have c82 : (W.setCell ⟨b7, 0, none⟩ (.int .i64 x.1)).cell? ⟨b8, 0, none⟩ = some (.int .i64 (pre.length : Nat)) := cell_blk (H9.focB b8).blk rfl
        have f82 : (W.setCell ⟨b7, 0, none⟩ (.int .i64 x.1)).frozen? ⟨b8, 0, none⟩ = false := frz_blk (H9.focB b8).blk
        have H10 := (H9.focB b8).set 0 (.int .i64 ((pre.length : Int) + 1))
        have H11 : Kp (Own w ((W.setCell ⟨b7, 0, none⟩ (.int .i64 x.1)).setCell ⟨b8, 0, none⟩ (.int .i64 ((pre.length : Int) + 1))) (NI Y b7 b8 (pre ++ [x]) * G)) := ⟨by
          unfold NI
          rw [hn.out, hn2.out]
          refine H10.eq ?_
          show _ * Blk b7 (.cells #[.int .i64 x.1] 3) * Blk b8 (.cells #[.int .i64 ((pre.length : Int) + 1)] 3) = _
          ac_rfl⟩
        clear H H9 H10 hok hn hn2
        by_cases hp : pre = []
        · have z1 : decide ((0 : Int) < (pre.length : Int)) = false := decide_eq_false (by rw [hp]; simp)
          have z1' : ¬ 0 < pre.length := by rw [hp]; simp
          clear hp hlast hmem
          gi_wp2
          exact H11.out
        · have hl2 := hlast hp
          have z0 : 0 < pre.length := List.length_pos_iff.2 hp
          have z1 : decide ((0 : Int) < (pre.length : Int)) = true := decide_eq_true (by omega)
          have z2 : decide (x.1 ≤ lastN pre) = false := decide_eq_false (by omega)
          have z2' : ¬ x.1 ≤ lastN pre := by omega
          clear hp hlast hmem hl2
          gi_wp2
          exact H11.out
      case done =>
        intro D xs W hS H
        subst hS
        have hzl : (K.zip V).length = K.length := by rw [List.length_zip, hsk.out.len]; exact Nat.min_self _
        have c4 : W.cell? ⟨b4, 0, none⟩ = some (.map (some mb)) := by
          have h := H
          unfold NI at h
          rw [hY.out] at h
          exact cell_blk (h.focB b4).blk rfl
        have hml := by
          have h := H
          unfold NI at h
          rw [hY.out] at h
          exact (h.foc (MapH mb L)).mapLen (P := Tryd.prog) (ty := 3) Tryd.underlying32
        rw [hLK] at hml
        unfold NI at H
        rw [hzl] at H
        have c8 : W.cell? ⟨b8, 0, none⟩ = some (.int .i64 (K.length : Nat)) := cell_blk (H.focB b8).blk rfl
        rw [hY.out] at H
        have c2 : W.cell? ⟨b2, 0, none⟩ = some (.bool false) := cell_blk (H.focB b2).blk rfl
        have f2 : W.frozen? ⟨b2, 0, none⟩ = false := frz_blk (H.focB b2).blk
        have H9 := (H.focB b2).set 0 (.bool true)
        have k2 : (W.setCell ⟨b2, 0, none⟩ (.bool true)).cell? ⟨b2, 0, none⟩ = some (.bool true) := cell_blk H9.blk rfl
        have H10 := Kp.mk (H9.focB D)
        clear H H9
        go_wp2
        refine ⟨by simp, .inl ⟨_, _, rfl, run_takeDeferred H10.out.blk, ?_⟩⟩
        have h := H10.out.obj (.deferred none)
        have k5 : ((W.setCell ⟨b2, 0, none⟩ (.bool true)).putObj D (.deferred none)).cell? ⟨b2, 0, none⟩ = some (.bool true) := cell_blk (h.focB b2).blk rfl
        refine ⟨.bool true, ?_, rfl, (h.foc (Old w)).eq (star_comm _ _) |>.drop.old⟩
        rw [results_cell1 rfl]
        go_simp
      case stop =>
        rintro D k pre W ⟨_, _, _, h, ⟨_, _, _, _, hf, _⟩, _⟩
        exact hf.elim
theorem pathNumbers_walk (w : World) (va : Value) (zs : List Int) (_ : ∀ x ∈ zs, (Lit.int .i64 x).wf = true) (_ : zs.length * 8 ≤ 140737488351232) (gs : Sl w va 1 zs.length (zs.map (Value.int .i64))) (hm : ∃ m, w.cell? ⟨0, 0, none⟩ = some (.int .i64 m)) :
    Calls Tryd.prog 5 #[va] w fun e w' => e = .returned (.bool true) ∧ Below w.heap.size w w' := by
  obtain ⟨m, hm⟩ := hm
  exact pathNumbers_core w va zs gs m (maxL_of hm)
end Go.Proofs.YtllapldkcfhklaaDoorSep
