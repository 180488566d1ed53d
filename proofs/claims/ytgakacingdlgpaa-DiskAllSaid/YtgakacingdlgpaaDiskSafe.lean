/- Own work: the law DiskSafe, at all inputs. -/
import Derived.Test.YtgakacingdlgpaaDiskK
namespace Go.Proofs.YtgakacingdlgpaaSep
open Go.RowKit Go.Lib Go.Proofs Go.Shelf

/-- The cells of an element, as the walk spells their places. -/
theorem Sl.elem {w : World} {v : Value} {sz n : Nat} {cs : List Value} (h : Sl w v sz n cs) (i : Nat) (hi : i < n) : ∃ ad c, v = .slice (some ad) n c ∧
    (∀ u, cs[i * sz]? = some u → w.cell? (ad.add (i * sz)) = some u) ∧ ∀ j u, cs[i * sz + (j + 1)]? = some u → w.cell? ⟨(ad.add (i * sz)).block, (ad.add (i * sz)).off + (j + 1), none⟩ = some u := by
  obtain ⟨hl, A, c, rfl, h1, h2, _, h3⟩ := h
  obtain ⟨ad, rfl, hc⟩ := h3 (by omega)
  refine ⟨ad, c, rfl, fun u hu => hc _ u hu, fun j u hu => ?_⟩
  have := hc _ u hu
  rw [← Addr.add_add, Addr.add_succ'] at this
  exact this
def nO : List UInt8 := [111, 119, 110]
structure SafeOk (a : List UInt8) (i : Nat) (s : Dk) : Prop where
  safe : getA s.safe nO = some a
  keys : KeysA s.safe
  wait : ∀ c ∈ s.wait, c.name ≠ nO ∧ c.dst ≠ nO
  work : s.work ≤ i + 2
  len : s.wait.length ≤ i
theorem act_other {c : Chg} {F : FL} (hF : KeysA F) (h : c.name ≠ nO ∧ c.dst ≠ nO) : getA (c.act F) nO = getA F nO := by
  unfold Chg.act
  split
  · rw [getA_set, if_neg h.1]
  · split
    · rw [getA_del _ _ _ (keysA_set hF _ _), if_neg h.1, getA_set, if_neg h.2]
    · rw [getA_del _ _ _ hF, if_neg h.1]
theorem now_other : ∀ (ws : List Chg) (F : FL), KeysA F → (∀ c ∈ ws, c.name ≠ nO ∧ c.dst ≠ nO) → getA (nowF F ws) nO = getA F nO
  | [], _, _, _ => rfl
  | c :: ws, F, hF, h => by
    show getA (nowF (c.act F) ws) nO = _
    rw [now_other ws _ (act_keys hF) (fun c hc => h c (List.mem_cons_of_mem _ hc)), act_other hF (h c (List.mem_cons_self ..))]
theorem nil_ne : ([] : List UInt8) ≠ nO := by decide
section
variable {a : List UInt8} {i : Nat} {s : Dk}
theorem SafeOk.more (h : SafeOk a i s) : SafeOk a (i + 1) s := ⟨h.safe, h.keys, h.wait, by have := h.work; omega, by have := h.len; omega⟩
theorem SafeOk.take (h : SafeOk a i s) {c : Chg} (hc : c.name ≠ nO ∧ c.dst ≠ nO) : SafeOk a (i + 1) (s.take c) where
  safe := h.safe
  keys := h.keys
  wait x hx := by
    rcases List.mem_append.1 hx with hx | hx
    · exact h.wait x hx
    · rw [List.mem_singleton.1 hx]; exact hc
  work := by have := h.work; show s.work + 1 ≤ _; omega
  len := by have := h.len; show (s.wait ++ [c]).length ≤ _; rw [List.length_append]; simp; omega
theorem SafeOk.wr (h : SafeOk a i s) {n b : List UInt8} (hn : n ≠ nO) : SafeOk a (i + 1) (s.wr n b) := by
  unfold Dk.wr
  split
  · exact h.take ⟨hn, nil_ne⟩
  · exact h.more
theorem SafeOk.dr (h : SafeOk a i s) {n : List UInt8} (hn : n ≠ nO) : SafeOk a (i + 1) (s.dr n) := by
  unfold Dk.dr
  split
  · exact h.take ⟨hn, nil_ne⟩
  · exact h.more
theorem SafeOk.mv (h : SafeOk a i s) {n t : List UInt8} (hn : n ≠ nO) (ht : t ≠ nO) : SafeOk a (i + 1) (s.mv n t) := by
  unfold Dk.mv
  split
  · split
    · exact ⟨h.safe, h.keys, h.wait, by have := h.work; show s.work + 1 ≤ _; omega, by have := h.len; show s.wait.length ≤ _; omega⟩
    · exact h.take ⟨hn, ht⟩
  · exact h.more
theorem SafeOk.crash (h : SafeOk a i s) (k t : Int) : drE (s.crash k t) nO = 0 ∧ rdC (s.crash k t) nO = a := by
  have hk : ∀ j, getA (nowF s.safe (s.wait.take j)) nO = some a := fun j => by
    rw [now_other _ _ h.keys (fun c hc => h.wait c (List.mem_of_mem_take hc)), h.safe]
  have hg : getA (s.crash k t).now nO = some a := by
    show getA (crashF s k t) nO = some a
    unfold crashF
    dsimp only
    split
    · exact hk _
    · rename_i c hc
      split
      · rw [act_other (c := { c with b := c.b.take t.toNat }) (nowF_keys _ _ h.keys) (h.wait c (List.mem_of_getElem? hc)), hk]
      · exact hk _
  have hn : namedF nO = true := by decide
  constructor
  · rw [drE, hn, hg]; rfl
  · rw [rdC, hn, hg]; rfl
end
def sf2 (a : List UInt8) : Dk := ⟨1048576, [(nO, a)], [], 2⟩
theorem sf_1 (a : List UInt8) (h : a.length ≤ 300) : ((⟨1048576, [], [], 0⟩ : Dk).wr nO a).sync = sf2 a ∧ ((⟨1048576, [], [], 0⟩ : Dk).wr nO a).work ≤ 1 ∧ wrE ⟨1048576, [], [], 0⟩ nO a = 0 := by
  have h1 : tot (⟨1048576, [], [], 0⟩ : Dk).now + a.length ≤ (⟨1048576, [], [], 0⟩ : Dk).room := by
    show 0 + a.length ≤ 1048576
    omega
  have h2 : (⟨1048576, [], [], 0⟩ : Dk).wr nO a = ⟨1048576, [], [⟨0, nO, [], a⟩], 1⟩ := by
    unfold Dk.wr wrOk
    rw [decide_eq_true h1]
    rfl
  rw [h2]
  refine ⟨?_, Nat.le_refl 1, ?_⟩
  · show (⟨1048576, [(nO, [] ++ a)], [], 2⟩ : Dk) = _
    rw [List.nil_append]
    rfl
  · unfold wrE
    rw [if_pos h1]
    rfl
theorem sf_ok (a : List UInt8) : SafeOk a 0 (sf2 a) := ⟨rfl, List.pairwise_singleton _ _, fun _ h => absurd h (List.not_mem_nil), Nat.le_refl _, Nat.le_refl _⟩
set_option maxHeartbeats 16000000 in
set_option maxRecDepth 100000 in
theorem diskSafe_core (w : World) (va : Value) (a : List UInt8) (ga : Sl w va 1 a.length (U a)) (vo : Value) (L : List OpM) (gL : Sl w vo 6 L.length (L.flatMap OpM.cells)) (gB : ∀ o ∈ L, Sl w o.bv 1 o.b.length (U o.b)) (k t : Int) (ha : a.length ≤ 300) :
    Calls Try.prog 5 #[va, vo, .int .i64 k, .int .i64 t] w fun e w' => e = .returned (.bool true) ∧ Below w.heap.size w w' := by
  have HH := Kp.mk (disk_head (own_start w))
  have hGa : Kp (Held w (Old w) va 1 a.length (U a)) := ⟨ga.held⟩
  have hGL : Kp (Held w (Old w) vo 6 L.length (L.flatMap OpM.cells)) := ⟨gL.held⟩
  have hGB : Kp (∀ o ∈ L, Held w (Old w) o.bv 1 o.b.length (U o.b)) := ⟨fun o ho => (gB o ho).held⟩
  obtain ⟨_, Aa, ca, rfl, _⟩ := ga
  obtain ⟨_, Ao, co, rfl, _⟩ := gL
  clear gB
  have t1 : decide ((300 : Int) < (a.length : Int)) = false := decide_eq_false (by omega)
  have t1' : decide (300 < a.length) = false := decide_eq_false (by omega)
  go_enter Try.func5, Try.ntmps5
  go_wp2_with fail
  refine HH.out.mono ?_
  rintro e w1 ⟨rfl, H1⟩
  clear HH
  have hN := Kp.mk (disk_New H1 1048576 (by decide) (by decide))
  clear H1
  go_wp2_with fail
  refine hN.out.mono ?_
  rintro e w2 ⟨g, rfl, H2⟩
  clear hN
  obtain ⟨f1, f2, f3⟩ := sf_1 a ha
  have hW := disk_Write (n := nO) (b := a) H2 hGa.out.more (by omega) (Nat.zero_le _) (Nat.zero_le _)
  rw [f3] at hW
  have hW := Kp.mk hW
  clear H2
  go_wp2_with fail
  refine hW.out.mono ?_
  rintro e w3 ⟨rfl, H3⟩
  clear hW
  have hS := disk_Sync H3 (Nat.le_trans f2 (by decide))
  rw [f1] at hS
  have hS := Kp.mk hS
  clear H3 f1 f2 f3
  go_wp2_with fail
  refine hS.out.mono ?_
  rintro e w4 ⟨rfl, H4⟩
  clear hS ha
  replace H4 := Kp.mk H4
  obtain ⟨M, hM⟩ : ∃ M, Kp (min L.length 20 = M) := ⟨_, ⟨rfl⟩⟩
  go_wp2
  go_loopg [10] M (fun gk v wr => ∃ (i : Nat) (s : Dk), v = .int .i64 i ∧ i ≤ M ∧ Kp (gk + i = M) ∧ Kp (SafeOk a i s) ∧ Kp (Own w wr (Old w * DskH g s)))
  case atStart => exact ⟨0, _, rfl, Nat.zero_le _, ⟨by omega⟩, ⟨sf_ok a⟩, H4⟩
  case round =>
    obtain ⟨i, s, rfl, hi, hgk, hs, HO⟩ := hrel
    clear H4
    by_cases hlt : i < M
    · have hiL : i < L.length := by have := hM.out; omega
      have hi20 : i < 20 := by have := hM.out; omega
      obtain ⟨o, ho⟩ : ∃ o, L[i]? = some o := ⟨_, List.getElem?_eq_getElem hiL⟩
      have hmem := List.mem_of_getElem? ho
      have hB := hGB.out o hmem
      obtain ⟨ad, cx, ea, q0, qs⟩ := (hGL.out.sl HO.out.drop).elem i hiL
      injection ea with ea eb ec
      subst ea ec
      clear eb
      have hfl := fun j (hj : j < 6) => flat_get OpM.cells 6 (by decide) L (fun a _ => rfl) i j o ho hj
      obtain ⟨K, nm, ds, bv, bb, N, T⟩ := o
      replace q0 := q0 _ (hfl 0 (by decide))
      have q1 := qs 0 _ (hfl 1 (by decide))
      have q2 := qs 1 _ (hfl 2 (by decide))
      have q3 := qs 2 _ (hfl 3 (by decide))
      have q4 := qs 3 _ (hfl 4 (by decide))
      have q5 := qs 4 _ (hfl 5 (by decide))
      dsimp only at hB
      obtain ⟨_, Ab, cb, hbv, _⟩ := hB.sl HO.out.drop
      subst hbv
      have t2 : decide ((i : Int) < (L.length : Int)) = true := decide_eq_true (by omega)
      have t2' : decide (i < L.length) = true := decide_eq_true (by omega)
      have t3 : decide ((i : Int) < 20) = true := decide_eq_true (by omega)
      have t3' : decide (i < 20) = true := decide_eq_true hi20
      clear hfl qs hmem ho
      replace hB := Kp.mk hB
      have hsn : (str nm).size = nm.length := str_size nm
      have hsd : (str ds).size = ds.length := str_size ds
      have hln : (str nm).toList = nm := ByteArray.toList_mk nm
      have hld : (str ds).toList = ds := ByteArray.toList_mk ds
      have hlo : ({ data := #[111, 119, 110] } : ByteArray).toList = nO := ByteArray.toList_mk nO
      have hskip : Kp (∀ wx, Own w wx (Old w * DskH g s) → Own w wx (Old w * DskH g s)) := ⟨fun _ h => h⟩
      have HA := Kp.mk (HO.out.box (.cells #[.int .i64 K, .string (str nm), .string (str ds), .slice Ab bb.length cb, .int .i64 N, .int .i64 T] 37))
      have hmore := Kp.mk hs.out.more
      by_cases b1 : 300 < bb.length
      case' pos => have r1 : decide ((300 : Int) < (bb.length : Int)) = true := decide_eq_true (by omega)
      case' neg =>
        have r1 : decide ((300 : Int) < (bb.length : Int)) = false := decide_eq_false (by omega)
        by_cases b2 : 100 < nm.length
        case' pos => have r2 : decide ((100 : Int) < (nm.length : Int)) = true := decide_eq_true (by omega)
        case' neg =>
          have r2 : decide ((100 : Int) < (nm.length : Int)) = false := decide_eq_false (by omega)
          by_cases b3 : 100 < ds.length
          case' pos => have r3 : decide ((100 : Int) < (ds.length : Int)) = true := decide_eq_true (by omega)
          case' neg =>
            have r3 : decide ((100 : Int) < (ds.length : Int)) = false := decide_eq_false (by omega)
            by_cases b4 : nm = nO
            case' pos => have r4 : (nm == nO) = true := by simpa using b4
            case' neg =>
              have r4 : (nm == nO) = false := by simpa using b4
              by_cases b5 : ds = nO
              case' pos => have r5 : (ds == nO) = true := by simpa using b5
              case' neg =>
                have r5 : (ds == nO) = false := by simpa using b5
                have hrun := Kp.mk b4
                have hb1 : Kp (bb.length ≤ 16777216) := ⟨by omega⟩
                have hrun5 := Kp.mk b5
      all_goals
        clear hskip
        try clear b4
        try clear b5
        try clear b3
        try clear b2
        clear b1
      all_goals try (
        fail_if_success (have hq := hrun.out)
        go_wp2
        go_roundg (M - (i + 1))
        case rel => exact ⟨i + 1, s, by go_num, by omega, ⟨by omega⟩, hmore, HA⟩
        case measure => have := hgk.out; omega)
      have hk4 : K = 0 ∨ K = 1 ∨ K = 2 ∨ (K ≠ 0 ∧ K ≠ 1 ∧ K ≠ 2) := by omega
      rcases hk4 with rfl | rfl | rfl | ⟨k0, k1, k2⟩
      · have hW := Kp.mk (disk_Write (n := nm) (b := bb) HA.out hB.out.more hb1.out (by have := hs.out.work; omega) (by have := hs.out.len; omega))
        have hnx := Kp.mk (hs.out.wr (n := nm) (b := bb) hrun.out)
        clear HA hs hmore
        go_wp2_with fail
        refine hW.out.mono ?_
        rintro e w6 ⟨rfl, H6⟩
        replace H6 := Kp.mk H6
        clear hW
        go_wp2
        go_roundg (M - (i + 1))
        case rel => exact ⟨i + 1, _, by go_num, by omega, ⟨by omega⟩, hnx, H6⟩
        case measure => have := hgk.out; omega
      · have hW := Kp.mk (disk_Move (n := nm) (t := ds) HA.out (by have := hs.out.work; omega) (by have := hs.out.len; omega))
        have hnx := Kp.mk (hs.out.mv (n := nm) (t := ds) hrun.out hrun5.out)
        clear HA hs hmore
        go_wp2_with fail
        refine hW.out.mono ?_
        rintro e w6 ⟨rfl, H6⟩
        replace H6 := Kp.mk H6
        clear hW
        go_wp2
        go_roundg (M - (i + 1))
        case rel => exact ⟨i + 1, _, by go_num, by omega, ⟨by omega⟩, hnx, H6⟩
        case measure => have := hgk.out; omega
      · have hW := Kp.mk (disk_Drop (n := nm) HA.out (by have := hs.out.work; omega) (by have := hs.out.len; omega))
        have hnx := Kp.mk (hs.out.dr (n := nm) hrun.out)
        clear HA hs hmore
        go_wp2_with fail
        refine hW.out.mono ?_
        rintro e w6 ⟨rfl, H6⟩
        replace H6 := Kp.mk H6
        clear hW
        go_wp2
        go_roundg (M - (i + 1))
        case rel => exact ⟨i + 1, _, by go_num, by omega, ⟨by omega⟩, hnx, H6⟩
        case measure => have := hgk.out; omega
      · have e0 : (K == 0) = false := by simpa using k0
        have e1 : (K == 1) = false := by simpa using k1
        have e2 : (K == 2) = false := by simpa using k2
        clear k0 k1 k2
        go_wp2
        go_roundg (M - (i + 1))
        case rel => exact ⟨i + 1, s, by go_num, by omega, ⟨by omega⟩, hmore, HA⟩
        case measure => have := hgk.out; omega
    · obtain ⟨f1, f2⟩ := hs.out.crash k t
      have hC := Kp.mk (disk_Crash HO.out k t (by have := hs.out.len; have := hM.out; omega))
      have hcase : L.length ≤ i ∨ i < L.length ∧ 20 ≤ i := by have := hM.out; omega
      clear hlt
      rcases hcase with h7 | ⟨h7, h8⟩
      case' inl =>
        have t2 : decide ((i : Int) < (L.length : Int)) = false := decide_eq_false (by omega)
      case' inr =>
        have t2 : decide ((i : Int) < (L.length : Int)) = true := decide_eq_true (by omega)
        have t3 : decide ((i : Int) < 20) = false := decide_eq_false (by omega)
      all_goals
        generalize s.crash k t = sc at f1 f2 hC
        replace f1 := Kp.mk f1
        replace f2 := Kp.mk f2
        clear HO hs hgk
        go_wp2_with fail
        refine hC.out.mono ?_
        rintro e w6 ⟨rfl, H6⟩
        clear hC
        have hR := disk_Read (n := nO) H6
        rw [f1.out, f2.out] at hR
        replace hR := Kp.mk hR
        clear H6
        go_wp2_with fail
        refine hR.out.mono ?_
        rintro e w7 ⟨v, rfl, H7⟩
        clear hR
        obtain ⟨_, A, c, hv, _⟩ := H7.sl (by decide)
        subst hv
        have hcv := run_str (P := Try.prog) Try.underlying28 Try.underlying5 Try.underlying9 (H7.sl (by decide))
        have hca := run_str (P := Try.prog) Try.underlying28 Try.underlying5 Try.underlying9 (hGa.out.sl H7.drop.drop)
        have H8 := Kp.mk H7.drop.drop
        clear H7
        go_wp2
        go_ret
        exact ⟨by simp, H8.out.old⟩
set_option maxHeartbeats 2000000 in
set_option maxRecDepth 100000 in
theorem diskSafe_long (w : World) (va : Value) (a : List UInt8) (ga : Sl w va 1 a.length (U a)) (vo : Value) (k t : Int) (ha : 300 < a.length) :
    Calls Try.prog 5 #[va, vo, .int .i64 k, .int .i64 t] w fun e w' => e = .returned (.bool true) ∧ Below w.heap.size w w' := by
  have HH := Kp.mk (disk_head (own_start w))
  obtain ⟨_, Aa, ca, rfl, _⟩ := ga
  have t1 : decide ((300 : Int) < (a.length : Int)) = true := decide_eq_true (by omega)
  have t1' : decide (300 < a.length) = true := decide_eq_true (by omega)
  go_enter Try.func5, Try.ntmps5
  go_wp2_with fail
  refine HH.out.mono ?_
  rintro e w1 ⟨rfl, H1⟩
  replace H1 := Kp.mk H1
  clear HH
  go_wp2
  go_ret
  exact ⟨rfl, H1.out.old⟩
theorem diskSafe_walk (w : World) (va : Value) (a : List UInt8) (_ : a.length ≤ 140737488351232) (ga : Sl w va 1 a.length (U a)) (vo : Value) (L : List OpM) (gL : Sl w vo 6 L.length (L.flatMap OpM.cells)) (gB : ∀ o ∈ L, Sl w o.bv 1 o.b.length (U o.b)) (k : Int) (_ : (Lit.int .i64 k).wf = true) (t : Int) (_ : (Lit.int .i64 t).wf = true) :
    Calls Try.prog 5 #[va, vo, .int .i64 k, .int .i64 t] w fun e w' => e = .returned (.bool true) ∧ Below w.heap.size w w' := by
  by_cases ha : a.length ≤ 300
  · exact diskSafe_core w va a ga vo L gL gB k t ha
  · exact diskSafe_long w va a ga vo k t (by omega)
end Go.Proofs.YtgakacingdlgpaaSep
