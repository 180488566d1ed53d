/- Own work: the law DepApart, at all inputs. -/
import Derived.Test.YtfhfinnjlihghaaDepH
import Derived.Test.YtfhfinnjlihghaaAndP
namespace Go.Proofs.YtfhfinnjlihghaaSep
open Go.RowKit Go.Lib Go.Proofs

set_option maxHeartbeats 1000000 in
theorem depApart_long (a b : List UInt8) (t : Int) (w : World) (h : a = b ∨ a ≠ b ∧ 50 < a.length ∨ a ≠ b ∧ a.length ≤ 50 ∧ 50 < b.length) :
    Calls Try.prog 4 #[.string (str a), .string (str b), .int .i64 t] w fun e w' => e = .returned (.bool true) ∧ Below w.heap.size w w' := by
  have hla : (str a).toList = a := ByteArray.toList_mk a
  have hlb : (str b).toList = b := ByteArray.toList_mk b
  have hsz : (str a).size = a.length := str_size a
  have hsz2 : (str b).size = b.length := str_size b
  have HH := Kp.mk (dep_head (own_start w))
  rcases h with h | ⟨h, h1⟩ | ⟨h, h1, h2⟩
  case' inl => subst h
  case' inr.inl =>
    have t0 : (a == b) = false := by simpa using h
    have t0' : decide (a = b) = false := decide_eq_false h
    have t1 : decide ((50 : Int) < ((str a).size : Int)) = true := decide_eq_true (by omega)
    have t1' : decide (50 < (str a).size) = true := decide_eq_true (by omega)
  case' inr.inr =>
    have t0 : (a == b) = false := by simpa using h
    have t0' : decide (a = b) = false := decide_eq_false h
    have t1 : decide ((50 : Int) < ((str a).size : Int)) = false := decide_eq_false (by omega)
    have t1' : decide (50 < (str a).size) = false := decide_eq_false (by omega)
    have t2 : decide ((50 : Int) < ((str b).size : Int)) = true := decide_eq_true (by omega)
    have t2' : decide (50 < (str b).size) = true := decide_eq_true (by omega)
  all_goals
    clear hsz hsz2
    go_enter Try.func4, Try.ntmps4
    go_wp2_with fail
    refine HH.out.mono ?_
    rintro e w1 ⟨rfl, H1⟩
    replace H1 := Kp.mk H1
    clear HH
    go_wp2
    go_ret
    exact ⟨rfl, H1.out.old⟩
theorem putM_same (m : List UInt8 → Int) (x : List UInt8) (i : Int) : putM m x i x = i := by rw [putM, if_pos rfl]
theorem putM_other (m : List UInt8 → Int) {x y : List UInt8} (i : Int) (h : y ≠ x) : putM m x i y = m y := by rw [putM, if_neg h]
theorem same_one {m : List UInt8 → Int} {a : List UInt8} (h : m a = 1) : SameOn [a] m (putM (fun _ => 0) a (((0 : Nat) : Int) + 1)) := by
  intro x hx
  rw [List.mem_singleton.1 hx, h, putM_same]
  rfl
theorem not_same {m m2 : List UInt8 → Int} {a : List UInt8} (h : SameOn [a] (putM m a 0) (putM m2 a (((0 : Nat) : Int) + 1))) : False := by
  have := h a (List.mem_singleton.2 rfl)
  rw [putM_same, putM_same] at this
  cases this
set_option maxHeartbeats 2000000 in
theorem depApart_core (a b : List UInt8) (t : Int) (w : World) (hne : a ≠ b) (ha : a.length ≤ 50) (hb : b.length ≤ 50) :
    Calls Try.prog 4 #[.string (str a), .string (str b), .int .i64 t] w fun e w' => e = .returned (.bool true) ∧ Below w.heap.size w w' := by
  have HH := Kp.mk (dep_head (own_start w))
  have hsz : (str a).size = a.length := str_size a
  have hsz2 : (str b).size = b.length := str_size b
  have hla : (str a).toList = a := ByteArray.toList_mk a
  have hlb : (str b).toList = b := ByteArray.toList_mk b
  have t0 : (a == b) = false := by simpa using hne
  have t0' : decide (a = b) = false := decide_eq_false hne
  have t1 : decide ((50 : Int) < ((str a).size : Int)) = false := decide_eq_false (by omega)
  have t1' : decide (50 < (str a).size) = false := decide_eq_false (by omega)
  have t2 : decide ((50 : Int) < ((str b).size : Int)) = false := decide_eq_false (by omega)
  have t2' : decide (50 < (str b).size) = false := decide_eq_false (by omega)
  obtain ⟨N, hN, hand⟩ := and_i64 t 31 (by decide)
  have hand : bits .and .i64 t 31 = (N : Int) := hand
  have hne := Kp.mk hne
  clear hsz hsz2 ha hb
  go_enter Try.func4, Try.ntmps4
  go_wp2_with fail
  refine HH.out.mono ?_
  rintro e w1 ⟨rfl, H1⟩
  clear HH
  have HT := Kp.mk (ver_Turn (last := 0) (H1.alloc (.cells #[.slice none 0 0, .slice none 0 0, .int .i64 0] 29)).verNil a (by decide) (by decide))
  obtain ⟨g, hg⟩ : ∃ g, Kp (w1.heap.size = g) := ⟨_, ⟨rfl⟩⟩
  rw [hg.out] at HT
  clear H1
  go_wp2_with fail
  rw [hg.out]
  refine HT.out.mono ?_
  rintro e w2 ⟨rfl, H2⟩
  clear HT
  have HP := Kp.mk (put_one ((H2.alloc (.cells #[.slice none 0 0, .slice none 0 0] 34)).tabNil 4) a true)
  clear H2
  obtain ⟨gr, hgr⟩ : ∃ g, Kp (w2.heap.size = g) := ⟨_, ⟨rfl⟩⟩
  rw [hgr.out] at HP
  go_wp2_with fail
  rw [hgr.out]
  refine HP.out.mono ?_
  rintro e w3 ⟨rfl, H3⟩
  clear HP hgr hg
  have HN := Kp.mk (ver_Note H3 (by decide) (sorted_one _) (by simp) rfl)
  clear H3
  go_wp2_with fail
  refine HN.out.mono ?_
  rintro e w4 ⟨go, rfl, H4⟩
  clear HN
  replace H4 := Kp.mk H4.rot.drop
  go_wp2
  go_loopg [10] N (fun gk v wr => ∃ (k : Nat) (m : List UInt8 → Int), v = .int .i64 k ∧ k ≤ N ∧ Kp (gk + k = N) ∧ Kp (m a = 1) ∧ Kp (Own w wr (Old w * VerM g m ((k + 1 : Nat) : Int) (k + 1) * RecM go [a] (putM (fun _ => 0) a (((0 : Nat) : Int) + 1)))))
  case atStart => exact ⟨0, _, rfl, Nat.zero_le _, ⟨by omega⟩, ⟨putM_same _ _ _⟩, H4⟩
  case round =>
    clear H4
    obtain ⟨k, m, rfl, hk, hgk, hma, HO⟩ := hrel
    by_cases hlt : k < N
    · have HT := Kp.mk (ver_Turn (last := k + 1) HO.out.rot b (by omega) (by omega))
      obtain ⟨j, hj3, hj⟩ := and_i64 (k : Int) 3 (by decide)
      have hj : bits .and .i64 (k : Int) 3 = (j : Int) := hj
      clear HO
      go_wp2_with fail
      refine HT.out.mono ?_
      rintro e w5 ⟨rfl, H5⟩
      clear HT
      have hm5 : Kp (putM m b (((k + 1 : Nat) : Int) + 1) a = 1) := ⟨(putM_other _ _ hne.out).trans hma.out⟩
      rcases hd : decide (j = 3) with _ | _
      case' false =>
        have hd1 : j ≠ 3 := of_decide_eq_false hd
        have hd2 : decide ((j : Int) = 3) = false := decide_eq_false (by omega)
        replace hd : Kp (decide (j = 3) = false) := ⟨hd⟩
        obtain ⟨m6, hm6, H6⟩ : ∃ m6 : List UInt8 → Int, m6 a = 1 ∧ Own w w5 (Old w * VerM g m6 ((k + 1 + 1 : Nat) : Int) (k + 1 + 1) * RecM go [a] (putM (fun _ => 0) a (((0 : Nat) : Int) + 1))) := ⟨_, hm5.out, H5.rot⟩
        have hm6 := Kp.mk hm6
        clear H5 hm5
        have HF := Kp.mk (ver_Fresh H6 (by omega) (by simp))
        clear H6
        go_wp2_with fail
      case' true =>
        obtain rfl : j = 3 := of_decide_eq_true hd
        clear hd
        have HD := Kp.mk (ver_Drop H5 b (by omega))
        clear H5
        go_wp2_with fail
        refine HD.out.mono ?_
        rintro e w6 ⟨rfl, H6⟩
        clear HD
        have hm6 : Kp (putM (putM m b (((k + 1 : Nat) : Int) + 1)) b 0 a = 1) := ⟨(putM_other _ _ hne.out).trans hm5.out⟩
        obtain ⟨m6, hm6, H6⟩ : ∃ m6 : List UInt8 → Int, m6 a = 1 ∧ Own w w6 (Old w * VerM g m6 ((k + 1 + 1 : Nat) : Int) (k + 1 + 1) * RecM go [a] (putM (fun _ => 0) a (((0 : Nat) : Int) + 1))) := ⟨_, hm6.out, H6.rot⟩
        have hm6 := Kp.mk hm6
        clear hm5
        have HF := Kp.mk (ver_Fresh H6 (by omega) (by simp))
        clear H6
        go_wp2_with fail
      all_goals
        refine HF.out.mono ?_
        rintro e w7 ⟨r, rfl, hr, H7⟩
        clear HF
        obtain rfl : r = true := hr.2 (same_one hm6.out)
        replace H7 := Kp.mk H7
        clear hr
        go_wp2
        go_roundg (N - (k + 1))
        case rel => exact ⟨k + 1, m6, by go_num, by omega, ⟨by omega⟩, hm6, H7⟩
        case measure => have := hgk.out; omega
    · obtain rfl : k = N := by omega
      have HD := Kp.mk (ver_Drop HO.out.rot a (by omega))
      clear HO hgk hlt
      go_wp2_with fail
      refine HD.out.mono ?_
      rintro e w6 ⟨rfl, H6⟩
      clear HD
      have HF := Kp.mk (ver_Fresh H6.rot (by omega) (by simp))
      clear H6
      go_wp2_with fail
      refine HF.out.mono ?_
      rintro e w7 ⟨r, rfl, hr, H7⟩
      clear HF
      obtain rfl : r = false := by
        rcases r with _ | _
        · rfl
        · exact (not_same (hr.1 rfl)).elim
      clear hr
      replace H7 := Kp.mk H7
      go_wp2
      go_ret
      exact ⟨rfl, H7.out.drop.drop.old⟩
theorem depApart_walk (a : ByteArray) (_ : a.size ≤ 140737488351232) (b : ByteArray) (_ : b.size ≤ 140737488351232) (t : Int) (_ : (Lit.int .i64 t).wf = true) (w : World) :
    Calls Try.prog 4 #[.string a, .string b, .int .i64 t] w fun e w' => e = .returned (.bool true) ∧ Below w.heap.size w w' := by
  have h : Calls Try.prog 4 #[.string (str a.data.toList), .string (str b.data.toList), .int .i64 t] w fun e w' => e = .returned (.bool true) ∧ Below w.heap.size w w' := by
    generalize a.data.toList = a
    generalize b.data.toList = b
    by_cases h0 : a = b
    · exact depApart_long a b t w (.inl h0)
    by_cases h1 : a.length ≤ 50
    · by_cases h2 : b.length ≤ 50
      · exact depApart_core a b t w h0 h1 h2
      · exact depApart_long a b t w (.inr (.inr ⟨h0, h1, by omega⟩))
    · exact depApart_long a b t w (.inr (.inl ⟨h0, by omega⟩))
  rwa [str_of, str_of] at h
end Go.Proofs.YtfhfinnjlihghaaSep
