/- Own work: the law's stack of elements, by a walk. -/
import Derived.Test.YtbijlkbfndkdcaaDoorOpD
import Derived.Test.YtbijlkbfndkdcaaDoorRow
namespace Go.Proofs.YtbijlkbfndkdcaaDoorSep
open Go.RowKit Go.Lib Go.Proofs
instance hp_assoc : Std.Associative (α := HP) (· * ·) := ⟨star_assoc⟩
instance hp_comm : Std.Commutative (α := HP) (· * ·) := ⟨star_comm⟩
theorem dom_Add {W0 w : World} {R : HP} {d : Nat} {A : Option Addr} {c : Nat} {L : List NodeM} (H : Own W0 w (R * Row 65 10 (.slice A L.length c) L.length (nodesC L) * Blk d (docO (.slice A L.length c)))) (hL : L.length ≤ 1000) (sp : Int) (n : List UInt8) :
    Calls Tryd.prog 28 #[.pointer (some ⟨d, 0, none⟩), .agg #[.int .i64 2, .int .i64 sp, .string (str n), .string ⟨#[]⟩, .slice none 0 0, .string ⟨#[]⟩, .string ⟨#[]⟩, .int .i64 0, .slice none 0 0, .int .i64 0]] w (AddEnd W0 R d L (addF L sp n)) := by
  by_cases h : sp = 0 ∧ n = tplT
  · obtain ⟨rfl, rfl⟩ := h
    rw [addF, if_pos ⟨rfl, rfl⟩]
    exact dom_Add2 H hL
  · rw [addF, if_neg h]
    exact dom_Add1 H hL sp n h
/-- The space of a name, as the law has it. -/
def spF (s : Int) : Int := (bits .and .i64 s 3).tmod 3
/-- A stack of elements, by their names and spaces: the nodes, and the numbers of the elements. -/
def madeF : List (List UInt8 × Int) → List NodeM × List Nat
  | L => L.foldl (fun (p : List NodeM × List Nat) x => (addF p.1 (spF x.2) x.1, p.2 ++ [p.1.length])) ([pageN], [])
theorem madeF_snoc (L : List (List UInt8 × Int)) (x : List UInt8 × Int) : madeF (L ++ [x]) = (addF (madeF L).1 (spF x.2) x.1, (madeF L).2 ++ [(madeF L).1.length]) := by
  rw [madeF, madeF, List.foldl_append]
  rfl
theorem snoc_ind {α : Type} {P : List α → Prop} (h0 : P []) (h1 : ∀ L x, P L → P (L ++ [x])) : ∀ L, P L := by
  have : ∀ R : List α, P R.reverse := by
    intro R
    induction R with
    | nil => exact h0
    | cons x R ih => rw [List.reverse_cons]; exact h1 _ x ih
  intro L
  have h := this L.reverse
  rwa [List.reverse_reverse] at h
theorem addF_len (L : List NodeM) (sp : Int) (n : List UInt8) : L.length + 1 ≤ (addF L sp n).length ∧ (addF L sp n).length ≤ L.length + 2 := by
  rw [addF]
  split <;> simp
theorem madeF_len (L : List (List UInt8 × Int)) : (madeF L).1.length ≤ 2 * L.length + 1 ∧ (madeF L).2.length = L.length := by
  refine snoc_ind (P := fun L => (madeF L).1.length ≤ 2 * L.length + 1 ∧ (madeF L).2.length = L.length) ⟨Nat.le_refl _, rfl⟩ (fun L x ih => ?_) L
  rw [madeF_snoc]
  have h := addF_len (madeF L).1 (spF x.2) x.1
  simp only [List.length_append, List.length_singleton]
  omega
/-- The law's names, as cells. -/
def namesC (L : List (List UInt8 × Int)) : List Value := L.flatMap fun x => [.string (str x.1), .int .i64 x.2]
theorem namesC_get : ∀ (L : List (List UInt8 × Int)) (i : Nat) (n : List UInt8) (sp : Int), L[i]? = some (n, sp) → (namesC L)[i * 2]? = some (.string (str n)) ∧ (namesC L)[i * 2 + (0 + 1)]? = some (.int .i64 sp)
  | [], i, n, sp, h => by simp at h
  | x :: L, 0, n, sp, h => by
    simp only [List.getElem?_cons_zero, Option.some.injEq] at h
    subst h
    exact ⟨rfl, rfl⟩
  | x :: L, i + 1, n, sp, h => by
    rw [List.getElem?_cons_succ] at h
    have := namesC_get L i n sp h
    have e : namesC (x :: L) = .string (str x.1) :: .int .i64 x.2 :: namesC L := rfl
    rw [e, show (i + 1) * 2 = i * 2 + 1 + 1 by omega, show i * 2 + 1 + 1 + (0 + 1) = i * 2 + (0 + 1) + 1 + 1 by omega, List.getElem?_cons_succ, List.getElem?_cons_succ, List.getElem?_cons_succ, List.getElem?_cons_succ]
    exact this
theorem Sl.elem {w : World} {v : Value} {sz n : Nat} {cs : List Value} (h : Sl w v sz n cs) (i : Nat) (hi : i < n) : ∃ ad c, v = .slice (some ad) n c ∧
    (∀ u, cs[i * sz]? = some u → w.cell? (ad.add (i * sz)) = some u) ∧ ∀ j u, cs[i * sz + (j + 1)]? = some u → w.cell? ⟨(ad.add (i * sz)).block, (ad.add (i * sz)).off + (j + 1), none⟩ = some u := by
  obtain ⟨hl, A, c, rfl, h1, h2, _, h3⟩ := h
  obtain ⟨ad, rfl, hc⟩ := h3 (by omega)
  refine ⟨ad, c, rfl, fun u hu => hc _ u hu, fun j u hu => ?_⟩
  have := hc _ u hu
  rw [← Addr.add_add, Addr.add_succ'] at this
  exact this
def MadeH (R : HP) (s d : Nat) (L : List (List UInt8 × Int)) : HP → Prop := fun X => ∃ A c A2 c2, X = R * Row 65 10 (.slice A (madeF L).1.length c) (madeF L).1.length (nodesC (madeF L).1) * Blk d (docO (.slice A (madeF L).1.length c)) * Row 3 1 (.slice A2 L.length c2) L.length (IV (madeF L).2) * Blk s (stO d (.slice A2 L.length c2))
set_option maxRecDepth 100000 in
set_option maxHeartbeats 4000000 in
theorem law_made {W0 w : World} {R : HP} {v : Value} {L : List (List UInt8 × Int)} (HL : Held W0 R v 2 L.length (namesC L)) (hL : L.length ≤ 100) (H : Own W0 w R) :
    Calls Tryd.prog 9 #[v] w fun e w' => ∃ s d X, e = .returned (.pointer (some ⟨s, 0, none⟩)) ∧ MadeH R s d L X ∧ Own W0 w' X := by
  obtain ⟨_, A, c, rfl, _⟩ := HL.sl H
  have HN := Kp.mk (dom_New H)
  go_enter Tryd.func9, Tryd.ntmps9
  go_wp2_with fail
  refine HN.out.mono ?_
  rintro e w1 ⟨d, A1, c1, rfl, H1⟩
  have H2 := Kp.mk ((H1.nil 3 1).alloc (stO d (.slice none 0 0)))
  clear HN H1
  go_wp2
  go_loopg [13] L.length (fun gk v wr => ∃ pos : Nat, v = .int .i64 pos ∧ pos ≤ L.length ∧ Kp (gk + pos = L.length) ∧ ∃ A c A2 c2, Kp (Own W0 wr (R * Row 65 10 (.slice A (madeF (L.take pos)).1.length c) (madeF (L.take pos)).1.length (nodesC (madeF (L.take pos)).1) * Blk d (docO (.slice A (madeF (L.take pos)).1.length c)) * Row 3 1 (.slice A2 pos c2) pos (IV (madeF (L.take pos)).2) * Blk w1.heap.size (stO d (.slice A2 pos c2)))))
  case atStart => exact ⟨0, rfl, Nat.zero_le _, ⟨by omega⟩, A1, c1, none, 0, H2⟩
  case round =>
    obtain ⟨pos, rfl, hpos, hgk, A3, c3, A4, c4, HO⟩ := hrel
    by_cases hlt : pos < L.length
    · obtain ⟨⟨n, sp⟩, hx⟩ : ∃ x, L[pos] = x := ⟨_, rfl⟩
      have hg : L[pos]? = some (n, sp) := by rw [List.getElem?_eq_getElem hlt, hx]
      have hS := HL.sl HO.out.drop.drop.drop.drop
      obtain ⟨ad, cc, hv, g0, g1⟩ := hS.elem pos hlt
      injection hv with q1 q2 q3
      subst q1 q3
      have c0 := g0 _ (namesC_get L pos n sp hg).1
      have c1 := g1 0 _ (namesC_get L pos n sp hg).2
      have htk : L.take (pos + 1) = L.take pos ++ [(n, sp)] := by rw [List.take_add_one, hg]; rfl
      have hml := madeF_len (L.take pos)
      rw [List.length_take] at hml
      have hIl : (madeF (L.take pos)).2.length = pos := by omega
      obtain ⟨M, hM⟩ : ∃ M, Kp (madeF (L.take pos) = M) := ⟨_, ⟨rfl⟩⟩
      rw [hM.out] at HO hml hIl
      obtain ⟨N, I⟩ := M
      dsimp only at HO hml hIl
      have HB := (HO.out.box (.cells #[.string (str n), .int .i64 sp] 25)).eq (show _ = R * Row 3 1 (.slice A4 pos c4) pos (IV I) * Blk w1.heap.size (stO d (.slice A4 pos c4)) * Row 65 10 (.slice A3 N.length c3) N.length (nodesC N) * Blk d (docO (.slice A3 N.length c3)) by ac_rfl)
      have HD := dom_Add HB (by omega) (spF sp) n
      unfold spF at HD
      replace HD := Kp.mk HD
      have hfin : Kp (madeF (L.take (pos + 1)) = (addF N (spF sp) n, I ++ [N.length])) := ⟨by rw [htk, madeF_snoc, hM.out]⟩
      clear g0 g1 hS H2 HB hM htk hx hg
      go_wp2_with fail
      refine HD.out.mono ?_
      rintro e w2 ⟨A5, c5, rfl, H5⟩
      have HB := H5.eq (show _ = R * Row 65 10 (.slice A5 (addF N (spF sp) n).length c5) (addF N (spF sp) n).length (nodesC (addF N (spF sp) n)) * Blk d (docO (.slice A5 (addF N (spF sp) n).length c5)) * Row 3 1 (.slice A4 I.length c4) I.length (IV I) * Blk w1.heap.size (stO d (.slice A4 I.length c4)) by rw [hIl]; unfold spF; ac_rfl)
      have HP := Kp.mk (stack_Push HB (by omega) N.length)
      clear HD H5 HB
      go_wp2_with fail
      refine HP.out.mono ?_
      rintro e w3 ⟨rfl, v3, H6⟩
      obtain ⟨_, A6, c6, hv6, _⟩ := H6.rot.sl (by decide)
      subst hv6
      rw [List.length_append, List.length_singleton, hIl] at H6
      replace H6 := Kp.mk H6
      clear HP c0 c1
      go_wp2
      go_roundg (L.length - (pos + 1))
      case rel =>
        refine ⟨pos + 1, by go_num, by omega, ⟨by omega⟩, A5, c5, A6, c6, ?_⟩
        rw [hfin.out]
        exact H6
      case measure => have := hgk.out; omega
    · obtain rfl : pos = L.length := by omega
      rw [List.take_length] at HO
      go_wp2
      go_ret
      exact ⟨_, _, _, rfl, ⟨_, _, _, _, rfl⟩, HO.out⟩
end Go.Proofs.YtbijlkbfndkdcaaDoorSep
