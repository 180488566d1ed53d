/- Own work: lists of bytes as values; a number's bytes. No program in it. -/
import Derived.Test.YtbijlkbfndkdcaaDoorLaw
namespace Go.Proofs.YtbijlkbfndkdcaaDoorSep
open Go.RowKit Go.Lib

/-- Bytes as values. -/
def U (l : List UInt8) : List Value := l.map fun b => .int .u8 b.toNat
theorem U_nil : U [] = [] := rfl
theorem U_append (a b : List UInt8) : U (a ++ b) = U a ++ U b := by simp [U]
theorem U_length (a : List UInt8) : (U a).length = a.length := by simp [U]
theorem U_one (a : List UInt8) : ∀ u ∈ U a, u.oneCell' = true := by
  intro u hu
  simp only [U, List.mem_map] at hu
  obtain ⟨b, _, rfl⟩ := hu
  rfl
theorem U_str (s : ByteArray) : strCells s = U s.data.toList := rfl
theorem data_length (s : ByteArray) : s.data.toList.length = s.size := Array.length_toList
theorem U_inj {a b : List UInt8} (h : U a = U b) : a = b := by
  induction a generalizing b with
  | nil => cases b with
    | nil => rfl
    | cons y b => cases h
  | cons x a ih => cases b with
    | nil => cases h
    | cons y b =>
      simp only [U, List.map_cons, List.cons.injEq] at h
      have h1 : x.toNat = y.toNat := by
        have := h.1
        injection this with _ h2
        exact_mod_cast h2
      rw [UInt8.toNat_inj.1 h1, ih (b := b) h.2]
def str (l : List UInt8) : ByteArray := ⟨l.toArray⟩
theorem str_inj {a b : List UInt8} : str a = str b ↔ a = b := by
  constructor
  · intro h
    have : (str a).data.toList = (str b).data.toList := by rw [h]
    simpa [str] using this
  · intro h; rw [h]
theorem str_toList (a : List UInt8) : (str a).toList = a := by
  unfold str; simp
theorem str_data (a : List UInt8) : (str a).data.toList = a := by simp [str]
theorem str_size (a : List UInt8) : (str a).size = a.length := by simp [str, ByteArray.size]

/-- A byte behind which more follow; the last one. -/
def more8 (x : Nat) : UInt8 := UInt8.ofNat (x % 128 + 128)
def last8 (x : Nat) : UInt8 := UInt8.ofNat x
theorem num_u8_or (x : Nat) : bits .or .u8 ((x : Int) % 256) 128 = ((more8 x).toNat : Int) := by
  unfold more8
  have h : ((x : Int) % 256) = ((x % 256 : Nat) : Int) := by omega
  rw [h, show (128 : Int) = ((128 : Nat) : Int) from rfl, u8_or_nat _ _ (by omega) (by omega)]
  have h3 : ∀ y : Fin 256, y.val ||| 128 = (y.val % 128 + 128) := by decide +kernel
  have h4 := h3 ⟨x % 256, by omega⟩
  simp only at h4
  rw [h4, UInt8.toNat_ofNat']
  omega
/-- A number's bytes: seven bits a byte, the lowest first. -/
def putN (n : Nat) : List UInt8 := if h : n < 128 then [last8 n] else more8 n :: putN (n / 128)
termination_by n
theorem putN_small {n : Nat} (h : n < 128) : putN n = [last8 n] := by rw [putN, dif_pos h]
theorem putN_big {n : Nat} (h : ¬ n < 128) : putN n = more8 n :: putN (n / 128) := by rw [putN, dif_neg h]
theorem putN_length (d : Nat) : ∀ n, n < 128 ^ (d + 1) → (putN n).length ≤ d + 1 := by
  induction d with
  | zero => intro n h; rw [putN_small (by simpa using h)]; simp
  | succ d ih =>
    intro n h
    by_cases hn : n < 128
    · rw [putN_small hn]; simp
    · rw [putN_big hn]
      have := ih (n / 128) (by rw [Nat.pow_succ] at h; omega)
      simp only [List.length_cons]
      omega
theorem putN_len64 {n : Nat} (h : n < 18446744073709551616) : (putN n).length ≤ 10 := putN_length 9 n (by omega)
/-- 'string(b)'. -/
theorem run_str {P : Program} {w : World} {src dst e n : Nat} {v : Value} {l : List UInt8} (hs : P.underlying src = some (.slice e)) (he : P.underlying e = some (.int .u8)) (hd : P.underlying dst = some .string)
    (h : Sl w v 1 n (U l)) : (convert src dst v).run P w = .ok (.string (str l)) w := by
  obtain ⟨hl, A, c, rfl, h1, h2, h4, hc⟩ := h
  have hn : l.length = n := by simpa [U] using hl
  rcases A with _ | ad
  · have h0 : n = 0 := by
      rcases Nat.eq_zero_or_pos n with h0 | h0
      · exact h0
      · obtain ⟨ad, h', _⟩ := hc h0
        cases h'
    subst h0
    obtain rfl : l = [] := List.eq_nil_of_length_eq_zero hn
    exact run_convert_bytes_nil w src e hs he 0 c dst hd
  · have hld : (loadCells ad n).run P w = .ok ((l.map fun b => (b.toNat : Int)).map (Value.int .u8)).toArray w := by
      have := run_loadCells_list (P := P) w ad ((l.map fun b => (b.toNat : Int)).map (Value.int .u8)) (fun j v hj => by
        have hjl : j < l.length := by
          rcases Nat.lt_or_ge j l.length with h' | h'
          · exact h'
          · rw [List.getElem?_eq_none (by rw [List.length_map, List.length_map]; exact h')] at hj
            cases hj
        obtain ⟨ad', he', hc⟩ := hc (by omega)
        injection he' with he'
        subst he'
        refine hc j v ?_
        rw [← hj, U, List.map_map]
        rfl)
      simpa [hn] using this
    rw [run_convert_bytes_string w src dst e _ n c hs he hd, run_bytesToString w ad n c _ hld, foldl_push_bytes]
    have e2 : (l.map fun b => (b.toNat : Int)).map (fun n => UInt8.ofNat n.toNat) = l := by
      rw [List.map_map]
      conv => rhs; rw [← List.map_id l]
      refine List.map_congr_left fun b _ => ?_
      simp
    rw [e2]
    simp [str, ByteArray.empty, ByteArray.emptyWithCapacity]
    rfl
theorem Own.run_str {P : Program} {W0 w : World} {R : HP} {src dst e n : Nat} {v : Value} {l : List UInt8} (hs : P.underlying src = some (.slice e)) (he : P.underlying e = some (.int .u8)) (hd : P.underlying dst = some .string)
    (H : Own W0 w (R * Row e 1 v n (U l))) : (convert src dst v).run P w = .ok (.string (str l)) w := YtbijlkbfndkdcaaDoorSep.run_str hs he hd (H.sl (by decide))
theorem U_get (l : List UInt8) (k : Nat) (h : k < l.length) : (U l).getD k undef = .int .u8 ((l.getD k 0).toNat : Int) := by
  simp [U, List.getD_eq_getElem?_getD, List.getElem?_eq_getElem h]
/-- The k-th byte, under a name of its own. -/
theorem Sl.byte {w : World} {v : Value} {n : Nat} {l : List UInt8} (h : Sl w v 1 n (U l)) (k : Nat) (hk : k < n) : ∃ A c b, v = .slice (some A) n c ∧ w.cell? (A.add k) = some (.int .u8 (b.toNat : Int)) ∧ Kp (l.getD k 0 = b) ∧ b.toNat < 256 := by
  obtain ⟨A, c, hv, hc⟩ := h.at_ k hk
  have hl : l.length = n := by have := h.1; rw [U_length] at this; omega
  rw [U_get l k (by omega)] at hc
  exact ⟨A, c, _, hv, hc, ⟨rfl⟩, UInt8.toNat_lt _⟩
theorem Sl.len {w : World} {v : Value} {n : Nat} {l : List UInt8} (h : Sl w v 1 n (U l)) : l.length = n := by have := h.1; rw [U_length] at this; omega
/-- The sum of bytes. -/
def sumStep (s : Nat) (b : UInt8) : Nat := (s ^^^ b.toNat) * 16777619 % 4294967296
def sum0 : Nat := 2166136261
def sumF (l : List UInt8) : Nat := l.foldl sumStep sum0
theorem sumF_nil : ((sumF [] : Nat) : Int) = 2166136261 := by unfold sumF sum0; rw [List.foldl_nil]; rfl
theorem sumF_snoc (l : List UInt8) (b : UInt8) : sumF (l ++ [b]) = sumStep (sumF l) b := by unfold sumF; rw [List.foldl_append, List.foldl_cons, List.foldl_nil]
theorem sumStep_lt (s : Nat) (b : UInt8) : sumStep s b < 4294967296 := Nat.mod_lt _ (by decide)
theorem sumFrom_lt (l : List UInt8) : ∀ s : Nat, s < 4294967296 → l.foldl sumStep s < 4294967296 := by
  induction l with
  | nil => exact fun s h => h
  | cons b l ih => exact fun s _ => ih _ (sumStep_lt s b)
theorem sumF_lt (l : List UInt8) : sumF l < 4294967296 := by
  unfold sumF
  exact sumFrom_lt l _ (by unfold sum0; omega)
theorem take_next {α : Type} (l : List α) (d : α) (k : Nat) (h : k < l.length) : l.take (k + 1) = l.take k ++ [l.getD k d] := by
  rw [List.take_succ_eq_append_getElem h, List.getD_eq_getElem?_getD, List.getElem?_eq_getElem h]; rfl
theorem sum_next (l : List UInt8) (k : Nat) (h : k < l.length) : sumF (l.take (k + 1)) = sumStep (sumF (l.take k)) (l.getD k 0) := by rw [take_next l 0 k h, sumF_snoc]
/-- The step of the sum as the code makes it. -/
theorem sum_code (s : Nat) (b : UInt8) (hs : s < 4294967296) : bits .xor .u32 (s : Int) (b.toNat : Int) * 16777619 % 4294967296 = (sumStep s b : Int) := by
  have := b.toNat_lt
  rw [u32_xor_nat _ _ hs (by omega)]
  unfold sumStep
  omega
theorem xor_low (s c : Nat) (hc : c < 256) : s ^^^ c = (s - s % 256) + (s % 256 ^^^ c) := by
  have h1 : s % 256 ^^^ c < 256 := Nat.xor_lt_two_pow (n := 8) (Nat.mod_lt _ (by decide)) hc
  have h2 : (s ^^^ c) % 256 = s % 256 ^^^ c := by
    have := Nat.xor_mod_two_pow (a := s) (b := c) (n := 8)
    rw [show (2 : Nat) ^ 8 = 256 from rfl] at this
    rw [this, Nat.mod_eq_of_lt hc]
  have h3 : (s ^^^ c) / 256 = s / 256 := by
    have := Nat.xor_div_two_pow (a := s) (b := c) (n := 8)
    rw [show (2 : Nat) ^ 8 = 256 from rfl] at this
    rw [this, Nat.div_eq_of_lt hc, Nat.xor_zero]
  have := Nat.div_add_mod (s ^^^ c) 256
  omega
/-- .. and as the law makes it. -/
theorem sum_law (s : Nat) (b : UInt8) (hs : s < 4294967296) :
    (IntKind.u64.wrap (IntKind.u64.wrap ((s : Int) - (s : Int) % 256 + bits .xor .u64 ((s : Int) % 256) (b.toNat : Int)) * 16777619)).tmod 4294967296 = (sumStep s b : Int) := by
  have hb := b.toNat_lt
  have h3 : s % 256 ^^^ b.toNat < 256 := Nat.xor_lt_two_pow (n := 8) (Nat.mod_lt _ (by decide)) (by omega)
  have hm : ((s : Int) % 256) = ((s % 256 : Nat) : Int) := by omega
  have hx := xor_low s b.toNat (by omega)
  have hle : s % 256 ≤ s := Nat.mod_le _ _
  rw [hm, u64_xor_nat _ _ (by omega) (by omega)]
  unfold sumStep
  rw [hx]
  generalize s % 256 ^^^ b.toNat = B at h3
  have e1 : (s : Int) - ((s % 256 : Nat) : Int) + (B : Int) = ((s - s % 256 + B : Nat) : Int) := by omega
  have hX : s - s % 256 + B < 4294967296 := by omega
  rw [e1]
  generalize s - s % 256 + B = X at hX
  have e2 : IntKind.u64.wrap (X : Int) = (X : Int) := by rw [IntKind.wrap_u64]; omega
  have e3 : IntKind.u64.wrap ((X : Int) * 16777619) = (X : Int) * 16777619 := by rw [IntKind.wrap_u64]; omega
  rw [e2, e3, Int.tmod_eq_emod_of_nonneg (by omega)]
  omega
def four8 (s : Nat) : List UInt8 := [UInt8.ofNat s, UInt8.ofNat (s / 256), UInt8.ofNat (s / 65536), UInt8.ofNat (s / 16777216)]
theorem four_code (s : Nat) (hs : s < 4294967296) : U (four8 s) = [.int .u8 ((s : Int) % 256), .int .u8 ((s : Int) / 256 % 256), .int .u8 ((s : Int) / 65536 % 256), .int .u8 ((s : Int) / 16777216)] := by
  have e : ∀ x : Nat, ((UInt8.ofNat x).toNat : Int) = (x : Int) % 256 := fun x => by rw [UInt8.toNat_ofNat']; omega
  simp only [four8, U, List.map_cons, List.map_nil, e]
  have e4 : ((s / 16777216 : Nat) : Int) % 256 = (s : Int) / 16777216 := by omega
  rw [e4]
  rfl
def frameF (data : List UInt8) : List UInt8 := putN data.length ++ four8 (sumF data) ++ data
end Go.Proofs.YtbijlkbfndkdcaaDoorSep
