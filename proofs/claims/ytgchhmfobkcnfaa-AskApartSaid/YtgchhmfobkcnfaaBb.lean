/- Words for values, lists of numbers. No condition. -/
import Derived.Test.YtgchhmfobkcnfaaAmT
import Derived.Test.YtgchhmfobkcnfaaAmE
import Derived.Test.YtgchhmfobkcnfaaOs
import Derived.Test.YtgchhmfobkcnfaaOu
import Derived.Test.YtgchhmfobkcnfaaOw
import Derived.Test.YtgchhmfobkcnfaaAm19
import Derived.Laws.Bits64
namespace Go.Proofs.Ytgchhmfobkcnfaa.A
open Go
set_option linter.unusedVariables false
set_option maxRecDepth 100000
set_option pp.maxSteps 1500

def fl (b : Nat) : AV := .sc (.float .f64 b)
def u64 (n : Int) : AV := .sc (.int .u64 n)
def i64 (n : Int) : AV := .sc (.int .i64 n)
def bo (b : Bool) : AV := .sc (.bool b)

def str (s : ByteArray) : AV := .sc (.string s)
def u64n (n : Nat) : AV := u64 n
def us (l : List Nat) : AV := .view l.length (l.map u64n)
theorem endE {T : Tab} {rs : List ResultVar} {R : AV → Prop} {s : St} {vs : List AV} {v : AV} (hd : s.ds = []) (hv : resV T s rs = some vs) (hf : frz s.H 0 8 (mkR vs) = some v) (hR : R v) : endK T rs 0 (fun E G => ∃ v, R v ∧ E = .ret v ∧ G = []) .ret s :=
  ⟨hd, [], v, ⟨⟨vs, hv, hf⟩, True.intro, Nat.zero_le _, rfl⟩, v, hR, rfl, rfl⟩
theorem renO_us (r : Nat → Nat) (l : List Nat) : renO r (.row (l.map u64n)) = .row (l.map u64n) := by
  simp only [renO]
  rw [renL_map (fun _ _ => rfl)]
theorem frz_us3 {H : Heap} {i n m k : Nat} {l : List Nat} (h : nth H i = some (.row (l.map u64n))) (hn : n = l.length) (hm : Nat.blt i m = false) : frz H m (k + 2) (.slc i 0 n 1) = some (us l) := by
  subst hn
  have h1 : rdN H i 0 (l.length * 1) = some (l.map u64n) := rdN_all h (by rw [List.length_map]; omega)
  have h2 : mapO (frz0 H m (k + 1)) (l.map u64n) = some (l.map u64n) := mapO_map (f := frz0 H m (k + 1)) (g := u64n) (h := u64n) (fun _ => rfl) l
  simp only [frz, frz0, hm, cond_false, h1, h2]
  rfl
theorem wf_nat {l : List AV} (h : Wf (.int .u64) l) : ∃ m : Nat, l = [u64 m] ∧ m < 18446744073709551616 := by
  obtain ⟨m, rfl, hm⟩ := h
  have hm := wf_u64 hm
  refine ⟨m.toNat, ?_, by omega⟩
  have : ((m.toNat : Nat) : Int) = m := by omega
  rw [this]
  rfl
theorem wf_nats {l : List AV} (h : Wf (.slice (.int .u64)) l) : ∃ m : List Nat, l = [us m] ∧ (∀ x ∈ m, x < 18446744073709551616) ∧ m.length ≤ 9223372036854775807 := by
  obtain ⟨rows, rfl, hlen, hr⟩ := h
  have key : ∀ rows : List (List AV), (∀ r ∈ rows, Wf (.int .u64) r) → ∃ m : List Nat, m.length = rows.length ∧ rows.flatten = m.map u64n ∧ ∀ x ∈ m, x < 18446744073709551616 := by
    intro rows
    induction rows with
    | nil => intro _; exact ⟨[], rfl, rfl, by simp⟩
    | cons r rows ih =>
      intro hr
      obtain ⟨m, h1, h2, h3⟩ := ih fun x hx => hr x (List.mem_cons_of_mem _ hx)
      obtain ⟨x, rfl, hx⟩ := wf_nat (hr r (List.mem_cons_self ..))
      refine ⟨x :: m, by simp [h1], by simp only [List.flatten_cons, h2, List.map_cons]; rfl, ?_⟩
      intro y hy
      rcases List.mem_cons.1 hy with rfl | hy
      · exact hx
      · exact h3 y hy
  obtain ⟨m, h1, h2, h3⟩ := key rows hr
  exact ⟨m, by rw [us, h1, h2], h3, by omega⟩
def nilS : AV := .sc (.slice none 0 0)
end Go.Proofs.Ytgchhmfobkcnfaa.A

namespace Go.Proofs.Ytgchhmfobkcnfaa.A
open Go
set_option linter.unusedVariables false
set_option maxRecDepth 100000
set_option pp.maxSteps 1500

def by8 (n : Int) : AV := .sc (.int .u8 n)
def u8n (n : Nat) : AV := by8 n
def emp : ByteArray := ⟨#[]⟩
theorem renO_u8 (r : Nat → Nat) (l : List Nat) : renO r (.row (l.map u8n)) = .row (l.map u8n) := by
  simp only [renO]
  rw [renL_map (fun _ _ => rfl)]
theorem allC_u8 : ∀ l : List Nat, allC (l.map u8n) = true
  | [] => rfl
  | x :: l => by
    show (bif isC (u8n x) then allC (l.map u8n) else false) = true
    rw [allC_u8 l]
    rfl
theorem belowL_u8 (m : Nat) : ∀ l : List Nat, belowL m (l.map u8n) = true
  | [] => rfl
  | x :: l => by show (bif below m (u8n x) then belowL m (l.map u8n) else false) = true; rw [belowL_u8 m l]; rfl
theorem textA_u8 : ∀ l : List Nat, textA (l.map u8n) = some (l.map UInt8.ofNat)
  | [] => rfl
  | x :: l => by
    show (textA (l.map u8n)).map (UInt8.ofNat ((x : Int)).toNat :: ·) = _
    rw [textA_u8 l, Int.toNat_natCast]
    rfl
/-- The numbers of a text. -/
def byL (d : ByteArray) : List Nat := d.data.toList.map UInt8.toNat
/-- The text of numbers. -/
def BA (l : List Nat) : ByteArray := ⟨(l.map UInt8.ofNat).toArray⟩
theorem bytesA_u8 (d : ByteArray) : bytesA d = (byL d).map u8n := by
  unfold bytesA byL
  rw [List.map_map]
  rfl
theorem listB (d : ByteArray) : d.data.toList.length = d.size := by simp
theorem byL_len (d : ByteArray) : (byL d).length = d.size := by unfold byL; rw [List.length_map, listB]
theorem byL_lt (d : ByteArray) : ∀ x ∈ byL d, x < 256 := by
  intro x hx
  obtain ⟨b, _, rfl⟩ := List.mem_map.1 hx
  exact b.toNat_lt
theorem BA_size (l : List Nat) : (BA l).size = l.length := by
  show (l.map UInt8.ofNat).toArray.size = _
  simp
theorem BA_list (l : List Nat) : (BA l).data.toList = l.map UInt8.ofNat := by
  show (l.map UInt8.ofNat).toArray.toList = _
  simp
theorem ext_BA {a b : ByteArray} (h : a.data.toList = b.data.toList) : a = b := by
  cases a
  cases b
  simpa using h
theorem BA_byL (d : ByteArray) : BA (byL d) = d := by
  apply ext_BA
  rw [BA_list]
  unfold byL
  rw [List.map_map]
  conv => rhs; rw [← List.map_id d.data.toList]
  apply List.map_congr_left
  intro x _
  simp
theorem byL_BA {l : List Nat} (h : ∀ x ∈ l, x < 256) : byL (BA l) = l := by
  unfold byL
  rw [BA_list, List.map_map]
  conv => rhs; rw [← List.map_id l]
  apply List.map_congr_left
  intro x hx
  have := h x hx
  show (UInt8.ofNat x).toNat = x
  rw [UInt8.toNat_ofNat']
  omega
theorem appendB (a b : ByteArray) : (a ++ b).data.toList = a.data.toList ++ b.data.toList := by
  show (a.append b).data.toList = _
  simp
theorem byL_append (a b : ByteArray) : byL (a ++ b) = byL a ++ byL b := by unfold byL; rw [appendB, List.map_append]
theorem BA_append (a b : List Nat) : BA a ++ BA b = BA (a ++ b) := by
  apply ext_BA
  rw [appendB, BA_list, BA_list, BA_list, List.map_append]
theorem byL_inj {a b : ByteArray} (h : byL a = byL b) : a = b := by rw [← BA_byL a, h, BA_byL]
/-- The number of a text's byte. -/
def octB (s : ByteArray) (i : Nat) : Nat := (s.data.toList.getD i 0).toNat
theorem octB_eq (s : ByteArray) (i : Nat) : octB s i = (byL s).getD i 0 := by
  unfold octB byL
  rw [List.getD_eq_getElem?_getD, List.getD_eq_getElem?_getD, List.getElem?_map]
  cases s.data.toList[i]? <;> rfl
theorem octB_lt (s : ByteArray) (i : Nat) : octB s i < 256 := (s.data.toList.getD i 0).toNat_lt
theorem byL_at {s : ByteArray} {i : Nat} (h : i < s.size) : (byL s)[i]? = some (octB s i) := by
  rw [octB_eq, List.getD_eq_getElem?_getD, List.getElem?_eq_getElem (by rw [byL_len]; exact h)]
  rfl
theorem extractB (s : ByteArray) (i j : Nat) : byL (s.extract i j) = ((byL s).take j).drop i := by
  unfold byL
  rw [← List.map_take, ← List.map_drop]
  congr 1
  rw [ByteArray.data_extract, Array.toList_extract, List.extract_eq_take_drop, List.drop_take]
theorem ext_at {s : ByteArray} {i j k : Nat} (h : k < j - i) (hj : j ≤ s.size) : octB (s.extract i j) k = octB s (i + k) := by
  rw [octB_eq, octB_eq, extractB, List.getD_eq_getElem?_getD, List.getD_eq_getElem?_getD, List.getElem?_drop, List.getElem?_take_of_lt (by omega)]
theorem ext_size {s : ByteArray} {i j : Nat} (h : j ≤ s.size) : (s.extract i j).size = j - i := by rw [ByteArray.size_extract]; omega
theorem src_all {H : Heap} {p n : Nat} {cs : List AV} (h : nth H p = some (.row cs)) (hn : n = cs.length) : srcA H 1 (.slc p 0 n 1) = some cs := by
  show rdN H p 0 (n * 1) = some cs
  exact rdN_all h (by omega)
theorem byteW (x : Nat) : wrp .u8 (x : Int) = ((x % 256 : Nat) : Int) := by rw [wrpE, wu8]; omega
theorem byteI (x : Nat) (h : x < 9223372036854775808) : wrp .i64 (x : Int) = ((x : Nat) : Int) := by rw [wrpE, wi64]; omega
theorem slcE {p a b c d : Nat} (h1 : a = c) (h2 : b = d) : AV.slc p a b 1 = .slc p c d 1 := by rw [h1, h2]
/-- The bytes of a number, the highest first. -/
def beN (t : Nat) : Nat → List Nat
  | 0 => []
  | n + 1 => t / 256 ^ n % 256 :: beN t n
def be8 (t : Nat) : List Nat := beN t 8
theorem beN_len (t : Nat) : ∀ n, (beN t n).length = n
  | 0 => rfl
  | n + 1 => by simp [beN, beN_len t n]
theorem beN_lt (t : Nat) : ∀ n, ∀ x ∈ beN t n, x < 256
  | 0, x, h => by cases h
  | n + 1, x, h => by
    rcases List.mem_cons.1 h with rfl | h
    · exact Nat.mod_lt _ (by decide)
    · exact beN_lt t n x h
/-- The number that some bytes tell. -/
def valB (s : ByteArray) (p : Nat) : Nat → Nat
  | 0 => 0
  | j + 1 => valB s p j * 256 + octB s (p + j)
theorem valB_lt (s : ByteArray) (p : Nat) : ∀ j, valB s p j < 256 ^ j
  | 0 => Nat.lt_succ_self 0
  | j + 1 => by
    have h1 := valB_lt s p j
    have h2 := octB_lt s (p + j)
    show valB s p j * 256 + octB s (p + j) < 256 ^ (j + 1)
    rw [Nat.pow_succ]
    omega
theorem valB_lt8 (s : ByteArray) (p j : Nat) (h : j < 8) : valB s p j < 72057594037927936 :=
  Nat.lt_of_lt_of_le (valB_lt s p j) (show 256 ^ j ≤ 256 ^ 7 from Nat.pow_le_pow_right (by decide) (by omega))
theorem valB_64 (s : ByteArray) (p : Nat) : valB s p 8 < 18446744073709551616 := valB_lt s p 8
theorem or_byte64 (p c : Nat) (h : p < 72057594037927936) (hc : c < 256) : wrp .u64 ((BitVec.ofInt IntKind.u64.bits (wrp .u64 ((p : Int) * 2 ^ min (8 : Int).toNat IntKind.u64.bits)) ||| BitVec.ofInt IntKind.u64.bits (wrp .u64 (c : Int))).toNat : Int) = ((p * 256 + c : Nat) : Int) := by
  have e0 : wrp .u64 ((p : Int) * 2 ^ min (8 : Int).toNat IntKind.u64.bits) = ((2 ^ 8 * p : Nat) : Int) := by
    have : (2 : Int) ^ min (8 : Int).toNat IntKind.u64.bits = 256 := rfl
    rw [this, wrpE, wu64]
    omega
  have e1 : wrp .u64 (c : Int) = ((c : Nat) : Int) := by rw [wrpE, wu64]; omega
  have e2 : (BitVec.ofInt 64 ((2 ^ 8 * p : Nat) : Int)).toNat = 2 ^ 8 * p := by rw [BitVec.toNat_ofInt]; omega
  have e3 : (BitVec.ofInt 64 ((c : Nat) : Int)).toNat = c := by rw [BitVec.toNat_ofInt]; omega
  have e4 : (BitVec.ofInt IntKind.u64.bits ((2 ^ 8 * p : Nat) : Int) ||| BitVec.ofInt IntKind.u64.bits ((c : Nat) : Int)).toNat = 2 ^ 8 * p + c := by
    show (BitVec.ofInt 64 ((2 ^ 8 * p : Nat) : Int) ||| BitVec.ofInt 64 ((c : Nat) : Int)).toNat = _
    rw [BitVec.toNat_or, e2, e3, ← Nat.two_pow_add_eq_or_of_lt (by omega)]
  rw [e0, e1, e4, wrpE, wu64]
  omega
/-- Bytes of a number tell the number. -/
theorem valB_beN {s : ByteArray} {p t n : Nat} (h : ∀ j, j < n → octB s (p + j) = t / 256 ^ (n - 1 - j) % 256) : ∀ j, j ≤ n → valB s p j = t / 256 ^ (n - j) % 256 ^ j
  | 0, _ => by show 0 = _; rw [Nat.pow_zero, Nat.mod_one]
  | j + 1, hj => by
    have ih := valB_beN h j (by omega)
    have h1 := h j (by omega)
    show valB s p j * 256 + octB s (p + j) = _
    rw [ih, h1, show n - (j + 1) = n - 1 - j by omega]
    have e : n - j = (n - 1 - j) + 1 := by omega
    rw [e, Nat.pow_succ, ← Nat.div_div_eq_div_mul]
    generalize t / 256 ^ (n - 1 - j) = w
    rw [Nat.pow_succ, Nat.mul_comm (256 ^ j) 256, Nat.mod_mul, Nat.mul_comm]
    omega
theorem ACalls.weakR {P : Program} {g : FuncId} {args : List AV} {H : Heap} {R R' : AEnd → Heap → Prop} (h : ACalls P g args H R) (k : ∀ E H', R E H' → ∃ E', R' E' H' ∧ ∀ Y e, EndR Y E e → EndR Y E' e) : ACalls P g args H R' :=
  fun X vs hr hv => (h X vs hr hv).mono fun e w' ⟨E, H', Y, h1, h2, h3, h4⟩ => by
    obtain ⟨E', h5, h6⟩ := k E H' h1
    exact ⟨E', H', Y, h5, h2, h6 _ _ h3, h4⟩
theorem EndR_refl (E : AEnd) : ∀ Y e, EndR Y E e → EndR Y E e := fun _ _ h => h
theorem EndR_nilT (r : List AV) : ∀ Y e, EndR Y (.ret (.tup (nilS :: r))) e → EndR Y (.ret (.tup (us [] :: r))) e := fun Y e h => by
  cases e with
  | returned v =>
    have h' : VR Y (.tup (nilS :: r)) v := h
    show VR Y (.tup (us [] :: r)) v
    simp only [VR] at h' ⊢
    obtain ⟨ws, e, hl⟩ := h'
    refine ⟨ws, e, ?_⟩
    generalize ws.toList = q at hl
    match q, hl with
    | w :: q, hl =>
      simp only [VL] at hl ⊢
      exact ⟨VR_nilView hl.1, hl.2⟩
    | [], hl => simp [VL] at hl
  | panicked _ => exact h
  | outgrown => exact h
theorem frz_tup {H : Heap} {m k : Nat} {cs ds : List AV} (h : mapO (frz H m k) cs = some ds) : frz H m (k + 1) (.tup cs) = some (.tup ds) := by
  simp only [frz, h]
end Go.Proofs.Ytgchhmfobkcnfaa.A
