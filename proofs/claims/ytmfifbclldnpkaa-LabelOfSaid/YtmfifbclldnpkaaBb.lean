/- Words for values, lists of numbers. No condition. -/
import Derived.Test.YtmfifbclldnpkaaAmT
import Derived.Test.YtmfifbclldnpkaaAmE
import Derived.Test.YtmfifbclldnpkaaOs
import Derived.Test.YtmfifbclldnpkaaOu
import Derived.Test.YtmfifbclldnpkaaOw
import Derived.Test.YtmfifbclldnpkaaAm19
import Derived.Laws.Bits64
namespace Go.Proofs.Ytmfifbclldnpkaa.A
open Go
set_option linter.unusedVariables false
set_option maxRecDepth 100000
set_option pp.maxSteps 1500

def fl (b : Nat) : AV := .sc (.float .f64 b)
def u64 (n : Int) : AV := .sc (.int .u64 n)
def i64 (n : Int) : AV := .sc (.int .i64 n)
def bo (b : Bool) : AV := .sc (.bool b)

def str (s : ByteArray) : AV := .sc (.string s)
def u64n (n : Nat) : AV := u64 n
def us (l : List Nat) : AV := .view l.length (l.map u64n)
def IdxR (p : Prop) (v : AV) : Prop := ∃ i : Int, v = i64 i ∧ (0 ≤ i ↔ p)
theorem take_snocN {l : List Nat} {i x : Nat} (h : l[i]? = some x) : l.take (i + 1) = l.take i ++ [x] := by
  obtain ⟨hi, rfl⟩ := List.getElem?_eq_some_iff.1 h
  exact List.take_succ_eq_append_getElem hi
theorem endE {T : Tab} {rs : List ResultVar} {R : AV → Prop} {s : St} {vs : List AV} {v : AV} (hd : s.ds = []) (hv : resV T s rs = some vs) (hf : frz s.H 0 8 (mkR vs) = some v) (hR : R v) : endK T rs 0 (fun E G => ∃ v, R v ∧ E = .ret v ∧ G = []) .ret s :=
  ⟨hd, [], v, ⟨⟨vs, hv, hf⟩, True.intro, Nat.zero_le _, rfl⟩, v, hR, rfl, rfl⟩
theorem indexU_ok (l : List Nat) (x : Nat) (hn : l.length < 9223372036854775807) : ACalls Try.prog 42 [us l, u64 x] [] (fun E G => ∃ v, IdxR (x ∈ l) v ∧ E = .ret v ∧ G = []) := by
  refine acalls_of_awp hT mixed Try.func42 rfl (by kernel_rfl) (by kernel_rfl) (Nat.le_of_ble_eq_true rfl) ?_
  refine loopI (α := { k : Nat // k ≤ l.length ∧ x ∉ l.take k }) (fun k => [(0, us l), (1, u64 x), (7, i64 l.length), (8, i64 (k.val : Nat))]) (fun _ => []) (fun k => l.length - k.val) ⟨0, Nat.zero_le _, by simp⟩ [] ⟨⟨rfl, rfl, rfl, rfl, True.intro⟩, True.intro, rfl, rfl, rfl⟩ ?_
  intro z K hK
  obtain ⟨k, hk, hx⟩ := z
  have hinc : wrp .i64 ((k : Int) + 1) = ((k + 1 : Nat) : Int) := by rw [wrpE, wi64]; omega
  refine forkD (fun h => ?_) (fun h => ?_)
  · have h' : k < l.length := by have : (k : Int) < (l.length : Int) := h; omega
    obtain ⟨y, hy⟩ : ∃ y, l[k]? = some y := ⟨_, List.getElem?_eq_getElem h'⟩
    refine Ob.intro (show (0 : Int) ≤ (k : Nat) ∧ ((k : Nat) : Int) < (l.length : Nat) by omega) ?_
    refine optK_intro (nth_map hy) ?_
    refine fork (fun g => ?_) (fun g => ?_)
    · have hxy : x = y := by
        have := beq_iff_eq.1 g
        omega
      refine endE rfl rfl rfl ⟨k, rfl, ⟨fun _ => by rw [hxy]; exact List.mem_of_getElem? hy, fun _ => by omega⟩⟩
    · have hxy : ¬ x = y := by
        have := beq_eq_false_iff_ne.1 g
        omega
      refine hK ⟨k + 1, h', ?_⟩ [] _ (show l.length - k = l.length - (k + 1) + 1 by omega) ⟨⟨rfl, rfl, rfl, congrArg i64 hinc, True.intro⟩, True.intro, rfl, rfl, rfl⟩
      rw [take_snocN hy]
      simp only [List.mem_append, List.mem_singleton]
      exact fun hh => hh.elim hx hxy
  · have h' : k = l.length := by have : ¬ (k : Int) < (l.length : Int) := h; omega
    rw [h', List.take_length] at hx
    refine endE rfl rfl rfl ⟨-1, rfl, ⟨fun hh => by omega, fun hh => absurd hh hx⟩⟩
theorem containsU_ok (l : List Nat) (x : Nat) (hn : l.length < 9223372036854775807) : ACalls Try.prog 32 [us l, u64 x] [] (Ret (bo (decide (x ∈ l)))) := by
  refine acalls_of_awp hT mixed Try.func32 rfl (by kernel_rfl) (by kernel_rfl) (Nat.le_of_ble_eq_true rfl) ?_
  refine callE (indexU_ok l x hn) rfl (fun v hv => by obtain ⟨i, rfl, _⟩ := hv; rfl) ?_
  rintro v ⟨i, rfl, hi⟩
  refine forkD (fun h => ?_) (fun h => ?_)
  · refine end0 rfl rfl rfl (congrArg bo (decide_eq_true (hi.1 h)).symm)
  · refine end0 rfl rfl rfl (congrArg bo (decide_eq_false (fun hx => h (hi.2 hx))).symm)
theorem hasL_ok (l : List Nat) (x : Nat) (hn : l.length < 9223372036854775807) : ACalls Try.prog 14 [us l, u64 x] [] (Ret (bo (decide (x ∈ l)))) := by
  refine acalls_of_awp hT mixed Try.func14 rfl (by kernel_rfl) (by kernel_rfl) (Nat.le_of_ble_eq_true rfl) ?_
  refine callP (containsU_ok l x hn) rfl rfl ?_
  refine fork (fun h => ?_) (fun h => ?_)
  · refine end0 rfl rfl rfl (congrArg bo h.symm)
  · refine end0 rfl rfl rfl (congrArg bo h.symm)
theorem allC_us : ∀ l : List Nat, allC (l.map u64n) = true
  | [] => rfl
  | x :: l => by
    show (bif isC (u64n x) then allC (l.map u64n) else false) = true
    rw [allC_us l]
    rfl
theorem srcA_us (H : Heap) (l : List Nat) : srcA H 1 (us l) = some (l.map u64n) := by
  show (bif Nat.beq (l.map u64n).length (l.length * 1) then some (l.map u64n) else none) = _
  have : Nat.beq (l.map u64n).length (l.length * 1) = true := by rw [List.length_map, Nat.mul_one]; exact Nat.beq_refl _
  rw [this]
  rfl
theorem renO_us (r : Nat → Nat) (l : List Nat) : renO r (.row (l.map u64n)) = .row (l.map u64n) := by
  simp only [renO]
  rw [renL_map (fun _ _ => rfl)]
theorem nth_mapI {α : Type} {g : α → AV} {L : List α} {w : Int} {x : α} (h : L[w.toNat]? = some x) : nth (List.drop (w.toNat * 1) (L.map g)) 0 = some (g x) := by
  rw [nth_eq, List.getElem?_drop, Nat.mul_one, Nat.add_zero, List.getElem?_map, h]
  rfl
theorem has2_ok (l : List Nat) (x : Nat) (hn : l.length < 9223372036854775807) : ACalls Try.prog 15 [us l, u64 x] [] (Ret (bo (decide (x ∈ l)))) := by
  refine acalls_of_awp hT mixed Try.func15 rfl (by kernel_rfl) (by kernel_rfl) (Nat.le_of_ble_eq_true rfl) ?_
  refine loopI (α := { k : Nat // k ≤ l.length ∧ x ∉ l.take k }) (fun k => [(0, us l), (1, u64 x), (5, i64 (k.val : Nat))]) (fun _ => []) (fun k => l.length - k.val) ⟨0, Nat.zero_le _, by simp⟩ [] ⟨⟨rfl, rfl, rfl, True.intro⟩, True.intro, rfl, rfl, rfl⟩ ?_
  intro z K hK
  obtain ⟨k, hk, hx⟩ := z
  have hinc : wrp .i64 ((k : Int) + 1) = ((k + 1 : Nat) : Int) := by rw [wrpE, wi64]; omega
  refine forkD (fun h => ?_) (fun h => ?_)
  · have h' : k < l.length := by have : (k : Int) < (l.length : Int) := h; omega
    obtain ⟨y, hy⟩ : ∃ y, l[k]? = some y := ⟨_, List.getElem?_eq_getElem h'⟩
    refine Ob.intro (show (0 : Int) ≤ (k : Nat) ∧ ((k : Nat) : Int) < (l.length : Nat) by omega) ?_
    refine optK_intro (nth_map hy) ?_
    refine fork (fun g => ?_) (fun g => ?_)
    · have hxy : y = x := by
        have := beq_iff_eq.1 g
        omega
      refine end0 rfl rfl rfl (congrArg bo (decide_eq_true ?_).symm)
      rw [← hxy]
      exact List.mem_of_getElem? hy
    · have hxy : ¬ y = x := by
        have := beq_eq_false_iff_ne.1 g
        omega
      refine hK ⟨k + 1, h', ?_⟩ [] _ (show l.length - k = l.length - (k + 1) + 1 by omega) ⟨⟨rfl, rfl, congrArg i64 hinc, True.intro⟩, True.intro, rfl, rfl, rfl⟩
      rw [take_snocA hy]
      simp only [List.mem_append, List.mem_singleton]
      exact fun hh => hh.elim hx (fun e => hxy e.symm)
  · have h' : k = l.length := by have : ¬ (k : Int) < (l.length : Int) := h; omega
    rw [h', List.take_length] at hx
    refine end0 rfl rfl rfl (congrArg bo (decide_eq_false hx).symm)
theorem frz_us3 {H : Heap} {i n m k : Nat} {l : List Nat} (h : nth H i = some (.row (l.map u64n))) (hn : n = l.length) (hm : Nat.blt i m = false) : frz H m (k + 2) (.slc i 0 n 1) = some (us l) := by
  subst hn
  have h1 : rdN H i 0 (l.length * 1) = some (l.map u64n) := rdN_all h (by rw [List.length_map]; omega)
  have h2 : mapO (frz0 H m (k + 1)) (l.map u64n) = some (l.map u64n) := mapO_map (f := frz0 H m (k + 1)) (g := u64n) (h := u64n) (fun _ => rfl) l
  simp only [frz, frz0, hm, cond_false, h1, h2]
  rfl
theorem wf_nat {l : List AV} (h : Wf (.int .u64) l) : ∃ m : Nat, l = [u64 m] ∧ m < 18446744073709551616 := by
  obtain ⟨m, rfl, hm⟩ := h
  have hm := wf_u64 hm
  refine ⟨m.toNat, ?_, by omega⟩
  have : ((m.toNat : Nat) : Int) = m := by omega
  rw [this]
  rfl
theorem wf_nats {l : List AV} (h : Wf (.slice (.int .u64)) l) : ∃ m : List Nat, l = [us m] ∧ (∀ x ∈ m, x < 18446744073709551616) ∧ m.length ≤ 9223372036854775807 := by
  obtain ⟨rows, rfl, hlen, hr⟩ := h
  have key : ∀ rows : List (List AV), (∀ r ∈ rows, Wf (.int .u64) r) → ∃ m : List Nat, m.length = rows.length ∧ rows.flatten = m.map u64n ∧ ∀ x ∈ m, x < 18446744073709551616 := by
    intro rows
    induction rows with
    | nil => intro _; exact ⟨[], rfl, rfl, by simp⟩
    | cons r rows ih =>
      intro hr
      obtain ⟨m, h1, h2, h3⟩ := ih fun x hx => hr x (List.mem_cons_of_mem _ hx)
      obtain ⟨x, rfl, hx⟩ := wf_nat (hr r (List.mem_cons_self ..))
      refine ⟨x :: m, by simp [h1], by simp only [List.flatten_cons, h2, List.map_cons]; rfl, ?_⟩
      intro y hy
      rcases List.mem_cons.1 hy with rfl | hy
      · exact hx
      · exact h3 y hy
  obtain ⟨m, h1, h2, h3⟩ := key rows hr
  exact ⟨m, by rw [us, h1, h2], h3, by omega⟩
def nilS : AV := .sc (.slice none 0 0)
end Go.Proofs.Ytmfifbclldnpkaa.A

namespace Go.Proofs.Ytmfifbclldnpkaa.A
open Go
set_option linter.unusedVariables false
set_option maxRecDepth 100000
set_option pp.maxSteps 1500

def by8 (n : Int) : AV := .sc (.int .u8 n)
def u8n (n : Nat) : AV := by8 n
def emp : ByteArray := ⟨#[]⟩
theorem renO_u8 (r : Nat → Nat) (l : List Nat) : renO r (.row (l.map u8n)) = .row (l.map u8n) := by
  simp only [renO]
  rw [renL_map (fun _ _ => rfl)]
theorem textA_u8 : ∀ l : List Nat, textA (l.map u8n) = some (l.map UInt8.ofNat)
  | [] => rfl
  | x :: l => by
    show (textA (l.map u8n)).map (UInt8.ofNat ((x : Int)).toNat :: ·) = _
    rw [textA_u8 l, Int.toNat_natCast]
    rfl
/-- The text of numbers. -/
def BA (l : List Nat) : ByteArray := ⟨(l.map UInt8.ofNat).toArray⟩
theorem listB (d : ByteArray) : d.data.toList.length = d.size := by simp
theorem BA_size (l : List Nat) : (BA l).size = l.length := by
  show (l.map UInt8.ofNat).toArray.size = _
  simp
theorem appendB (a b : ByteArray) : (a ++ b).data.toList = a.data.toList ++ b.data.toList := by
  show (a.append b).data.toList = _
  simp
theorem src_all {H : Heap} {p n : Nat} {cs : List AV} (h : nth H p = some (.row cs)) (hn : n = cs.length) : srcA H 1 (.slc p 0 n 1) = some cs := by
  show rdN H p 0 (n * 1) = some cs
  exact rdN_all h (by omega)
theorem byteW (x : Nat) : wrp .u8 (x : Int) = ((x % 256 : Nat) : Int) := by rw [wrpE, wu8]; omega
theorem ofs (k : Nat) : 0 + ((k : Nat) : Int).toNat * 1 = k := by omega
theorem ofsW {k : Nat} {w : Int} (h : w = (k : Int)) : 0 + w.toNat * 1 = k := by omega
theorem slcE {p a b c d : Nat} (h1 : a = c) (h2 : b = d) : AV.slc p a b 1 = .slc p c d 1 := by rw [h1, h2]
/-- The bytes of a number, the highest first. -/
def beN (t : Nat) : Nat → List Nat
  | 0 => []
  | n + 1 => t / 256 ^ n % 256 :: beN t n
def be8 (t : Nat) : List Nat := beN t 8
theorem beN_len (t : Nat) : ∀ n, (beN t n).length = n
  | 0 => rfl
  | n + 1 => by simp [beN, beN_len t n]
theorem ACalls.weakR {P : Program} {g : FuncId} {args : List AV} {H : Heap} {R R' : AEnd → Heap → Prop} (h : ACalls P g args H R) (k : ∀ E H', R E H' → ∃ E', R' E' H' ∧ ∀ Y e, EndR Y E e → EndR Y E' e) : ACalls P g args H R' :=
  fun X vs hr hv => (h X vs hr hv).mono fun e w' ⟨E, H', Y, h1, h2, h3, h4⟩ => by
    obtain ⟨E', h5, h6⟩ := k E H' h1
    exact ⟨E', H', Y, h5, h2, h6 _ _ h3, h4⟩
theorem EndR_refl (E : AEnd) : ∀ Y e, EndR Y E e → EndR Y E e := fun _ _ h => h
theorem EndR_nilT (r : List AV) : ∀ Y e, EndR Y (.ret (.tup (nilS :: r))) e → EndR Y (.ret (.tup (us [] :: r))) e := fun Y e h => by
  cases e with
  | returned v =>
    have h' : VR Y (.tup (nilS :: r)) v := h
    show VR Y (.tup (us [] :: r)) v
    simp only [VR] at h' ⊢
    obtain ⟨ws, e, hl⟩ := h'
    refine ⟨ws, e, ?_⟩
    generalize ws.toList = q at hl
    match q, hl with
    | w :: q, hl =>
      simp only [VL] at hl ⊢
      exact ⟨VR_nilView hl.1, hl.2⟩
    | [], hl => simp [VL] at hl
  | panicked _ => exact h
  | outgrown => exact h
/-- A slice that may be nil is told as one without anything. -/
theorem nilArg {P : Program} {g : FuncId} {r : List AV} {H : Heap} {R : AEnd → Heap → Prop} (h : ACalls P g (us [] :: r) H R) : ACalls P g (nilS :: r) H R := h.weaken fun X vs hv => by
  match vs, hv with
  | w :: q, hv =>
    simp only [VL] at hv ⊢
    exact ⟨VR_nilView hv.1, hv.2⟩
  | [], hv => simp [VL] at hv
theorem frz_tup {H : Heap} {m k : Nat} {cs ds : List AV} (h : mapO (frz H m k) cs = some ds) : frz H m (k + 1) (.tup cs) = some (.tup ds) := by
  simp only [frz, h]
end Go.Proofs.Ytmfifbclldnpkaa.A
