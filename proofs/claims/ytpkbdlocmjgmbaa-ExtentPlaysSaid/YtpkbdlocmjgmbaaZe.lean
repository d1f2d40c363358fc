/- extent: the reference's world is a row that a world tells. No condition. -/
import Derived.Test.YtpkbdlocmjgmbaaZd
namespace Go.Proofs.Ytpkbdlocmjgmbaa.A
open Go
set_option linter.unusedVariables false
set_option linter.unusedSimpArgs false
set_option maxRecDepth 100000
set_option pp.maxSteps 600
def sxOf (w : Wd) (e k : Int) : Sx := (w.d e k, (w.m e k).getD (w.d e k), (w.m e k).isSome)
def secsOf (w : Wd) (n sec : Nat) : List Sx := (List.range (n * sec)).map fun i => sxOf w (i / sec : Nat) (i % sec : Nat)
theorem secs_len (w : Wd) (n sec : Nat) : (secsOf w n sec).length = n * sec := by unfold secsOf; rw [List.length_map, List.length_range]
theorem secs_get (w : Wd) {n sec i : Nat} (h : i < n * sec) : (secsOf w n sec)[i]? = some (sxOf w (i / sec : Nat) (i % sec : Nat)) := by
  unfold secsOf
  rw [List.getElem?_map, List.getElem?_range h]
  rfl
theorem secs_no (w : Wd) {n sec i : Nat} (h : ¬ i < n * sec) : (secsOf w n sec)[i]? = none := by
  rw [List.getElem?_eq_none_iff, secs_len]
  omega
section
variable {w : Wd} {n sec : Nat} {e k : Int} {s : ByteArray}
theorem sec_pos (h : inW n sec e k) : 0 < sec := by have := h.2; omega
/-- An index, told apart. -/
theorem ix_split {i : Nat} (h : i < n * sec) : inW n sec (i / sec : Nat) (i % sec : Nat) := by
  have hs : 0 < sec := Nat.pos_of_ne_zero fun h0 => by subst h0; simp at h
  have h1 : i / sec < n := Nat.div_lt_of_lt_mul (by rw [Nat.mul_comm]; exact h)
  have h2 : i % sec < sec := Nat.mod_lt _ hs
  generalize i / sec = a at *
  generalize i % sec = b at *
  exact ⟨⟨by omega, by omega⟩, by omega, by omega⟩
theorem ix_nat {a b : Nat} : ixN sec (a : Nat) (b : Nat) = a * sec + b := by
  unfold ixN
  rw [← Int.natCast_mul, ← Int.natCast_add, Int.toNat_natCast]
theorem ix_div {i : Nat} : ixN sec (i / sec : Nat) (i % sec : Nat) = i := by
  rw [ix_nat, Nat.mul_comm]
  exact Nat.div_add_mod i sec
theorem ix_back (h : inW n sec e k) : ((ixN sec e k / sec : Nat) : Int) = e ∧ ((ixN sec e k % sec : Nat) : Int) = k := by
  have hs := sec_pos h
  obtain ⟨⟨h1, h2⟩, h3, h4⟩ := h
  obtain ⟨a, rfl⟩ : ∃ a : Nat, e = a := ⟨e.toNat, by omega⟩
  obtain ⟨b, rfl⟩ : ∃ b : Nat, k = b := ⟨k.toNat, by omega⟩
  rw [ix_nat, Nat.mul_comm, Nat.mul_add_div hs, Nat.mul_add_mod, Nat.div_eq_of_lt (by omega), Nat.mod_eq_of_lt (by omega)]
  exact ⟨by omega, rfl⟩
theorem ix_lt (h : inW n sec e k) : ixN sec e k < n * sec := (ix_in h).2
theorem secs_at (w : Wd) (h : inW n sec e k) : (secsOf w n sec)[ixN sec e k]? = some (sxOf w e k) := by
  rw [secs_get w (ix_lt h), (ix_back h).1, (ix_back h).2]
theorem secs_ext {S : List Sx} (hl : S.length = n * sec) (h : ∀ i, i < n * sec → S[i]? = some (sxOf w (i / sec : Nat) (i % sec : Nat))) : S = secsOf w n sec := by
  refine List.ext_getElem? fun i => ?_
  by_cases hi : i < n * sec
  · rw [h i hi, secs_get w hi]
  · rw [secs_no w hi, List.getElem?_eq_none_iff]
    omega
theorem ix_eq_iff {i : Nat} (h : inW n sec e k) (hi : i < n * sec) : ixN sec e k = i ↔ ((i / sec : Nat) : Int) = e ∧ ((i % sec : Nat) : Int) = k := by
  constructor
  · rintro rfl
    exact ix_back h
  · rintro ⟨h1, h2⟩
    rw [← h1, ← h2, ix_div]
theorem secs_write (hi : w.is n sec) (h0 : w.err e k = 0) (hs : s.size ≤ 64) : (secsOf w n sec).set (ixN sec e k) ((sxOf w e k).1, s, true) = secsOf (w.write e k s).2 n sec := by
  have hin := (hi.err0.1 h0).2
  refine secs_ext (by rw [List.length_set, secs_len]) fun i h => ?_
  rw [List.getElem?_set, secs_len, secs_get w h]
  unfold sxOf
  rw [write_d, write_m hi h0 hs (ix_split h)]
  by_cases hx : ixN sec e k = i
  · obtain ⟨h1, h2⟩ := (ix_eq_iff hin h).1 hx
    rw [if_pos hx, if_pos (by omega), if_pos ⟨h1, h2⟩, h1, h2]
    rfl
  · rw [if_neg hx, if_neg (fun h' => hx ((ix_eq_iff hin h).2 h'))]
theorem secs_lay (hi : w.is n sec) (h0 : w.may e k = 0) (hs : s.size ≤ 64) : (secsOf w n sec).set (ixN sec e k) (s, s, false) = secsOf (w.lay e k s).2 n sec := by
  have hin := hi.may0.1 h0
  refine secs_ext (by rw [List.length_set, secs_len]) fun i h => ?_
  rw [List.getElem?_set, secs_len, secs_get w h]
  unfold sxOf
  rw [lay_d hi h0 hs (ix_split h), lay_m hi h0 hs (ix_split h)]
  by_cases hx : ixN sec e k = i
  · obtain ⟨h1, h2⟩ := (ix_eq_iff hin h).1 hx
    rw [if_pos hx, if_pos (by omega), if_pos ⟨h1, h2⟩, if_pos ⟨h1, h2⟩]
    rfl
  · rw [if_neg hx, if_neg (fun h' => hx ((ix_eq_iff hin h).2 h')), if_neg (fun h' => hx ((ix_eq_iff hin h).2 h'))]
theorem secs_flush (hi : w.is n sec) (h0 : w.err e 0 = 0) : flS (secsOf w n sec) (ixN sec e 0) sec = secsOf (w.flush e).2 n sec := by
  have hin := (hi.err0.1 h0).2
  refine secs_ext (by rw [flS_len, secs_len]) fun i h => ?_
  rw [flS_get, secs_get w h, Option.map_some]
  unfold sxOf
  rw [flush_d hi h0 (ix_split h), flush_m hi h0 (ix_split h)]
  have hc : (ixN sec e 0 ≤ i ∧ i < ixN sec e 0 + sec) ↔ ((i / sec : Nat) : Int) = e := by
    have hs := sec_pos hin
    obtain ⟨⟨h1, h2⟩, h3, h4⟩ := hin
    obtain ⟨a, rfl⟩ : ∃ a : Nat, e = a := ⟨e.toNat, by omega⟩
    have e0 : ixN sec (a : Nat) 0 = a * sec := by
      have := ix_nat (sec := sec) (a := a) (b := 0)
      rw [Nat.add_zero] at this
      exact this
    rw [e0]
    constructor
    · rintro ⟨h5, h6⟩
      have : i / sec = a := by
        refine Nat.div_eq_of_lt_le h5 ?_
        rw [Nat.add_mul, Nat.one_mul]
        exact h6
      omega
    · intro h5
      have h6 : i / sec = a := by omega
      have h7 := Nat.div_add_mod i sec
      have h8 := Nat.mod_lt i hs
      rw [h6, Nat.mul_comm] at h7
      omega
  by_cases he : ((i / sec : Nat) : Int) = e
  · rw [if_pos (hc.2 he), if_pos he, if_pos he]
    rfl
  · rw [if_neg (fun h => he (hc.1 h)), if_neg he, if_neg he]
theorem secs_crash (hi : w.is n sec) (h0 : w.off = false) (ps : List (Int × Int)) : crS n sec (secsOf w n sec) ps (n * sec) = secsOf (w.crash ps).2 n sec := by
  refine secs_ext (by rw [crS_len, secs_len]) fun i h => ?_
  rw [crS_get, secs_get w h, Option.map_some, if_pos h]
  unfold sxOf
  rw [crash_d hi h0 ps (ix_split h), crash_m ps h0]
  congr 1
  have hp : (ps.any fun p => ixO n sec p.1 p.2 == (i : Nat)) = decide ((((i / sec : Nat) : Int), ((i % sec : Nat) : Int)) ∈ ps) := by
    rw [Bool.eq_iff_iff, List.any_eq_true, decide_eq_true_iff]
    constructor
    · rintro ⟨p, hp, h1⟩
      have h1 := beq_iff_eq.1 h1
      by_cases hin : inS (sec : Nat) n p.1 p.2
      · rw [(ix_in hin).1] at h1
        have h2 : ixN sec p.1 p.2 = i := by omega
        obtain ⟨h3, h4⟩ := (ix_eq_iff hin h).1 h2
        rw [h3, h4]
        exact hp
      · rw [ix_no hin] at h1
        omega
    · intro hm
      refine ⟨_, hm, beq_iff_eq.2 ?_⟩
      rw [(ix_in (ix_split h)).1, ix_div]
  unfold kpB cr1
  rw [hp]
  dsimp only
  generalize w.m (i / sec : Nat) (i % sec : Nat) = o
  by_cases hq : (((i / sec : Nat) : Int), ((i % sec : Nat) : Int)) ∈ ps
  · rw [decide_eq_true hq, if_pos hq, Bool.or_true, if_pos rfl]
    rfl
  · rw [decide_eq_false hq, if_neg hq, Bool.or_false]
    cases o <;> rfl
theorem secs_new : List.replicate (n * sec) (ByteArray.empty, ByteArray.empty, false) = secsOf (newW n sec) n sec := by
  refine secs_ext (by rw [List.length_replicate]) fun i h => ?_
  rw [List.getElem?_replicate, if_pos h]
  have hm : ∀ e k : Int, (newW n sec).m e k = none := fun e k => by
    unfold Wd.m newW
    dsimp only
    rw [List.getElem?_replicate]
    split <;> rfl
  have hd : ∀ e k : Int, (newW n sec).d e k = ByteArray.empty := fun e k => by
    unfold Wd.d newW
    dsimp only
    rw [List.getElem?_replicate]
    split
    · rw [Option.bind_some, List.getElem?_replicate]
      split <;> rfl
    · rfl
  unfold sxOf
  rw [hm, hd]
  rfl
theorem secs_wet (hi : w.is n sec) (he : 0 ≤ e ∧ e < n) : wxL n sec (secsOf w n sec) e sec = w.wet e := by
  have hm' : e.toNat < w.M.length := by have := hi.ok.len; have := hi.n; omega
  unfold Wd.wet
  rw [List.getElem?_eq_getElem hm']
  dsimp only
  rw [if_pos he.1]
  have hmm : w.M[e.toNat] ∈ w.M := List.getElem_mem hm'
  have hok := hi.ok.mp _ hmm
  have hks := hi.ok.ks _ hmm
  rw [hi.s] at hks
  have hiw : ∀ k, k < sec → isWx n sec (secsOf w n sec) e k = (w.M[e.toNat].get (k : Nat)).isSome := fun k hk => by
    have hin : inW n sec e (k : Nat) := ⟨he, by omega, by omega⟩
    unfold isWx
    rw [if_pos (show inS (sec : Nat) n e (k : Nat) from hin), secs_at w hin]
    unfold sxOf Wd.m
    rw [List.getElem?_eq_getElem hm']
    rfl
  generalize w.M[e.toNat] = m at *
  have hperm : (wxL n sec (secsOf w n sec) e sec).Perm (m.L.map (·.1)) := by
    refine (List.perm_ext_iff_of_nodup ?_ hok.ky).2 fun a => ?_
    · unfold wxL
      exact List.Pairwise.map _ (fun a b (h : a ≠ b) => show (a : Int) ≠ (b : Int) by omega) (List.nodup_range.sublist List.filter_sublist)
    · unfold wxL
      rw [List.mem_map]
      constructor
      · rintro ⟨k, hk, rfl⟩
        obtain ⟨h1, h2⟩ := List.mem_filter.1 hk
        rw [hiw k (List.mem_range.1 h1)] at h2
        obtain ⟨s, hs⟩ := Option.isSome_iff_exists.1 h2
        obtain ⟨x, hx, h3, _⟩ := (getE_iff hok.ky).1 hs
        rw [← h3]
        exact List.mem_map_of_mem (f := fun e : En => e.1) hx
      · intro h
        obtain ⟨x, hx, rfl⟩ := List.mem_map.1 h
        have h1 := hks x hx
        refine ⟨x.1.toNat, List.mem_filter.2 ⟨List.mem_range.2 (by omega), ?_⟩, by omega⟩
        rw [hiw _ (by omega), show ((x.1.toNat : Nat) : Int) = x.1 by omega, mget_mem hok hx]
        rfl
  have h1 : (wxL n sec (secsOf w n sec) e sec).mergeSort (fun x y => decide (x ≤ y)) = ksE m.L := Go.mergeSort_of_perm_i hperm
  rw [← h1]
  refine (List.mergeSort_of_pairwise ?_).symm
  unfold wxL
  rw [List.pairwise_map]
  refine (List.Pairwise.sublist List.filter_sublist List.pairwise_lt_range).imp fun h => decide_eq_true (by omega)
theorem secs_dry (he : ¬ (0 ≤ e ∧ e < n)) {S : List Sx} : wxL n sec S e sec = [] := by
  unfold wxL
  rw [List.filter_eq_nil_iff.2 fun k _ => ?_, List.map_nil]
  unfold isWx
  rw [if_neg (fun h => he h.1)]
  decide
end
end Go.Proofs.Ytpkbdlocmjgmbaa.A
