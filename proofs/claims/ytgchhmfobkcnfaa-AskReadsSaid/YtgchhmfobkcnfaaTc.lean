/- ask, the reference: Unpack of bytes that are none's; parts. No condition. -/
import Derived.Test.YtgchhmfobkcnfaaTb
import Derived.Test.YtgchhmfobkcnfaaVc
import Derived.Test.YtgchhmfobkcnfaaWy
namespace Go.Proofs.Ytgchhmfobkcnfaa.A
open Go
set_option linter.unusedVariables false
set_option linter.unusedSimpArgs false
set_option maxRecDepth 100000
set_option pp.maxSteps 400

def UrW (o : Option Rq) : AEnd → Heap → Prop := fun E G => G = [] ∧ match o with
  | some q => ∃ cs, LeL cs q.C ∧ E = .ret (.tup [.agg cs, bo true])
  | none => ∃ cs, LeL cs (q00 0).C ∧ E = .ret (.tup [.agg cs, bo false])
def urA (o : Option Rq) : AV := match o with
  | some q => .tup [.agg q.C, bo true]
  | none => .tup [.agg (q00 0).C, bo false]
theorem ur_weak {g : FuncId} {args : List AV} {H : Heap} {o : Option Rq} (h : ACalls Try.prog g args H (UrW o)) : ACalls Try.prog g args H (Ret (urA o)) := by
  refine h.weakR ?_
  intro E G hR
  cases o with
  | some q =>
    obtain ⟨rfl, cs, hl, rfl⟩ := hR
    exact ⟨_, ⟨rfl, rfl⟩, EndR_tup1 fun X v hv => VR_agLe hl hv⟩
  | none =>
    obtain ⟨rfl, cs, hl, rfl⟩ := hR
    exact ⟨_, ⟨rfl, rfl⟩, EndR_tup1 fun X v hv => VR_agLe hl hv⟩
theorem le_zero : LeL (rqR nilS nilS (q00 0)) (q00 0).C := le_lac (b := false) (fun _ => rfl) rfl
theorem ru_empty (s : ByteArray) (h : s.size = 0) : ACalls Try.prog 14 [str s] [] (UrW none) := by
  refine acalls_of_awp hT mixed Try.func14 rfl (by kernel_rfl) (by kernel_rfl) (Nat.le_of_ble_eq_true rfl) ?_
  refine fork (fun _ => ?_) (fun g => absurd (show (s.size : Int) = 0 by omega) (beq_eq_false_iff_ne.1 g))
  exact ⟨rfl, [], .tup [.agg (rqR nilS nilS (q00 0)), bo false], ⟨⟨_, rfl, rfl⟩, True.intro, Nat.zero_le _, rfl⟩, rfl, _, le_zero, rfl⟩
theorem ru_low (s : ByteArray) (h : s.size ≠ 0) (hk : octB s 0 = 0) : ACalls Try.prog 14 [str s] [] (UrW none) := by
  have h0 : (0 : Int) ≤ 0 ∧ (0 : Int) < (s.size : Int) := by omega
  refine acalls_of_awp hT mixed Try.func14 rfl (by kernel_rfl) (by kernel_rfl) (Nat.le_of_ble_eq_true rfl) ?_
  refine fork (fun g => absurd (show (s.size : Int) = 0 from beq_iff_eq.1 g) (by omega)) (fun _ => ?_)
  refine Ob.intro h0 ?_
  refine forkD (fun _ => ?_) (fun g => absurd (show ((octB s 0 : Nat) : Int) < 1 by omega) g)
  exact ⟨rfl, [], .tup [.agg (rqR nilS nilS (q00 0)), bo false], ⟨⟨_, rfl, rfl⟩, True.intro, Nat.zero_le _, rfl⟩, rfl, _, le_zero, rfl⟩
theorem ru_high (s : ByteArray) (h : s.size ≠ 0) (hk : 17 < octB s 0) : ACalls Try.prog 14 [str s] [] (UrW none) := by
  have h0 : (0 : Int) ≤ 0 ∧ (0 : Int) < (s.size : Int) := by omega
  refine acalls_of_awp hT mixed Try.func14 rfl (by kernel_rfl) (by kernel_rfl) (Nat.le_of_ble_eq_true rfl) ?_
  refine fork (fun g => absurd (show (s.size : Int) = 0 from beq_iff_eq.1 g) (by omega)) (fun _ => ?_)
  refine Ob.intro h0 ?_
  refine forkD (fun g => absurd (show ((octB s 0 : Nat) : Int) < 1 from g) (by omega)) (fun _ => ?_)
  refine Ob.intro h0 ?_
  refine forkD (fun _ => ?_) (fun g => absurd (show ((octB s 0 : Nat) : Int) > 17 by omega) g)
  exact ⟨rfl, [], .tup [.agg (rqR nilS nilS (q00 0)), bo false], ⟨⟨_, rfl, rfl⟩, True.intro, Nat.zero_le _, rfl⟩, rfl, _, le_zero, rfl⟩
theorem ru_bad (s : ByteArray) (hs : s.size ≤ 1000000) (h : s.size ≠ 0) (h1 : 1 ≤ octB s 0) (h17 : octB s 0 ≤ 17) (e : Int) (hp : begP (byL (shK (octB s 0))) s = .err e) : ACalls Try.prog 14 [str s] [] (UrW none) := by
  have h0 : (0 : Int) ≤ 0 ∧ (0 : Int) < (s.size : Int) := by omega
  have hw : wrp .i64 ((octB s 0 : Nat) : Int) = ((octB s 0 : Nat) : Int) := by rw [wrpE, wi64]; omega
  have hsh := shape_ok (octB s 0) ⟨h1, h17⟩
  rw [← hw] at hsh
  have hsz : (shK (octB s 0)).size ≤ 60 := by
    have : ∀ k, k ≤ 17 → (shK k).size ≤ 60 := by decide
    exact this _ h17
  have hb := rbegin_ok (shK (octB s 0)) s hsz hs
  rw [hp] at hb
  have he := begP_e hp
  refine acalls_of_awp hT mixed Try.func14 rfl (by kernel_rfl) (by kernel_rfl) (Nat.le_of_ble_eq_true rfl) ?_
  refine fork (fun g => absurd (show (s.size : Int) = 0 from beq_iff_eq.1 g) (by omega)) (fun _ => ?_)
  refine Ob.intro h0 ?_
  refine forkD (fun g => absurd (show ((octB s 0 : Nat) : Int) < 1 from g) (by omega)) (fun _ => ?_)
  refine Ob.intro h0 ?_
  refine forkD (fun g => absurd (show ((octB s 0 : Nat) : Int) > 17 from g) (by omega)) (fun _ => ?_)
  refine Ob.intro h0 ?_
  refine callP hsh rfl rfl ?_
  refine callP hb rfl rfl ?_
  refine fork (fun _ => ?_) (fun g => absurd (show e = 0 from bne_eq_false_iff_eq.1 g) (by omega))
  exact ⟨rfl, [], .tup [.agg (rqR nilS nilS (q00 0)), bo false], ⟨⟨_, rfl, rfl⟩, True.intro, Nat.zero_le _, rfl⟩, rfl, _, le_zero, rfl⟩
end Go.Proofs.Ytgchhmfobkcnfaa.A
