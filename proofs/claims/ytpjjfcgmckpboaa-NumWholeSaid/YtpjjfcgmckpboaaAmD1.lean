/- A quiet operation has one outcome. No condition. -/
import Derived.Test.YtpjjfcgmckpboaaAm3
namespace Go.Proofs.Ytpjjfcgmckpboaa.A
open Go
set_option linter.unusedVariables false
set_option linter.unusedSimpArgs false

theorem binI_pt {op : BinOp} {k k' : IntKind} {x y : Int} {K : AV → Prop} (h : binI op k k' x y K) : ∃ v, K v ∧ binI op k k' x y (fun u => u = v) := by
  unfold binI at h ⊢
  cases op <;> simp only at h ⊢ <;> first
    | exact ⟨_, h.2, h.1, rfl⟩
    | (cases hk : kEq k k' with
       | false => simp only [hk, cond_false] at h
       | true =>
         simp only [hk, cond_true] at h ⊢
         first
           | exact ⟨_, h, rfl⟩
           | exact ⟨_, h.2, h.1, rfl⟩
           | exact h.elim)
theorem binStr_pt {op : BinOp} {x y : ByteArray} {K : AV → Prop} (h : binStr op x y K) : ∃ v, K v ∧ binStr op x y (fun u => u = v) := by
  unfold binStr at h ⊢
  cases op <;> simp only at h ⊢ <;> first
    | exact ⟨_, h, rfl⟩
    | exact ⟨_, h.2, h.1, rfl⟩
    | exact h.elim
theorem eqlB_pt {op : BinOp} {b : Bool} {K : AV → Prop} (h : eqlB op b K) : ∃ v, K v ∧ eqlB op b (fun u => u = v) := by
  unfold eqlB at h ⊢
  cases op <;> simp only at h ⊢ <;> first
    | exact ⟨_, h, rfl⟩
    | exact h.elim
theorem fcmpK_pt {op : BinOp} {k : FloatKind} {x y : Nat} {K : AV → Prop} (h : fcmpK k x y op K) : ∃ v, K v ∧ fcmpK k x y op (fun u => u = v) := by
  unfold fcmpK at h ⊢
  split at h
  · exact ⟨_, h, rfl⟩
  · exact h.elim
theorem binA_pt {T : Tab} {op : BinOp} {t : TypeId} {ox oy : Operand} {a b : AV} {K : AV → Prop} (h : binA T op t ox oy a b K) : ∃ v, K v ∧ binA T op t ox oy a b (fun u => u = v) := by
  unfold binA at h ⊢
  split at h
  · exact binI_pt h
  · exact binStr_pt h
  · split at h
    · split at h
      · (try simp only [*])
        exact ⟨_, h, rfl⟩
      · (try simp only [*])
        exact ⟨_, h, rfl⟩
      · (try simp only [*])
        exact fcmpK_pt h
    · exact h.elim
  · split at h
    · (try simp only [*]); exact ⟨_, h, rfl⟩
    · (try simp only [*]); exact ⟨_, h, rfl⟩
    · exact h.elim
  · split at h
    · (try simp only [*]); exact ⟨_, h, rfl⟩
    · (try simp only [*]); exact ⟨_, h, rfl⟩
    · exact h.elim
  · split at h
    · (try simp only [*]); exact ⟨_, h, rfl⟩
    · (try simp only [*]); exact ⟨_, h, rfl⟩
    · exact h.elim
  · split at h
    · (try simp only [*]); exact eqlB_pt h
    · exact h.elim
  · split at h
    · (try simp only [*]); exact eqlB_pt h
    · exact h.elim
  · split at h
    · (try simp only [*]); exact eqlB_pt h
    · exact h.elim
  · split at h
    · (try simp only [*]); exact eqlB_pt h
    · exact h.elim
  · split at h
    · (try simp only [*])
      cases hc : (isNilConst ox || isNilConst oy) with
      | false => simp only [hc, cond_false] at h
      | true => simp only [hc, cond_true] at h ⊢; exact eqlB_pt h
    · exact h.elim
  · split at h
    · (try simp only [*]); exact eqlB_pt h
    · exact h.elim
  · split at h
    · (try simp only [*]); exact eqlB_pt h
    · exact h.elim
  · exact h.elim
theorem unA_pt {op : UnOp} {a : AV} {K : AV → Prop} (h : unA op a K) : ∃ v, K v ∧ unA op a (fun u => u = v) := by
  unfold unA at h ⊢
  split at h <;> simp only at h ⊢ <;> first
    | exact ⟨_, h, rfl⟩
    | exact h.elim
theorem convA_pt {T : Tab} {s d : TypeId} {a : AV} {K : AV → Prop} (h : convA T s d a K) : ∃ v, K v ∧ convA T s d a (fun u => u = v) := by
  unfold convA at h ⊢
  split at h <;> rename_i h1 <;> (try rename_i h2) <;> first
    | exact h.elim
    | (simp only [*]; exact ⟨_, h, rfl⟩)
    | (obtain ⟨n, hn, ⟨hr, hk⟩⟩ := optK_elim h
       simp only [h1, h2]
       exact ⟨_, hk, optK_intro hn ⟨hr, rfl⟩⟩)
theorem lenOf_pt {T : Tab} {H : Heap} {t : TypeId} {a : AV} {K : AV → Prop} (h : lenOf T H t a K) : ∃ v, K v ∧ lenOf T H t a (fun u => u = v) := by
  unfold lenOf at h ⊢
  split at h
  · (try simp only [*])
    split at h
    · (try simp only [*]); exact ⟨_, h, rfl⟩
    · (try simp only [*]); exact ⟨_, h, rfl⟩
    · (try simp only [*]); exact ⟨_, h, rfl⟩
    · (try simp only [*]); exact ⟨_, h, rfl⟩
    · (try simp only [*])
      split at h
      · (try simp only [*]); exact ⟨_, h, rfl⟩
      · exact h.elim
    · exact h.elim
  · exact h.elim
theorem most_pt {f : Int → Int → Int} {g : Operand → AV} {l : List Operand} {K : AV → Prop} (h : most f g l K) : ∃ v, K v ∧ most f g l (fun u => u = v) := by
  unfold most at h ⊢
  split at h
  · split at h
    · (try simp only [*]); exact ⟨_, h, rfl⟩
    · exact h.elim
  · exact h.elim
theorem lenA_pt {T : Tab} {H : Heap} {g : Operand → AV} {c : Call} {K : AV → Prop} (h : lenA T H g c K) : ∃ v, K v ∧ lenA T H g c (fun u => u = v) := by
  unfold lenA at h ⊢
  split at h
  · (try simp only [*])
    split at h
    · (try simp only [*]); exact lenOf_pt h
    · exact h.elim
  · (try simp only [*]); exact most_pt h
  · (try simp only [*]); exact most_pt h
  · exact h.elim
theorem indexAddrA_pt {T : Tab} {t : TypeId} {a ix : AV} {K : AV → Prop} (h : indexAddrA T t a ix K) : ∃ v, K v ∧ indexAddrA T t a ix (fun u => u = v) := by
  unfold indexAddrA at h ⊢
  split at h
  · (try simp only [*])
    split at h
    · (try simp only [*])
      split at h
      · (try simp only [*])
        cases hb : Nat.beq _ _ with
        | false => simp only [hb, cond_false] at h
        | true => simp only [hb, cond_true] at h ⊢; exact ⟨_, h.2, h.1, rfl⟩
      · exact h.elim
    · (try simp only [*])
      split at h
      · (try simp only [*]); exact ⟨_, h.2, h.1, rfl⟩
      · exact h.elim
    · (try simp only [*])
      split at h
      · (try simp only [*]); exact ⟨_, h.2, h.1, rfl⟩
      · exact h.elim
    · exact h.elim
  · exact h.elim
theorem sliceA_pt {T : Tab} {H : Heap} {t : TypeId} {a : AV} {lo hi mx : Option AV} {K : AV → Prop} (h : sliceA T H t a lo hi mx K) : ∃ v, K v ∧ sliceA T H t a lo hi mx (fun u => u = v) := by
  unfold sliceA at h ⊢
  split at h
  · (try simp only [*])
    split at h
    · (try simp only [*]); exact ⟨_, h.2, h.1, rfl⟩
    · exact h.elim
  · (try simp only [*])
    split at h
    · (try simp only [*])
      split at h
      · (try simp only [*]); exact ⟨_, h.2, h.1, rfl⟩
      · (try simp only [*])
        split at h
        · (try simp only [*])
          cases hb : (lo.isNone && hi.isSome && _ && _) with
          | false => simp only [hb, cond_false] at h
          | true => simp only [hb, cond_true] at h ⊢; exact ⟨_, h, rfl⟩
        · exact h.elim
      · exact h.elim
    · exact h.elim
  · (try simp only [*])
    split at h
    · (try simp only [*])
      split at h
      · (try simp only [*])
        cases hb : Nat.beq _ _ with
        | false => simp only [hb, cond_false] at h
        | true => simp only [hb, cond_true] at h ⊢; exact ⟨_, h.2, h.1, rfl⟩
      · (try simp only [*])
        split at h
        · (try simp only [*])
          cases hb : (lo.isNone && hi.isSome && _ && _) with
          | false => simp only [hb, cond_false] at h
          | true => simp only [hb, cond_true] at h ⊢; exact ⟨_, h, rfl⟩
        · exact h.elim
      · exact h.elim
    · exact h.elim
  · (try simp only [*])
    split at h
    · (try simp only [*])
      split at h
      · (try simp only [*]); exact ⟨_, h.2, h.1, rfl⟩
      · exact h.elim
    · exact h.elim
  · (try simp only [*])
    split at h
    · (try simp only [*])
      split at h
      · (try simp only [*])
        split at h
        · (try simp only [*])
          cases hb : (Nat.ble _ _ && Nat.ble _ _) with
          | false => simp only [hb, cond_false] at h
          | true => simp only [hb, cond_true] at h ⊢; exact ⟨_, h.2, h.1, rfl⟩
        · exact h.elim
      · exact h.elim
    · exact h.elim
  · exact h.elim
end Go.Proofs.Ytpjjfcgmckpboaa.A
