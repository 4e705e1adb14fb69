/- Builtins that only tell (len, min, max, cap) may be taken first, as reads are. No condition. -/
import Derived.Test.YtjhdgpboofcelaaDoorFreeR
namespace Go.Proofs.YtjhdgpboofcelaaDoor
open Go.RowKit

/-- The operations that hand back a value and call nothing but a builtin that tells. -/
def readOp2 (op : Op) : Bool := readOp op || (match op with
  | .call c => (match c.callee with | .builtin .len => true | .builtin .min => true | .builtin .max => true | .builtin .cap => true | _ => false)
  | _ => false)
theorem vals_of_read2 (ρ : Operand → Value) (o : Oper) (h : readOp2 o.op = true) : Vals (execOp ρ o) := by
  unfold readOp2 at h
  simp only [Bool.or_eq_true] at h
  rcases h with h | h
  · exact vals_of_read ρ o h
  · unfold execOp
    cases ho : o.op <;> rw [ho] at h <;> first | (cases h; done) | skip
    rename_i c
    simp only [] at h ⊢
    intro P w n w' hr
    have e : (resolve ρ c o.type >>= fun d => invoke d.target d.args).run P w = ((resolve ρ c o.type).run P w).andThen fun d w' => (invoke d.target d.args).run P w' := Sem.run_bind ..
    have hr2 := e.symm.trans hr
    cases hd : (resolve ρ c o.type).run P w with
    | halt x w1 => rw [hd] at hr2; cases hr2
    | ok d w1 =>
      rw [hd] at hr2
      unfold resolve at hd
      cases hc : c.callee <;> rw [hc] at h hd <;> first | (cases h; done) | skip
      rename_i b
      cases hd
      cases b <;> first | (cases h; done) | skip
      all_goals exact (Vals.bind (fun _ => Vals.pure _)) P _ n w' hr2
theorem YieldsIn.read2 {P : Program} {ops : Array Oper} {S : World → Prop} {o : Oper} {v : Value} {a : Act} (h : YieldsIn P ops S o v a) (ho : readOp2 o.op = true) : YieldsIf P ops S o v a := by
  rcases h with ⟨hw, h⟩ | h
  · refine .inl ⟨hw, fun w hS => ?_⟩
    have h1 := h w hS
    unfold Oper.quietAt at h1
    cases hr : (execOp a.eval o).run P w with
    | ok n w' =>
      obtain ⟨u, rfl⟩ := vals_of_read2 a.eval o ho P w n w' hr
      rw [hr] at h1
      obtain ⟨rfl, rfl⟩ := h1
      rfl
    | halt x w' => rw [hr] at h1; cases h1
  · exact .inr h
theorem wpAnyC_readB (i : Nat) {P : Program} {Q : Exit → Act → World → Prop} {S : World → Prop} {l : List Oper} {ts : List Nat} {fuel : Nat} {listed : Array Bool} {a : Act} {w : World} (hS : S w)
    (hB : ((match l[i]? with | some o => readOp2 o.op | none => false) && (Region.ready .any l.toArray listed).contains i && Region.free .any l.toArray listed i && (ts.all fun t => waitsT .any l.toArray l.toArray.size t i)) = true)
    (h : wpQuiet P l.toArray S (fun a' => wpAnyC P l.toArray Q S ts fuel (listed.setIfInBounds i true) a' w) ((l.drop i).take 1) a) : wpAnyC P l.toArray Q S ts (fuel + 1) listed a w := by
  simp only [Bool.and_eq_true] at hB
  obtain ⟨⟨⟨h1, h2⟩, h3⟩, h4⟩ := hB
  cases ho : l[i]? with
  | none => rw [ho] at h1; cases h1
  | some o =>
    rw [ho] at h1
    have e : (l.drop i).take 1 = [o] := by
      obtain ⟨hlt, rfl⟩ := List.getElem?_eq_some_iff.1 ho
      rw [List.drop_eq_getElem_cons hlt]
      rfl
    rw [e] at h
    have ho' : l.toArray[i]? = some o := by simpa using ho
    intro hs hQ hcl
    have hst : qOp P l.toArray S i (fun a' => wpAnyC P l.toArray Q S ts fuel (listed.setIfInBounds i true) a' w) a := by
      unfold qOp; simp only [ho']
      simpa [wpQuiet] using h
    obtain ⟨v, hy, hK⟩ := yieldsIn_of_qOp ho' hst
    have hr' : i ∈ Region.ready .any l.toArray listed := by simpa using h2
    exact wpAnyT_first (S1 := S) ho' (Region.noSelect_spec hs) (fun c a w => hQ c a w _ _) (fun li j w w' hc hj hun hSw ht => ht.resolve_left (fun hT => by
        have h5 := List.all_eq_true.1 h4 j (by simpa using hT)
        rw [listed_of_waitsT hc _ _ _ h5 (.inr hj)] at hun
        cases hun) hSw) fuel listed a w hcl (Region.free_spec ho' h3) hr' (YieldsIn.read2 hy h1) hS (hK hs hQ (hcl.set hr'))
end Go.Proofs.YtjhdgpboofcelaaDoor
