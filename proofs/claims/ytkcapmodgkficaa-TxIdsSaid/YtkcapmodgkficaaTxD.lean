/- Transactions: what is got, plainly. -/
import Derived.Test.YtkcapmodgkficaaTxH
namespace Go.Proofs.Ytkcapmodgkficaa
open Go.Vx Go.Fl
set_option maxRecDepth 100000
set_option maxHeartbeats 4000000
set_option linter.unusedSimpArgs false
set_option linter.unusedVariables false

def getI (R : RdT) : RdT × List TIn := manyP Prod.fst (fun a R => (R, a.2)) stepI 1 1000 (R, [])
def getO (R : RdT) : RdT × List TOut := manyP Prod.fst (fun a R => (R, a.2)) stepO 0 1000 (R, [])
/-- What is got: the transaction, how many bytes, what went wrong. -/
def getT (b : List UInt8) : TxT × Nat × Nat :=
  if (numP 4 (getO (getI (numP 4 (b, 0)).2).1).1).2.2 = 0 then (((numP 4 (b, 0)).1, (getI (numP 4 (b, 0)).2).2, (getO (getI (numP 4 (b, 0)).2).1).2, (numP 4 (getO (getI (numP 4 (b, 0)).2).1).1).1), b.length - (numP 4 (getO (getI (numP 4 (b, 0)).2).1).1).2.1.length, 0)
  else ((0, [], [], 0), 0, (numP 4 (getO (getI (numP 4 (b, 0)).2).1).1).2.2)

theorem iterP_len {α : Type} (rd : α → RdT) (step : α → α) (h : ∀ a, (rd (step a)).1.length ≤ (rd a).1.length) (n : Nat) (a : α) : (rd (iterP rd step n a)).1.length ≤ (rd a).1.length := by
  induction n generalizing a with
  | zero => exact Nat.le_refl _
  | succ n ih =>
    rw [iterP]
    split
    · exact Nat.le_trans (ih _) (h a)
    · exact Nat.le_refl _
theorem manyP_len {α : Type} (rd : α → RdT) (put : α → RdT → α) (step : α → α) (hp : ∀ a R, rd (put a R) = R) (h : ∀ a, (rd (step a)).1.length ≤ (rd a).1.length) (least most : Nat) (a : α) : (rd (manyP rd put step least most a)).1.length ≤ (rd a).1.length := by
  unfold manyP
  split
  · split
    · split
      · rw [hp]; exact Nat.le_refl _
      · refine Nat.le_trans (iterP_len rd step h _ _) ?_
        rw [hp]; simp
    · rw [hp]; exact Nat.le_refl _
  · exact Nat.le_refl _
theorem getI_len (R : RdT) : (getI R).1.1.length ≤ R.1.length :=
  manyP_len Prod.fst (fun a R => (R, a.2)) stepI (fun _ _ => rfl) (fun a => Nat.le_trans (numP_len _ _) (Nat.le_trans (scriptP_len _) (Nat.le_trans (numP_len _ _) (hashP_len _)))) 1 1000 (R, [])
theorem getO_len (R : RdT) : (getO R).1.1.length ≤ R.1.length :=
  manyP_len Prod.fst (fun a R => (R, a.2)) stepO (fun _ _ => rfl) (fun a => Nat.le_trans (scriptP_len _) (numP_len _ _)) 0 1000 (R, [])

end Go.Proofs.Ytkcapmodgkficaa
