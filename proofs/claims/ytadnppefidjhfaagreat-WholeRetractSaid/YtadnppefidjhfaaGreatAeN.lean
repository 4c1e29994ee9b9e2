/-
  AE, part 9: what comes after an operation sees its outcome alone.
-/
import Derived.Test.YtadnppefidjhfaaGreatAeX
namespace Go.AE
open Go.RowKit

section
variable {C : Cfg} {E : Nat → Type} {Z : Type}

theorem nat_cond {α : Type} {b : Bool} {X : Option Z} {Y : Option α} {K : α → Option Z} (h : X = Option.bind Y K) : cond b X none = Option.bind (cond b Y none) K := by cases b <;> first | rfl | exact h
theorem nat_cond' {α : Type} {b : Bool} {X : Option Z} {Y : Option α} {K : α → Option Z} (h : X = Option.bind Y K) : cond b none X = Option.bind (cond b none Y) K := by cases b <;> first | rfl | exact h
theorem nat_two {α : Type} {b : Bool} {X X' : Option Z} {Y Y' : Option α} {K : α → Option Z} (h : X = Option.bind Y K) (h' : X' = Option.bind Y' K) : cond b X X' = Option.bind (cond b Y Y') K := by cases b <;> first | exact h' | exact h
theorem nat_bind {α β : Type} {o : Option β} {f : β → Option Z} {g : β → Option α} {K : α → Option Z} (h : ∀ x, f x = Option.bind (g x) K) : Option.bind o f = Option.bind (Option.bind o g) K := by cases o <;> first | rfl | exact h _

theorem intOp_nat (op : BinOp) (k : IntKind) (a b : Int) (K : Eff E → Option Z) : intOp op k a b K = Option.bind (intOp op k a b some) K := by
  cases op <;> unfold intOp <;> first | rfl | exact nat_cond' rfl

theorem binK_nat (ti : TI E) (op : BinOp) (x y : AV E) (K : Eff E → Option Z) : binK ti op x y K = Option.bind (binK ti op x y some) K := by
  unfold binK
  repeat' first | rfl | exact intOp_nat _ _ _ _ _ | exact nat_cond' rfl | split

theorem unK_nat (op : UnOp) (x : AV E) (K : Eff E → Option Z) : unK op x K = Option.bind (unK op x some) K := by
  unfold unK
  repeat' first | rfl | split

theorem convK_nat (s d : TypeId) (x : AV C.E) (K : Eff C.E → Option Z) : convK C s d x K = Option.bind (convK C s d x some) K := by
  unfold convK
  repeat' first | rfl | split

theorem rowK_nat {α : Type} (e : TypeId) (xs : List (C.E e)) (i : Nat) (F : List (AV C.E) → Option Z) (G : List (AV C.E) → Option α) (K : α → Option Z) (h : ∀ l, F l = Option.bind (G l) K) : rowK C e xs i F = Option.bind (rowK C e xs i G) K :=
  nat_bind (fun _ => h _)

theorem loadK_nat (lk : Nat → Option (Ob C.E)) (t : TypeId) (p : AV C.E) (K : Eff C.E → Option Z) : loadK C lk t p K = Option.bind (loadK C lk t p some) K := by
  unfold loadK
  repeat' first | rfl | (refine rowK_nat _ _ _ _ _ _ (fun l => ?_)) | split

theorem storeK_nat (lk : Nat → Option (Ob C.E)) (t : TypeId) (p x : AV C.E) (K : Eff C.E → Option Z) : storeK C lk t p x K = Option.bind (storeK C lk t p x some) K := by
  unfold storeK
  repeat' first | rfl | (refine rowK_nat _ _ _ _ _ _ (fun l => ?_)) | (refine nat_bind (fun y => ?_)) | split

theorem indexAddrK_nat (lk : Nat → Option (Ob C.E)) (t : TypeId) (x i : AV C.E) (K : Eff C.E → Option Z) : indexAddrK C lk t x i K = Option.bind (indexAddrK C lk t x i some) K := by
  unfold indexAddrK
  repeat' first | rfl | exact nat_cond rfl | (refine nat_bind (fun y => ?_)) | split

theorem indexK_nat (t : TypeId) (x i : AV C.E) (K : Eff C.E → Option Z) : indexK C t x i K = Option.bind (indexK C t x i some) K := by
  unfold indexK
  repeat' first | rfl | (refine nat_cond ?_) | (refine nat_bind (fun y => ?_)) | split

theorem sliceK_nat (t : TypeId) (x : AV C.E) (lo hi mx : Option (AV C.E)) (lk : Nat → Option (Ob C.E)) (K : Eff C.E → Option Z) : sliceK C t x lo hi mx lk K = Option.bind (sliceK C t x lo hi mx lk some) K := by
  unfold sliceK
  repeat' first | rfl | (refine nat_cond ?_) | (refine nat_bind (fun y => ?_)) | split

theorem readSl_nat {α : Type} (lk : Nat → Option (Ob C.E)) (e : TypeId) (x : AV C.E) (F : List (C.E e) → List Nat → Option Z) (G : List (C.E e) → List Nat → Option α) (K : α → Option Z) (h : ∀ l rd, F l rd = Option.bind (G l rd) K) :
    readSl C lk e x F = Option.bind (readSl C lk e x G) K := by
  unfold readSl
  repeat' first | rfl | exact h _ _ | exact nat_cond (h _ _) | split

theorem zeroK_nat (t : TypeId) (x : AV C.E) (hi mx : Option (AV C.E)) (nid : Nat) (K : Eff C.E → Option Z) : zeroK C t x hi mx nid K = Option.bind (zeroK C t x hi mx nid some) K := by
  unfold zeroK
  repeat' first | rfl | split
theorem convAK_nat (s d : TypeId) (x : AV C.E) (lk : Nat → Option (Ob C.E)) (K : Eff C.E → Option Z) : convAK C s d x lk K = Option.bind (convAK C s d x lk some) K := by
  unfold convAK
  repeat' first | rfl | exact convK_nat _ _ _ _ | (refine readSl_nat _ _ _ _ _ _ (fun l rd => ?_)) | split
  all_goals
    cases C.bytes _ _ <;> rfl
theorem appendK_nat (t : TypeId) (s x : AV C.E) (lk : Nat → Option (Ob C.E)) (nid : Nat) (K : Eff C.E → Option Z) : appendK C t s x lk nid K = Option.bind (appendK C t s x lk nid some) K := by
  unfold appendK
  repeat' first | rfl | (refine readSl_nat _ _ _ _ _ _ (fun l rd => ?_)) | exact nat_cond rfl | split

theorem copyK_nat (t : TypeId) (d x : AV C.E) (lk : Nat → Option (Ob C.E)) (K : Eff C.E → Option Z) : copyK C t d x lk K = Option.bind (copyK C t d x lk some) K := by
  unfold copyK
  repeat' first | rfl | (refine nat_cond ?_) | (refine readSl_nat _ _ _ _ _ _ (fun l rd => ?_)) | split

theorem clearK_nat (t : TypeId) (d : AV C.E) (lk : Nat → Option (Ob C.E)) (K : Eff C.E → Option Z) : clearK C t d lk K = Option.bind (clearK C t d lk some) K := by
  unfold clearK
  repeat' first | rfl | (refine nat_bind (fun y => ?_)) | exact nat_cond rfl | split

theorem makeK_nat (t : TypeId) (l c : AV C.E) (nid : Nat) (K : Eff C.E → Option Z) : makeK C t l c nid K = Option.bind (makeK C t l c nid some) K := by
  unfold makeK
  repeat' first | rfl | (refine nat_bind (fun y => ?_)) | exact nat_cond rfl | split

theorem buildK_nat (t : TypeId) (ps : List (Nat × AV C.E)) (K : Eff C.E → Option Z) : buildK C t ps K = Option.bind (buildK C t ps some) K := by
  unfold buildK
  repeat' first | rfl | split

theorem buildSliceK_nat (t : TypeId) (n : Nat) (ps : List (Nat × AV C.E)) (nid : Nat) (K : Eff C.E → Option Z) : buildSliceK C t n ps nid K = Option.bind (buildSliceK C t n ps nid some) K := by
  unfold buildSliceK
  repeat' first | rfl | (refine nat_bind (fun y => ?_)) | split

theorem giveSl_nat {α : Type} (lk : Nat → Option (Ob C.E)) (a : Hand C.E) (id start len : Nat) (F : Hand C.E → AV C.E → Option Z) (G : Hand C.E → AV C.E → Option α) (K : α → Option Z) (h : ∀ a x, F a x = Option.bind (G a x) K) :
    giveSl C lk a id start len F = Option.bind (giveSl C lk a id start len G) K := by
  unfold giveSl
  repeat' first | rfl | exact nat_cond (h _ _) | split

theorem giveCells_nat {α : Type} (lk : Nat → Option (Ob C.E)) : ∀ (cs : List (AV C.E)) (a : Hand C.E) (F : Hand C.E → List (AV C.E) → Option Z) (G : Hand C.E → List (AV C.E) → Option α) (K : α → Option Z) (_ : ∀ a x, F a x = Option.bind (G a x) K),
    giveCells C lk a cs F = Option.bind (giveCells C lk a cs G) K
  | [], a, F, G, K, h => by simp only [giveCells]; exact h _ _
  | x :: cs, a, F, G, K, h => by
    have ih := fun (a : Hand C.E) (y : AV C.E) => giveCells_nat lk cs a (fun a xs => F a (y :: xs)) (fun a xs => G a (y :: xs)) K (fun a xs => h _ _)
    cases x <;> simp only [giveCells, AV.free] <;> first
      | exact ih _ _
      | exact giveSl_nat _ _ _ _ _ _ _ _ (fun a x => ih a x)
      | rfl
      | (split
         · exact ih _ _
         · rfl)

theorem readCells_nat {α : Type} (lk : Nat → Option (Ob C.E)) : ∀ (cs : List (AV C.E)) (F : List (AV C.E) → List Nat → Option Z) (G : List (AV C.E) → List Nat → Option α) (K : α → Option Z) (_ : ∀ a x, F a x = Option.bind (G a x) K),
    readCells C lk cs F = Option.bind (readCells C lk cs G) K
  | [], F, G, K, h => by simp only [readCells]; exact h _ _
  | x :: cs, F, G, K, h => by
    have ih := fun (y : AV C.E) => readCells_nat lk cs (fun ys rd => F (y :: ys) rd) (fun ys rd => G (y :: ys) rd) K (fun ys rd => h _ _)
    have ih2 := fun (y : AV C.E) (id : Nat) => readCells_nat lk cs (fun ys rd => F (y :: ys) (id :: rd)) (fun ys rd => G (y :: ys) (id :: rd)) K (fun ys rd => h _ _)
    cases x <;> simp only [readCells, AV.free] <;> first
      | exact ih _
      | (split
         · exact nat_cond (ih2 _ _)
         · rfl)
      | rfl

theorem handCell1_nat {α : Type} (lk : Nat → Option (Ob C.E)) (a : Hand C.E) (m : CM) (x : AV C.E) (F : Hand C.E → AV C.E → Option Z) (G : Hand C.E → AV C.E → Option α) (K : α → Option Z) (h : ∀ a x, F a x = Option.bind (G a x) K) :
    handCell1 C lk a m x F = Option.bind (handCell1 C lk a m x G) K := by
  unfold handCell1
  repeat' first | rfl | exact h _ _ | exact readSl_nat _ _ _ _ _ _ (fun l rd => h _ _) | exact giveSl_nat _ _ _ _ _ _ _ _ h | exact giveCells_nat _ _ _ _ _ _ (fun a xs => h _ _) | exact readCells_nat _ _ _ _ _ (fun ys rd => h _ _) | split

theorem handCaps_nat {α : Type} (lk : Nat → Option (Ob C.E)) : ∀ (cs : List (AV C.E)) (a : Hand C.E) (F : Hand C.E → List (AV C.E) → Option Z) (G : Hand C.E → List (AV C.E) → Option α) (K : α → Option Z) (_ : ∀ a x, F a x = Option.bind (G a x) K),
    handCaps C lk a cs F = Option.bind (handCaps C lk a cs G) K
  | [], a, F, G, K, h => by simp only [handCaps]; exact h _ _
  | x :: cs, a, F, G, K, h => by
    simp only [handCaps]
    exact handCell1_nat _ _ _ _ _ _ _ (fun a y => handCaps_nat lk cs a _ _ K (fun a ys => h _ _))

theorem handCell_nat {α : Type} (lk : Nat → Option (Ob C.E)) (a : Hand C.E) (m : CM) (x : AV C.E) (F : Hand C.E → AV C.E → Option Z) (G : Hand C.E → AV C.E → Option α) (K : α → Option Z) (h : ∀ a x, F a x = Option.bind (G a x) K) :
    handCell C lk a m x F = Option.bind (handCell C lk a m x G) K := by
  unfold handCell
  split
  · exact handCaps_nat _ _ _ _ _ _ (fun a ys => h _ _)
  · exact handCell1_nat _ _ _ _ _ _ _ h

theorem handCells_nat {α : Type} (lk : Nat → Option (Ob C.E)) : ∀ (ms : List CM) (cs : List (AV C.E)) (a : Hand C.E) (F : Hand C.E → List (AV C.E) → Option Z) (G : Hand C.E → List (AV C.E) → Option α) (K : α → Option Z) (_ : ∀ a x, F a x = Option.bind (G a x) K),
    handCells C lk a ms cs F = Option.bind (handCells C lk a ms cs G) K
  | [], [], a, F, G, K, h => by simp only [handCells]; exact h _ _
  | [], _ :: _, a, F, G, K, h => rfl
  | _ :: _, [], a, F, G, K, h => rfl
  | m :: ms, x :: cs, a, F, G, K, h => by
    simp only [handCells]
    exact handCell_nat _ _ _ _ _ _ _ (fun a y => handCells_nat lk ms cs a _ _ K (fun a ys => h _ _))

theorem handArgs_nat {α : Type} (lk : Nat → Option (Ob C.E)) : ∀ (ms : List (List CM)) (cs : List (AV C.E)) (a : Hand C.E) (F : Hand C.E → List (AV C.E) → Option Z) (G : Hand C.E → List (AV C.E) → Option α) (K : α → Option Z) (_ : ∀ a x, F a x = Option.bind (G a x) K),
    handArgs C lk a ms cs F = Option.bind (handArgs C lk a ms cs G) K
  | [], [], a, F, G, K, h => by simp only [handArgs]; exact h _ _
  | [], _ :: _, a, F, G, K, h => rfl
  | _ :: _, [], a, F, G, K, h => rfl
  | m :: ms, x :: cs, a, F, G, K, h => by
    simp only [handArgs]
    exact handCells_nat _ _ _ _ _ _ _ (fun a ys => handArgs_nat lk ms cs a _ _ K (fun a zs => h _ _))

/-- What comes after a contract sees its outcome alone. -/
def CFNat (g : CF C) : Prop := ∀ {Z : Type} (args : List (AV C.E)) (obs : List (Option (Ob C.E))) (K : AV C.E → List (Option (Ob C.E)) → Option Z), g.F args obs K = Option.bind (g.F args obs fun r o => some (r, o)) fun p => K p.1 p.2

theorem CFNat.two {α : Type} {g : CF C} (hg : CFNat g) (args : List (AV C.E)) (obs : List (Option (Ob C.E))) (F : AV C.E → List (Option (Ob C.E)) → Option Z) (G : AV C.E → List (Option (Ob C.E)) → Option α) (K : α → Option Z) (h : ∀ a x, F a x = Option.bind (G a x) K) :
    g.F args obs F = Option.bind (g.F args obs G) K := by
  rw [hg args obs F, hg args obs G]
  cases g.F args obs fun r o => some (r, o) with
  | none => rfl
  | some p => exact h _ _

theorem callK_nat {g : CF C} (hg : CFNat g) (args : List (AV C.E)) (lk : Nat → Option (Ob C.E)) (nid : Nat) (K : Eff C.E → Option Z) : callK C g args lk nid K = Option.bind (callK C g args lk nid some) K := by
  unfold callK
  refine handArgs_nat _ _ _ _ _ _ _ (fun a x => ?_)
  repeat' first | rfl | (refine hg.two _ _ _ _ _ (fun r o => ?_)) | split

theorem keyK_nat {α : Type} (k : TypeId) (x : AV C.E) (F : C.E k → Option Z) (G : C.E k → Option α) (K : α → Option Z) (h : ∀ y, F y = Option.bind (G y) K) : keyK C k x F = Option.bind (keyK C k x G) K := by
  unfold keyK
  repeat' first | rfl | exact nat_bind h | split
theorem valK_nat {α : Type} (e : TypeId) (x : AV C.E) (F : C.E e → Option Z) (G : C.E e → Option α) (K : α → Option Z) (h : ∀ y, F y = Option.bind (G y) K) : valK C e x F = Option.bind (valK C e x G) K := by
  unfold valK
  repeat' first | rfl | exact nat_bind h | split
theorem zeroE_nat {α : Type} (e : TypeId) (F : C.E e → Option Z) (G : C.E e → Option α) (K : α → Option Z) (h : ∀ y, F y = Option.bind (G y) K) : zeroE C e F = Option.bind (zeroE C e G) K := by
  unfold zeroE
  repeat' first | rfl | exact nat_bind h | split
theorem makeMapK_nat (t nid : Nat) (K : Eff C.E → Option Z) : makeMapK C t nid K = Option.bind (makeMapK C t nid some) K := by
  unfold makeMapK
  repeat' first | rfl | split
theorem lookupK_nat (t : TypeId) (m x : AV C.E) (ok : Bool) (lk : Nat → Option (Ob C.E)) (K : Eff C.E → Option Z) : lookupK C t m x ok lk K = Option.bind (lookupK C t m x ok lk some) K := by
  unfold lookupK
  repeat' first | rfl | (refine keyK_nat _ _ _ _ _ (fun y => ?_)) | (refine zeroE_nat _ _ _ _ (fun y => ?_)) | split
theorem mapEntryK_nat (t : TypeId) (m x : AV C.E) (lk : Nat → Option (Ob C.E)) (K : Eff C.E → Option Z) : mapEntryK C t m x lk K = Option.bind (mapEntryK C t m x lk some) K := by
  unfold mapEntryK
  repeat' first | rfl | (refine keyK_nat _ _ _ _ _ (fun y => ?_)) | split
theorem entryStoreK_nat (m s v : AV C.E) (lk : Nat → Option (Ob C.E)) (K : Eff C.E → Option Z) : entryStoreK C m s v lk K = Option.bind (entryStoreK C m s v lk some) K := by
  unfold entryStoreK
  repeat' first | rfl | exact nat_cond rfl | split
theorem updateK_nat (t : TypeId) (m x v : AV C.E) (lk : Nat → Option (Ob C.E)) (K : Eff C.E → Option Z) : updateK C t m x v lk K = Option.bind (updateK C t m x v lk some) K := by
  unfold updateK
  repeat' first | rfl | (refine keyK_nat _ _ _ _ _ (fun y => ?_)) | (refine valK_nat _ _ _ _ _ (fun y => ?_)) | split

theorem opK_nat {Γ : FuncId → Option (CF C)} (hΓ : ∀ f g, Γ f = some g → CFNat g) (o : Op) (ρ : Operand → AV C.E) (lk : Nat → Option (Ob C.E)) (nid : Nat) (K : Eff C.E → Option Z) : opK C Γ o ρ lk nid K = Option.bind (opK C Γ o ρ lk nid some) K := by
  cases o
  case call ca =>
    rcases ca with ⟨callee, args, tys⟩
    cases callee with
    | value x =>
      simp only [opK]
      split
      · rename_i f caps _
        cases hg : Γ f with
        | none => rfl
        | some g => exact callK_nat (hΓ f g hg) _ _ _ _
      · rfl
    | invoke a b => rfl
    | builtin b =>
      cases b <;> try rfl
      all_goals
        simp only [opK]
        repeat' first | rfl | exact appendK_nat _ _ _ _ _ _ | exact copyK_nat _ _ _ _ _ | exact clearK_nat _ _ _ _ | exact nat_cond rfl | split
  case makeMap t r =>
    cases r with
    | none => exact makeMapK_nat _ _ _
    | some x => rfl
  all_goals
    simp only [opK]
    first
      | rfl
      | exact lookupK_nat _ _ _ _ _ _
      | exact updateK_nat _ _ _ _ _ _
      | exact mapEntryK_nat _ _ _ _ _
      | exact entryStoreK_nat _ _ _ _ _
      | exact loadK_nat _ _ _ _
      | exact storeK_nat _ _ _ _ _
      | exact unK_nat _ _ _
      | exact convAK_nat _ _ _ _ _
      | exact buildK_nat _ _ _
      | exact buildSliceK_nat _ _ _ _ _
      | exact makeK_nat _ _ _ _ _
      | exact indexAddrK_nat _ _ _ _ _
      | exact indexK_nat _ _ _ _
      | (split <;> first | exact zeroK_nat _ _ _ _ _ _ | exact sliceK_nat _ _ _ _ _ _ _)
      | (repeat' first | rfl | exact binK_nat _ _ _ _ _ | exact nat_two rfl rfl | split)

end
end Go.AE
