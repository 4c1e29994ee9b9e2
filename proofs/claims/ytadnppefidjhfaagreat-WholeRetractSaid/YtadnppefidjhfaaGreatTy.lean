/-
  The Lean types that stand for the program's structs. Plain definitions.
-/
namespace Go.AE
structure Pt where
  X : Int
  Y : Int
  deriving DecidableEq
structure Rc where
  X0 : Int
  Y0 : Int
  X1 : Int
  Y1 : Int
  deriving DecidableEq
structure Vs where
  X : Int
  Y : Int
  N : Int
  deriving DecidableEq
structure Ac where
  K : Int
  X : Int
  Y : Int
  deriving DecidableEq
structure Bm where
  M : Int
  R : Int
  deriving DecidableEq
structure Ev where
  T : Int
  U : Int
  F : Int
  B : Bool
  S : List Bm
  deriving DecidableEq
structure Pa where
  X : Int
  Y : Int
  H : Int
  W : Int
  deriving DecidableEq
structure Po where
  X : Int
  Y : Int
  H : Int
  deriving DecidableEq
structure Ax where
  U : Int
  F : Int
  T : Int
  L : Int
  X : Int
  Y : Int
  M : List Int
  E : List Int
  deriving DecidableEq
structure En where
  X : Int
  Y : Int
  A : Int
  B : Int
  deriving DecidableEq
/-- A placement; a note. -/
structure Pm where
  V : Int
  G : Bool
  X : Int
  Y : Int
  H : Int
  deriving DecidableEq
structure Nt where
  P : Bool
  I : Int
  S : List Bm
  V : Int
  G : Bool
  X : Int
  Y : Int
  H : Int
  deriving DecidableEq
structure Tl where
  X : Int
  Y : Int
  D : List Int
  deriving DecidableEq
end Go.AE
