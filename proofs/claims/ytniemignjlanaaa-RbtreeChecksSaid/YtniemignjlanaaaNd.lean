import Derived.Test.YtniemignjlanaaaBo2
set_option linter.unusedVariables false
namespace Go.Proofs.Bo
open Go Go.RowKit
/-- A segment. -/
structure Sg where
  ls : Int
  la : Int
  hs : Int
  ha : Int
  v : Int
deriving DecidableEq, Inhabited
def encS (s : Sg) : List Value := [.int .i64 s.ls, .int .i64 s.la, .int .i64 s.hs, .int .i64 s.ha, .int .i64 s.v]
/-- A node of a red-black tree. -/
structure Nd where
  s : Sg
  k0 : Int
  k1 : Int
  p : Int
  red : Bool
deriving DecidableEq, Inhabited
def encNd (n : Nd) : List Value := [.int .i64 n.s.ls, .int .i64 n.s.la, .int .i64 n.s.hs, .int .i64 n.s.ha, .int .i64 n.s.v, .int .i64 n.k0, .int .i64 n.k1, .int .i64 n.p, .bool n.red]
def zNd : List Value := [.int .i64 0, .int .i64 0, .int .i64 0, .int .i64 0, .int .i64 0, .int .i64 0, .int .i64 0, .int .i64 0, .bool false]
end Go.Proofs.Bo
