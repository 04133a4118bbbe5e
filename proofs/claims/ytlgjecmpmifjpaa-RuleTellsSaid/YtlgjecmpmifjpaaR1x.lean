/-
  All trees that may be, by their sets: those that a first one comes to, in order; those that come to it, in order.
-/
import Derived.Test.YtlgjecmpmifjpaaR1f
set_option linter.unusedVariables false
set_option linter.unusedSimpArgs false
namespace Go.Ab

def S1 : List BT := [
  .lf 0]
def B1 : List BT := [
  .lf 0]
def S2 : List BT := [
  .lf 1]
def B2 : List BT := [
  .lf 1]
def S3 : List BT := [
  .jn (.lf 0) (.lf 1),
  .jn (.lf 1) (.lf 0)]
def B3 : List BT := [
  .jn (.lf 0) (.lf 1),
  .jn (.lf 1) (.lf 0)]
def S4 : List BT := [
  .lf 2]
def B4 : List BT := [
  .lf 2]
def S5 : List BT := [
  .jn (.lf 0) (.lf 2),
  .jn (.lf 2) (.lf 0)]
def B5 : List BT := [
  .jn (.lf 0) (.lf 2),
  .jn (.lf 2) (.lf 0)]
def S6 : List BT := [
  .jn (.lf 1) (.lf 2),
  .jn (.lf 2) (.lf 1)]
def B6 : List BT := [
  .jn (.lf 1) (.lf 2),
  .jn (.lf 2) (.lf 1)]
def S7 : List BT := [
  .jn (.lf 0) (.jn (.lf 1) (.lf 2)),
  .jn (.jn (.lf 1) (.lf 2)) (.lf 0),
  .jn (.lf 0) (.jn (.lf 2) (.lf 1)),
  .jn (.lf 1) (.jn (.lf 2) (.lf 0)),
  .jn (.jn (.lf 2) (.lf 1)) (.lf 0),
  .jn (.jn (.lf 2) (.lf 0)) (.lf 1),
  .jn (.lf 1) (.jn (.lf 0) (.lf 2)),
  .jn (.lf 2) (.jn (.lf 1) (.lf 0)),
  .jn (.lf 2) (.jn (.lf 0) (.lf 1)),
  .jn (.jn (.lf 0) (.lf 2)) (.lf 1),
  .jn (.jn (.lf 1) (.lf 0)) (.lf 2),
  .jn (.jn (.lf 0) (.lf 1)) (.lf 2)]
def B7 : List BT := [
  .jn (.lf 0) (.jn (.lf 1) (.lf 2)),
  .jn (.lf 0) (.jn (.lf 2) (.lf 1)),
  .jn (.jn (.lf 0) (.lf 1)) (.lf 2),
  .jn (.jn (.lf 1) (.lf 2)) (.lf 0),
  .jn (.jn (.lf 0) (.lf 2)) (.lf 1),
  .jn (.jn (.lf 2) (.lf 1)) (.lf 0),
  .jn (.jn (.lf 1) (.lf 0)) (.lf 2),
  .jn (.lf 2) (.jn (.lf 0) (.lf 1)),
  .jn (.lf 1) (.jn (.lf 0) (.lf 2)),
  .jn (.jn (.lf 2) (.lf 0)) (.lf 1),
  .jn (.lf 2) (.jn (.lf 1) (.lf 0)),
  .jn (.lf 1) (.jn (.lf 2) (.lf 0))]
def S8 : List BT := [
  .lf 3]
def B8 : List BT := [
  .lf 3]
def S9 : List BT := [
  .jn (.lf 0) (.lf 3),
  .jn (.lf 3) (.lf 0)]
def B9 : List BT := [
  .jn (.lf 0) (.lf 3),
  .jn (.lf 3) (.lf 0)]
def S10 : List BT := [
  .jn (.lf 1) (.lf 3),
  .jn (.lf 3) (.lf 1)]
def B10 : List BT := [
  .jn (.lf 1) (.lf 3),
  .jn (.lf 3) (.lf 1)]
def S11 : List BT := [
  .jn (.lf 0) (.jn (.lf 1) (.lf 3)),
  .jn (.jn (.lf 1) (.lf 3)) (.lf 0),
  .jn (.lf 0) (.jn (.lf 3) (.lf 1)),
  .jn (.lf 1) (.jn (.lf 3) (.lf 0)),
  .jn (.jn (.lf 3) (.lf 1)) (.lf 0),
  .jn (.jn (.lf 3) (.lf 0)) (.lf 1),
  .jn (.lf 1) (.jn (.lf 0) (.lf 3)),
  .jn (.lf 3) (.jn (.lf 1) (.lf 0)),
  .jn (.lf 3) (.jn (.lf 0) (.lf 1)),
  .jn (.jn (.lf 0) (.lf 3)) (.lf 1),
  .jn (.jn (.lf 1) (.lf 0)) (.lf 3),
  .jn (.jn (.lf 0) (.lf 1)) (.lf 3)]
def B11 : List BT := [
  .jn (.lf 0) (.jn (.lf 1) (.lf 3)),
  .jn (.lf 0) (.jn (.lf 3) (.lf 1)),
  .jn (.jn (.lf 0) (.lf 1)) (.lf 3),
  .jn (.jn (.lf 1) (.lf 3)) (.lf 0),
  .jn (.jn (.lf 0) (.lf 3)) (.lf 1),
  .jn (.jn (.lf 3) (.lf 1)) (.lf 0),
  .jn (.jn (.lf 1) (.lf 0)) (.lf 3),
  .jn (.lf 3) (.jn (.lf 0) (.lf 1)),
  .jn (.lf 1) (.jn (.lf 0) (.lf 3)),
  .jn (.jn (.lf 3) (.lf 0)) (.lf 1),
  .jn (.lf 3) (.jn (.lf 1) (.lf 0)),
  .jn (.lf 1) (.jn (.lf 3) (.lf 0))]
def S12 : List BT := [
  .jn (.lf 2) (.lf 3),
  .jn (.lf 3) (.lf 2)]
def B12 : List BT := [
  .jn (.lf 2) (.lf 3),
  .jn (.lf 3) (.lf 2)]
def S13 : List BT := [
  .jn (.lf 0) (.jn (.lf 2) (.lf 3)),
  .jn (.jn (.lf 2) (.lf 3)) (.lf 0),
  .jn (.lf 0) (.jn (.lf 3) (.lf 2)),
  .jn (.lf 2) (.jn (.lf 3) (.lf 0)),
  .jn (.jn (.lf 3) (.lf 2)) (.lf 0),
  .jn (.jn (.lf 3) (.lf 0)) (.lf 2),
  .jn (.lf 2) (.jn (.lf 0) (.lf 3)),
  .jn (.lf 3) (.jn (.lf 2) (.lf 0)),
  .jn (.lf 3) (.jn (.lf 0) (.lf 2)),
  .jn (.jn (.lf 0) (.lf 3)) (.lf 2),
  .jn (.jn (.lf 2) (.lf 0)) (.lf 3),
  .jn (.jn (.lf 0) (.lf 2)) (.lf 3)]
def B13 : List BT := [
  .jn (.lf 0) (.jn (.lf 2) (.lf 3)),
  .jn (.lf 0) (.jn (.lf 3) (.lf 2)),
  .jn (.jn (.lf 0) (.lf 2)) (.lf 3),
  .jn (.jn (.lf 2) (.lf 3)) (.lf 0),
  .jn (.jn (.lf 0) (.lf 3)) (.lf 2),
  .jn (.jn (.lf 3) (.lf 2)) (.lf 0),
  .jn (.jn (.lf 2) (.lf 0)) (.lf 3),
  .jn (.lf 3) (.jn (.lf 0) (.lf 2)),
  .jn (.lf 2) (.jn (.lf 0) (.lf 3)),
  .jn (.jn (.lf 3) (.lf 0)) (.lf 2),
  .jn (.lf 3) (.jn (.lf 2) (.lf 0)),
  .jn (.lf 2) (.jn (.lf 3) (.lf 0))]
def S14 : List BT := [
  .jn (.lf 1) (.jn (.lf 2) (.lf 3)),
  .jn (.jn (.lf 2) (.lf 3)) (.lf 1),
  .jn (.lf 1) (.jn (.lf 3) (.lf 2)),
  .jn (.lf 2) (.jn (.lf 3) (.lf 1)),
  .jn (.jn (.lf 3) (.lf 2)) (.lf 1),
  .jn (.jn (.lf 3) (.lf 1)) (.lf 2),
  .jn (.lf 2) (.jn (.lf 1) (.lf 3)),
  .jn (.lf 3) (.jn (.lf 2) (.lf 1)),
  .jn (.lf 3) (.jn (.lf 1) (.lf 2)),
  .jn (.jn (.lf 1) (.lf 3)) (.lf 2),
  .jn (.jn (.lf 2) (.lf 1)) (.lf 3),
  .jn (.jn (.lf 1) (.lf 2)) (.lf 3)]
def B14 : List BT := [
  .jn (.lf 1) (.jn (.lf 2) (.lf 3)),
  .jn (.lf 1) (.jn (.lf 3) (.lf 2)),
  .jn (.jn (.lf 1) (.lf 2)) (.lf 3),
  .jn (.jn (.lf 2) (.lf 3)) (.lf 1),
  .jn (.jn (.lf 1) (.lf 3)) (.lf 2),
  .jn (.jn (.lf 3) (.lf 2)) (.lf 1),
  .jn (.jn (.lf 2) (.lf 1)) (.lf 3),
  .jn (.lf 3) (.jn (.lf 1) (.lf 2)),
  .jn (.lf 2) (.jn (.lf 1) (.lf 3)),
  .jn (.jn (.lf 3) (.lf 1)) (.lf 2),
  .jn (.lf 3) (.jn (.lf 2) (.lf 1)),
  .jn (.lf 2) (.jn (.lf 3) (.lf 1))]
def S15 : List BT := [
  .jn (.lf 0) (.jn (.lf 1) (.jn (.lf 2) (.lf 3))),
  .jn (.jn (.lf 1) (.jn (.lf 2) (.lf 3))) (.lf 0),
  .jn (.lf 0) (.jn (.jn (.lf 2) (.lf 3)) (.lf 1)),
  .jn (.lf 0) (.jn (.lf 1) (.jn (.lf 3) (.lf 2))),
  .jn (.lf 1) (.jn (.jn (.lf 2) (.lf 3)) (.lf 0)),
  .jn (.jn (.jn (.lf 2) (.lf 3)) (.lf 1)) (.lf 0),
  .jn (.jn (.lf 1) (.jn (.lf 3) (.lf 2))) (.lf 0),
  .jn (.lf 0) (.jn (.lf 2) (.jn (.lf 3) (.lf 1))),
  .jn (.lf 0) (.jn (.jn (.lf 3) (.lf 2)) (.lf 1)),
  .jn (.jn (.jn (.lf 2) (.lf 3)) (.lf 0)) (.lf 1),
  .jn (.lf 1) (.jn (.lf 0) (.jn (.lf 2) (.lf 3))),
  .jn (.lf 1) (.jn (.lf 2) (.jn (.lf 3) (.lf 0))),
  .jn (.lf 1) (.jn (.jn (.lf 3) (.lf 2)) (.lf 0)),
  .jn (.jn (.lf 2) (.lf 3)) (.jn (.lf 1) (.lf 0)),
  .jn (.jn (.lf 2) (.jn (.lf 3) (.lf 1))) (.lf 0),
  .jn (.jn (.jn (.lf 3) (.lf 2)) (.lf 1)) (.lf 0),
  .jn (.lf 0) (.jn (.jn (.lf 3) (.lf 1)) (.lf 2)),
  .jn (.lf 0) (.jn (.lf 2) (.jn (.lf 1) (.lf 3))),
  .jn (.lf 0) (.jn (.lf 3) (.jn (.lf 2) (.lf 1))),
  .jn (.jn (.lf 2) (.lf 3)) (.jn (.lf 0) (.lf 1)),
  .jn (.jn (.lf 0) (.jn (.lf 2) (.lf 3))) (.lf 1),
  .jn (.jn (.lf 2) (.jn (.lf 3) (.lf 0))) (.lf 1),
  .jn (.jn (.jn (.lf 3) (.lf 2)) (.lf 0)) (.lf 1),
  .jn (.lf 1) (.jn (.lf 0) (.jn (.lf 3) (.lf 2))),
  .jn (.lf 1) (.jn (.jn (.lf 3) (.lf 0)) (.lf 2)),
  .jn (.lf 1) (.jn (.lf 2) (.jn (.lf 0) (.lf 3))),
  .jn (.lf 1) (.jn (.lf 3) (.jn (.lf 2) (.lf 0))),
  .jn (.jn (.lf 1) (.lf 0)) (.jn (.lf 2) (.lf 3)),
  .jn (.lf 2) (.jn (.lf 3) (.jn (.lf 1) (.lf 0))),
  .jn (.jn (.lf 3) (.lf 2)) (.jn (.lf 1) (.lf 0)),
  .jn (.lf 2) (.jn (.jn (.lf 3) (.lf 1)) (.lf 0)),
  .jn (.jn (.jn (.lf 3) (.lf 1)) (.lf 2)) (.lf 0),
  .jn (.jn (.lf 2) (.jn (.lf 1) (.lf 3))) (.lf 0),
  .jn (.jn (.lf 3) (.jn (.lf 2) (.lf 1))) (.lf 0),
  .jn (.lf 0) (.jn (.lf 3) (.jn (.lf 1) (.lf 2))),
  .jn (.lf 0) (.jn (.jn (.lf 1) (.lf 3)) (.lf 2)),
  .jn (.lf 0) (.jn (.jn (.lf 2) (.lf 1)) (.lf 3)),
  .jn (.jn (.lf 0) (.lf 1)) (.jn (.lf 2) (.lf 3)),
  .jn (.lf 2) (.jn (.lf 3) (.jn (.lf 0) (.lf 1))),
  .jn (.jn (.lf 3) (.lf 2)) (.jn (.lf 0) (.lf 1)),
  .jn (.jn (.lf 0) (.jn (.lf 3) (.lf 2))) (.lf 1),
  .jn (.lf 2) (.jn (.jn (.lf 3) (.lf 0)) (.lf 1)),
  .jn (.jn (.jn (.lf 3) (.lf 0)) (.lf 2)) (.lf 1),
  .jn (.jn (.lf 2) (.jn (.lf 0) (.lf 3))) (.lf 1),
  .jn (.jn (.lf 3) (.jn (.lf 2) (.lf 0))) (.lf 1),
  .jn (.lf 1) (.jn (.lf 3) (.jn (.lf 0) (.lf 2))),
  .jn (.lf 1) (.jn (.jn (.lf 0) (.lf 3)) (.lf 2)),
  .jn (.lf 1) (.jn (.jn (.lf 2) (.lf 0)) (.lf 3)),
  .jn (.jn (.lf 1) (.lf 0)) (.jn (.lf 3) (.lf 2)),
  .jn (.jn (.lf 3) (.jn (.lf 1) (.lf 0))) (.lf 2),
  .jn (.lf 2) (.jn (.jn (.lf 1) (.lf 0)) (.lf 3)),
  .jn (.lf 3) (.jn (.lf 2) (.jn (.lf 1) (.lf 0))),
  .jn (.jn (.jn (.lf 3) (.lf 1)) (.lf 0)) (.lf 2),
  .jn (.lf 2) (.jn (.lf 0) (.jn (.lf 3) (.lf 1))),
  .jn (.lf 2) (.jn (.jn (.lf 1) (.lf 3)) (.lf 0)),
  .jn (.jn (.lf 3) (.lf 1)) (.jn (.lf 2) (.lf 0)),
  .jn (.jn (.lf 3) (.jn (.lf 1) (.lf 2))) (.lf 0),
  .jn (.jn (.jn (.lf 1) (.lf 3)) (.lf 2)) (.lf 0),
  .jn (.lf 3) (.jn (.jn (.lf 2) (.lf 1)) (.lf 0)),
  .jn (.jn (.jn (.lf 2) (.lf 1)) (.lf 3)) (.lf 0),
  .jn (.lf 0) (.jn (.jn (.lf 1) (.lf 2)) (.lf 3)),
  .jn (.jn (.lf 0) (.lf 1)) (.jn (.lf 3) (.lf 2)),
  .jn (.jn (.lf 3) (.jn (.lf 0) (.lf 1))) (.lf 2),
  .jn (.lf 2) (.jn (.jn (.lf 0) (.lf 1)) (.lf 3)),
  .jn (.lf 3) (.jn (.lf 2) (.jn (.lf 0) (.lf 1))),
  .jn (.jn (.jn (.lf 3) (.lf 0)) (.lf 1)) (.lf 2),
  .jn (.lf 2) (.jn (.lf 1) (.jn (.lf 3) (.lf 0))),
  .jn (.lf 2) (.jn (.jn (.lf 0) (.lf 3)) (.lf 1)),
  .jn (.jn (.lf 3) (.lf 0)) (.jn (.lf 2) (.lf 1)),
  .jn (.jn (.lf 3) (.jn (.lf 0) (.lf 2))) (.lf 1),
  .jn (.jn (.jn (.lf 0) (.lf 3)) (.lf 2)) (.lf 1),
  .jn (.lf 3) (.jn (.jn (.lf 2) (.lf 0)) (.lf 1)),
  .jn (.jn (.jn (.lf 2) (.lf 0)) (.lf 3)) (.lf 1),
  .jn (.lf 1) (.jn (.jn (.lf 0) (.lf 2)) (.lf 3)),
  .jn (.lf 3) (.jn (.jn (.lf 1) (.lf 0)) (.lf 2)),
  .jn (.jn (.jn (.lf 1) (.lf 0)) (.lf 3)) (.lf 2),
  .jn (.lf 2) (.jn (.lf 1) (.jn (.lf 0) (.lf 3))),
  .jn (.jn (.lf 2) (.jn (.lf 1) (.lf 0))) (.lf 3),
  .jn (.jn (.lf 3) (.lf 1)) (.jn (.lf 0) (.lf 2)),
  .jn (.jn (.lf 0) (.jn (.lf 3) (.lf 1))) (.lf 2),
  .jn (.jn (.jn (.lf 1) (.lf 3)) (.lf 0)) (.lf 2),
  .jn (.lf 2) (.jn (.lf 0) (.jn (.lf 1) (.lf 3))),
  .jn (.jn (.lf 2) (.lf 0)) (.jn (.lf 3) (.lf 1)),
  .jn (.lf 3) (.jn (.lf 1) (.jn (.lf 2) (.lf 0))),
  .jn (.jn (.lf 1) (.lf 3)) (.jn (.lf 2) (.lf 0)),
  .jn (.lf 3) (.jn (.jn (.lf 1) (.lf 2)) (.lf 0)),
  .jn (.jn (.jn (.lf 1) (.lf 2)) (.lf 3)) (.lf 0),
  .jn (.jn (.jn (.lf 2) (.lf 1)) (.lf 0)) (.lf 3),
  .jn (.lf 3) (.jn (.lf 0) (.jn (.lf 2) (.lf 1))),
  .jn (.jn (.lf 2) (.lf 1)) (.jn (.lf 3) (.lf 0)),
  .jn (.lf 3) (.jn (.jn (.lf 0) (.lf 1)) (.lf 2)),
  .jn (.jn (.jn (.lf 0) (.lf 1)) (.lf 3)) (.lf 2),
  .jn (.jn (.lf 2) (.jn (.lf 0) (.lf 1))) (.lf 3),
  .jn (.jn (.lf 3) (.lf 0)) (.jn (.lf 1) (.lf 2)),
  .jn (.jn (.lf 1) (.jn (.lf 3) (.lf 0))) (.lf 2),
  .jn (.jn (.jn (.lf 0) (.lf 3)) (.lf 1)) (.lf 2),
  .jn (.jn (.lf 0) (.lf 3)) (.jn (.lf 2) (.lf 1)),
  .jn (.lf 3) (.jn (.jn (.lf 0) (.lf 2)) (.lf 1)),
  .jn (.jn (.jn (.lf 0) (.lf 2)) (.lf 3)) (.lf 1),
  .jn (.jn (.jn (.lf 2) (.lf 0)) (.lf 1)) (.lf 3),
  .jn (.jn (.jn (.lf 1) (.lf 0)) (.lf 2)) (.lf 3),
  .jn (.lf 3) (.jn (.lf 1) (.jn (.lf 0) (.lf 2))),
  .jn (.jn (.lf 1) (.jn (.lf 0) (.lf 3))) (.lf 2),
  .jn (.jn (.lf 0) (.lf 2)) (.jn (.lf 3) (.lf 1)),
  .jn (.jn (.lf 1) (.lf 3)) (.jn (.lf 0) (.lf 2)),
  .jn (.jn (.lf 0) (.jn (.lf 1) (.lf 3))) (.lf 2),
  .jn (.jn (.lf 2) (.lf 0)) (.jn (.lf 1) (.lf 3)),
  .jn (.jn (.lf 1) (.jn (.lf 2) (.lf 0))) (.lf 3),
  .jn (.jn (.jn (.lf 1) (.lf 2)) (.lf 0)) (.lf 3),
  .jn (.lf 3) (.jn (.lf 0) (.jn (.lf 1) (.lf 2))),
  .jn (.jn (.lf 1) (.lf 2)) (.jn (.lf 3) (.lf 0)),
  .jn (.jn (.lf 2) (.lf 1)) (.jn (.lf 0) (.lf 3)),
  .jn (.jn (.lf 0) (.jn (.lf 2) (.lf 1))) (.lf 3),
  .jn (.jn (.jn (.lf 0) (.lf 1)) (.lf 2)) (.lf 3),
  .jn (.jn (.lf 0) (.lf 3)) (.jn (.lf 1) (.lf 2)),
  .jn (.jn (.jn (.lf 0) (.lf 2)) (.lf 1)) (.lf 3),
  .jn (.jn (.lf 1) (.jn (.lf 0) (.lf 2))) (.lf 3),
  .jn (.jn (.lf 0) (.lf 2)) (.jn (.lf 1) (.lf 3)),
  .jn (.jn (.lf 1) (.lf 2)) (.jn (.lf 0) (.lf 3)),
  .jn (.jn (.lf 0) (.jn (.lf 1) (.lf 2))) (.lf 3)]
def B15 : List BT := [
  .jn (.lf 0) (.jn (.lf 1) (.jn (.lf 2) (.lf 3))),
  .jn (.lf 0) (.jn (.lf 1) (.jn (.lf 3) (.lf 2))),
  .jn (.lf 0) (.jn (.jn (.lf 1) (.lf 2)) (.lf 3)),
  .jn (.lf 0) (.jn (.jn (.lf 2) (.lf 3)) (.lf 1)),
  .jn (.jn (.lf 0) (.lf 1)) (.jn (.lf 2) (.lf 3)),
  .jn (.jn (.lf 1) (.jn (.lf 2) (.lf 3))) (.lf 0),
  .jn (.lf 0) (.jn (.jn (.lf 1) (.lf 3)) (.lf 2)),
  .jn (.lf 0) (.jn (.jn (.lf 3) (.lf 2)) (.lf 1)),
  .jn (.jn (.lf 0) (.lf 1)) (.jn (.lf 3) (.lf 2)),
  .jn (.jn (.lf 1) (.jn (.lf 3) (.lf 2))) (.lf 0),
  .jn (.lf 0) (.jn (.jn (.lf 2) (.lf 1)) (.lf 3)),
  .jn (.lf 0) (.jn (.lf 3) (.jn (.lf 1) (.lf 2))),
  .jn (.jn (.lf 0) (.jn (.lf 1) (.lf 2))) (.lf 3),
  .jn (.jn (.jn (.lf 1) (.lf 2)) (.lf 3)) (.lf 0),
  .jn (.jn (.lf 0) (.jn (.lf 2) (.lf 3))) (.lf 1),
  .jn (.jn (.jn (.lf 2) (.lf 3)) (.lf 1)) (.lf 0),
  .jn (.jn (.lf 1) (.lf 0)) (.jn (.lf 2) (.lf 3)),
  .jn (.jn (.jn (.lf 0) (.lf 1)) (.lf 2)) (.lf 3),
  .jn (.jn (.lf 2) (.lf 3)) (.jn (.lf 0) (.lf 1)),
  .jn (.lf 0) (.jn (.lf 2) (.jn (.lf 1) (.lf 3))),
  .jn (.lf 0) (.jn (.jn (.lf 3) (.lf 1)) (.lf 2)),
  .jn (.jn (.lf 0) (.jn (.lf 1) (.lf 3))) (.lf 2),
  .jn (.jn (.jn (.lf 1) (.lf 3)) (.lf 2)) (.lf 0),
  .jn (.jn (.lf 0) (.jn (.lf 3) (.lf 2))) (.lf 1),
  .jn (.jn (.jn (.lf 3) (.lf 2)) (.lf 1)) (.lf 0),
  .jn (.jn (.lf 1) (.lf 0)) (.jn (.lf 3) (.lf 2)),
  .jn (.jn (.jn (.lf 0) (.lf 1)) (.lf 3)) (.lf 2),
  .jn (.jn (.lf 3) (.lf 2)) (.jn (.lf 0) (.lf 1)),
  .jn (.lf 0) (.jn (.lf 3) (.jn (.lf 2) (.lf 1))),
  .jn (.jn (.lf 0) (.jn (.lf 2) (.lf 1))) (.lf 3),
  .jn (.jn (.jn (.lf 2) (.lf 1)) (.lf 3)) (.lf 0),
  .jn (.jn (.lf 0) (.lf 3)) (.jn (.lf 1) (.lf 2)),
  .jn (.jn (.lf 3) (.jn (.lf 1) (.lf 2))) (.lf 0),
  .jn (.jn (.jn (.lf 1) (.lf 2)) (.lf 0)) (.lf 3),
  .jn (.lf 3) (.jn (.lf 0) (.jn (.lf 1) (.lf 2))),
  .jn (.lf 1) (.jn (.lf 0) (.jn (.lf 2) (.lf 3))),
  .jn (.jn (.jn (.lf 0) (.lf 2)) (.lf 3)) (.lf 1),
  .jn (.jn (.jn (.lf 2) (.lf 3)) (.lf 0)) (.lf 1),
  .jn (.jn (.jn (.lf 1) (.lf 0)) (.lf 2)) (.lf 3),
  .jn (.jn (.lf 2) (.lf 3)) (.jn (.lf 1) (.lf 0)),
  .jn (.jn (.lf 2) (.jn (.lf 0) (.lf 1))) (.lf 3),
  .jn (.lf 3) (.jn (.jn (.lf 0) (.lf 1)) (.lf 2)),
  .jn (.lf 0) (.jn (.lf 2) (.jn (.lf 3) (.lf 1))),
  .jn (.jn (.lf 0) (.lf 2)) (.jn (.lf 1) (.lf 3)),
  .jn (.jn (.lf 2) (.jn (.lf 1) (.lf 3))) (.lf 0),
  .jn (.jn (.lf 0) (.jn (.lf 3) (.lf 1))) (.lf 2),
  .jn (.jn (.jn (.lf 3) (.lf 1)) (.lf 2)) (.lf 0),
  .jn (.lf 2) (.jn (.lf 0) (.jn (.lf 1) (.lf 3))),
  .jn (.jn (.jn (.lf 1) (.lf 3)) (.lf 0)) (.lf 2),
  .jn (.lf 1) (.jn (.lf 0) (.jn (.lf 3) (.lf 2))),
  .jn (.jn (.jn (.lf 0) (.lf 3)) (.lf 2)) (.lf 1),
  .jn (.jn (.jn (.lf 3) (.lf 2)) (.lf 0)) (.lf 1),
  .jn (.jn (.jn (.lf 1) (.lf 0)) (.lf 3)) (.lf 2),
  .jn (.jn (.lf 3) (.lf 2)) (.jn (.lf 1) (.lf 0)),
  .jn (.lf 2) (.jn (.jn (.lf 0) (.lf 1)) (.lf 3)),
  .jn (.jn (.lf 3) (.jn (.lf 0) (.lf 1))) (.lf 2),
  .jn (.jn (.lf 0) (.lf 3)) (.jn (.lf 2) (.lf 1)),
  .jn (.jn (.lf 3) (.jn (.lf 2) (.lf 1))) (.lf 0),
  .jn (.jn (.jn (.lf 0) (.lf 2)) (.lf 1)) (.lf 3),
  .jn (.jn (.jn (.lf 2) (.lf 1)) (.lf 0)) (.lf 3),
  .jn (.lf 3) (.jn (.lf 0) (.jn (.lf 2) (.lf 1))),
  .jn (.jn (.lf 1) (.lf 2)) (.jn (.lf 0) (.lf 3)),
  .jn (.jn (.lf 3) (.lf 0)) (.jn (.lf 1) (.lf 2)),
  .jn (.jn (.jn (.lf 0) (.lf 3)) (.lf 1)) (.lf 2),
  .jn (.lf 3) (.jn (.jn (.lf 1) (.lf 2)) (.lf 0)),
  .jn (.lf 1) (.jn (.jn (.lf 0) (.lf 2)) (.lf 3)),
  .jn (.lf 1) (.jn (.jn (.lf 2) (.lf 3)) (.lf 0)),
  .jn (.jn (.jn (.lf 2) (.lf 0)) (.lf 3)) (.lf 1),
  .jn (.jn (.lf 3) (.jn (.lf 0) (.lf 2))) (.lf 1),
  .jn (.jn (.lf 2) (.jn (.lf 1) (.lf 0))) (.lf 3),
  .jn (.lf 3) (.jn (.jn (.lf 1) (.lf 0)) (.lf 2)),
  .jn (.jn (.jn (.lf 2) (.lf 0)) (.lf 1)) (.lf 3),
  .jn (.lf 3) (.jn (.lf 2) (.jn (.lf 0) (.lf 1))),
  .jn (.jn (.lf 0) (.lf 2)) (.jn (.lf 3) (.lf 1)),
  .jn (.jn (.lf 2) (.jn (.lf 3) (.lf 1))) (.lf 0),
  .jn (.jn (.lf 2) (.lf 0)) (.jn (.lf 1) (.lf 3)),
  .jn (.jn (.lf 1) (.lf 3)) (.jn (.lf 0) (.lf 2)),
  .jn (.lf 2) (.jn (.lf 0) (.jn (.lf 3) (.lf 1))),
  .jn (.jn (.jn (.lf 3) (.lf 1)) (.lf 0)) (.lf 2),
  .jn (.lf 2) (.jn (.jn (.lf 1) (.lf 3)) (.lf 0)),
  .jn (.lf 1) (.jn (.jn (.lf 0) (.lf 3)) (.lf 2)),
  .jn (.lf 1) (.jn (.jn (.lf 3) (.lf 2)) (.lf 0)),
  .jn (.jn (.lf 2) (.jn (.lf 0) (.lf 3))) (.lf 1),
  .jn (.jn (.jn (.lf 3) (.lf 0)) (.lf 2)) (.lf 1),
  .jn (.lf 2) (.jn (.jn (.lf 1) (.lf 0)) (.lf 3)),
  .jn (.jn (.lf 3) (.jn (.lf 1) (.lf 0))) (.lf 2),
  .jn (.lf 2) (.jn (.lf 3) (.jn (.lf 0) (.lf 1))),
  .jn (.jn (.jn (.lf 3) (.lf 0)) (.lf 1)) (.lf 2),
  .jn (.jn (.lf 2) (.lf 1)) (.jn (.lf 0) (.lf 3)),
  .jn (.jn (.lf 3) (.lf 0)) (.jn (.lf 2) (.lf 1)),
  .jn (.jn (.lf 1) (.jn (.lf 0) (.lf 2))) (.lf 3),
  .jn (.lf 3) (.jn (.jn (.lf 0) (.lf 2)) (.lf 1)),
  .jn (.lf 3) (.jn (.jn (.lf 2) (.lf 1)) (.lf 0)),
  .jn (.jn (.lf 1) (.lf 2)) (.jn (.lf 3) (.lf 0)),
  .jn (.lf 2) (.jn (.jn (.lf 0) (.lf 3)) (.lf 1)),
  .jn (.jn (.lf 1) (.jn (.lf 0) (.lf 3))) (.lf 2),
  .jn (.lf 1) (.jn (.jn (.lf 2) (.lf 0)) (.lf 3)),
  .jn (.lf 1) (.jn (.lf 3) (.jn (.lf 0) (.lf 2))),
  .jn (.jn (.lf 3) (.jn (.lf 2) (.lf 0))) (.lf 1),
  .jn (.lf 3) (.jn (.lf 2) (.jn (.lf 1) (.lf 0))),
  .jn (.jn (.lf 1) (.jn (.lf 2) (.lf 0))) (.lf 3),
  .jn (.lf 3) (.jn (.jn (.lf 2) (.lf 0)) (.lf 1)),
  .jn (.jn (.lf 2) (.lf 0)) (.jn (.lf 3) (.lf 1)),
  .jn (.jn (.lf 3) (.lf 1)) (.jn (.lf 0) (.lf 2)),
  .jn (.jn (.lf 1) (.lf 3)) (.jn (.lf 2) (.lf 0)),
  .jn (.lf 2) (.jn (.jn (.lf 3) (.lf 1)) (.lf 0)),
  .jn (.lf 1) (.jn (.lf 2) (.jn (.lf 0) (.lf 3))),
  .jn (.lf 1) (.jn (.jn (.lf 3) (.lf 0)) (.lf 2)),
  .jn (.jn (.lf 2) (.jn (.lf 3) (.lf 0))) (.lf 1),
  .jn (.lf 2) (.jn (.lf 3) (.jn (.lf 1) (.lf 0))),
  .jn (.lf 2) (.jn (.jn (.lf 3) (.lf 0)) (.lf 1)),
  .jn (.jn (.lf 1) (.jn (.lf 3) (.lf 0))) (.lf 2),
  .jn (.jn (.lf 2) (.lf 1)) (.jn (.lf 3) (.lf 0)),
  .jn (.lf 3) (.jn (.lf 1) (.jn (.lf 0) (.lf 2))),
  .jn (.lf 2) (.jn (.lf 1) (.jn (.lf 0) (.lf 3))),
  .jn (.lf 1) (.jn (.lf 3) (.jn (.lf 2) (.lf 0))),
  .jn (.lf 3) (.jn (.lf 1) (.jn (.lf 2) (.lf 0))),
  .jn (.jn (.lf 3) (.lf 1)) (.jn (.lf 2) (.lf 0)),
  .jn (.lf 1) (.jn (.lf 2) (.jn (.lf 3) (.lf 0))),
  .jn (.lf 2) (.jn (.lf 1) (.jn (.lf 3) (.lf 0)))]
def SetL : Nat → List BT
  | 1 => S1
  | 2 => S2
  | 3 => S3
  | 4 => S4
  | 5 => S5
  | 6 => S6
  | 7 => S7
  | 8 => S8
  | 9 => S9
  | 10 => S10
  | 11 => S11
  | 12 => S12
  | 13 => S13
  | 14 => S14
  | 15 => S15
  | _ => []
def BackL : Nat → List BT
  | 1 => B1
  | 2 => B2
  | 3 => B3
  | 4 => B4
  | 5 => B5
  | 6 => B6
  | 7 => B7
  | 8 => B8
  | 9 => B9
  | 10 => B10
  | 11 => B11
  | 12 => B12
  | 13 => B13
  | 14 => B14
  | 15 => B15
  | _ => []

def bt : BT → BT → Bool
  | .lf i, .lf j => i == j
  | .jn a b, .jn c d => bt a c && bt b d
  | _, _ => false
theorem bt_eq : ∀ a b : BT, bt a b = true ↔ a = b
  | .lf i, .lf j => by simp [bt]
  | .lf i, .jn c d => by simp [bt]
  | .jn a b, .lf j => by simp [bt]
  | .jn a b, .jn c d => by simp [bt, bt_eq a c, bt_eq b d]
def memB (x : BT) (l : List BT) : Bool := l.any (bt x)
theorem memB_iff {x : BT} {l : List BT} : memB x l = true ↔ x ∈ l := by
  simp only [memB, List.any_eq_true]
  constructor
  · rintro ⟨y, hy, h⟩
    rw [(bt_eq x y).1 h]; exact hy
  · intro h
    exact ⟨x, h, (bt_eq x x).2 rfl⟩

def masks : List Nat := [1, 2, 3, 4, 5, 6, 7, 8, 9, 10, 11, 12, 13, 14, 15]
def nodB : List BT → Bool
  | [] => true
  | x :: l => !memB x l && nodB l
theorem nodB_iff : ∀ {l : List BT}, nodB l = true → l.Nodup
  | [], _ => List.nodup_nil
  | x :: l, h => by
    simp only [nodB, Bool.and_eq_true, Bool.not_eq_true'] at h
    refine List.nodup_cons.2 ⟨fun hm => ?_, nodB_iff h.2⟩
    rw [memB_iff.2 hm] at h
    simp at h

theorem pairs_ok : (masks.all fun m => masks.all fun k => !(m &&& k == 0) || (SetL m).all fun a => (SetL k).all fun b => memB (.jn a b) (SetL (m ||| k))) = true := by decide +kernel
theorem nod_ok : (masks.all fun m => nodB (SetL m)) = true := by decide +kernel
def okAllB (t : BT) (m : Nat) : Bool := okAll t && t.lt4 && decide (t.big ≤ 1000) && decide (bud t ≤ 1000) && ((setS 4 t.tr).1 == m) && (eachS t).all fun x => memB x (SetL m)
theorem facts_ok : (masks.all fun m => (SetL m).all fun t => okAllB t m) = true := by decide +kernel
/-- Each one but the first comes next of an elder one. -/
def fwdB (seen : List BT) : List BT → Bool
  | [] => true
  | t :: r => (seen.any fun s => memB t (eachS s)) && fwdB (t :: seen) r
def bwdB (seen : List BT) : List BT → Bool
  | [] => true
  | t :: r => (seen.any fun s => memB s (eachS t)) && bwdB (t :: seen) r
theorem fwd_ok : (masks.all fun m => match SetL m with | [] => true | c :: r => fwdB [c] r) = true := by decide +kernel
theorem bwd_ok : (masks.all fun m => match SetL m, BackL m with | c :: _, c' :: r => bt c c' && bwdB [c'] r && (SetL m).all fun t => memB t (c' :: r) | _, _ => false) = true := by decide +kernel
def eqL : List UInt8 → List UInt8 → Bool
  | [], [] => true
  | a :: l, b :: r => a.toNat == b.toNat && eqL l r
  | _, _ => false
def nodT : List (List UInt8) → Bool
  | [] => true
  | x :: l => !(l.any (eqL x)) && nodT l
def A4 : List BT := masks.flatMap SetL
theorem texts_ok : nodT (A4.map textL) = true := by decide +kernel

end Go.Ab
