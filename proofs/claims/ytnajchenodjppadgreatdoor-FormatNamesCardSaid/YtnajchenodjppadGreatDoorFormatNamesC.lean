/- The law FormatNames: the cases of its number and of its text. -/
import Derived.Test.YtnajchenodjppadGreatDoorFormatNamesA
namespace Go.Proofs.YtnajchenodjppadGreatDoor.FormatNames
open Go Go.Ab Go.RowKit
set_option maxRecDepth 100000

noncomputable def orc : Ab.Call := trueOrc 6
/-- One of five numbers, or one below, or one above them. -/
def fLo (z : Int) : AV := .sy (.int .i64 z) [(.lss, .int .i64 1, true), (.gtr, .int .i64 5, false), (.eql, .int .i64 1, false), (.eql, .int .i64 2, false), (.eql, .int .i64 3, false), (.eql, .int .i64 4, false), (.eql, .int .i64 5, false)]
def fHi (z : Int) : AV := .sy (.int .i64 z) [(.lss, .int .i64 1, false), (.gtr, .int .i64 5, true), (.eql, .int .i64 1, false), (.eql, .int .i64 2, false), (.eql, .int .i64 3, false), (.eql, .int .i64 4, false), (.eql, .int .i64 5, false)]
def fs (z : Int) : List AV := [.v (.int .i64 1), .v (.int .i64 2), .v (.int .i64 3), .v (.int .i64 4), .v (.int .i64 5), fLo z, fHi z]
def nNo (n : ByteArray) : AV := .sy (.string n) [(.eql, .string ⟨#[106, 115, 111, 110]⟩, false), (.eql, .string ⟨#[99, 98, 111, 114]⟩, false), (.eql, .string ⟨#[112, 97, 99, 107]⟩, false), (.eql, .string ⟨#[120, 109, 108]⟩, false), (.eql, .string ⟨#[112, 114, 111, 116, 111]⟩, false)]
noncomputable def runs (f x : AV) : Bool := isTrue (evFn Tryz.prog (tabsG tabs) mu (evDrawnX Tryz.prog (tabsG tabs)) 1000 orc 41 (.func 3) [f, x] ⟨0, .lf⟩)
end Go.Proofs.YtnajchenodjppadGreatDoor.FormatNames
