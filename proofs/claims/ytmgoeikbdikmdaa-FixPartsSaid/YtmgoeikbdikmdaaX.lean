/-
  entries of Go's library at this dump
-/
import Derived.Test.YtmgoeikbdikmdaaE
