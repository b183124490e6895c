/- All that is printed. -/
import Derived.Test.YtjjakdmcnkldoaaDoorHA2
