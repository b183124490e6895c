/- All that is printed. -/
import Derived.Test.YtjjakdmcnkldoaaDoorA4
